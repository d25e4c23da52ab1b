import Derived.Test.YtgamnldjlncdlaaGreatZL161
set_option linter.all false
/- What the states claim, by the program and by the document. -/
set_option maxRecDepth 100000
namespace Go.Ax
open Go.Proofs
theorem Y1 (l:List ae) (hl:l.length≤900) (law:List aZ) (hw:law.length≤100000) (schemes:List ax) (hn:schemes.length≤1000) (past:ab) (i:Nat) (hi:i < schemes.length) (hx:DA schemes[i]) (out:List ao) (ho:out.length≤600000000) :
    eP l law schemes past ((i:Int),out) = some (.inl (((i+1:Nat):Int),out++md l law past schemes[i])):=by
  show (gi l law schemes (i:Int) out past).opt = _
  simp only [gi,oT]
  rw [dH hi,cond_true]
  show (kG l law schemes (i:Int) out past).opt = _
  simp only [kG,oT]
  rw [aE (bQ hi),eL schemes _ i hi,HT,KG,Fs law _ _ (by omega),Option.bind_some]
  have hu:=JP law schemes[i].State 3
  have hm:=(cE (pN law schemes[i].State 3)).2.2
  rw [mH _ _ (by omega),Option.bind_some]
  have hf:=JQ law schemes[i] past
  have hc:=iD (cy (pN law schemes[i].State 3)) past
  rw [xj _ _ _ _ (by omega) (by omega),Option.bind_some,aj5,Option.bind_some]
  show (fixL (eJ l law schemes (i:Int) jJ ((jJ.length:Nat):Int) (out++vI law schemes[i] past) past schemes[i]) ((i:Int),(0:Int),out++vI law schemes[i] past)).bind _ = _
  rw [XV l hl law schemes (i:Int) _ (by rw [List.length_append]; omega) past schemes[i] hx,Option.bind_some]
  show (km l law schemes (i:Int) ((out++vI law schemes[i] past)++kr.flatMap (wM l schemes[i] past)) past).opt = _
  simp only [km,oT]
  rw [cP (by omega),List.append_assoc]
  rfl
noncomputable def Hp (l:List ae) (law:List aZ) (schemes:List ax) (past:ab):List ao:=schemes.flatMap (md l law past)
theorem XN (l:List ae) (hl:l.length≤900) (law:List aZ) (hw:law.length≤100000) (schemes:List ax) (hn:schemes.length≤1000) (hx:∀ x∈schemes,DA x) (past:ab) :
    fixL (eP l law schemes past) ((0:Int),([]:List ao)) = some (Hp l law schemes past) :=
  qP (f:=eP l law schemes past) schemes (md l law past) (fun o i=>((i:Int),o)) (fun o=>o) 600000 (fun x _=>Qn _ _ _ _) (fun i hi o ho=>Y1 l hl law hw schemes hn past i hi (hx _ (List.getElem_mem hi)) o (by
      have:i*600000≤1000*600000:=Nat.mul_le_mul_right _ (by omega)
      omega)) (fun o ho=>by
      show (gi l law schemes ((schemes.length:Nat):Int) o past).opt = _
      simp only [gi,oT]
      rw [cu,cond_false])
end Go.Ax
