import Derived.Test.YtokecajedkojlaaGreatYP17
set_option linter.all false
/- The laws of chapter 16: the claims of a career. -/
set_option maxRecDepth 100000
namespace Go.Ax
theorem Iw (l:List GPensionhand_Fact) (n:List Int) (hn:n.length≤100000000):En (fun a:List GFact=>a.length≤30) (qR l n):=by
  rw [BL]
  have fin:∀ out:List GFact,out.length≤12→En (fun a:List GFact=>a.length≤30) (bif aa ((0:Int) < (n.length:Int)) then (po n).bind fun r1=>(uw r1 1).bind fun r2=>gb (aa (((out.length+r2.length)*112)≤140737488355328))<|gb (aa ((out.length+r2.length)≤140737488355328))<|(jh (out++r2) []).bind fun r3=>some r3
      else (jh out []).bind fun r4=>some r4):=by
    intro out ho
    refine En.bif (fun _=>.bind (Ns n hn) fun r1 h1=>?_) fun _=>.bind (F3 out [] (by simp; omega)) fun r h=>.some (by simp at h; omega)
    rw [F4 r1 1 (by omega),Option.bind_some]
    have hf:=List.length_filter_le (Nx 1) r1
    exact En.gd (by omega) (En.gd (by omega) (.bind (F3 _ [] (by simp; omega)) fun r h=>.some (by simp at h; omega)))
  have key:∀ (k:Nat) (i:Int) (out:List GFact),12 - i≤k→0≤i→i≤12→(out.length:Int)≤i→En (fun a:List GFact=>a.length≤30) (iz l n i out):=by
    intro k
    induction k with
    | zero=>intro i out hk h0 hi ho; rw [mM]; exact En.and (fun _ e=>by have:=aE e; omega) fun _=>fin out (by omega)
    | succ k ih =>
      intro i out hk h0 hi ho
      rw [mM]
      refine En.and (fun a b=>?_) fun _=>fin out (by omega)
      have a:=aE a
      have b:=aE b
      have nx:∀ r,En (fun a:List GFact=>a.length≤30) (fW l n i out r):=by
        intro r
        rw [tk,ak (n:=i+1) (by omega) (by omega)]
        exact .bind (NZ r) fun f _=>En.gd (by omega) (En.gd (by omega) (ih _ _ (by omega) (by omega) (by omega) (by simp; omega)))
      exact En.gd h0 (En.gd a (En.bif (fun _=>nE (by decide) fun y _ _=>nx _) fun _=>nx _))
  exact key 12 0 [] (by omega) (by omega) (by omega) (by simp)
def Fs (s:List GScheme):Prop:=s.length≤4∧∀ x∈s,pn x
theorem Ow {v:GVersion} (h:nz v) (i:Int):pn ⟨i,v⟩:=⟨by show v.Credits.length≤1000; have:=h.1; omega,fun c hc=>by have:=h.2 c hc; omega⟩
theorem s5 (l:List GSpan) (h:l.length < 2):fm l = l:=by
  unfold fm gK
  rw [if_pos h]
theorem D0:bc [] = []:=by
  unfold bc
  rw [show gv [] = [] from rfl,s5 _ (by simp)]
  rfl
theorem xh {s:GSpan} (h0:0≤s.From) (h1:s.From < s.To) (h2:s.To≤73049):bc [s] = [s]:=by
  have e:aL s = s:=by
    unfold aL
    rw [if_neg (by omega),if_neg (by omega)]
  have ec:gv [s] = [s]:=by
    unfold gv
    rw [List.map_cons,List.map_nil,e,List.filter_cons,if_pos (by unfold nB; exact decide_eq_true h1),List.filter_nil]
  unfold bc
  rw [ec,s5 _ (by simp)]
  rfl
def rg:GFact:=⟨0,1,1,false,1,8,2,(⟨100,130⟩:GSpan),0,0,0,0,0⟩
def od:GScheme:=⟨2,(⟨0,(⟨0,0⟩:GRounding),[(⟨8,10⟩:GCredit)],[],[],[],[]⟩:GVersion)⟩
theorem Hd {a b c d:Int} (h0:0≤a) (h1:a < b) (h2:b≤73049) (g0:0≤c) (g2:d≤73049) (hc:c≤a) (hd:b≤d):aZ [⟨a,b⟩] ⟨c,d⟩ = [⟨a,b⟩]:=by
  unfold aZ
  rw [xh h0 h1 h2,xh (s:=⟨c,d⟩) g0 (by show c < d; omega) g2,jf]
  have e:no ⟨a,b⟩ ⟨c,d⟩ = [⟨a,b⟩]:=by
    have m:ig ⟨a,b⟩ ⟨c,d⟩ = ⟨a,b⟩:=by
      unfold ig
      rw [if_neg (by show ¬ a < c; omega),if_neg (by show ¬ d < b; omega)]
    unfold no
    rw [m,if_pos h1]
  rw [e]
  split <;> simp [iu,jd]
theorem OW:ir [rg] 8 2 ⟨0,1000⟩ 10 = [⟨100,110⟩]:=by
  unfold ir
  have es:dO [rg] 8 2 = [⟨100,130⟩]:=by unfold dO; rfl
  have el:eh [rg] = ⟨0,73049⟩:=by
    unfold eh
    rw [show gf [rg] 12 = (0,false) from rfl,show gf [rg] 11 = (0,false) from rfl]
    show (if (73048:Int) < 0 then (⟨0,0⟩:GSpan) else ⟨0,ac (73048+1)⟩) = _
    rw [if_neg (by omega),ak (by omega) (by omega)]
    rfl
  rw [if_neg (by omega),es,el,Hd (by omega) (by omega) (by omega) (by omega) (by omega) (by omega) (by omega),Hd (by omega) (by omega) (by omega) (by omega) (by omega) (by omega) (by omega)]
  unfold l5
  rw [if_neg (by omega),xh (by show (0:Int)≤100; omega) (by show (100:Int) < 130; omega) (by show (130:Int)≤73049; omega)]
  rfl
theorem Nv:dM [rg] [] [od] ⟨0,1000⟩ = [⟨2,5,⟨100,110⟩⟩]:=by
  have e1:lV [] od ⟨0,1000⟩ = []:=by
    unfold lV aZ
    rw [show mt [] od.State 3 = [] from rfl,D0,D0,iu]
    rfl
  have e2:lw [rg] od ⟨0,1000⟩ (8,5) = [⟨2,5,⟨100,110⟩⟩]:=by
    have:=OW
    unfold lw
    rw [if_pos (by rfl)]
    show l7 2 5 (ir [rg] 8 2 ⟨0,1000⟩ 10) = _
    rw [this]; rfl
  have e3:∀ p:Int × Int,p.1≠8→lw [rg] od ⟨0,1000⟩ p = []:=by
    intro p hp
    unfold lw
    have:eX p.1 od.Version.Credits = (0,false):=by
      show (if (8:Int) = p.1 then _ else _) = _
      rw [if_neg (fun h=>hp h.symm)]; rfl
    rw [this,if_neg (by simp)]
  unfold dM sr
  rw [List.flatMap_cons,List.flatMap_nil,List.append_nil,e1,List.nil_append]
  unfold kr
  simp only [List.flatMap_cons,List.flatMap_nil]
  rw [e3 (6,2) (by decide),e3 (9,3) (by decide),e3 (7,4) (by decide),e2,e3 (10,6) (by decide),e3 (5,7) (by decide)]
  rfl
theorem OX:∀ x∈[od],pn x:=by
  intro x hx
  rw [List.mem_singleton.1 hx]
  refine ⟨by decide,fun c hc=>?_⟩
  have:c = ⟨8,10⟩:=List.mem_singleton.1 hc
  rw [this]
  exact ⟨by decide,by decide⟩
theorem N0:sD = some true:=by
  have e:dn [rg] [] [od] 1000 = some ([⟨2,5,⟨100,110⟩⟩],0):=by
    rw [nY,em (p:=(1000:Int) < 0) (by omega),em (p:=(73049:Int) < 1000) (by omega),cond_false,cond_false]
    refine Eq.trans (b:=cq [rg] [] [od] 1000 [od] (([od].length:Nat):Int) (([od].length:Nat):Int)) ?_ ?_
    · rw [d9 [rg] [] [od] 1000 [od] (([od].length:Nat):Int) 0]; kernel_rfl
    · rw [d9,bU,cond_false]
      refine (Fv [rg] (by simp) [] (by simp) [od] (by simp) OX ⟨0,1000⟩).trans ?_
      rw [Nv]
  rw [Dq]
  show (dn [rg] [] [od] 1000).bind _ = _
  rw [e]
  kernel_rfl
end Go.Ax
