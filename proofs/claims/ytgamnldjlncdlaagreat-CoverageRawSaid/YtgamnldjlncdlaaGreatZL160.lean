import Derived.Test.YtgamnldjlncdlaaGreatZL159
set_option linter.all false
/- The days that a state credits. -/
set_option maxRecDepth 100000
namespace Go.Ax
open Go.Proofs
theorem WA (l:List ac) (hl:l.length≤900) (s limit b:Int) (h1:limit≤1000000000000) (h2:0≤limit) (i:Nat) (hi:i < 99) (out:List ab) (ho:out.length≤i*902) :
    gF l s b limit (l.filter cD) (out,((i:Nat):Int)+1) = some (.inl (out++qt l s ⟨0,b⟩ limit ((i:Int)+1),((i+1:Nat):Int)+1)):=by
  show (gD l s b limit (l.filter cD) out ((i:Int)+1)).opt = _
  simp only [gD,oT]
  rw [decide_eq_true (show ((i:Nat):Int)+1≤99 by omega),cond_true]
  show (fixL (i7 l s b limit (l.filter cD) out ((i:Int)+1)) (out,(i:Int)+1,([]:List ab),(0:Int))).bind _ = _
  have hc:=M9 l
  have hk:=Kf (l.filter cD) s ((i:Int)+1)
  have e0:(gb (l.filter cD) s ((i:Int)+1)).length≤100000:=by omega
  rw [afm l s limit b out _ _ (by omega),Option.bind_some]
  show (la l s b limit (l.filter cD) out ((i:Int)+1) (gb (l.filter cD) s ((i:Int)+1))).opt = _
  simp only [la,oT]
  have hpl:=AL l hl s ⟨0,b⟩ limit ((i:Int)+1)
  unfold qt at hpl ⊢
  by_cases h:0 < (gb (l.filter cD) s ((i:Int)+1)).length
  · rw [if_pos h] at hpl ⊢
    rw [decide_eq_true (show (0:Int) < ((gb (l.filter cD) s ((i:Int)+1)).length:Int) by omega),cond_true,FC l (by omega),Option.bind_some,zq _ _ e0,Option.bind_some]
    have c1:=fF (gb (l.filter cD) s ((i:Int)+1)) (gu l)
    rw [EV _ b limit (by omega) h1 h2,Option.bind_some,aD (aaG (by omega) (by omega))]
    show (fg l s b limit (l.filter cD) _ ((i:Int)+1)).opt = _
    simp only [fg,oT]
    rw [Pd i hi]
  · rw [if_neg h,decide_eq_false (show ¬ (0:Int) < ((gb (l.filter cD) s ((i:Int)+1)).length:Int) by omega),cond_false]
    show (fg l s b limit (l.filter cD) _ ((i:Int)+1)).opt = _
    simp only [fg,oT]
    rw [Pd i hi,List.append_nil]
noncomputable def tr (l:List ac) (kind s:Int) (past:ab) (limit:Int):List ab :=
  if kind = 10 then da (vM l s past limit) else xj limit (dD (dD (eC l kind s) (gu l)) past)
theorem GT (l:List ac) (kind s:Int) (past:ab) (limit:Int):(tr l kind s past limit).length≤73050:=by
  unfold tr
  split
  · exact LH (fi _).1
  · exact Nat.le_trans (QX _ _) (fF _ _)
theorem R4 (l:List ac) (hl:l.length≤900) (kind s limit b:Int) (h1:limit≤1000000000000) (h2:0≤limit):uh l kind s b limit = some (tr l kind s ⟨0,b⟩ limit):=by
  show (lm l kind s b limit).opt = _
  simp only [lm,oT]
  unfold tr
  by_cases hk:kind = 10
  · subst hk
    rw [if_pos rfl,show ((10:Int) != 10) = false from rfl,cond_false,qT l (by omega),Option.bind_some]
    have:=iU (f:=gF l s b limit (l.filter cD)) (List.range 99) (fun (i:Nat)=>qt l s ⟨0,b⟩ limit ((i:Int)+1)) (fun out i=>(out,(i:Int)+1)) (fun out=>out) 902 (fun x _=>AL _ hl _ _ _ _) (fun i hi out ho=>by
        rw [List.length_range] at hi
        rw [List.getElem_range]
        exact WA l hl s limit b h1 h2 i hi out ho) (fun out ho=>by
        rw [List.length_range]
        show (gD l s b limit (l.filter cD) out (((99:Nat):Int)+1)).opt = _
        simp only [gD,oT]
        rfl)
    show (fixL (gF l s b limit (l.filter cD)) (([]:List ab),(1:Int))).bind _ = _
    rw [show (1:Int) = ((0:Nat):Int)+1 from rfl,this,Option.bind_some]
    show (kU (vM l s ⟨0,b⟩ limit)).opt = _
    simp only [kU,oT]
    have:=Oj l hl s ⟨0,b⟩ limit
    rw [pI (vM l s ⟨0,b⟩ limit) (by omega)]
    rfl
  · have hs:=fF (eC l kind s) (gu l)
    rw [if_neg hk,show (kind != 10) = true by simp [hk],cond_true,MU l kind s (by omega),Option.bind_some,EV _ b limit (by omega) h1 h2]
    rfl
theorem Qt {T:Type} (g:T→List ab) (d:Int):∀ l:List T,eY (l.flatMap g) d↔∃ x∈l,eY (g x) d
  | []=>by simp [eY]
  | x :: r=>by rw [List.flatMap_cons,rG,Qt g d r]; simp
theorem Js {l:List ac} {k s:Int} {x:ab}:x∈eC l k s↔∃ f∈l,cD f = true∧f.Kind = k∧f.State = s∧f.Span = x:=by
  unfold eC uD
  simp only [List.mem_map,List.mem_filter,Bool.and_eq_true,beq_iff_eq]
  constructor
  · rintro ⟨f,⟨⟨h1,h2⟩,h3,h4⟩,h5⟩; exact ⟨f,h1,h2,h3,h4,h5⟩
  · rintro ⟨f,h1,h2,h3,h4,h5⟩; exact ⟨f,⟨⟨h1,h2⟩,h3,h4⟩,h5⟩
theorem Qb {l:List ac} {s r:Int} {x:ab}:x∈gb (l.filter cD) s r↔∃ f∈l,cD f = true∧f.Kind = 10∧f.State = s∧f.Ref = r∧f.Span = x:=by
  unfold gb Bb
  simp only [List.mem_map,List.mem_filter,Bool.and_eq_true,beq_iff_eq]
  constructor
  · rintro ⟨f,⟨⟨h1,h2⟩,⟨h3,h4⟩,h6⟩,h5⟩; exact ⟨f,h1,h2,h3,h4,h6,h5⟩
  · rintro ⟨f,h1,h2,h3,h4,h6,h5⟩; exact ⟨f,⟨⟨h1,h2⟩,⟨h3,h4⟩,h6⟩,h5⟩
theorem Xn {f:ac} (h:cD f = true) (hk:f.Kind = 10):1≤f.Ref∧f.Ref≤99:=by
  unfold cD at h
  have hv:jJ f = true:=by
    cases hh:jJ f with
    | true=>rfl
    | false=>rw [hh] at h; cases h
  rw [tt] at hv
  have hr:dz (fG f.Kind 82) f.Ref 1 99 = true:=hv.2.2.2.2.2.2.2.2.2.2.2.1
  rw [hk,show fG 10 82 = true from by kernel_rfl] at hr
  unfold dz at hr
  rw [if_pos rfl,Jf] at hr
  exact hr
theorem WC (l:List ac) (s:Int) (past:ab):da (vM l s past 0) = dD (dD (eC l 10 s) (gu l)) past:=by
  refine Ac (fi _).1 (mn _ _).1 fun d=>?_
  rw [(fi _).2.1,(mn _ _).2,(mn _ _).2]
  unfold vM
  rw [Qt]
  constructor
  · rintro ⟨⟨i,hi,hd⟩,h0,h1⟩
    unfold qt at hd
    split at hd
    · unfold xj at hd
      rw [if_pos rfl,(mn _ _).2,(mn _ _).2] at hd
      obtain ⟨⟨⟨⟨⟨x,hx,hxd⟩,h2⟩,_⟩,h3⟩,_⟩:=hd
      obtain ⟨f,f1,f2,f3,f4,f5,f6⟩:=Qb.1 hx
      exact ⟨⟨⟨⟨⟨x,Js.2 ⟨f,f1,f2,f3,f4,f6⟩,hxd⟩,h2⟩,h0,h1⟩,h3⟩,h0,h1⟩
    · exact absurd hd eD
  · rintro ⟨⟨⟨⟨⟨x,hx,hxd⟩,h2⟩,_⟩,h3⟩,h0,h1⟩
    obtain ⟨f,f1,f2,f3,f4,f6⟩:=Js.1 hx
    obtain ⟨r1,r2⟩:=Xn f2 f3
    refine ⟨⟨(f.Ref - 1).toNat,List.mem_range.2 (by omega), ?_⟩,h0,h1⟩
    have e:(((f.Ref - 1).toNat:Nat):Int)+1 = f.Ref:=by omega
    have hx':x∈gb (l.filter cD) s f.Ref:=Qb.2 ⟨f,f1,f2,f3,f4,rfl,f6⟩
    rw [e]
    unfold qt
    rw [if_pos (List.length_pos_of_mem hx')]
    unfold xj
    rw [if_pos rfl,(mn _ _).2,(mn _ _).2]
    exact ⟨⟨⟨⟨⟨x,hx',hxd⟩,h2⟩,h0,h1⟩,h3⟩,h0,h1⟩
end Go.Ax
