import Derived.Test.YtgamnldjlncdlaaGreatZL158
set_option linter.all false
/- The days of raising children. -/
set_option maxRecDepth 100000
namespace Go.Ax
open Go.Proofs
def Bb (s ref:Int) (f:ac):Bool:=((f.Kind == 10)&&(f.State == s))&&(f.Ref == ref)
def gb (c:List ac) (s ref:Int):List ab:=(c.filter (Bb s ref)).map ac.Span
theorem Kf (c:List ac) (s r:Int):(gb c s r).length≤c.length:=by
  unfold gb
  rw [List.length_map]
  exact List.length_filter_le _ _
theorem fF (l:List ab) (s:ab):(dD l s).length≤73050:=LH (mn l s).1
noncomputable def xj (limit:Int) (d:List ab):List ab:=if limit = 0 then d else li limit (da d)
theorem QX (limit:Int) (d:List ab):(xj limit d).length≤d.length:=by
  unfold xj
  split
  · exact Nat.le_refl _
  · exact Nat.le_trans (HO _ _) (fi d).2.2
noncomputable def qt (l:List ac) (s:Int) (past:ab) (limit ref:Int):List ab :=
  if 0 < (gb (l.filter cD) s ref).length then xj limit (dD (dD (gb (l.filter cD) s ref) (gu l)) past) else []
theorem Rs (l:List ab) (s:ab):(dD l s).length≤l.length+1:=by
  have h1:=(fi l).2.2
  have h2:(da [s]).length≤1:=(fi [s]).2.2
  have key:∀ (a b:List ab),(jb a b).length≤a.length+b.length:=by
    intro a b
    induction a,b using jb.induct with
    | case1 b=>rw [s7]; simp
    | case2 s r=>rw [vT]; simp
    | case3 s r t u ih1 ih2 =>
      have:=SU s t
      rw [uL,List.length_append]
      split
      · simp only [List.length_cons] at ih1 ⊢; omega
      · simp only [List.length_cons] at ih2 ⊢; omega
  have:=key (da l) (da [s])
  unfold dD
  omega
theorem M9 (l:List ac):(l.filter cD).length≤l.length:=List.length_filter_le _ _
theorem AL (l:List ac) (hl:l.length≤900) (s:Int) (past:ab) (limit ref:Int):(qt l s past limit ref).length≤902:=by
  have h1:=Kf (l.filter cD) s ref
  have h2:=M9 l
  have h3:=Rs (gb (l.filter cD) s ref) (gu l)
  have h4:=Rs (dD (gb (l.filter cD) s ref) (gu l)) past
  unfold qt
  split
  · have:=QX limit (dD (dD (gb (l.filter cD) s ref) (gu l)) past); omega
  · simp
noncomputable def vM (l:List ac) (s:Int) (past:ab) (limit:Int):List ab:=(List.range 99).flatMap fun (i:Nat)=>qt l s past limit ((i:Int)+1)
theorem EE {T A:Type} (g:T→List A) (B:Nat):∀ l:List T,(∀ x∈l,(g x).length≤B)→(l.flatMap g).length≤l.length*B
  | [],_=>by simp
  | x :: r,h=>by
    have h1:=h x (List.mem_cons_self)
    have h2:=EE g B r fun y hy=>h y (List.mem_cons_of_mem _ hy)
    rw [List.flatMap_cons,List.length_append,List.length_cons,Nat.succ_mul]
    omega
theorem Oj (l:List ac) (hl:l.length≤900) (s:Int) (past:ab) (limit:Int):(vM l s past limit).length≤99*902:=by
  have:=EE (fun (i:Nat)=>qt l s past limit ((i:Int)+1)) 902 (List.range 99) fun x _=>AL _ hl _ _ _ _
  rw [List.length_range] at this
  exact this
theorem Yr (l:List ac) (s limit:Int) (o7:List ab) (ch:Int) (c:List ac) (before:ab) (hc:c.length≤1000000) :
    fixL (gY l s limit o7 ch c ((c.length:Nat):Int) before) (o7,ch,([]:List ab),(0:Int)) = some (o7,ch,gb c s ch):=by
  unfold gb
  rw [kj]
  refine iU c (fun x=>if Bb s ch x = true then [x.Span] else []) (fun out i=>(o7,ch,out,(i:Int))) (fun out=>(o7,ch,out)) 1 (fun x _=>LB _ _) (fun i hi out ho=>?_) (fun out ho=>?_)
  · show (fA l s limit o7 ch out c ((c.length:Nat):Int) (i:Int) before).opt = _
    simp only [fA,oT]
    rw [dg hi,cond_true,aD (bJ hi),fp c _ i hi,dV,dV,cF (by omega)]
    cases h:Bb s ch c[i] with
    | true=>unfold Bb at h; rw [h,cond_true,aD (nw (by omega))]; rfl
    | false=>unfold Bb at h; rw [h,cond_false]; simp
  · show (fA l s limit o7 ch out c ((c.length:Nat):Int) ((c.length:Nat):Int) before).opt = _
    simp only [fA,oT]
    rw [cl,cond_false]
theorem afm (l:List ac) (s limit b:Int) (o7:List ab) (ch:Int) (c:List ac) (hc:c.length≤1000000) :
    fixL (i7 l s b limit c o7 ch) (o7,ch,([]:List ab),(0:Int)) = some (o7,ch,gb c s ch):=by
  unfold gb
  rw [kj]
  refine iU c (fun x=>if Bb s ch x = true then [x.Span] else []) (fun out i=>(o7,ch,out,(i:Int))) (fun out=>(o7,ch,out)) 1 (fun x _=>LB _ _) (fun i hi out ho=>?_) (fun out ho=>?_)
  · show (gE l s b limit c o7 ch out (i:Int)).opt = _
    simp only [gE,oT]
    rw [dg hi,cond_true,aD (bJ hi),aD (fun _=>(bJ hi).1),aD (fun _=>(bJ hi).2),aD (fun _=>(bJ hi).1),aD (fun _=>(bJ hi).2),aD (bJ hi),fp c _ i hi,dV,dV,cF (by omega)]
    cases h:Bb s ch c[i] with
    | true=>unfold Bb at h; rw [h,cond_true,aD (nw (by omega))]; rfl
    | false=>unfold Bb at h; rw [h,cond_false]; simp
  · show (gE l s b limit c o7 ch out ((c.length:Nat):Int)).opt = _
    simp only [gE,oT]
    rw [cl,cond_false]
theorem EV (d:List ab) (b limit:Int) (hd:d.length≤100000) (h1:limit≤1000000000000) (h2:0≤limit):m5 d b limit = some (xj limit (dD d ⟨0,b⟩)):=by
  show (my d b limit).opt = _
  simp only [my,oT]
  rw [zq d _ hd,Option.bind_some]
  unfold xj
  by_cases h:limit = 0
  · rw [if_pos h,show (limit == 0) = true by simp [h]]; rfl
  · rw [if_neg h,show (limit == 0) = false by simp [h],cond_false,Nu _ _ (by have:=fF d ⟨0,b⟩; omega) h1 (by omega)]
    rfl
theorem Pd (i:Nat) (h:i < 99):ai (((i:Nat):Int)+1+1) = ((i+1:Nat):Int)+1:=by rw [bu (by omega) (by omega)]; omega
theorem aaG {n m:Nat} (h:n≤99*902) (h':m≤73050):zb (n+m) 16:=⟨by omega,by omega⟩
theorem Uv (l:List ac) (hl:l.length≤900) (s limit:Int) (past:ab) (h1:limit≤1000000000000) (h2:0 < limit) (i:Nat) (hi:i < 99) (out:List ab) (ho:out.length≤i*902) :
    fu l s limit past (out,((i:Nat):Int)+1) = some (.inl (out++qt l s past limit ((i:Int)+1),((i+1:Nat):Int)+1)):=by
  show (fw l s limit out ((i:Int)+1) past).opt = _
  simp only [fw,oT]
  rw [show decide (((i:Nat):Int)+1≤99) = true by simp; omega,cond_true]
  show (jN l s limit out ((i:Int)+1) past).opt = _
  simp only [jN,oT]
  rw [IN l (by omega),Option.bind_some]
  show (fixL (gY l s limit out ((i:Int)+1) (l.filter cD) (((l.filter cD).length:Nat):Int) past) (out,(i:Int)+1,([]:List ab),(0:Int))).bind _ = _
  have hc:=M9 l
  have hk:=Kf (l.filter cD) s ((i:Int)+1)
  rw [Yr l s limit out _ _ past (by omega),Option.bind_some]
  show (jR l s limit out ((i:Int)+1) (gb (l.filter cD) s ((i:Int)+1)) past).opt = _
  simp only [jR,oT]
  unfold qt
  by_cases h:0 < (gb (l.filter cD) s ((i:Int)+1)).length
  · have e0:(gb (l.filter cD) s ((i:Int)+1)).length≤1000000:=by omega
    rw [if_pos h,decide_eq_true (show (0:Int) < ((gb (l.filter cD) s ((i:Int)+1)).length:Int) by omega),cond_true,DI l (by omega),Option.bind_some,mQ _ _ e0,Option.bind_some]
    have c1:=fF (gb (l.filter cD) s ((i:Int)+1)) (gu l)
    rw [mQ _ _ (by omega),Option.bind_some]
    have c2:=fF (dD (gb (l.filter cD) s ((i:Int)+1)) (gu l)) past
    have hp:=HO (da (dD (dD (gb (l.filter cD) s ((i:Int)+1)) (gu l)) past)) limit
    have hm:=(fi (dD (dD (gb (l.filter cD) s ((i:Int)+1)) (gu l)) past)).2.2
    rw [An _ _ (by omega) h1 (by omega),Option.bind_some,aD (aaG (by omega) (by omega))]
    show (em l s limit _ ((i:Int)+1) past).opt = _
    simp only [em,oT]
    rw [Pd i hi]
    unfold xj
    rw [if_neg (by omega)]
  · rw [if_neg h,decide_eq_false (show ¬ (0:Int) < ((gb (l.filter cD) s ((i:Int)+1)).length:Int) by omega),cond_false]
    show (em l s limit _ ((i:Int)+1) past).opt = _
    simp only [em,oT]
    rw [Pd i hi,List.append_nil]
theorem GM (l:List ac) (hl:l.length≤900) (s limit:Int) (past:ab) (h1:limit≤1000000000000) (h2:0 < limit):qS l s past limit = some (da (vM l s past limit)):=by
  have:=iU (f:=fu l s limit past) (List.range 99) (fun (i:Nat)=>qt l s past limit ((i:Int)+1)) (fun out i=>(out,(i:Int)+1)) (fun out=>out) 902 (fun x _=>AL _ hl _ _ _ _) (fun i hi out ho=>by
      rw [List.length_range] at hi
      rw [List.getElem_range]
      exact Uv l hl s limit past h1 h2 i hi out ho) (fun out ho=>by
      rw [List.length_range]
      show (fw l s limit out (((99:Nat):Int)+1) past).opt = _
      simp only [fw,oT]
      rfl)
  show (fixL (fu l s limit past) (([]:List ab),(1:Int))).bind _ = _
  rw [show (1:Int) = ((0:Nat):Int)+1 from rfl,this,Option.bind_some]
  show (jM (vM l s past limit)).opt = _
  simp only [jM,oT]
  have:=Oj l hl s past limit
  rw [m6 (vM l s past limit) (by omega)]
  rfl
end Go.Ax
