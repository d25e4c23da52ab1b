import Derived.Test.YtgamnldjlncdlaaGreatZL158
set_option linter.all false
/- The days of raising children. -/
set_option maxRecDepth 100000
namespace Go.Ax
open Go.Proofs
def LY (s ref:Int) (f:ae):Bool:=((f.Kind == 10)&&(f.State == s))&&(f.Ref == ref)
def ka (c:List ae) (s ref:Int):List ab:=(c.filter (LY s ref)).map ae.Span
theorem OR (c:List ae) (s r:Int):(ka c s r).length≤c.length:=by
  unfold ka
  rw [List.length_map]
  exact List.length_filter_le _ _
theorem iD (l:List ab) (s:ab):(da l s).length≤73050:=J3 (fW l s).1
noncomputable def og (limit:Int) (d:List ab):List ab:=if limit = 0 then d else jO limit (cy d)
theorem OJ (limit:Int) (d:List ab):(og limit d).length≤d.length:=by
  unfold og
  split
  · exact Nat.le_refl _
  · exact Nat.le_trans (Ga _ _) (cE d).2.2
noncomputable def fR (l:List ae) (s:Int) (past:ab) (limit ref:Int):List ab :=
  if 0 < (ka (l.filter cr) s ref).length then og limit (da (da (ka (l.filter cr) s ref) (fq l)) past) else []
theorem Pv (l:List ab) (s:ab):(da l s).length≤l.length+1:=by
  have h1:=(cE l).2.2
  have h2:(cy [s]).length≤1:=(cE [s]).2.2
  have key:∀ (a b:List ab),(i8 a b).length≤a.length+b.length:=by
    intro a b
    induction a,b using i8.induct with
    | case1 b=>rw [sn]; simp
    | case2 s r=>rw [u7]; simp
    | case3 s r t u ih1 ih2 =>
      have:=Q8 s t
      rw [uu,List.length_append]
      split
      · simp only [List.length_cons] at ih1 ⊢; omega
      · simp only [List.length_cons] at ih2 ⊢; omega
  have:=key (cy l) (cy [s])
  unfold da
  omega
theorem Mo (l:List ae):(l.filter cr).length≤l.length:=List.length_filter_le _ _
theorem MT (l:List ae) (hl:l.length≤900) (s:Int) (past:ab) (limit ref:Int):(fR l s past limit ref).length≤902:=by
  have h1:=OR (l.filter cr) s ref
  have h2:=Mo l
  have h3:=Pv (ka (l.filter cr) s ref) (fq l)
  have h4:=Pv (da (ka (l.filter cr) s ref) (fq l)) past
  unfold fR
  split
  · have:=OJ limit (da (da (ka (l.filter cr) s ref) (fq l)) past); omega
  · simp
noncomputable def mD (l:List ae) (s:Int) (past:ab) (limit:Int):List ab:=(List.range 99).flatMap fun (i:Nat)=>fR l s past limit ((i:Int)+1)
theorem I5 {T A:Type} (g:T→List A) (B:Nat):∀ l:List T,(∀ x∈l,(g x).length≤B)→(l.flatMap g).length≤l.length*B
  | [],_=>by simp
  | x :: r,h=>by
    have h1:=h x (List.mem_cons_self)
    have h2:=I5 g B r fun y hy=>h y (List.mem_cons_of_mem _ hy)
    rw [List.flatMap_cons,List.length_append,List.length_cons,Nat.succ_mul]
    omega
theorem V6 (l:List ae) (hl:l.length≤900) (s:Int) (past:ab) (limit:Int):(mD l s past limit).length≤99*902:=by
  have:=I5 (fun (i:Nat)=>fR l s past limit ((i:Int)+1)) 902 (List.range 99) fun x _=>MT _ hl _ _ _ _
  rw [List.length_range] at this
  exact this
theorem WQ (l:List ae) (s limit:Int) (o7:List ab) (ch:Int) (c:List ae) (before:ab) (hc:c.length≤1000000) :
    fixL (ia l s limit o7 ch c ((c.length:Nat):Int) before) (o7,ch,([]:List ab),(0:Int)) = some (o7,ch,ka c s ch):=by
  unfold ka
  rw [nD]
  refine qP c (fun x=>if LY s ch x = true then [x.Span] else []) (fun out i=>(o7,ch,out,(i:Int))) (fun out=>(o7,ch,out)) 1 (fun x _=>Pb _ _) (fun i hi out ho=>?_) (fun out ho=>?_)
  · show (fA l s limit o7 ch out c ((c.length:Nat):Int) (i:Int) before).opt = _
    simp only [fA,oT]
    rw [dH hi,cond_true,aE (bQ hi),fX c _ i hi,fh,fh,cP (by omega)]
    cases h:LY s ch c[i] with
    | true=>unfold LY at h; rw [h,cond_true,aE (pz (by omega))]; rfl
    | false=>unfold LY at h; rw [h,cond_false]; simp
  · show (fA l s limit o7 ch out c ((c.length:Nat):Int) ((c.length:Nat):Int) before).opt = _
    simp only [fA,oT]
    rw [cu,cond_false]
theorem Zh (i:Nat) (h:i < 99):ai (((i:Nat):Int)+1+1) = ((i+1:Nat):Int)+1:=by rw [bu (by omega) (by omega)]; omega
theorem anc {n m:Nat} (h:n≤99*902) (h':m≤73050):AT (n+m) 16:=⟨by omega,by omega⟩
theorem Ub (l:List ae) (hl:l.length≤900) (s limit:Int) (past:ab) (h1:limit≤1000000000000) (h2:0 < limit) (i:Nat) (hi:i < 99) (out:List ab) (ho:out.length≤i*902) :
    fB l s limit past (out,((i:Nat):Int)+1) = some (.inl (out++fR l s past limit ((i:Int)+1),((i+1:Nat):Int)+1)):=by
  show (fx l s limit out ((i:Int)+1) past).opt = _
  simp only [fx,oT]
  rw [show decide (((i:Nat):Int)+1≤99) = true by simp; omega,cond_true]
  show (jV l s limit out ((i:Int)+1) past).opt = _
  simp only [jV,oT]
  rw [HL l (by omega),Option.bind_some]
  show (fixL (ia l s limit out ((i:Int)+1) (l.filter cr) (((l.filter cr).length:Nat):Int) past) (out,(i:Int)+1,([]:List ab),(0:Int))).bind _ = _
  have hc:=Mo l
  have hk:=OR (l.filter cr) s ((i:Int)+1)
  rw [WQ l s limit out _ _ past (by omega),Option.bind_some]
  show (jT l s limit out ((i:Int)+1) (ka (l.filter cr) s ((i:Int)+1)) past).opt = _
  simp only [jT,oT]
  unfold fR
  by_cases h:0 < (ka (l.filter cr) s ((i:Int)+1)).length
  · have e0:(ka (l.filter cr) s ((i:Int)+1)).length≤1000000:=by omega
    rw [if_pos h,decide_eq_true (show (0:Int) < ((ka (l.filter cr) s ((i:Int)+1)).length:Int) by omega),cond_true,CF l (by omega),Option.bind_some,mH _ _ e0,Option.bind_some]
    have c1:=iD (ka (l.filter cr) s ((i:Int)+1)) (fq l)
    rw [mH _ _ (by omega),Option.bind_some]
    have c2:=iD (da (ka (l.filter cr) s ((i:Int)+1)) (fq l)) past
    have hp:=Ga (cy (da (da (ka (l.filter cr) s ((i:Int)+1)) (fq l)) past)) limit
    have hm:=(cE (da (da (ka (l.filter cr) s ((i:Int)+1)) (fq l)) past)).2.2
    rw [zR _ _ (by omega) h1 (by omega),Option.bind_some,aE (anc (by omega) (by omega))]
    show (ep l s limit _ ((i:Int)+1) past).opt = _
    simp only [ep,oT]
    rw [Zh i hi]
    unfold og
    rw [if_neg (by omega)]
  · rw [if_neg h,decide_eq_false (show ¬ (0:Int) < ((ka (l.filter cr) s ((i:Int)+1)).length:Int) by omega),cond_false]
    show (ep l s limit _ ((i:Int)+1) past).opt = _
    simp only [ep,oT]
    rw [Zh i hi,List.append_nil]
theorem Fn (l:List ae) (hl:l.length≤900) (s limit:Int) (past:ab) (h1:limit≤1000000000000) (h2:0 < limit):qT l s past limit = some (cy (mD l s past limit)):=by
  have:=qP (f:=fB l s limit past) (List.range 99) (fun (i:Nat)=>fR l s past limit ((i:Int)+1)) (fun out i=>(out,(i:Int)+1)) (fun out=>out) 902 (fun x _=>MT _ hl _ _ _ _) (fun i hi out ho=>by
      rw [List.length_range] at hi
      rw [List.getElem_range]
      exact Ub l hl s limit past h1 h2 i hi out ho) (fun out ho=>by
      rw [List.length_range]
      show (fx l s limit out (((99:Nat):Int)+1) past).opt = _
      simp only [fx,oT]
      rfl)
  show (fixL (fB l s limit past) (([]:List ab),(1:Int))).bind _ = _
  rw [show (1:Int) = ((0:Nat):Int)+1 from rfl,this,Option.bind_some]
  show (jQ (mD l s past limit)).opt = _
  simp only [jQ,oT]
  have:=V6 l hl s past limit
  rw [mG (mD l s past limit) (by omega)]
  rfl
end Go.Ax
