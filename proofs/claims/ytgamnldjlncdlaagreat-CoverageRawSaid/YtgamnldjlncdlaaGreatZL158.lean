import Derived.Test.YtgamnldjlncdlaaGreatZL157
set_option linter.all false
/- The days under a law, credits, ranks; the claims of one state. -/
set_option maxRecDepth 100000
namespace Go.Ax
open Go.Proofs
def rX (state rule:Int) (x:ar):Bool:=(x.State == state)&&decide (x.Rule≤rule)
def iv (law:List ar) (state rule:Int):List ab:=(law.filter (rX state rule)).map ar.Span
theorem kj {T A:Type} (p:T→Bool) (g:T→A):∀ l:List T,(l.filter p).map g = l.flatMap fun x=>if p x then [g x] else []
  | []=>rfl
  | x :: r=>by
    rw [List.filter_cons,List.flatMap_cons, ← kj p g r]
    split <;> simp
theorem xR (law:List ar) (s r:Int):(iv law s r).length≤law.length:=by
  unfold iv
  rw [List.length_map]
  exact List.length_filter_le _ _
theorem LB {A:Type} (b:Bool) (x:A):(if b = true then [x] else []).length≤1:=by split <;> simp
theorem RM (law:List ar) (s r:Int) (hl:law.length≤1000000):fixL (gU s r law) (([]:List ab),(0:Int)) = some (iv law s r):=by
  unfold iv
  rw [kj]
  refine iU law (fun x=>if rX s r x = true then [x.Span] else []) (fun out i=>(out,(i:Int))) (fun out=>out) 1 (fun x _=>LB _ _) (fun i hi out ho=>?_) (fun out ho=>?_)
  · show (fx s r out law (i:Int)).opt = _
    simp only [fx,oT]
    rw [dg hi,cond_true,aD (bJ hi),er law _ i hi,dV,cF (by omega)]
    cases h:rX s r law[i] with
    | true=>unfold rX at h; rw [h,cond_true,aD (nw (by omega))]; rfl
    | false=>unfold rX at h; rw [h,cond_false]; simp
  · show (fx s r out law ((law.length:Nat):Int)).opt = _
    simp only [fx,oT]
    rw [cl,cond_false]
theorem Sg (law:List ar) (s r:Int) (hl:law.length≤1000000):fixL (lw law s r) (([]:List ab),(0:Int)) = some (iv law s r):=by
  unfold iv
  rw [kj]
  refine iU law (fun x=>if rX s r x = true then [x.Span] else []) (fun out i=>(out,(i:Int))) (fun out=>out) 1 (fun x _=>LB _ _) (fun i hi out ho=>?_) (fun out ho=>?_)
  · show (jA law s r out (i:Int)).opt = _
    simp only [jA,oT]
    rw [dg hi,cond_true,aD (bJ hi),aD (fun _=>(bJ hi).1),aD (fun _=>(bJ hi).2),aD (bJ hi),er law _ i hi,dV,cF (by omega)]
    cases h:rX s r law[i] with
    | true=>unfold rX at h; rw [h,cond_true,aD (nw (by omega))]; rfl
    | false=>unfold rX at h; rw [h,cond_false]; simp
  · show (jA law s r out ((law.length:Nat):Int)).opt = _
    simp only [jA,oT]
    rw [cl,cond_false]
theorem GD (law:List ar) (s r:Int) (hl:law.length≤100000):ro law s r = some (da (iv law s r)):=by
  show (fixL (gU s r law) (([]:List ab),(0:Int))).bind _ = _
  rw [RM law s r (by omega),Option.bind_some]
  show (jQ (iv law s r)).opt = _
  have:=xR law s r
  simp only [jQ,oT]
  rw [m6 _ (by omega)]
  rfl
theorem NF (law:List ar) (s r:Int) (hl:law.length≤100000):Bf law s r = some (da (iv law s r)):=by
  show (fixL (lw law s r) (([]:List ab),(0:Int))).bind _ = _
  rw [Sg law s r (by omega),Option.bind_some]
  show (pi (iv law s r)).opt = _
  have:=xR law s r
  simp only [pi,oT]
  rw [pI _ (by omega)]
  rfl
def jU (kind:Int):List av→Int × Bool
  | []=>(0,false)
  | c :: r=>if c.Kind = kind then (c.Limit,true) else jU kind r
theorem Vw (l:List av) (k:Int) (hl:l.length≤1000000):∀ (n i:Nat),l.length = i+n →
    (fixL (bt l k) (i:Int) = some (.inr ())∧jU k (l.drop i) = (0,false)) ∨
    ∃ j:Nat, ∃ h:j < l.length,fixL (bt l k) (i:Int) = some (.inl (j:Int))∧jU k (l.drop i) = (l[j].Limit,true):=by
  intro n
  induction n with
  | zero =>
    intro i h
    have:i = l.length:=by omega
    subst this
    left
    refine ⟨?_,by rw [List.drop_length]; rfl⟩
    rw [bU]
    show ((bT l k ((l.length:Nat):Int)).opt).bind _ = _
    simp only [bT,oT]
    rw [cl,cond_false]
    rfl
  | succ n ih =>
    intro i h
    have hi:i < l.length:=by omega
    have e:fixL (bt l k) (i:Int) = if l[i].Kind = k then some (.inl (i:Int)) else fixL (bt l k) ((i+1:Nat):Int):=by
      rw [bU]
      show ((bT l k (i:Int)).opt).bind _ = _
      simp only [bT,oT]
      rw [dg hi,cond_true,aD (bJ hi),er l _ i hi,show jL l[i] k = some (l[i].Kind == k) from rfl,Option.bind_some,cF (by omega)]
      by_cases hk:l[i].Kind = k
      · rw [if_pos hk,show (l[i].Kind == k) = true by simp [hk]]; rfl
      · rw [if_neg hk,show (l[i].Kind == k) = false by simp [hk]]; rfl
    rw [e,List.drop_eq_getElem_cons hi,jU]
    by_cases hk:l[i].Kind = k
    · right
      exact ⟨i,hi,by rw [if_pos hk],by rw [if_pos hk]⟩
    · rw [if_neg hk,if_neg hk]
      exact ih (i+1) (by omega)
theorem IV (v:aJ) (k:Int) (hl:v.Credits.length≤1000000):uq v k = some (jU k v.Credits):=by
  show (kY v k).opt = _
  simp only [kY,oT]
  rcases Vw v.Credits k hl v.Credits.length 0 (by omega) with ⟨h1,h2⟩ | ⟨j,hj,h1,h2⟩
  · have:bY v.Credits k = some (-1):=by
      show (fixL (bt v.Credits k) (0:Int)).bind _ = _
      rw [show (0:Int) = ((0:Nat):Int) from rfl,h1]; rfl
    rw [List.drop_zero] at h2
    rw [this,h2]; rfl
  · have:bY v.Credits k = some (j:Int):=by
      show (fixL (bt v.Credits k) (0:Int)).bind _ = _
      rw [show (0:Int) = ((0:Nat):Int) from rfl,h1]; rfl
    rw [List.drop_zero] at h2
    rw [this,h2,Option.bind_some,show decide ((j:Int) < 0) = false by simp,cond_false,aD (bJ hj),er v.Credits _ j hj]
theorem TY (v:aJ) (k:Int) (hl:v.Credits.length≤1000000):∀ (n i:Nat),v.Credits.length = i+n →
    (fixL (pC k v) (i:Int)).bind (qV k v) = some (jU k (v.Credits.drop i)):=by
  intro n
  induction n with
  | zero =>
    intro i h
    have:i = v.Credits.length:=by omega
    subst this
    rw [bU,List.drop_length]
    show (((jx k ((v.Credits.length:Nat):Int) v).opt).bind _).bind _ = _
    simp only [jx,oT]
    rw [cl,cond_false]
    rfl
  | succ n ih =>
    intro i h
    have hi:i < v.Credits.length:=by omega
    rw [bU]
    show (((jx k (i:Int) v).opt).bind _).bind _ = _
    simp only [jx,oT]
    rw [dg hi,cond_true,aD (bJ hi),aD (bJ hi),er v.Credits _ i hi,cF (by omega),List.drop_eq_getElem_cons hi,jU]
    by_cases hk:v.Credits[i].Kind = k
    · rw [if_pos hk,show (v.Credits[i].Kind == k) = true by simp [hk]]; rfl
    · rw [if_neg hk,show (v.Credits[i].Kind == k) = false by simp [hk],cond_false,Option.bind_some]
      exact ih (i+1) (by omega)
theorem M0 (v:aJ) (k:Int) (hl:v.Credits.length≤1000000):Bu v k = some (jU k v.Credits) :=
  TY v k hl v.Credits.length 0 (by omega)
theorem Wo:eO 2 = some 6∧eO 3 = some 9∧eO 4 = some 7∧eO 5 = some 8∧eO 6 = some 10∧eO 7 = some 5 :=
  ⟨by kernel_rfl,by kernel_rfl,by kernel_rfl,by kernel_rfl,by kernel_rfl,by kernel_rfl⟩
end Go.Ax
