import Derived.Test.YtkijjjdaijjpaaaGreatL6v
set_option linter.all false
/- Merging facts: what does not depend on any order. -/
set_option maxRecDepth 100000
namespace Go.Ax
open Go.Proofs

def Valids (l : List GFact) : Prop := ∀ f ∈ l, validB f = true
def Asc (l : List GFact) : Prop := l.Pairwise idlt
noncomputable def mergeL : List GFact → List GFact → List GFact
  | [], b => b
  | x :: a, [] => x :: a
  | x :: a, y :: b => if cmpI x y < 0 then x :: mergeL a (y :: b) else if 0 < cmpI x y then y :: mergeL (x :: a) b else greaterF x y :: mergeL a b
termination_by a b => a.length + b.length

/-- A fact that no other one of its identity beats. -/
def Top (S : List GFact) (f : GFact) : Prop := f ∈ S ∧ validB f = true ∧ ∀ g ∈ S, validB g = true → ideq f g → ¬ lessF f g
structure IsMerge (S M : List GFact) : Prop where
  asc : Asc M
  mem : ∀ f, f ∈ M ↔ Top S f

theorem IsMerge.valids {S M : List GFact} (h : IsMerge S M) : Valids M := fun f hf => ((h.mem f).1 hf).2.1
theorem Top_congr {S S' : List GFact} (h : ∀ f, f ∈ S ↔ f ∈ S') (f : GFact) : Top S f ↔ Top S' f := by
  unfold Top
  rw [h f]
  simp only [h]
theorem IsMerge.congr {S S' M : List GFact} (h : IsMerge S M) (hs : ∀ f, f ∈ S ↔ f ∈ S') : IsMerge S' M := ⟨h.asc, fun f => (h.mem f).trans (Top_congr hs f)⟩

theorem asc_uniq : ∀ {a b : List GFact}, Asc a → Asc b → (∀ f, f ∈ a ↔ f ∈ b) → a = b
  | [], [], _, _, _ => rfl
  | [], y :: b, _, _, h => by have := (h y).2 (by simp); simp at this
  | x :: a, [], _, _, h => by have := (h x).1 (by simp); simp at this
  | x :: a, y :: b, ha, hb, h => by
    unfold Asc at ha hb
    rw [List.pairwise_cons] at ha hb
    have hxy : x = y := by
      rcases List.mem_cons.1 ((h x).1 (by simp)) with e | hx
      · exact e
      · rcases List.mem_cons.1 ((h y).2 (by simp)) with e | hy
        · exact e.symm
        · exact (idlt_asymm (ha.1 y hy) (hb.1 x hx)).elim
    subst hxy
    congr 1
    refine asc_uniq ha.2 hb.2 fun f => ⟨fun hf => ?_, fun hf => ?_⟩
    · rcases List.mem_cons.1 ((h f).1 (by simp [hf])) with e | hm
      · subst e; exact (idlt_irrefl _ (ha.1 f hf)).elim
      · exact hm
    · rcases List.mem_cons.1 ((h f).2 (by simp [hf])) with e | hm
      · subst e; exact (idlt_irrefl _ (hb.1 f hf)).elim
      · exact hm
theorem IsMerge.uniq {S S' M M' : List GFact} (h : IsMerge S M) (h' : IsMerge S' M') (hs : ∀ f, Top S f ↔ Top S' f) : M = M' :=
  asc_uniq h.asc h'.asc fun f => (h.mem f).trans ((hs f).trans (h'.mem f).symm)

theorem Top_cons {x : GFact} {S : List GFact} (hx : validB x = true) (h : ∀ g ∈ S, idlt x g) (f : GFact) : Top (x :: S) f ↔ f = x ∨ Top S f := by
  constructor
  · rintro ⟨h1, h2, h3⟩
    rcases List.mem_cons.1 h1 with e | hm
    · exact .inl e
    · exact .inr ⟨hm, h2, fun g hg => h3 g (by simp [hg])⟩
  · rintro (rfl | ⟨h1, h2, h3⟩)
    · refine ⟨by simp, hx, fun g hg _ he => ?_⟩
      rcases List.mem_cons.1 hg with e | hm
      · subst e; exact lessF_irrefl _
      · exact (idlt_not_eq (h g hm) he).elim
    · refine ⟨by simp [h1], h2, fun g hg hv he => ?_⟩
      rcases List.mem_cons.1 hg with e | hm
      · subst e; exact (idlt_not_eq (h f h1) (ideq_symm he)).elim
      · exact h3 g hm hv he
theorem Top_cons2 {x y : GFact} {S : List GFact} (hx : validB x = true) (hy : validB y = true) (he : ideq x y) (h : ∀ g ∈ S, idlt x g) (f : GFact) : Top (x :: y :: S) f ↔ f = greaterF x y ∨ Top S f := by
  have hno : ∀ g ∈ S, ∀ z, ideq x z → ¬ ideq z g := fun g hg z hz hzg => idlt_not_eq (h g hg) (ideq_trans hz hzg)
  constructor
  · rintro ⟨h1, h2, h3⟩
    have k1 := h3 x (by simp) hx
    have k2 := h3 y (by simp) hy
    rcases List.mem_cons.1 h1 with e | hm
    · subst e
      left
      have := k2 he
      unfold greaterF
      rw [if_neg this]
    · rcases List.mem_cons.1 hm with e | hm
      · subst e
        left
        have := k1 (ideq_symm he)
        unfold greaterF
        split
        · rfl
        · next hn =>
          rcases lessF_total hx hy with e | e | e
          · exact (hn e).elim
          · exact e.symm
          · exact (this e).elim
      · exact .inr ⟨hm, h2, fun g hg => h3 g (by simp [hg])⟩
  · rintro (rfl | ⟨h1, h2, h3⟩)
    · unfold greaterF
      split
      · next hl =>
        refine ⟨by simp, hy, fun g hg hv hi => ?_⟩
        rcases List.mem_cons.1 hg with e | hg
        · subst e; intro hc; exact lessF_irrefl _ (lessF_trans hl hc)
        · rcases List.mem_cons.1 hg with e | hg
          · subst e; exact lessF_irrefl _
          · exact (hno g hg y he hi).elim
      · next hl =>
        refine ⟨by simp, hx, fun g hg hv hi => ?_⟩
        rcases List.mem_cons.1 hg with e | hg
        · subst e; exact lessF_irrefl _
        · rcases List.mem_cons.1 hg with e | hg
          · subst e; exact hl
          · exact (hno g hg x (ideq_refl x) hi).elim
    · refine ⟨by simp [h1], h2, fun g hg hv hi => ?_⟩
      rcases List.mem_cons.1 hg with e | hg
      · subst e; exact (hno f h1 g (ideq_refl g) (ideq_symm hi)).elim
      · rcases List.mem_cons.1 hg with e | hg
        · subst e; exact (hno f h1 g he (ideq_symm hi)).elim
        · exact h3 g hg hv hi

theorem asc_cons {x : GFact} {a : List GFact} (h : Asc (x :: a)) : (∀ g ∈ a, idlt x g) ∧ Asc a := List.pairwise_cons.1 h
theorem mergeL_ok : ∀ (a b : List GFact), Asc a → Asc b → Valids a → Valids b → IsMerge (a ++ b) (mergeL a b)
  | [], b, _, hb, _, vb => by
    rw [mergeL]
    refine ⟨hb, fun f => ?_⟩
    rw [List.nil_append]
    induction b with
    | nil => simp [Top]
    | cons y b ih =>
      obtain ⟨h1, h2⟩ := asc_cons hb
      rw [Top_cons (vb y (by simp)) h1, List.mem_cons, ih h2 fun g hg => vb g (by simp [hg])]
  | x :: a, [], ha, _, va, _ => by
    rw [mergeL, List.append_nil]
    refine ⟨ha, fun f => ?_⟩
    have key : ∀ l : List GFact, Asc l → Valids l → (f ∈ l ↔ Top l f) := by
      intro l
      induction l with
      | nil => intro _ _; simp [Top]
      | cons y b ih =>
        intro hb vb
        obtain ⟨h1, h2⟩ := asc_cons hb
        rw [Top_cons (vb y (by simp)) h1, List.mem_cons, ih h2 fun g hg => vb g (by simp [hg])]
    exact key _ ha va
  | x :: a, y :: b, ha, hb, va, vb => by
    obtain ⟨hxa, ha'⟩ := asc_cons ha
    obtain ⟨hyb, hb'⟩ := asc_cons hb
    have vx := va x (by simp)
    have vy := vb y (by simp)
    have va' : Valids a := fun g hg => va g (by simp [hg])
    have vb' : Valids b := fun g hg => vb g (by simp [hg])
    rw [mergeL]
    rcases cmpI_cases x y with ⟨hc, e⟩ | ⟨hc, e⟩ | ⟨hc, e⟩
    · rw [if_pos (by omega)]
      have ih := mergeL_ok a (y :: b) ha' hb va' vb
      have hall : ∀ g ∈ a ++ y :: b, idlt x g := by
        intro g hg
        rcases List.mem_append.1 hg with hg | hg
        · exact hxa g hg
        · rcases List.mem_cons.1 hg with rfl | hg
          · exact hc
          · exact idlt_trans hc (hyb g hg)
      refine ⟨List.pairwise_cons.2 ⟨fun g hg => hall g ((ih.mem g).1 hg).1, ih.asc⟩, fun f => ?_⟩
      rw [List.cons_append, Top_cons vx hall, List.mem_cons, ih.mem]
    · rw [if_neg (by omega), if_neg (by omega)]
      have ih := mergeL_ok a b ha' hb' va' vb'
      have hall : ∀ g ∈ a ++ b, idlt x g := by
        intro g hg
        rcases List.mem_append.1 hg with hg | hg
        · exact hxa g hg
        · exact ideq_lt hc (hyb g hg)
      have hgr : ∀ g ∈ a ++ b, idlt (greaterF x y) g := by
        intro g hg
        unfold greaterF
        split
        · exact ideq_lt (ideq_symm hc) (hall g hg)
        · exact hall g hg
      refine ⟨List.pairwise_cons.2 ⟨fun g hg => hgr g ((ih.mem g).1 hg).1, ih.asc⟩, fun f => ?_⟩
      rw [Top_congr (S' := x :: y :: (a ++ b)) (fun f => by simp only [List.mem_append, List.mem_cons, List.cons_append]; constructor <;> (intro h; rcases h with h | h | h | h <;> simp [h])), Top_cons2 vx vy hc hall, List.mem_cons, ih.mem]
    · rw [if_neg (by omega), if_pos (by omega)]
      have ih := mergeL_ok (x :: a) b ha hb' va vb'
      have hall : ∀ g ∈ x :: a ++ b, idlt y g := by
        intro g hg
        rcases List.mem_append.1 hg with hg | hg
        · rcases List.mem_cons.1 hg with rfl | hg
          · exact hc
          · exact idlt_trans hc (hxa g hg)
        · exact hyb g hg
      refine ⟨List.pairwise_cons.2 ⟨fun g hg => hall g ((ih.mem g).1 hg).1, ih.asc⟩, fun f => ?_⟩
      rw [Top_congr (S' := y :: (x :: a ++ b)) (fun f => by simp only [List.mem_append, List.mem_cons, List.cons_append]; constructor <;> (intro h; rcases h with h | h | h | h <;> simp [h])), Top_cons vy hall, List.mem_cons, ih.mem]
termination_by a b => a.length + b.length

/-- Among facts of one identity there is a greatest one. -/
theorem exists_top (g : GFact) (hg : validB g = true) : ∀ A : List GFact, ∃ m, (m = g ∨ m ∈ A) ∧ validB m = true ∧ ideq g m ∧ ¬ lessF m g ∧ ∀ h ∈ A, validB h = true → ideq g h → ¬ lessF m h
  | [] => ⟨g, .inl rfl, hg, ideq_refl g, lessF_irrefl g, fun h hh => by simp at hh⟩
  | x :: A => by
    obtain ⟨m, h1, h2, h3, h4, h5⟩ := exists_top g hg A
    by_cases hc : validB x = true ∧ ideq g x ∧ lessF m x
    · obtain ⟨c1, c2, c3⟩ := hc
      refine ⟨x, .inr (by simp), c1, c2, fun hl => h4 (lessF_trans c3 hl), fun h hh hv hi hl => ?_⟩
      rcases List.mem_cons.1 hh with rfl | hh
      · exact lessF_irrefl _ hl
      · exact h5 h hh hv hi (lessF_trans c3 hl)
    · refine ⟨m, h1.imp id fun h => by simp [h], h2, h3, h4, fun h hh hv hi hl => ?_⟩
      rcases List.mem_cons.1 hh with rfl | hh
      · exact hc ⟨hv, hi, hl⟩
      · exact h5 h hh hv hi hl
theorem Top_merge {A M B : List GFact} (h : IsMerge A M) (f : GFact) : Top (M ++ B) f ↔ Top (A ++ B) f := by
  have hMA : ∀ g ∈ M, g ∈ A := fun g hg => ((h.mem g).1 hg).1
  constructor
  · rintro ⟨h1, h2, h3⟩
    refine ⟨?_, h2, fun g hg hv hi hl => ?_⟩
    · rcases List.mem_append.1 h1 with h1 | h1
      · exact List.mem_append_left _ (hMA f h1)
      · exact List.mem_append_right _ h1
    · rcases List.mem_append.1 hg with hg | hg
      · obtain ⟨m, m1, m2, m3, m4, m5⟩ := exists_top g hv A
        have hmA : m ∈ A := by rcases m1 with rfl | m1; exact hg; exact m1
        have hmM : m ∈ M := (h.mem m).2 ⟨hmA, m2, fun k hk hkv hki => m5 k hk hkv (ideq_trans m3 hki)⟩
        have k1 := h3 m (List.mem_append_left _ hmM) m2 (ideq_trans hi m3)
        rcases lessF_total hv m2 with e | e | e
        · exact k1 (lessF_trans hl e)
        · subst e; exact k1 hl
        · exact m4 e
      · exact h3 g (List.mem_append_right _ hg) hv hi hl
  · rintro ⟨h1, h2, h3⟩
    refine ⟨?_, h2, fun g hg hv hi => ?_⟩
    · rcases List.mem_append.1 h1 with h1 | h1
      · exact List.mem_append_left _ ((h.mem f).2 ⟨h1, h2, fun g hg => h3 g (List.mem_append_left _ hg)⟩)
      · exact List.mem_append_right _ h1
    · rcases List.mem_append.1 hg with hg | hg
      · exact h3 g (List.mem_append_left _ (hMA g hg)) hv hi
      · exact h3 g (List.mem_append_right _ hg) hv hi
theorem app_comm (A B : List GFact) (f : GFact) : f ∈ A ++ B ↔ f ∈ B ++ A := by rw [List.mem_append, List.mem_append, or_comm]
theorem Top_merge2 {A M B : List GFact} (h : IsMerge A M) (f : GFact) : Top (B ++ M) f ↔ Top (B ++ A) f :=
  (Top_congr (app_comm B M) f).trans ((Top_merge h f).trans (Top_congr (app_comm A B) f))
theorem IsMerge.app {A B M M' : List GFact} (h : IsMerge A M) (h' : IsMerge B M') : IsMerge (A ++ B) (mergeL M M') := by
  have := mergeL_ok M M' h.asc h'.asc h.valids h'.valids
  exact ⟨this.asc, fun f => (this.mem f).trans ((Top_merge h f).trans (Top_merge2 h' f))⟩
theorem IsMerge.one {f : GFact} (h : validB f = true) : IsMerge [f] [f] := by
  refine ⟨by simp [Asc], fun g => ?_⟩
  rw [Top_cons h (by simp)]
  simp [Top]
theorem IsMerge.nil : IsMerge [] [] := ⟨by simp [Asc], fun g => by simp [Top]⟩
theorem IsMerge.skip {A M : List GFact} {f : GFact} (h : IsMerge A M) (hf : validB f = false) : IsMerge (A ++ [f]) M := by
  refine ⟨h.asc, fun g => (h.mem g).trans ⟨fun ⟨h1, h2, h3⟩ => ⟨by simp [h1], h2, fun k hk hv hi => ?_⟩, fun ⟨h1, h2, h3⟩ => ⟨?_, h2, fun k hk => h3 k (by simp [hk])⟩⟩⟩
  · rcases List.mem_append.1 hk with hk | hk
    · exact h3 k hk hv hi
    · simp at hk; subst hk; rw [hf] at hv; cases hv
  · rcases List.mem_append.1 h1 with h1 | h1
    · exact h1
    · simp at h1; subst h1; rw [hf] at h2; cases h2
noncomputable def ascL (l : List GFact) : List GFact := l.foldl (fun out f => if validB f then mergeL out [f] else out) []
theorem ascL_go : ∀ (l A out : List GFact), IsMerge A out → IsMerge (A ++ l) (l.foldl (fun out f => if validB f then mergeL out [f] else out) out)
  | [], A, out, h => by rw [List.append_nil]; exact h
  | f :: l, A, out, h => by
    rw [List.foldl_cons, show A ++ f :: l = (A ++ [f]) ++ l by simp]
    refine ascL_go l (A ++ [f]) _ ?_
    by_cases hf : validB f = true
    · rw [if_pos hf]; exact h.app (.one hf)
    · rw [if_neg hf]; exact h.skip (by simpa using hf)
theorem ascL_ok (l : List GFact) : IsMerge l (ascL l) := ascL_go l [] [] .nil
noncomputable def careerMerge (a b : List GFact) : List GFact := mergeL (ascL a) (ascL b)
theorem careerMerge_ok (a b : List GFact) : IsMerge (a ++ b) (careerMerge a b) := (ascL_ok a).app (ascL_ok b)
end Go.Ax
