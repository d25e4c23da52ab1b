import Derived.Test.YtefjkielgagknaaL70
set_option linter.all false
/- Children. -/
set_option maxRecDepth 100000
namespace Go.Ax
open Go.Proofs

theorem ascI_uniq : ∀ {a b : List Int}, Asc1 a → Asc1 b → (∀ x, x ∈ a ↔ x ∈ b) → a = b
  | [], [], _, _, _ => rfl
  | [], y :: b, _, _, h => by have := (h y).2 (by simp); simp at this
  | x :: a, [], _, _, h => by have := (h x).1 (by simp); simp at this
  | x :: a, y :: b, ha, hb, h => by
    obtain ⟨a1, a2⟩ := List.pairwise_cons.1 ha
    obtain ⟨b1, b2⟩ := List.pairwise_cons.1 hb
    have e : x = y := by
      rcases List.mem_cons.1 ((h x).1 (by simp)) with e | e
      · exact e
      · rcases List.mem_cons.1 ((h y).2 (by simp)) with e' | e'
        · exact e'.symm
        · have := b1 x e; have := a1 y e'; omega
    subst e
    rw [ascI_uniq a2 b2 fun z => ?_]
    constructor
    · intro hz
      rcases List.mem_cons.1 ((h z).1 (List.mem_cons_of_mem _ hz)) with e | e
      · have := a1 z hz; omega
      · exact e
    · intro hz
      rcases List.mem_cons.1 ((h z).2 (List.mem_cons_of_mem _ hz)) with e | e
      · have := b1 z hz; omega
      · exact e
open Go.Lib in
theorem compact_spec (l : List Int) (hs : l.Pairwise (fun a b => a ≤ b)) : Asc1 (compact l) ∧ ∀ x, x ∈ compact l ↔ x ∈ l := by
  have hg : ∀ j, j < l.length → l.toArray[j]! = l.getD j 0 := by
    intro j hj
    rw [getElem!_pos l.toArray j (by simpa using hj), List.getD_eq_getElem?_getD, List.getElem?_eq_getElem hj]
    simp
  have hso : ∀ i j, i < j → j < l.length → l.toArray[i]! ≤ l.toArray[j]! := by
    intro i j hij hj
    rw [hg i (by omega), hg j hj]
    have := List.pairwise_iff_getElem.1 hs i j (by omega) hj hij
    rw [List.getD_eq_getElem?_getD, List.getD_eq_getElem?_getD, List.getElem?_eq_getElem hj, List.getElem?_eq_getElem (by omega)]
    exact this
  have key : ∀ m, m ≤ l.length → Asc1 (compactUpTo l.toArray m) ∧ ∀ x, x ∈ compactUpTo l.toArray m ↔ ∃ j, j < m ∧ l.toArray[j]! = x := by
    intro m
    induction m with
    | zero =>
      intro _
      have e0 : compactUpTo l.toArray 0 = [] := rfl
      rw [e0]
      exact ⟨List.Pairwise.nil, fun x => by simp⟩
    | succ m ih =>
      intro hm
      obtain ⟨h1, h2⟩ := ih (by omega)
      rw [compactUpTo_succ]
      by_cases hk : keeps l.toArray m = true
      · rw [if_pos hk]
        unfold keeps at hk
        rw [decide_eq_true_iff] at hk
        refine ⟨List.pairwise_append.2 ⟨h1, List.pairwise_singleton _ _, fun x hx y hy => ?_⟩, fun x => ?_⟩
        · rw [List.mem_singleton.1 hy]
          obtain ⟨j, hj, rfl⟩ := (h2 x).1 hx
          rcases hk with hk | hk
          · omega
          · have a1 := hso (m - 1) m (by omega) (by omega)
            by_cases hjm : j = m - 1
            · subst hjm; omega
            · have := hso j (m - 1) (by omega) (by omega); omega
        · rw [List.mem_append, h2, List.mem_singleton]
          constructor
          · rintro (⟨j, hj, h⟩ | h)
            · exact ⟨j, by omega, h⟩
            · exact ⟨m, by omega, h.symm⟩
          · rintro ⟨j, hj, h⟩
            by_cases hjm : j = m
            · subst hjm; exact .inr h.symm
            · exact .inl ⟨j, by omega, h⟩
      · rw [if_neg hk, List.append_nil]
        unfold keeps at hk
        rw [decide_eq_true_iff] at hk
        have hm0 : m ≠ 0 := fun h => hk (.inl h)
        have he : l.toArray[m]! = l.toArray[m - 1]! := Decidable.byContradiction fun h => hk (.inr h)
        refine ⟨h1, fun x => ?_⟩
        rw [h2]
        constructor
        · rintro ⟨j, hj, h⟩; exact ⟨j, by omega, h⟩
        · rintro ⟨j, hj, h⟩
          by_cases hjm : j = m
          · subst hjm; exact ⟨j - 1, by omega, by rw [← he]; exact h⟩
          · exact ⟨j, by omega, h⟩
  obtain ⟨h1, h2⟩ := key l.length (Nat.le_refl _)
  refine ⟨h1, fun x => ?_⟩
  show x ∈ compactUpTo l.toArray l.length ↔ _
  rw [h2]
  constructor
  · rintro ⟨j, hj, rfl⟩
    rw [getElem!_pos l.toArray j (by simpa using hj)]
    simp
  · intro h
    obtain ⟨j, hj, rfl⟩ := List.getElem_of_mem h
    refine ⟨j, hj, ?_⟩
    rw [getElem!_pos l.toArray j (by simpa using hj)]
    simp
theorem sortI_spec (l : List Int) : (sortI l).Pairwise (fun a b => a ≤ b) ∧ (∀ x, x ∈ sortI l ↔ x ∈ l) ∧ (sortI l).length = l.length := by
  refine ⟨?_, fun x => (List.mergeSort_perm l _).mem_iff, List.length_mergeSort _⟩
  have := List.pairwise_mergeSort (le := fun x y : Int => decide (x ≤ y)) (fun a b c h1 h2 => by simp at *; omega) (fun a b => by simp; omega) l
  exact this.imp fun h => by simpa using h
/-- A child's fact that has begun. -/
def chB (day : Int) (f : GFact) : Bool := (f.Kind == 10) && decide (f.Span.From < day)
def kidsL (l : List GFact) (day : Int) : List Int := ((l.filter curB).filter (chB day)).map GFact.Ref
theorem kids_len (l : List GFact) (day : Int) : (kidsL l day).length ≤ l.length := by
  unfold kidsL
  have h1 := List.length_filter_le curB l
  have h2 := List.length_filter_le (chB day) (l.filter curB)
  simp only [List.length_map]
  omega
theorem kids_cons (f : GFact) (l : List GFact) (day : Int) : kidsL (f :: l) day = if (bif (bif curB f then (f.Kind == 10) else false) then decide (f.Span.From < day) else false) = true then f.Ref :: kidsL l day else kidsL l day := by
  unfold kidsL
  rw [List.filter_cons]
  cases h : curB f with
  | false => simp
  | true =>
    have e : chB day f = (bif (bif true then (f.Kind == 10) else false) then decide (f.Span.From < day) else false) := by
      unfold chB
      cases (f.Kind == 10) <;> rfl
    rw [if_pos rfl, List.filter_cons, e]
    by_cases hc : (bif (bif true then (f.Kind == 10) else false) then decide (f.Span.From < day) else false) = true
    · rw [if_pos hc, if_pos hc]; rfl
    · rw [if_neg hc, if_neg hc]
theorem subL_all (l : List Int) : subL (0 : Int) l 0 l.length = l := by
  have := sub_front (0 : Int) l []
  rwa [List.append_nil] at this
theorem career_Children_eq (l : List GFact) (day : Int) (hn : l.length ≤ 100000) : career_Children l day = some (Lib.compact (sortI (kidsL l day))) := by
  have key : ∀ (n i : Nat) (out : List Int), l.length = i + n → out.length ≤ i → fixL (career_Children_l1 day l) (out, (i : Int)) = some (out ++ kidsL (l.drop i) day) := by
    intro n
    induction n with
    | zero =>
      intro i out h ho
      have : i = l.length := by omega
      subst this
      rw [fixL_eq]
      show (career_Children_p0 day out l ((l.length : Nat) : Int)).bind _ = _
      unfold career_Children_p0
      rw [not_lt_len, cond_false, List.drop_length]
      simp [kidsL]
    | succ n ih =>
      intro i out h ho
      have hi : i < l.length := by omega
      rw [fixL_eq]
      show (career_Children_p0 day out l (i : Int)).bind _ = _
      unfold career_Children_p0
      rw [lt_len hi, cond_true, gd_pos (idx_ok hi), getD_nat l _ i hi, career_current_eq, Option.bind_some, w64_succ (by omega), gd_pos (capI (by omega)), List.drop_eq_getElem_cons hi, kids_cons]
      cases hc : (bif (bif curB l[i] then (l[i].Kind == 10) else false) then decide (l[i].Span.From < day) else false) with
      | true =>
        rw [cond_true, Option.bind_some, if_pos rfl]
        show fixL (career_Children_l1 day l) (out ++ [l[i].Ref], ((i + 1 : Nat) : Int)) = _
        rw [ih (i + 1) _ (by omega) (by simp; omega), List.append_assoc]
        rfl
      | false =>
        rw [cond_false, Option.bind_some, if_neg (by simp)]
        show fixL (career_Children_l1 day l) (out, ((i + 1 : Nat) : Int)) = _
        rw [ih (i + 1) _ (by omega) (by omega)]
  have h1 := key l.length 0 [] (by omega) (by simp)
  rw [show ((0 : Nat) : Int) = 0 from rfl, List.drop_zero, List.nil_append] at h1
  have hs := kids_len l day
  have hl := (sortI_spec (kidsL l day)).2.2
  show (fixL (career_Children_l1 day l) (([] : List Int), (0 : Int))).bind _ = _
  rw [h1, Option.bind_some]
  show career_Children_p1 (kidsL l day) = _
  unfold career_Children_p1 slices_Sort_int_int slices_Compact_int_int
  rw [gd_pos (by omega), Option.bind_some, gd_pos (by omega), ← hl, subL_all, gd_pos (by omega), Option.bind_some]
theorem ref12_Children_eq (l : List GFact) (day : Int) (hn : l.length ≤ 100000) : ∃ r, ref12_Children l day = some r ∧ Asc1 r ∧ (∀ x, x ∈ r ↔ x ∈ kidsL l day) ∧ r.length ≤ 100000 := by
  have hf := List.length_filter_le curB l
  have key : ∀ (c : List GFact), c.length ≤ 100000 → ∀ (n i : Nat) (out : List Int), c.length = i + n → out.length ≤ i → Asc1 out → ∃ r, fixL (ref12_Children_l1 day c) (out, (i : Int)) = some r ∧ Asc1 r ∧ (∀ x, x ∈ r ↔ x ∈ out ∨ x ∈ ((c.drop i).filter (chB day)).map GFact.Ref) ∧ r.length ≤ c.length := by
    intro c hc n
    induction n with
    | zero =>
      intro i out h ho ha
      have : i = c.length := by omega
      subst this
      refine ⟨out, ?_, ha, fun x => by simp, ho⟩
      rw [fixL_eq]
      show (ref12_Children_p0 day c out ((c.length : Nat) : Int)).bind _ = _
      unfold ref12_Children_p0
      rw [not_lt_len, cond_false]
      rfl
    | succ n ih =>
      intro i out h ho ha
      have hi : i < c.length := by omega
      have hstep : ref12_Children_p0 day c out (i : Int) = bif chB day c[i] then (ref1_Ins out c[i].Ref).bind fun r_2 => (some (Sum.inl (r_2, ((i + 1 : Nat) : Int)))) else some (Sum.inl (out, ((i + 1 : Nat) : Int))) := by
        unfold ref12_Children_p0 chB
        rw [lt_len hi, cond_true, gd_pos (idx_ok hi), getD_nat0 c _ i hi, gd_pos (fun _ => (idx_ok hi).1), gd_pos (fun _ => (idx_ok hi).2), w64_succ (by omega), gd_pos (idx_ok hi), cond_and]
      rw [List.drop_eq_getElem_cons hi, List.filter_cons]
      cases hb : chB day c[i] with
      | true =>
        obtain ⟨r2, a1, a2, a3, a4⟩ := ref1_Ins_eq out c[i].Ref (by omega) ha
        rw [hb, cond_true, a1, Option.bind_some] at hstep
        obtain ⟨r, c1, c2, c3, c4⟩ := ih (i + 1) r2 (by omega) (by omega) a2
        refine ⟨r, ?_, c2, fun x => ?_, c4⟩
        · rw [fixL_eq]
          show (ref12_Children_p0 day c out (i : Int)).bind _ = _
          rw [hstep]
          exact c1
        · rw [c3, a3, if_pos rfl, List.map_cons, List.mem_cons, or_assoc]
      | false =>
        rw [hb, cond_false] at hstep
        obtain ⟨r, c1, c2, c3, c4⟩ := ih (i + 1) out (by omega) (by omega) ha
        refine ⟨r, ?_, c2, fun x => ?_, c4⟩
        · rw [fixL_eq]
          show (ref12_Children_p0 day c out (i : Int)).bind _ = _
          rw [hstep]
          exact c1
        · rw [c3, if_neg (by simp)]
  obtain ⟨r, h1, h2, h3, h4⟩ := key (l.filter curB) (by omega) (l.filter curB).length 0 [] (by omega) (by simp) List.Pairwise.nil
  refine ⟨r, ?_, h2, fun x => ?_, by omega⟩
  · show (ref12_Current l).bind _ = _
    rw [ref12_Current_eq l (by omega), Option.bind_some]
    show (fixL (ref12_Children_l1 day (l.filter curB)) (([] : List Int), (0 : Int))).bind _ = _
    rw [show ((0 : Nat) : Int) = 0 from rfl] at h1
    rw [h1, Option.bind_some]
    rfl
  · rw [h3, List.drop_zero]
    simp [kidsL]
theorem children_same (l : List GFact) (day : Int) (hn : l.length ≤ 100000) : ∃ r, career_Children l day = some r ∧ ref12_Children l day = some r ∧ r.length ≤ 100000 := by
  obtain ⟨r, h1, h2, h3, h4⟩ := ref12_Children_eq l day hn
  obtain ⟨s1, s2, _⟩ := sortI_spec (kidsL l day)
  obtain ⟨c1, c2⟩ := compact_spec _ s1
  refine ⟨r, ?_, h1, h4⟩
  rw [career_Children_eq l day hn, ascI_uniq c1 h2 fun x => ?_]
  rw [c2, s2, h3]
theorem ref1_SameInts_refl (a : List Int) (hn : a.length ≤ 1000000) : ref1_SameInts a a = some true := by
  have key : ∀ (n i : Nat), a.length = i + n → fixL (ref1_SameInts_l1 a a) (i : Int) = some (.inr ()) := by
    intro n
    induction n with
    | zero =>
      intro i h
      have : i = a.length := by omega
      subst this
      rw [fixL_eq]
      show (ref1_SameInts_p0 a a ((a.length : Nat) : Int)).bind _ = _
      unfold ref1_SameInts_p0
      rw [not_lt_len, cond_false]
      rfl
    | succ n ih =>
      intro i h
      have hi : i < a.length := by omega
      rw [fixL_eq]
      show (ref1_SameInts_p0 a a (i : Int)).bind _ = _
      unfold ref1_SameInts_p0
      rw [lt_len hi, cond_true, gd_pos (idx_ok hi), gd_pos (idx_ok hi), getD_nat a _ i hi, w64_succ (by omega), show (a[i] != a[i]) = false by simp]
      exact ih (i + 1) (by omega)
  show ref1_SameInts_p3 a a = _
  unfold ref1_SameInts_p3
  have : ((((a.length : Nat) : Int) != ((a.length : Nat) : Int))) = false := by simp
  rw [this, cond_false]
  show (fixL (ref1_SameInts_l1 a a) (0 : Int)).bind _ = _
  have := key a.length 0 (by omega)
  rw [show ((0 : Nat) : Int) = 0 from rfl] at this
  rw [this]
  rfl
end Go.Ax
