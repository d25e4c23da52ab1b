import Derived.Test.YtefjkielgagknaaGreatL67
set_option linter.all false
/- The law of the days of each kind and state. -/
set_option maxRecDepth 100000
namespace Go.Ax
open Go.Proofs

theorem ref1_SameSpans_refl (a : List GSpan) (hn : a.length ≤ 1000000) : ref1_SameSpans a a = some true := by
  have key : ∀ (n i : Nat), a.length = i + n → fixL (ref1_SameSpans_l1 a a) (i : Int) = some (.inr ()) := by
    intro n
    induction n with
    | zero =>
      intro i h
      have : i = a.length := by omega
      subst this
      rw [fixL_eq]
      show (ref1_SameSpans_p0 a a ((a.length : Nat) : Int)).bind _ = _
      unfold ref1_SameSpans_p0
      rw [not_lt_len, cond_false]
      rfl
    | succ n ih =>
      intro i h
      have hi : i < a.length := by omega
      rw [fixL_eq]
      show (ref1_SameSpans_p0 a a (i : Int)).bind _ = _
      unfold ref1_SameSpans_p0
      rw [lt_len hi, cond_true, gd_pos (idx_ok hi), gd_pos (idx_ok hi), getD_nat a _ i hi, beq_self_eq_true, beq_self_eq_true, w64_succ (by omega)]
      exact ih (i + 1) (by omega)
  show ref1_SameSpans_p3 a a = _
  unfold ref1_SameSpans_p3
  have : ((((a.length : Nat) : Int) != ((a.length : Nat) : Int))) = false := by simp
  rw [this, cond_false]
  show (fixL (ref1_SameSpans_l1 a a) (0 : Int)).bind _ = _
  have := key a.length 0 (by omega)
  rw [show ((0 : Nat) : Int) = 0 from rfl] at this
  rw [this]
  rfl
theorem norm_get : ∀ {l : List GSpan} {lo : Int}, NormL lo l → ∀ (i : Nat) (hi : i < l.length), lo < l[i].From ∧ l[i].From < l[i].To ∧ l[i].To ≤ 73049 ∧ ∀ h : i + 1 < l.length, l[i].To < l[i + 1].From
  | [], _, _, i, hi => by simp at hi
  | s :: r, lo, ⟨h1, h2, h3, h4⟩, 0, hi => ⟨h1, h2, h3, fun h => by
      have := norm_get h4 0 (by simpa using h)
      exact this.1⟩
  | s :: r, lo, ⟨h1, h2, h3, h4⟩, i + 1, hi => by
    have := norm_get h4 i (by simpa using hi)
    refine ⟨?_, this.2.1, this.2.2.1, fun h => this.2.2.2 (by simpa using h)⟩
    have h6 := this.1
    show lo < (r[i]'(by simpa using hi)).From
    omega
theorem ref1_Normal_of {l : List GSpan} (hN : NormL (-1) l) (hn : l.length ≤ 1000000) : ref1_Normal l = some true := by
  have key : ∀ (n i : Nat), l.length = i + n → fixL (ref1_Normal_l1 l) (i : Int) = some (.inr ()) := by
    intro n
    induction n with
    | zero =>
      intro i h
      have : i = l.length := by omega
      subst this
      rw [fixL_eq]
      show (ref1_Normal_p0 l ((l.length : Nat) : Int)).bind _ = _
      unfold ref1_Normal_p0
      rw [not_lt_len, cond_false]
      rfl
    | succ n ih =>
      intro i h
      have hi : i < l.length := by omega
      obtain ⟨g1, g2, g3, _⟩ := norm_get hN i hi
      have c1 : decide (l[i].From < (0 : Int)) = false := decide_eq_false (by omega)
      have c2 : decide (l[i].To ≤ l[i].From) = false := decide_eq_false (by omega)
      have c3 : decide ((73049 : Int) < l[i].To) = false := decide_eq_false (by omega)
      have hstep : ref1_Normal_p0 l (i : Int) = some (.inl ((i + 1 : Nat) : Int)) := by
        unfold ref1_Normal_p0
        rw [lt_len hi, cond_true, gd_pos (idx_ok hi), getD_nat l _ i hi, w64_succ (by omega), gd_pos (fun _ => (idx_ok hi).1), gd_pos (fun _ => (idx_ok hi).2), gd_pos (fun _ => (idx_ok hi).1), gd_pos (fun _ => (idx_ok hi).2), gd_pos (fun _ => (idx_ok hi).1), gd_pos (fun _ => (idx_ok hi).2), c1, c2, c3]
        match i, hi with
        | 0, hi =>
          rw [show decide ((0 : Int) < ((0 : Nat) : Int)) = false from rfl, gd_pos (fun h => by simp at h), gd_pos (fun h => by simp at h), gd_pos (fun h => by simp at h), gd_pos (fun h => by simp at h)]
          rfl
        | j + 1, hi =>
          have hj : j < l.length := by omega
          have e1 : w64 (((j + 1 : Nat) : Int) - 1) = (j : Int) := by rw [w64_in (by omega) (by omega)]; omega
          have h5 := (norm_get hN j hj).2.2.2 hi
          rw [e1, getD_nat l _ j hj, gd_pos (fun _ => (idx_ok hj).1), gd_pos (fun _ => (idx_ok hj).2), gd_pos (fun _ => (idx_ok hi).1), gd_pos (fun _ => (idx_ok hi).2), decide_eq_false (show ¬ l[j + 1].From ≤ l[j].To by omega)]
          cases decide ((0 : Int) < ((j + 1 : Nat) : Int)) <;> rfl
      rw [fixL_eq]
      show (ref1_Normal_p0 l (i : Int)).bind _ = _
      rw [hstep]
      exact ih (i + 1) (by omega)
  show (fixL (ref1_Normal_l1 l) (0 : Int)).bind _ = _
  have := key l.length 0 (by omega)
  rw [show ((0 : Nat) : Int) = 0 from rfl] at this
  rw [this]
  rfl
theorem clipL_len (l : List GSpan) (s : GSpan) (hn : l.length ≤ 100000) : (clipL l s).length ≤ 1000000 := by
  have h1 := (makeS_ok l).2.2
  have h2 : (makeS [s]).length ≤ 1 := (makeS_ok [s]).2.2
  have key : ∀ (a b : List GSpan), (interL a b).length ≤ a.length + b.length := by
    intro a b
    induction a, b using interL.induct with
    | case1 b => rw [interL_nil]; simp
    | case2 s r => rw [interL_nil']; simp
    | case3 s r t u ih1 ih2 =>
      have := one_len s t
      rw [interL_cons, List.length_append]
      split
      · simp only [List.length_cons] at ih1 ⊢; omega
      · simp only [List.length_cons] at ih2 ⊢; omega
  have := key (makeS l) (makeS [s])
  unfold clipL
  omega
/-- Is the fact of the kind and state? -/
def kindStB (kind state : Int) (f : GFact) : Bool := (f.Kind == kind) && (f.State == state)
noncomputable def spansOf (l : List GFact) (kind state : Int) : List GSpan := ((l.filter curB).filter (kindStB kind state)).map GFact.Span
theorem spansOf_len (l : List GFact) (kind state : Int) : (spansOf l kind state).length ≤ l.length := by
  unfold spansOf
  have h1 := List.length_filter_le curB l
  have h2 := List.length_filter_le (kindStB kind state) (l.filter curB)
  simp only [List.length_map]
  omega
theorem spansOf_cons (f : GFact) (l : List GFact) (kind state : Int) : spansOf (f :: l) kind state = if (bif (bif curB f then (f.Kind == kind) else false) then (f.State == state) else false) = true then f.Span :: spansOf l kind state else spansOf l kind state := by
  unfold spansOf
  rw [List.filter_cons]
  cases h : curB f with
  | false => simp
  | true =>
    have e : kindStB kind state f = (bif (bif true then (f.Kind == kind) else false) then (f.State == state) else false) := by
      unfold kindStB
      cases (f.Kind == kind) <;> rfl
    rw [if_pos rfl, List.filter_cons, e]
    by_cases hc : (bif (bif true then (f.Kind == kind) else false) then (f.State == state) else false) = true
    · rw [if_pos hc, if_pos hc]; rfl
    · rw [if_neg hc, if_neg hc]
theorem career_Spans_eq (l : List GFact) (kind state : Int) (hn : l.length ≤ 100000) : career_Spans l kind state = some (clipL (spansOf l kind state) (lifeL l)) := by
  have key : ∀ (n i : Nat) (out : List GSpan), l.length = i + n → out.length ≤ i → fixL (career_Spans_l1 l kind state) (out, (i : Int)) = some (out ++ spansOf (l.drop i) kind state) := by
    intro n
    induction n with
    | zero =>
      intro i out h ho
      have : i = l.length := by omega
      subst this
      rw [fixL_eq]
      show (career_Spans_p0 l kind state out ((l.length : Nat) : Int)).bind _ = _
      unfold career_Spans_p0
      rw [not_lt_len, cond_false, List.drop_length]
      simp [spansOf]
    | succ n ih =>
      intro i out h ho
      have hi : i < l.length := by omega
      rw [fixL_eq]
      show (career_Spans_p0 l kind state out (i : Int)).bind _ = _
      unfold career_Spans_p0
      rw [lt_len hi, cond_true, gd_pos (idx_ok hi), getD_nat l _ i hi, career_current_eq, Option.bind_some, w64_succ (by omega), gd_pos (capS (by omega)), List.drop_eq_getElem_cons hi, spansOf_cons]
      cases hc : (bif (bif curB l[i] then (l[i].Kind == kind) else false) then (l[i].State == state) else false) with
      | true =>
        rw [cond_true, Option.bind_some, if_pos rfl]
        show fixL (career_Spans_l1 l kind state) (out ++ [l[i].Span], ((i + 1 : Nat) : Int)) = _
        rw [ih (i + 1) _ (by omega) (by simp; omega), List.append_assoc]
        rfl
      | false =>
        rw [cond_false, Option.bind_some, if_neg (by simp)]
        show fixL (career_Spans_l1 l kind state) (out, ((i + 1 : Nat) : Int)) = _
        rw [ih (i + 1) _ (by omega) (by omega)]
  have h1 := key l.length 0 [] (by omega) (by simp)
  rw [show ((0 : Nat) : Int) = 0 from rfl, List.drop_zero, List.nil_append] at h1
  have hs := spansOf_len l kind state
  show (fixL (career_Spans_l1 l kind state) (([] : List GSpan), (0 : Int))).bind _ = _
  rw [h1, Option.bind_some]
  show (career_Life l).bind _ = _
  rw [career_Life_eq l (by omega), Option.bind_some, spans_Clip_eq _ _ (by omega)]
  rfl
theorem ref12_Spans_eq (l : List GFact) (kind state : Int) (hn : l.length ≤ 100000) : ref12_Spans l kind state = some (clipL (spansOf l kind state) (lifeL l)) := by
  have hf := List.length_filter_le curB l
  have key : ∀ (c : List GFact), c.length ≤ 100000 → ∀ (n i : Nat) (out : List GSpan), c.length = i + n → out.length ≤ i → fixL (ref12_Spans_l1 l kind state c) (out, (i : Int)) = some (out ++ ((c.drop i).filter (kindStB kind state)).map GFact.Span) := by
    intro c hc n
    induction n with
    | zero =>
      intro i out h ho
      have : i = c.length := by omega
      subst this
      rw [fixL_eq]
      show (ref12_Spans_p0 l kind state c out ((c.length : Nat) : Int)).bind _ = _
      unfold ref12_Spans_p0
      rw [not_lt_len, cond_false, List.drop_length]
      simp
    | succ n ih =>
      intro i out h ho
      have hi : i < c.length := by omega
      rw [fixL_eq]
      show (ref12_Spans_p0 l kind state c out (i : Int)).bind _ = _
      unfold ref12_Spans_p0
      rw [lt_len hi, cond_true, gd_pos (idx_ok hi), getD_nat0 c _ i hi, gd_pos (fun _ => (idx_ok hi).1), gd_pos (fun _ => (idx_ok hi).2), w64_succ (by omega), gd_pos (idx_ok hi), gd_pos (capS (by omega)), List.drop_eq_getElem_cons hi, List.filter_cons]
      unfold kindStB at ih ⊢
      rw [cond_and]
      cases hc : ((c[i].Kind == kind) && (c[i].State == state)) with
      | true =>
        rw [cond_true, Option.bind_some, if_pos rfl]
        show fixL (ref12_Spans_l1 l kind state c) (out ++ [c[i].Span], ((i + 1 : Nat) : Int)) = _
        rw [ih (i + 1) _ (by omega) (by simp; omega), List.append_assoc]
        rfl
      | false =>
        rw [cond_false, Option.bind_some, if_neg (by simp)]
        show fixL (ref12_Spans_l1 l kind state c) (out, ((i + 1 : Nat) : Int)) = _
        rw [ih (i + 1) _ (by omega) (by omega)]
  have hs := spansOf_len l kind state
  show (ref12_Current l).bind _ = _
  rw [ref12_Current_eq l (by omega), Option.bind_some]
  have h1 := key (l.filter curB) (by omega) (l.filter curB).length 0 [] (by omega) (by simp)
  rw [show ((0 : Nat) : Int) = 0 from rfl, List.drop_zero, List.nil_append] at h1
  show (fixL (ref12_Spans_l1 l kind state (l.filter curB)) (([] : List GSpan), (0 : Int))).bind _ = _
  rw [h1, Option.bind_some]
  show (ref12_Life l).bind _ = _
  rw [ref12_Life_eq l (by omega), Option.bind_some]
  show (ref1_Clip (spansOf l kind state) (lifeL l)).bind _ = _
  rw [ref1_Clip_eq _ _ (by omega)]
  rfl
theorem law_CareerSpans (l : List GHand) (n : List Int) (kind state : Int) (hn : n.length ≤ 9223372036854775807) : law13_CareerSpans l n kind state = some true := by
  obtain ⟨a, ha, h1⟩ := law13_alone_some l n hn
  show law13_CareerSpans_p0 l n kind state = _
  unfold law13_CareerSpans_p0
  rw [ha, Option.bind_some, made_Pick_eq _ 16 (by omega), Option.bind_some, made_Pick_eq _ 4 (by omega), Option.bind_some]
  generalize (if (16 : Int) < 1 then 0 else kind % 16) = k
  generalize (if (4 : Int) < 1 then 0 else state % 4) = s
  have hs := spansOf_len a k s
  have hc := clipL_len (spansOf a k s) (lifeL a) (by omega)
  rw [career_Spans_eq a k s (by omega), Option.bind_some, law13_awake_eq, Option.bind_some, cond_true, ref12_Spans_eq a k s (by omega), Option.bind_some, ref1_SameSpans_refl _ hc, Option.bind_some, cond_true, ref1_Normal_of (clipL_ok _ _).1 hc]
  rfl
end Go.Ax
