import Derived.Test.YtepnedfnpbakeaaL95
import Derived.Test.YtepnedfnpbakeaaL130
set_option linter.all false
/- The days that a state claims with a rank. -/
set_option maxRecDepth 100000
namespace Go.Ax
open Go.Proofs

theorem ref1_SameSpans_refl (a : List GSpan) (hn : a.length ≤ 1000000) : ref1_SameSpans a a = some true := by
  have key : ∀ (n i : Nat), a.length = i + n → fixL (ref1_SameSpans_l1 a a) (i : Int) = some (.inr ()) := by
    intro n
    induction n with
    | zero =>
      intro i h
      have : i = a.length := by omega
      subst this
      rw [fixL_eq]
      show (ref1_SameSpans_p0 a a ((a.length : Nat) : Int)).bind _ = _
      unfold ref1_SameSpans_p0
      rw [not_lt_len, cond_false]
      rfl
    | succ n ih =>
      intro i h
      have hi : i < a.length := by omega
      rw [fixL_eq]
      show (ref1_SameSpans_p0 a a (i : Int)).bind _ = _
      unfold ref1_SameSpans_p0
      rw [lt_len hi, cond_true, gd_pos (idx_ok hi), gd_pos (idx_ok hi), getD_nat a _ i hi, beq_self_eq_true, beq_self_eq_true, w64_succ (by omega)]
      exact ih (i + 1) (by omega)
  show ref1_SameSpans_p3 a a = _
  unfold ref1_SameSpans_p3
  have : ((((a.length : Nat) : Int) != ((a.length : Nat) : Int))) = false := by simp
  rw [this, cond_false]
  show (fixL (ref1_SameSpans_l1 a a) (0 : Int)).bind _ = _
  have := key a.length 0 (by omega)
  rw [show ((0 : Nat) : Int) = 0 from rfl] at this
  rw [this]
  rfl
/-- Is a claim one of a state with a rank? -/
def perB (s r : Int) (x : GPeriod) : Bool := bif x.State == s then (bif r == 0 then true else x.Rank == r) else false
def perOf (l : List GPeriod) (s r : Int) : List GSpan := (l.filter (perB s r)).map fun x => x.Span
theorem perOf_cons (x : GPeriod) (l : List GPeriod) (s r : Int) : perOf (x :: l) s r = bif perB s r x then x.Span :: perOf l s r else perOf l s r := by
  unfold perOf
  rw [List.filter_cons]
  cases perB s r x <;> rfl
theorem perOf_len (l : List GPeriod) (s r : Int) : (perOf l s r).length ≤ l.length := by
  unfold perOf
  rw [List.length_map]
  exact List.length_filter_le _ _
theorem cof_loop (l : List GPeriod) (s r : Int) (hl : l.length ≤ 100000) : ∀ (n i : Nat) (out : List GSpan), l.length = i + n → out.length ≤ i →
    fixL (coverage_Of_l1 s r l) (out, (i : Int)) = some (out ++ perOf (l.drop i) s r) := by
  intro n
  induction n with
  | zero =>
    intro i out h ho
    have : i = l.length := by omega
    subst this
    rw [fixL_eq]
    show (coverage_Of_p0 s r out l ((l.length : Nat) : Int)).bind _ = _
    unfold coverage_Of_p0
    rw [not_lt_len, cond_false, List.drop_length]
    simp [perOf]
  | succ n ih =>
    intro i out h ho
    have hi : i < l.length := by omega
    rw [fixL_eq]
    show (coverage_Of_p0 s r out l (i : Int)).bind _ = _
    unfold coverage_Of_p0
    rw [lt_len hi, cond_true, gd_pos (idx_ok hi), getD_nat l _ i hi, w64_succ (by omega), List.drop_eq_getElem_cons hi, perOf_cons]
    show ((bif perB s r l[i] then _ else _) : Option _).bind _ = _
    cases hs : perB s r l[i] with
    | true =>
      rw [cond_true, gd_pos (capS (by omega)), Option.bind_some, cond_true]
      show fixL (coverage_Of_l1 s r l) (out ++ [l[i].Span], ((i + 1 : Nat) : Int)) = _
      rw [ih (i + 1) _ (by omega) (by simp; omega), List.append_assoc]
      rfl
    | false =>
      rw [cond_false, Option.bind_some, cond_false]
      show fixL (coverage_Of_l1 s r l) (out, ((i + 1 : Nat) : Int)) = _
      rw [ih (i + 1) _ (by omega) (by omega)]
theorem coverage_Of_eq (l : List GPeriod) (s r : Int) (hl : l.length ≤ 100000) : coverage_Of l s r = some (makeS (perOf l s r)) := by
  have := cof_loop l s r hl l.length 0 [] (by omega) (by simp)
  rw [show ((0 : Nat) : Int) = 0 from rfl, List.drop_zero, List.nil_append] at this
  show (fixL (coverage_Of_l1 s r l) (([] : List GSpan), (0 : Int))).bind _ = _
  rw [this, Option.bind_some]
  show (spans_Make (perOf l s r)).bind _ = _
  rw [spans_Make_eq _ (by have := perOf_len l s r; omega)]
  rfl
theorem rpof_loop (l : List GPeriod) (s r : Int) (hl : l.length ≤ 100000) : ∀ (n i : Nat) (out : List GSpan), l.length = i + n → out.length ≤ i →
    fixL (ref16_PeriodsOf_l1 l s r) (out, (i : Int)) = some (out ++ perOf (l.drop i) s r) := by
  intro n
  induction n with
  | zero =>
    intro i out h ho
    have : i = l.length := by omega
    subst this
    rw [fixL_eq]
    show (ref16_PeriodsOf_p0 l s r out ((l.length : Nat) : Int)).bind _ = _
    unfold ref16_PeriodsOf_p0
    rw [not_lt_len, cond_false, List.drop_length]
    simp [perOf]
  | succ n ih =>
    intro i out h ho
    have hi : i < l.length := by omega
    rw [fixL_eq]
    show (ref16_PeriodsOf_p0 l s r out (i : Int)).bind _ = _
    unfold ref16_PeriodsOf_p0
    rw [lt_len hi, cond_true, gd_pos (idx_ok hi), getD_nat l _ i hi, gd_pos (fun _ => (idx_ok hi).1), gd_pos (fun _ => (idx_ok hi).2), w64_succ (by omega), List.drop_eq_getElem_cons hi, perOf_cons]
    show ((bif perB s r l[i] then _ else _) : Option _).bind _ = _
    cases hs : perB s r l[i] with
    | true =>
      rw [cond_true, gd_pos (idx_ok hi), gd_pos (capS (by omega)), Option.bind_some, cond_true]
      show fixL (ref16_PeriodsOf_l1 l s r) (out ++ [l[i].Span], ((i + 1 : Nat) : Int)) = _
      rw [ih (i + 1) _ (by omega) (by simp; omega), List.append_assoc]
      rfl
    | false =>
      rw [cond_false, Option.bind_some, cond_false]
      show fixL (ref16_PeriodsOf_l1 l s r) (out, ((i + 1 : Nat) : Int)) = _
      rw [ih (i + 1) _ (by omega) (by omega)]
theorem ref16_PeriodsOf_eq (l : List GPeriod) (s r : Int) (hl : l.length ≤ 100000) : ref16_PeriodsOf l s r = some (makeS (perOf l s r)) := by
  have := rpof_loop l s r hl l.length 0 [] (by omega) (by simp)
  rw [show ((0 : Nat) : Int) = 0 from rfl, List.drop_zero, List.nil_append] at this
  show (fixL (ref16_PeriodsOf_l1 l s r) (([] : List GSpan), (0 : Int))).bind _ = _
  rw [this, Option.bind_some]
  show (ref1_MakeSpans (perOf l s r)).bind _ = _
  rw [ref1_MakeSpans_eq _ (by have := perOf_len l s r; omega)]
  rfl
theorem capP {n : Nat} (h : n ≤ 2000000) : capB n 32 := ⟨by omega, by omega⟩
/-- The claims are made. -/
theorem sel_loop (raw : List GPeriod) (scale s r : Int) (hl : raw.length ≤ 60) : ∀ (n i : Nat) (c : List GPeriod), raw.length = i + n → c.length ≤ i →
    ∃ c', fixL (law16_CoverageSelects_l1 raw scale s r) (c, (i : Int)) = some c' ∧ c'.length ≤ 60 := by
  intro n
  induction n with
  | zero =>
    intro i c h hc
    have : i = raw.length := by omega
    subst this
    refine ⟨c, ?_, by omega⟩
    rw [fixL_eq]
    show (law16_CoverageSelects_p0 raw scale s r c ((raw.length : Nat) : Int)).bind _ = _
    unfold law16_CoverageSelects_p0
    rw [not_lt_len, cond_false]
    rfl
  | succ n ih =>
    intro i c h hc
    have hi : i < raw.length := by omega
    have step : ∃ x, law16_CoverageSelects_l1 raw scale s r (c, (i : Int)) = some (.inl (c ++ [x], ((i + 1 : Nat) : Int))) := by
      show ∃ x, law16_CoverageSelects_p0 raw scale s r c (i : Int) = _
      unfold law16_CoverageSelects_p0
      rw [lt_len hi, cond_true, gd_pos (idx_ok hi), getD_nat raw _ i hi, w64_succ (by omega)]
      cases ((Int.tmod scale 3) != 0) with
      | true =>
        simp only [cond_true, made_Pick_eq _ 60 (by omega), made_Pick_eq _ 4 (by omega), made_Pick_eq _ 9 (by omega), made_Pick_eq _ 20 (by omega), Option.bind_some]
        rw [gd_pos (capP (by omega))]
        exact ⟨_, rfl⟩
      | false =>
        rw [cond_false, gd_pos (capP (by omega))]
        exact ⟨_, rfl⟩
    obtain ⟨x, hx⟩ := step
    rw [fixL_inl hx]
    exact ih (i + 1) _ (by omega) (by simp; omega)
theorem law_CoverageSelects (raw : List GPeriod) (scale state rank : Int) : law16_CoverageSelects raw scale state rank = some true := by
  show law16_CoverageSelects_p3 raw scale state rank = _
  unfold law16_CoverageSelects_p3
  by_cases h : raw.length ≤ 60
  · rw [show decide (60 < ((raw.length : Nat) : Int)) = false by simp; omega, cond_false]
    obtain ⟨c, h1, h2⟩ := sel_loop raw scale state rank h raw.length 0 [] (by omega) (by simp)
    rw [show ((0 : Nat) : Int) = 0 from rfl] at h1
    show (fixL (law16_CoverageSelects_l1 raw scale state rank) (([] : List GPeriod), (0 : Int))).bind _ = _
    rw [h1, Option.bind_some]
    show law16_CoverageSelects_p1 state rank c = _
    unfold law16_CoverageSelects_p1
    simp only [made_Pick_eq _ 5 (by omega), made_Pick_eq _ 9 (by omega), law16_awake_eq, Option.bind_some, cond_true]
    rw [coverage_Of_eq _ _ _ (by omega), Option.bind_some, ref16_PeriodsOf_eq _ _ _ (by omega), Option.bind_some, ref1_SameSpans_refl]
    · rfl
    · have := (makeS_ok (perOf c (w64 ((if (5 : Int) < 1 then 0 else state % 5) - 1)) (if (9 : Int) < 1 then 0 else rank % 9))).2.2
      have := perOf_len c (w64 ((if (5 : Int) < 1 then 0 else state % 5) - 1)) (if (9 : Int) < 1 then 0 else rank % 9)
      omega
  · rw [show decide (60 < ((raw.length : Nat) : Int)) = true by simp; omega, cond_true]
end Go.Ax
