import Derived.Test.YtkcekbabhmdnhaaL98
set_option linter.all false
/- The totalisation of every list; the fraction of every state. -/
set_option maxRecDepth 100000
namespace Go.Ax
open Go.Proofs

theorem totals_p0 (m : Int) (c : List GCounted) (hc : c.length ≤ 100000) : law18_TotalsCompute_p0 m c = some true := by
  unfold law18_TotalsCompute_p0
  rw [law18_awake_eq, Option.bind_some, totals_Compute_eq c m hc, ref16_Compute_eq c m hc, gd_pos (fun _ => Option.isSome_some), gd_pos (fun _ => Option.isSome_some)]
  simp only [Option.getD_some, beq_self_eq_true, Bool.and_true, cond_true]
theorem law_TotalsCompute (l : List GCounted) (raw : Bool) (m : Int) : law18_TotalsCompute l raw m = some true := by
  show law18_TotalsCompute_p1 l raw m = _
  unfold law18_TotalsCompute_p1
  by_cases h : (60 : Int) < ((l.length : Nat) : Int)
  · rw [decide_eq_true h, cond_true]
  · rw [decide_eq_false h, cond_false]
    have hl : l.length ≤ 60 := by omega
    obtain ⟨c, h1, h2⟩ : ∃ c, law18_counted_2 l raw = some c ∧ c.length ≤ 60 := by
      cases raw with
      | true => exact ⟨l, rfl, hl⟩
      | false => exact ⟨_, counted_eq l hl, by rw [countedL_len]; exact hl⟩
    rw [h1, Option.bind_some, made_Pick_eq m 900 (by omega), Option.bind_some]
    have e : ∀ x, law18_TotalsCompute_p0 x c = some true := fun x => totals_p0 x c (by omega)
    rw [e, e]
    cases (Int.tmod m 5 != 0) <;> rfl
theorem frac_same (t : GTotal) (s : Int) : ref16_Fraction t s = totals_Fraction t s := rfl
theorem frac_ok (t : GTotal) (s : Int) : ∃ r, totals_Fraction t s = some r := by
  show ∃ r, totals_Fraction_p0 t s = some r
  unfold totals_Fraction_p0
  cases h : (bif decide (s < (0 : Int)) then true else decide ((6 : Int) ≤ s)) with
  | true => exact ⟨_, rfl⟩
  | false =>
    have hs : (0 : Int) ≤ s ∧ s < ((6 : Nat) : Int) := by
      rw [cond_or, Bool.or_eq_false_iff, decide_eq_false_iff_not, decide_eq_false_iff_not] at h
      omega
    rw [cond_false, gd_pos hs]
    generalize (bif (bif (!(GArr6_Bool.at t.Few (Int.toNat s))) then (decide ((0 : Int) < (GArr6_I64.at t.Own (Int.toNat s)))) else false) then (decide ((0 : Int) < t.Base)) else false) = a
    generalize (bif (bif (t.Base == (0 : Int)) then (decide ((0 : Int) < t.Sum)) else false) then (s == t.Last) else false) = b
    cases a <;> cases b <;> exact ⟨_, rfl⟩
theorem law_TotalsFractions (t : GTotal) (l : List GCounted) (m s : Int) : law18_TotalsFractions t l m s = some true := by
  show law18_TotalsFractions_p1 t l m s = _
  unfold law18_TotalsFractions_p1
  by_cases h : (60 : Int) < ((l.length : Nat) : Int)
  · rw [decide_eq_true h, cond_true]
  · rw [decide_eq_false h, cond_false]
    have hl : l.length ≤ 60 := by omega
    have hp : ∀ x u, law18_TotalsFractions_p0 x t u = some true := by
      intro x u
      unfold law18_TotalsFractions_p0
      obtain ⟨r, hr⟩ := frac_ok t x
      obtain ⟨q, hq⟩ := frac_ok u x
      rw [frac_same, frac_same, hr, hq, Option.bind_some, Option.bind_some, Option.bind_some, Option.bind_some, law18_awake_eq, Option.bind_some]
      simp only [beq_self_eq_true, cond_true]
    rw [counted_eq l hl, Option.bind_some, made_Pick_eq m 900 (by omega), Option.bind_some, ref16_Compute_eq _ _ (by rw [countedL_len]; omega), Option.bind_some, made_Pick_eq s 8 (by omega), Option.bind_some, hp, hp]
    cases (Int.tmod s 5 != 0) <;> rfl
end Go.Ax
