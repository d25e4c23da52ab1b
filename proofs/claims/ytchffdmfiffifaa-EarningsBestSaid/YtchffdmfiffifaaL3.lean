import Derived.Test.YtchffdmfiffifaaL2
import Derived.Test.YtchffdmfiffifaaL1e
import Derived.Test.YtchffdmfiffifaaA5
set_option linter.all false
/- The laws of parts. -/
set_option maxRecDepth 100000
namespace Go.Ax
open Go.Proofs

theorem law19_awake_eq : law19_awake = some true := by
  show law19_awake_p0 = _
  unfold law19_awake_p0
  rw [earnings_Part_eq _ _ ⟨by decide, by decide⟩, Option.bind_some]
  have : partB (GFact.mk 0 1 1 false 1 1 0 (GSpan.mk 36159 36524) 0 100 1 36500 0) 100 = 10000 := by decide
  rw [this]
  rfl
theorem made_facts (r : GHand) : validB (makeL r) = true ∧ 0 ≤ (makeL r).Amount ∧ (makeL r).Amount < 3000000 ∧ 0 ≤ (makeL r).Span.From ∧ (makeL r).Span.From < (makeL r).Span.To ∧ (makeL r).Span.To ≤ 73049 := by
  have h := make_valid r
  have a := valid_amount h.1
  exact ⟨h.1, a.1, h.2.2.1, a.2.2⟩


theorem law_EarningsParts (r : GHand) (days : Int) (raw : Bool) (hd : I64 days) : law19_EarningsParts r days raw = some true := by
  show law19_EarningsParts_p1 r days raw = _
  unfold law19_EarningsParts_p1
  rw [hand_Make_eq, Option.bind_some]
  have hf := made_facts r
  generalize makeL r = f at hf
  have core : ∀ d, I64 d → law19_EarningsParts_p0 d f = some true := by
    intro d hd
    unfold law19_EarningsParts_p0
    rw [earnings_Part_eq f d hd, ref16_Part_eq f d hd, law19_awake_eq]
    simp only [Option.bind_some]
    rw [gd_pos (by intro _; rfl)]
    have := partB_range f d hf.2.1
    simp [this.1, this.2]
  cases raw with
  | true => exact core days hd
  | false =>
    simp only [Bool.not_false, cond_true]
    rw [w64_in (n := f.Span.To - f.Span.From) (by omega) (by omega), w64_in (n := f.Span.To - f.Span.From + 3) (by omega) (by omega), made_Pick_eq _ _ (by omega), Option.bind_some]
    refine core _ ?_
    rw [if_neg (by omega)]
    have := hm days (m := f.Span.To - f.Span.From + 3) (by omega)
    rw [w64_in (by omega) (by omega)]
    unfold I64; omega

theorem law_EarningsSplit (r : GHand) (cut : Int) : law19_EarningsSplit r cut = some true := by
  show law19_EarningsSplit_p0 r cut = _
  unfold law19_EarningsSplit_p0
  rw [hand_Make_eq, Option.bind_some]
  have hf := made_facts r
  generalize makeL r = f at hf
  rw [w64_in (n := f.Span.To - f.Span.From) (by omega) (by omega), w64_in (n := f.Span.To - f.Span.From + 1) (by omega) (by omega), made_Pick_eq _ _ (by omega), Option.bind_some, if_neg (by omega)]
  have hk := hm cut (m := f.Span.To - f.Span.From + 1) (by omega)
  generalize cut % (f.Span.To - f.Span.From + 1) = k at hk
  rw [w64_in (n := f.Span.To - f.Span.From - k) (by omega) (by omega)]
  rw [earnings_Part_eq f k ⟨by omega, by omega⟩, earnings_Part_eq f (f.Span.To - f.Span.From - k) ⟨by omega, by omega⟩, earnings_Part_eq f (f.Span.To - f.Span.From) ⟨by omega, by omega⟩, law19_awake_eq]
  simp only [Option.bind_some]
  have r1 := partB_range f k hf.2.1
  have r2 := partB_range f (f.Span.To - f.Span.From - k) hf.2.1
  have r3 := partB_range f (f.Span.To - f.Span.From) hf.2.1
  rw [w64_in (n := partB f k + partB f (f.Span.To - f.Span.From - k)) (by omega) (by omega), w64_in (n := partB f (f.Span.To - f.Span.From) - partB f k) (by omega) (by omega), w64_in (by omega) (by omega)]
  have e1 : partB f (f.Span.To - f.Span.From) = f.Amount := by
    unfold partB
    rw [if_pos ⟨hf.1, by omega, by omega⟩, Int.mul_ediv_cancel _ (by omega)]
  have e2 : partB f k = f.Amount * k / (f.Span.To - f.Span.From) := by
    unfold partB
    rw [if_pos ⟨hf.1, by omega, by omega⟩]
  have e3 : partB f (f.Span.To - f.Span.From - k) = f.Amount * (f.Span.To - f.Span.From - k) / (f.Span.To - f.Span.From) := by
    unfold partB
    rw [if_pos ⟨hf.1, by omega, by omega⟩]
  have n0 : 0 < f.Span.To - f.Span.From := by omega
  have q1 := Int.mul_ediv_add_emod (f.Amount * k) (f.Span.To - f.Span.From)
  have q2 := Int.mul_ediv_add_emod (f.Amount * (f.Span.To - f.Span.From - k)) (f.Span.To - f.Span.From)
  have m1 := hm (f.Amount * k) n0
  have m2 := hm (f.Amount * (f.Span.To - f.Span.From - k)) n0
  rw [← e2] at q1
  rw [← e3] at q2
  have hsum : f.Amount * k + f.Amount * (f.Span.To - f.Span.From - k) = (f.Span.To - f.Span.From) * f.Amount := by
    rw [← Int.mul_add, Int.mul_comm]
    congr 1; omega
  generalize f.Amount * k % (f.Span.To - f.Span.From) = x at q1 m1
  generalize f.Amount * (f.Span.To - f.Span.From - k) % (f.Span.To - f.Span.From) = y at q2 m2
  generalize f.Span.To - f.Span.From = n at *
  generalize partB f k = a at *
  generalize partB f (n - k) = b at *
  have key : n * (f.Amount - a - b) = x + y := by
    rw [Int.mul_sub, Int.mul_sub]; omega
  have l1 : 0 ≤ f.Amount - a - b := by
    by_cases h : f.Amount - a - b ≤ -1
    · have := Int.mul_le_mul_of_nonneg_left h (show (0 : Int) ≤ n by omega)
      omega
    · omega
  have l2 : f.Amount - a - b ≤ 1 := by
    by_cases h : 2 ≤ f.Amount - a - b
    · have := Int.mul_le_mul_of_nonneg_left h (show (0 : Int) ≤ n by omega)
      omega
    · omega
  rw [e1]
  have c1 : decide (a + b ≤ f.Amount) = true := by simp; omega
  have c2 : decide (f.Amount - a - b ≤ 1) = true := by simp; omega
  simp [c1, c2]
end Go.Ax
