import Derived.Test.YtchffdmfiffifaaL1
set_option linter.all false
/- The part of a fact's amount. -/
set_option maxRecDepth 100000
namespace Go.Ax
open Go.Proofs

def partB (f : GFact) (d : Int) : Int := if validB f = true ∧ 0 ≤ d ∧ d ≤ f.Span.To - f.Span.From then f.Amount * d / (f.Span.To - f.Span.From) else 0
theorem part_core (f : GFact) (d : Int) (hd : -9223372036854775808 ≤ d ∧ d ≤ 9223372036854775807) : ((bif (bif (bif (!validB f) then true else (decide (d < (0 : Int)))) then true else (decide ((w64 (f.Span.To - f.Span.From)) < d))) then (some (0 : Int)) else gd ((w64 (f.Span.To - f.Span.From)) ≠ (0 : Int)) ((some (w64 (Int.tdiv (w64 (f.Amount * d)) (w64 (f.Span.To - f.Span.From)))))))) = some (partB f d) := by
  unfold partB
  cases hv : validB f with
  | false => simp
  | true =>
    have hb := valid_amount hv
    rw [w64_in (by omega) (by omega)]
    simp only [Bool.not_true, cond_or, Bool.false_or]
    by_cases h0 : d < 0
    · rw [if_neg (by omega)]; simp [h0]
    by_cases h1 : f.Span.To - f.Span.From < d
    · rw [if_neg (by omega)]; simp [h1]
    have e0 : decide (d < 0) = false := by simpa using h0
    have e1 : decide (f.Span.To - f.Span.From < d) = false := by simpa using h1
    rw [e0, e1, if_pos ⟨trivial, by omega, by omega⟩]
    simp only [Bool.or_false, cond_false]
    rw [gd_pos (by omega)]
    have hm : 0 ≤ f.Amount * d := Int.mul_nonneg hb.1 (by omega)
    have hm2 : f.Amount * d ≤ 1000000000 * 73049 := Int.mul_le_mul hb.2.1 (by omega) (by omega) (by omega)
    rw [w64_in (n := f.Amount * d) (by omega) (by omega), Int.tdiv_eq_ediv_of_nonneg hm]
    have hq0 : 0 ≤ f.Amount * d / (f.Span.To - f.Span.From) := Int.ediv_nonneg hm (by omega)
    have hq1 : f.Amount * d / (f.Span.To - f.Span.From) ≤ f.Amount * d := Int.ediv_le_self _ hm
    rw [w64_in (by omega) (by omega)]
theorem earnings_Part_eq (f : GFact) (d : Int) (hd : -9223372036854775808 ≤ d ∧ d ≤ 9223372036854775807) : earnings_Part f d = some (partB f d) := by
  show earnings_Part_p0 f d = _
  unfold earnings_Part_p0
  rw [fact_Valid_eq, Option.bind_some]
  exact part_core f d hd
theorem ref16_Part_eq (f : GFact) (d : Int) (hd : -9223372036854775808 ≤ d ∧ d ≤ 9223372036854775807) : ref16_Part f d = some (partB f d) := by
  show ref16_Part_p0 f d = _
  unfold ref16_Part_p0
  rw [ref12_Valid_eq, Option.bind_some]
  exact part_core f d hd
theorem partB_range (f : GFact) (d : Int) (h : 0 ≤ f.Amount) : 0 ≤ partB f d ∧ partB f d ≤ f.Amount := by
  unfold partB
  split
  · next hc =>
    have hb := valid_amount hc.1
    have hm : 0 ≤ f.Amount * d := Int.mul_nonneg h hc.2.1
    refine ⟨Int.ediv_nonneg hm (by omega), ?_⟩
    have : f.Amount * d ≤ f.Amount * (f.Span.To - f.Span.From) := Int.mul_le_mul_of_nonneg_left hc.2.2 h
    exact Int.ediv_le_of_le_mul (by omega) this
  · omega
end Go.Ax
