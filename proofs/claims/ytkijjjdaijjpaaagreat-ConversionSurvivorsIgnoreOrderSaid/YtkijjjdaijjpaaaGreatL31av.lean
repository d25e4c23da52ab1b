import Derived.Test.YtkijjjdaijjpaaaGreatLp
set_option linter.all false
/- Amounts that are made of numbers. -/
set_option maxRecDepth 100000
namespace Go.Ax

theorem emod_rng (x : Int) {m : Int} (h : 0 < m) : 0 ≤ x % m ∧ x % m < m := ⟨Int.emod_nonneg _ (by omega), Int.emod_lt_of_pos _ h⟩
def amountL (n : Int) : Int :=
  if n % 8 = 0 then 0 else if n % 8 = 1 then 1000000000000 - w64 (Int.tdiv n 8) % 1000 else if n % 8 = 2 then w64 (Int.tdiv n 8) % 1000000000001 else w64 (Int.tdiv n 8) % 5000
theorem amountL_range (n : Int) : 0 ≤ amountL n ∧ amountL n ≤ 1000000000000 := by
  unfold amountL
  have h1 := emod_rng (w64 (Int.tdiv n 8)) (m := 1000) (by omega)
  have h2 := emod_rng (w64 (Int.tdiv n 8)) (m := 1000000000001) (by omega)
  have h3 := emod_rng (w64 (Int.tdiv n 8)) (m := 5000) (by omega)
  split
  · omega
  split
  · omega
  split
  · omega
  · omega
end Go.Ax
