import Derived.Test.YtklbaihmajbbdaaLp
set_option linter.all false
/- Amounts that are made of numbers. -/
set_option maxRecDepth 100000
namespace Go.Ax

theorem emod_rng (x : Int) {m : Int} (h : 0 < m) : 0 ≤ x % m ∧ x % m < m := ⟨Int.emod_nonneg _ (by omega), Int.emod_lt_of_pos _ h⟩
def amountL (n : Int) : Int :=
  if n % 8 = 0 then 0 else if n % 8 = 1 then 1000000000000 - w64 (Int.tdiv n 8) % 1000 else if n % 8 = 2 then w64 (Int.tdiv n 8) % 1000000000001 else w64 (Int.tdiv n 8) % 5000
theorem amountL_range (n : Int) : 0 ≤ amountL n ∧ amountL n ≤ 1000000000000 := by
  unfold amountL
  have h1 := emod_rng (w64 (Int.tdiv n 8)) (m := 1000) (by omega)
  have h2 := emod_rng (w64 (Int.tdiv n 8)) (m := 1000000000001) (by omega)
  have h3 := emod_rng (w64 (Int.tdiv n 8)) (m := 5000) (by omega)
  split
  · omega
  split
  · omega
  split
  · omega
  · omega
theorem plain_Amount_eq (n : Int) : plain_Amount n = some (amountL n) := by
  show plain_Amount_p0 n = _
  unfold plain_Amount_p0 amountL
  rw [plain_Mod_eq n 8 (by omega) (by omega), Option.bind_some]
  by_cases h0 : n % 8 = 0
  · rw [if_pos h0, h0]; rfl
  by_cases h1 : n % 8 = 1
  · rw [if_neg h0, if_pos h1, h1, plain_Mod_eq _ 1000 (by omega) (by omega)]
    have h1 := emod_rng (w64 (Int.tdiv n 8)) (m := 1000) (by omega)
    show some (w64 (1000000000000 - w64 (Int.tdiv n 8) % 1000)) = _
    rw [w64_in (by omega) (by omega)]
  by_cases h2 : n % 8 = 2
  · rw [if_neg h0, if_neg h1, if_pos h2, h2, plain_Mod_eq _ 1000000000001 (by omega) (by omega)]
    rfl
  · rw [if_neg h0, if_neg h1, if_neg h2, show (n % 8 == 0) = false from beq_eq_false_iff_ne.2 h0, show (n % 8 == 1) = false from beq_eq_false_iff_ne.2 h1, show (n % 8 == 2) = false from beq_eq_false_iff_ne.2 h2, plain_Mod_eq _ 5000 (by omega) (by omega)]
    rfl
end Go.Ax
