import Derived.Test.YtklbaihmajbbdaaL24
set_option linter.all false
/- Products of two words, the document's. -/
set_option maxRecDepth 100000
namespace Go.Ax

theorem ref1_times_eq (x y : Nat) (hx : x < 18446744073709551616) (hy : y < 18446744073709551616) : ref1_times x y = some ⟨((x * y / 18446744073709551616 : Nat) : Int), ((x * y % 18446744073709551616 : Nat) : Int)⟩ := by
  show ref1_times_p0 x y = _
  unfold ref1_times_p0
  rw [Mul64_eq x y hx hy]; rfl
theorem ref1_Valid_nat (a b : Nat) (ha : a ≤ 1000000000000000) (hb : b ≤ 1000000000) (h0 : 0 < b) (hg : Nat.gcd a b = 1) : ref1_ValidFraction ⟨a, b⟩ = some true := by
  show ref1_ValidFraction_p0 _ = _
  unfold ref1_ValidFraction_p0
  simp only [cond_and, decide_eq_true (show (1 : Int) ≤ (b : Int) by omega), decide_eq_true (show (b : Int) ≤ 1000000000 by omega), decide_eq_true (show (-1000000000000000 : Int) ≤ (a : Int) by omega), decide_eq_true (show (a : Int) ≤ 1000000000000000 by omega), Bool.and_true]
  rw [ref1_size_nat _ (by omega) (by omega), u64_nat b (by omega), getD_some', ref1_gcd_eq, hg, gd_pos (by intro _; rfl), gd_pos (by intro _; rfl)]
  rfl
end Go.Ax
