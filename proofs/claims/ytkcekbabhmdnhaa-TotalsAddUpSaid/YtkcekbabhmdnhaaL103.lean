import Derived.Test.YtkcekbabhmdnhaaL102
set_option linter.all false
/- Products of two words; sums of fractions of naturals. -/
set_option maxRecDepth 100000
namespace Go.Ax

theorem sh32 (k : Nat) : Int.fdiv (k : Int) (2 ^ min (Int.toNat (32 : Int)) 64) = ((k / 4294967296 : Nat) : Int) := by
  rw [show ((2 : Int) ^ min (Int.toNat (32 : Int)) 64) = 4294967296 from rfl, Int.fdiv_eq_ediv_of_nonneg _ (by omega)]; omega
theorem mask32 (k : Nat) (h : k < 18446744073709551616) : IntKind.u64.wrap (BitVec.ofInt 64 (k : Int) &&& BitVec.ofInt 64 (4294967295 : Int)).toNat = ((k % 4294967296 : Nat) : Int) := by
  have e : (BitVec.ofInt 64 (k : Int) &&& BitVec.ofInt 64 (4294967295 : Int)).toNat = k % 4294967296 := by
    rw [show BitVec.ofInt 64 (4294967295 : Int) = BitVec.ofNat 64 (2 ^ 32 - 1) from rfl, BitVec.ofInt_natCast, BitVec.toNat_and, BitVec.toNat_ofNat, BitVec.toNat_ofNat, Nat.mod_eq_of_lt (a := k) (by omega), show (2 ^ 32 - 1) % 2 ^ 64 = 2 ^ 32 - 1 from rfl, Nat.and_two_pow_sub_one_eq_mod]
  rw [e, u64_nat _ (by omega)]
theorem mul_lt32 {a b : Nat} (ha : a < 4294967296) (hb : b < 4294967296) : a * b ≤ 18446744065119617025 := Nat.le_trans (Nat.mul_le_mul (show a ≤ 4294967295 by omega) (show b ≤ 4294967295 by omega)) (by decide)
theorem mul_split (x y : Nat) : x * y = (x / 4294967296 * (y / 4294967296)) * 18446744073709551616 + (x / 4294967296 * (y % 4294967296) + x % 4294967296 * (y / 4294967296)) * 4294967296 + x % 4294967296 * (y % 4294967296) := by
  have hx : x = x / 4294967296 * 4294967296 + x % 4294967296 := by omega
  have hy : y = y / 4294967296 * 4294967296 + y % 4294967296 := by omega
  generalize x / 4294967296 = a at hx ⊢
  generalize x % 4294967296 = b at hx ⊢
  generalize y / 4294967296 = c at hy ⊢
  generalize y % 4294967296 = d at hy ⊢
  subst hx hy
  have : ∀ a b c d : Nat, (a * 4294967296 + b) * (c * 4294967296 + d) = a * c * (4294967296 * 4294967296) + (a * d + b * c) * 4294967296 + b * d := by
    intro a b c d
    simp only [Nat.add_mul, Nat.mul_add]
    have e1 : a * 4294967296 * (c * 4294967296) = a * c * (4294967296 * 4294967296) := Nat.mul_mul_mul_comm _ _ _ _
    have e2 : a * 4294967296 * d = a * d * 4294967296 := Nat.mul_right_comm _ _ _
    have e3 : b * (c * 4294967296) = b * c * 4294967296 := (Nat.mul_assoc _ _ _).symm
    rw [e1, e2, e3]
    omega
  rw [this]
theorem Mul64_eq (x y : Nat) (hx : x < 18446744073709551616) (hy : y < 18446744073709551616) : math_bits_Mul64 x y = some (((x * y / 18446744073709551616 : Nat) : Int), ((x * y % 18446744073709551616 : Nat) : Int)) := by
  show math_bits_Mul64_p0 x y = _
  unfold math_bits_Mul64_p0
  have b0 : x / 4294967296 < 4294967296 := by omega
  have b1 : y / 4294967296 < 4294967296 := by omega
  have b2 : x % 4294967296 < 4294967296 := by omega
  have b3 : y % 4294967296 < 4294967296 := by omega
  have hs := mul_split x y
  simp only [sh32, mask32 x hx, mask32 y hy]
  generalize x / 4294967296 = x1 at *
  generalize x % 4294967296 = x0 at *
  generalize y / 4294967296 = y1 at *
  generalize y % 4294967296 = y0 at *
  have c0 := mul_lt32 b0 b1
  have c1 := mul_lt32 b0 b3
  have c2 := mul_lt32 b2 b1
  have c3 := mul_lt32 b2 b3
  simp only [← Int.natCast_mul]
  have ew : IntKind.u64.wrap ((x * y : Nat) : Int) = ((x * y % 18446744073709551616 : Nat) : Int) := by rw [IntKind.wrap_u64]; omega
  rw [ew]
  generalize x * y = p at *
  generalize x1 * y1 = A at *
  generalize x1 * y0 = B at *
  generalize x0 * y1 = C at *
  generalize x0 * y0 = D at *
  rw [u64_nat A (by omega), u64_nat B (by omega), u64_nat C (by omega), u64_nat D (by omega), sh32, ← Int.natCast_add, u64_nat (B + D / 4294967296) (by omega), mask32 _ (by omega), sh32, ← Int.natCast_add, u64_nat _ (by omega), ← Int.natCast_add, u64_nat _ (by omega), sh32, ← Int.natCast_add, u64_nat _ (by omega)]
  congr 2
  omega

theorem ref1_times_eq (x y : Nat) (hx : x < 18446744073709551616) (hy : y < 18446744073709551616) : ref1_times x y = some ⟨((x * y / 18446744073709551616 : Nat) : Int), ((x * y % 18446744073709551616 : Nat) : Int)⟩ := by
  show ref1_times_p0 x y = _
  unfold ref1_times_p0
  rw [Mul64_eq x y hx hy]; rfl
theorem ref1_Valid_nat (a b : Nat) (ha : a ≤ 1000000000000000) (hb : b ≤ 1000000000) (h0 : 0 < b) (hg : Nat.gcd a b = 1) : ref1_ValidFraction ⟨a, b⟩ = some true := by
  show ref1_ValidFraction_p0 _ = _
  unfold ref1_ValidFraction_p0
  simp only [cond_and, decide_eq_true (show (1 : Int) ≤ (b : Int) by omega), decide_eq_true (show (b : Int) ≤ 1000000000 by omega), decide_eq_true (show (-1000000000000000 : Int) ≤ (a : Int) by omega), decide_eq_true (show (a : Int) ≤ 1000000000000000 by omega), Bool.and_true]
  rw [ref1_size_nat _ (by omega) (by omega), u64_nat b (by omega), getD_some', ref1_gcd_eq, hg, gd_pos (by intro _; rfl), gd_pos (by intro _; rfl)]
  rfl

theorem fracN_scale (k n d : Nat) (hk : 0 < k) : fracN (k * n) (k * d) = fracN n d := by
  unfold fracN
  rw [Nat.gcd_mul_left, Nat.mul_div_mul_left _ _ hk, Nat.mul_div_mul_left _ _ hk]
theorem fracN_ratio {n d m e : Nat} (hd : 0 < d) (he : 0 < e) (h : n * e = m * d) : fracN n d = fracN m e := by
  rw [← fracN_scale e n d he, ← fracN_scale d m e hd, Nat.mul_comm e n, h, Nat.mul_comm d m, Nat.mul_comm e d]
theorem ref1_Add_nat (a b c d : Nat) (hb : b ≤ 1000000000) (hd : d ≤ 1000000000) (hab : a ≤ b) (hcd : c ≤ d) (hb0 : 0 < b) (hd0 : 0 < d) (h1 : Nat.gcd a b = 1) (h2 : Nat.gcd c d = 1) : ref1_AddFractions ⟨a, b⟩ ⟨c, d⟩ = some (fracN (a * d + c * b) (b * d)) := by
  show ref1_AddFractions_p0 ⟨a, b⟩ ⟨c, d⟩ = _
  unfold ref1_AddFractions_p0
  have p1 : a * d ≤ 1000000000 * 1000000000 := Nat.mul_le_mul (by omega) hd
  have p2 : c * b ≤ 1000000000 * 1000000000 := Nat.mul_le_mul (by omega) hb
  have p3 : b * d ≤ 1000000000 * 1000000000 := Nat.mul_le_mul hb hd
  have p0 : 0 < b * d := Nat.mul_pos hb0 hd0
  have hplus : ref1_wide_plus ⟨((0 : Nat) : Int), ((a * d : Nat) : Int)⟩ ⟨((0 : Nat) : Int), ((c * b : Nat) : Int)⟩ = some ⟨0, ((a * d + c * b : Nat) : Int)⟩ := by
    show ref1_wide_plus_p0 _ _ = _
    unfold ref1_wide_plus_p0 math_bits_Add64
    generalize a * d = x at *
    generalize c * b = y at *
    rw [gd_pos (show (0 : Int) ≤ (x : Int) ∧ (0 : Int) ≤ (y : Int) ∧ (0 : Int) ≤ 0 ∧ (0 : Int) ≤ 1 by omega), Option.bind_some]
    show some (GPensionref1_wide.mk (IntKind.u64.wrap ((IntKind.u64.wrap (((0 : Nat) : Int) + ((0 : Nat) : Int))) + ((x : Int) + (y : Int) + 0) / 18446744073709551616)) (((x : Int) + (y : Int) + 0) % 18446744073709551616)) = _
    have e1 : ((x : Int) + (y : Int) + 0) / 18446744073709551616 = 0 := by omega
    have e2 : ((x : Int) + (y : Int) + 0) % 18446744073709551616 = ((x + y : Nat) : Int) := by omega
    rw [e1, e2, u64_in (n := ((0 : Nat) : Int) + ((0 : Nat) : Int)) (by omega) (by omega), u64_in (by omega) (by omega)]
    rfl
  rw [ref1_Valid_nat a b (by omega) hb hb0 h1, ref1_Valid_nat c d (by omega) hd hd0 h2, Option.bind_some, gd_pos (by intro _; rfl)]
  rw [Option.getD_some, Bool.not_true, cond_false, cond_false, ref1_size_nat (a : Int) (by omega) (by omega), Option.bind_some, u64_nat d (by omega), ref1_times_eq a d (by omega) (by omega), Option.bind_some, ref1_size_nat (c : Int) (by omega) (by omega), Option.bind_some, u64_nat b (by omega), ref1_times_eq c b (by omega) (by omega), Option.bind_some, decide_eq_false (show ¬ (a : Int) < 0 by omega), decide_eq_false (show ¬ (c : Int) < 0 by omega), beq_self_eq_true, cond_true,
    Nat.div_eq_of_lt (show a * d < 18446744073709551616 by omega), Nat.mod_eq_of_lt (show a * d < 18446744073709551616 by omega), Nat.div_eq_of_lt (show c * b < 18446744073709551616 by omega), Nat.mod_eq_of_lt (show c * b < 18446744073709551616 by omega), hplus, Option.bind_some, ← Int.natCast_mul, u64_nat (b * d) (by omega), ref1_lowest_nat _ _ (by omega) (by omega) p0, Option.bind_some]
end Go.Ax
