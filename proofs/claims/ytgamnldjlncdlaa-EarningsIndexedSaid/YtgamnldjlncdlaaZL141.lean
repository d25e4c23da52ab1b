import Derived.Test.YtgamnldjlncdlaaZL102
set_option linter.all false
/- Products of two words; valid fractions of naturals. -/
set_option maxRecDepth 100000
namespace Go.Ax
theorem EH (k : Nat) : Int.fdiv (k : Int) (2 ^ min (Int.toNat (32 : Int)) 64) = ((k / 4294967296 : Nat) : Int) := by
  rw [show ((2 : Int) ^ min (Int.toNat (32 : Int)) 64) = 4294967296 from rfl,Int.fdiv_eq_ediv_of_nonneg _ (by omega)]; omega
theorem Bq (k : Nat) (h : k < 18446744073709551616) : IntKind.u64.wrap (BitVec.ofInt 64 (k : Int) &&& BitVec.ofInt 64 (4294967295 : Int)).toNat = ((k % 4294967296 : Nat) : Int) := by
  have e : (BitVec.ofInt 64 (k : Int) &&& BitVec.ofInt 64 (4294967295 : Int)).toNat = k % 4294967296 := by
    rw [show BitVec.ofInt 64 (4294967295 : Int) = BitVec.ofNat 64 (2 ^ 32 - 1) from rfl,BitVec.ofInt_natCast,BitVec.toNat_and,BitVec.toNat_ofNat,BitVec.toNat_ofNat,Nat.mod_eq_of_lt (a := k) (by omega),show (2 ^ 32 - 1) % 2 ^ 64 = 2 ^ 32 - 1 from rfl,Nat.and_two_pow_sub_one_eq_mod]
  rw [e,cx _ (by omega)]
theorem sM {a b : Nat} (ha : a < 4294967296) (hb : b < 4294967296) : a * b ≤ 18446744065119617025 := Nat.le_trans (Nat.mul_le_mul (show a ≤ 4294967295 by omega) (show b ≤ 4294967295 by omega)) (by decide)
theorem E5 (x y : Nat) : x * y = (x / 4294967296 * (y / 4294967296)) * 18446744073709551616 + (x / 4294967296 * (y % 4294967296) + x % 4294967296 * (y / 4294967296)) * 4294967296 + x % 4294967296 * (y % 4294967296) := by
  have hx : x = x / 4294967296 * 4294967296 + x % 4294967296 := by omega
  have hy : y = y / 4294967296 * 4294967296 + y % 4294967296 := by omega
  generalize x / 4294967296 = a at hx ⊢
  generalize x % 4294967296 = b at hx ⊢
  generalize y / 4294967296 = c at hy ⊢
  generalize y % 4294967296 = d at hy ⊢
  subst hx hy
  have : ∀ a b c d : Nat,(a * 4294967296 + b) * (c * 4294967296 + d) = a * c * (4294967296 * 4294967296) + (a * d + b * c) * 4294967296 + b * d := by
    intro a b c d
    simp only [Nat.add_mul,Nat.mul_add]
    have e1 : a * 4294967296 * (c * 4294967296) = a * c * (4294967296 * 4294967296) := Nat.mul_mul_mul_comm _ _ _ _
    have e2 : a * 4294967296 * d = a * d * 4294967296 := Nat.mul_right_comm _ _ _
    have e3 : b * (c * 4294967296) = b * c * 4294967296 := (Nat.mul_assoc _ _ _).symm
    rw [e1,e2,e3]
    omega
  rw [this]
theorem xj (x y : Nat) (hx : x < 18446744073709551616) (hy : y < 18446744073709551616) : dO x y = some (((x * y / 18446744073709551616 : Nat) : Int),((x * y % 18446744073709551616 : Nat) : Int)) := by
  show gH x y = _
  unfold gH
  have b0 : x / 4294967296 < 4294967296 := by omega
  have b1 : y / 4294967296 < 4294967296 := by omega
  have b2 : x % 4294967296 < 4294967296 := by omega
  have b3 : y % 4294967296 < 4294967296 := by omega
  have hs := E5 x y
  simp only [EH,Bq x hx,Bq y hy]
  generalize x / 4294967296 = x1 at *
  generalize x % 4294967296 = x0 at *
  generalize y / 4294967296 = y1 at *
  generalize y % 4294967296 = y0 at *
  have c0 := sM b0 b1
  have c1 := sM b0 b3
  have c2 := sM b2 b1
  have c3 := sM b2 b3
  simp only [← Int.natCast_mul]
  have ew : IntKind.u64.wrap ((x * y : Nat) : Int) = ((x * y % 18446744073709551616 : Nat) : Int) := by rw [IntKind.wrap_u64]; omega
  rw [ew]
  generalize x * y = p at *
  generalize x1 * y1 = A at *
  generalize x1 * y0 = B at *
  generalize x0 * y1 = C at *
  generalize x0 * y0 = D at *
  rw [cx A (by omega),cx B (by omega),cx C (by omega),cx D (by omega),EH, ← Int.natCast_add,cx (B + D / 4294967296) (by omega),Bq _ (by omega),EH, ← Int.natCast_add,cx _ (by omega), ← Int.natCast_add,cx _ (by omega),EH, ← Int.natCast_add,cx _ (by omega)]
  congr 2
  omega
theorem tU (x y : Nat) (hx : x < 18446744073709551616) (hy : y < 18446744073709551616) : gM x y = some ⟨((x * y / 18446744073709551616 : Nat) : Int),((x * y % 18446744073709551616 : Nat) : Int)⟩ := by
  show kV x y = _
  unfold kV
  rw [xj x y hx hy]; rfl
theorem rx (a b : Nat) (ha : a ≤ 1000000000000000) (hb : b ≤ 1000000000) (h0 : 0 < b) (hg : Nat.gcd a b = 1) : cd ⟨a,b⟩ = some true := by
  show em _ = _
  unfold em
  simp only [Hz,decide_eq_true (show (1 : Int) ≤ (b : Int) by omega),decide_eq_true (show (b : Int) ≤ 1000000000 by omega),decide_eq_true (show (-1000000000000000 : Int) ≤ (a : Int) by omega),decide_eq_true (show (a : Int) ≤ 1000000000000000 by omega),Bool.and_true]
  rw [i9 _ (by omega) (by omega),cx b (by omega),mq,nf,hg,cV (by intro _; rfl),cV (by intro _; rfl)]
  rfl
end Go.Ax
