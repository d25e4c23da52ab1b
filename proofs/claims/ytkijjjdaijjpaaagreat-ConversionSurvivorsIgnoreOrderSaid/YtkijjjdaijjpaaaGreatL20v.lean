import Derived.Test.YtkijjjdaijjpaaaGreatL0
import Derived.Test.YtkijjjdaijjpaaaGreatFs
set_option linter.all false
/- Fractions of naturals: sizes, common divisors, lowest terms. -/
set_option maxRecDepth 100000
namespace Go.Ax

theorem u64_in {n : Int} (h : 0 ≤ n) (h' : n < 18446744073709551616) : IntKind.u64.wrap n = n := by rw [IntKind.wrap_u64]; omega
theorem u64_nat (k : Nat) (h : k < 18446744073709551616) : IntKind.u64.wrap (k : Int) = k := u64_in (Int.natCast_nonneg k) (by omega)
theorem rational_size_nat (n : Int) (h : 0 ≤ n) (h' : n ≤ 9223372036854775807) : rational_size n = some n := by
  show rational_size_p0 n = _
  unfold rational_size_p0
  rw [decide_eq_false (by omega), cond_false, u64_in h (by omega)]
theorem gcd_loop {f : Int × Int → Option ((Int × Int) ⊕ Int)} (hf : ∀ a b, f (a, b) = (bif (b != (0 : Int)) then gd (b ≠ (0 : Int)) (some (Sum.inl (b, Int.tmod a b))) else some (Sum.inr a))) : ∀ (k a b : Nat), b ≤ k → fixL f ((a : Int), (b : Int)) = some (Nat.gcd a b : Int)
  | 0, a, b, h => by
    have : b = 0 := by omega
    subst this
    rw [fixL_eq, hf]
    simp
  | k + 1, a, b, h => by
    rw [fixL_eq, hf]
    by_cases hb : b = 0
    · subst hb; simp
    · have e : ((b : Int) != 0) = true := by simp; omega
      rw [e, cond_true, gd_pos (by omega)]
      show fixL f ((b : Int), Int.tmod (a : Int) (b : Int)) = _
      have : Int.tmod (a : Int) (b : Int) = ((a % b : Nat) : Int) := by
        rw [Int.tmod_eq_emod_of_nonneg (by omega)]; omega
      rw [this, gcd_loop hf k b (a % b) (by have := Nat.mod_lt a (show b > 0 by omega); omega)]
      rw [Nat.gcd_comm b, ← Nat.gcd_rec, Nat.gcd_comm]
theorem rational_gcd_eq (a b : Nat) : rational_gcd a b = some (Nat.gcd a b : Int) := by
  show (fixL (rational_gcd_l1 a b) ((a : Int), (b : Int))).bind (rational_gcd_p2_g a b) = _
  rw [gcd_loop (f := rational_gcd_l1 a b) (fun _ _ => rfl) b a b (Nat.le_refl _)]
  rfl
/-- A fraction of naturals in lowest terms, or ErrRange. -/
def fracN (n d : Nat) : GFraction × Int :=
  if 1000000000000000 < n / Nat.gcd n d ∨ 1000000000 < d / Nat.gcd n d then (⟨0, 0⟩, 2) else (⟨((n / Nat.gcd n d : Nat) : Int), ((d / Nat.gcd n d : Nat) : Int)⟩, 0)
theorem tdivN (a b : Nat) : Int.tdiv (a : Int) (b : Int) = ((a / b : Nat) : Int) := by
  rw [Int.tdiv_eq_ediv_of_nonneg (by omega)]; omega
theorem tmodN (a b : Nat) : Int.tmod (a : Int) (b : Int) = ((a % b : Nat) : Int) := by
  rw [Int.tmod_eq_emod_of_nonneg (by omega)]; omega
theorem rational_Make_nat (n d : Nat) (hn : n ≤ 9223372036854775807) (hd : d ≤ 9223372036854775807) (h0 : 0 < d) : rational_Make n d = some (fracN n d) := by
  show rational_Make_p0 n d = _
  unfold rational_Make_p0
  have e0 : ((d : Int) == 0) = false := by simp; omega
  have g0 : 0 < Nat.gcd n d := Nat.gcd_pos_of_pos_right _ h0
  have q1 : n / Nat.gcd n d ≤ n := Nat.div_le_self _ _
  have q2 : d / Nat.gcd n d ≤ d := Nat.div_le_self _ _
  rw [e0, cond_false, rational_size_nat _ (by omega) (by omega), Option.bind_some, rational_size_nat _ (by omega) (by omega), Option.bind_some, rational_gcd_eq, Option.bind_some, gd_pos (by omega), gd_pos (by omega), tdivN, tdivN, u64_nat _ (by omega), u64_nat _ (by omega), decide_eq_false (show ¬ (n : Int) < 0 by omega), decide_eq_false (show ¬ (d : Int) < 0 by omega)]
  show (rational_within_p0 false ⟨0, ((n / Nat.gcd n d : Nat) : Int)⟩ ⟨0, ((d / Nat.gcd n d : Nat) : Int)⟩).bind _ = _
  unfold rational_within_p0 fracN
  generalize n / Nat.gcd n d = a at q1 ⊢
  generalize d / Nat.gcd n d = b at q2 ⊢
  simp only [cond_or, bne_self_eq_false, Bool.false_or, cond_false]
  by_cases h : 1000000000000000 < a ∨ 1000000000 < b
  · have : (decide ((1000000000000000 : Int) < (a : Int)) || false || decide ((1000000000 : Int) < (b : Int))) = true := by simp; omega
    rw [if_pos h]
    simp only [Bool.or_false] at this ⊢
    rw [this]; rfl
  · have : (decide ((1000000000000000 : Int) < (a : Int)) || false || decide ((1000000000 : Int) < (b : Int))) = false := by simp; omega
    rw [if_neg h]
    simp only [Bool.or_false] at this ⊢
    rw [this, w64_in (by omega) (by omega), w64_in (by omega) (by omega)]; rfl
theorem fracN_facts (n d : Nat) (hd : 0 < d) (h1 : n ≤ 1000000000000000) (h2 : d ≤ 1000000000) : fracN n d = (⟨((n / Nat.gcd n d : Nat) : Int), ((d / Nat.gcd n d : Nat) : Int)⟩, 0) ∧ n / Nat.gcd n d ≤ n ∧ d / Nat.gcd n d ≤ d ∧ 0 < d / Nat.gcd n d ∧ Nat.gcd (n / Nat.gcd n d) (d / Nat.gcd n d) = 1 := by
  have g0 : 0 < Nat.gcd n d := Nat.gcd_pos_of_pos_right _ hd
  have q1 : n / Nat.gcd n d ≤ n := Nat.div_le_self _ _
  have q2 : d / Nat.gcd n d ≤ d := Nat.div_le_self _ _
  refine ⟨?_, q1, q2, Nat.div_pos (Nat.le_of_dvd hd (Nat.gcd_dvd_right n d)) g0, Nat.coprime_div_gcd_div_gcd g0⟩
  unfold fracN
  rw [if_neg (by omega)]
end Go.Ax
