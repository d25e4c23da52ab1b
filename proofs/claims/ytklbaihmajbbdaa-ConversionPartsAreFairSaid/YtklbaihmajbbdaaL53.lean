import Derived.Test.YtklbaihmajbbdaaL24
set_option linter.all false
/- Scale of money, rounded down or up. -/
set_option maxRecDepth 100000
namespace Go.Ax

theorem rational_Valid_nat (a b : Nat) (ha : a ≤ 1000000000000000) (hb : b ≤ 1000000000) (h0 : 0 < b) (hg : Nat.gcd a b = 1) : rational_Valid ⟨a, b⟩ = some true := by
  show rational_Valid_p0 _ = _
  unfold rational_Valid_p0
  simp only [cond_and, decide_eq_true (show (1 : Int) ≤ (b : Int) by omega), decide_eq_true (show (b : Int) ≤ 1000000000 by omega), decide_eq_true (show (-1000000000000000 : Int) ≤ (a : Int) by omega), decide_eq_true (show (a : Int) ≤ 1000000000000000 by omega), Bool.and_true]
  rw [rational_size_nat _ (by omega) (by omega), rational_size_nat _ (by omega) (by omega), getD_some', getD_some', rational_gcd_eq, hg, gd_pos (by intro _; rfl), gd_pos (by intro _; rfl), gd_pos (by intro _; rfl)]
  rfl
theorem money_unit (m : Int) (q : Nat) (hle : q ≤ 1000000000000) : money_divide_p0 (q : Int) ⟨m, 1⟩ = some ((q : Int), 0) := by
  unfold money_divide_p0
  show gd ((1 : Int) ≠ 0) (gd (_ → (1 : Int) ≠ 0) (bif (bif (decide ((w64 (Int.tdiv 1000000000000 1)) < (q : Int))) then true else (decide ((q : Int) < (w64 (Int.tdiv (-1000000000000) 1))))) then _ else some (w64 ((q : Int) * 1), 0))) = _
  rw [gd_pos (by omega), gd_pos (fun _ => by omega), Int.tdiv_one, Int.tdiv_one, w64_in (n := (1000000000000 : Int)) (by omega) (by omega), w64_in (n := (-1000000000000 : Int)) (by omega) (by omega), decide_eq_false (show ¬ (1000000000000 : Int) < (q : Int) by omega), decide_eq_false (show ¬ (q : Int) < -1000000000000 by omega), cond_false, cond_false, Int.mul_one, w64_in (by omega) (by omega)]
theorem divide_small (m : Int) (p b : Nat) (hm : m = 1 ∨ m = 2) (hp : p < 18446744073709551616) (hb : b ≤ 1000000000) (h0 : 0 < b) (hq : p / b ≤ 1000000000000) (hq2 : 0 < p % b → p / b < 1000000000000) :
    money_divide_p3 false (0 : Int) (p : Int) (b : Int) ⟨m, 1⟩ = some (((p / b + (if m = 2 ∧ 0 < p % b then 1 else 0) : Nat) : Int), 0) := by
  unfold money_divide_p3
  have e3 : IntKind.u64.wrap ((b : Int) * (IntKind.u64.wrap (1 : Int))) = (b : Int) := by
    rw [u64_in (n := (1 : Int)) (by omega) (by omega), Int.mul_one, u64_nat b (by omega)]
  simp only [e3, Div64_small p b h0 hp, Option.bind_some]
  generalize p / b = q at *
  generalize p % b = r at *
  rw [decide_eq_false (show ¬ (b : Int) ≤ 0 by omega), cond_false, decide_eq_false (show ¬ (2000000000000 : Int) < (q : Int) by omega), cond_false, cond_false, w64_in (n := (q : Int)) (by omega) (by omega)]
  unfold money_divide_p2 money_divide_p1
  rcases hm with rfl | rfl
  · rw [if_neg (by omega), Nat.add_zero]
    simp only [show ((1 : Int) == 2) = false from rfl, show ((1 : Int) == 3) = false from rfl, show ((1 : Int) == 4) = false from rfl, cond_false]
    exact money_unit 1 q (by omega)
  · simp only [show ((2 : Int) == 2) = true from rfl, cond_true]
    by_cases hr : 0 < r
    · have := hq2 hr
      rw [decide_eq_true (show (0 : Int) < (r : Int) by omega), cond_true, if_pos ⟨trivial, hr⟩, w64_succ (by omega)]
      exact money_unit 2 (q + 1) (by omega)
    · rw [decide_eq_false (show ¬ (0 : Int) < (r : Int) by omega), cond_false, if_neg (by omega), Nat.add_zero]
      exact money_unit 2 q (by omega)
theorem money_scale (m : Int) (t a b : Nat) (hm : m = 1 ∨ m = 2) (ht : t ≤ 1000000000000) (hta : t * a < 18446744073709551616) (ha : a ≤ 1000000000000000) (hb : b ≤ 1000000000) (h0 : 0 < b) (hg : Nat.gcd a b = 1) (hab : a ≤ b) :
    money_Scale t ⟨a, b⟩ ⟨m, 1⟩ = some ((((t * a / b + (if m = 2 ∧ 0 < t * a % b then 1 else 0) : Nat)) : Int), 0) := by
  show money_Scale_p0 t ⟨a, b⟩ ⟨m, 1⟩ = _
  unfold money_Scale_p0
  have e1 : money_amount (t : Int) = some true := by
    show money_amount_p0 (t : Int) = _
    unfold money_amount_p0
    rw [decide_eq_true (show (-1000000000000 : Int) ≤ (t : Int) by omega), decide_eq_true (show (t : Int) ≤ 1000000000000 by omega)]; rfl
  have e2 : money_ValidRounding ⟨m, 1⟩ = some true := by
    rcases hm with rfl | rfl <;> rfl
  have sz : ∀ n : Nat, n ≤ 9223372036854775807 → money_size (n : Int) = some (n : Int) := by
    intro n hn
    show money_size_p0 (n : Int) = _
    unfold money_size_p0
    rw [decide_eq_false (by omega), cond_false, u64_nat n (by omega)]
  have hle : t * a ≤ t * b := Nat.mul_le_mul_left _ hab
  have hq : t * a / b ≤ t := Nat.div_le_of_le_mul (by rw [Nat.mul_comm b]; exact hle)
  have hq2 : 0 < t * a % b → t * a / b < t := by
    intro hr
    refine Nat.div_lt_of_lt_mul ?_
    rw [Nat.mul_comm b]
    rcases Nat.lt_or_ge (t * a) (t * b) with h | h
    · exact h
    · have : t * a = t * b := by omega
      rw [this, Nat.mul_mod_left] at hr
      omega
  have hdiv := divide_small m (t * a) b hm hta hb h0 (by omega) (fun h => by have := hq2 h; omega)
  have hdiv' : money_divide false (0 : Int) ((t * a : Nat) : Int) (b : Int) ⟨m, 1⟩ = _ := hdiv
  rw [e1, Option.bind_some, rational_Valid_nat a b ha hb h0 hg, e2, gd_pos (by intro _; rfl), gd_pos (by intro _; rfl)]
  rw [Option.getD_some, Bool.not_true, cond_false, cond_false, cond_false]
  rw [sz t (by omega), Option.bind_some, sz a (by omega), Option.bind_some, Mul64_eq t a (by omega) (by omega), Option.bind_some, decide_eq_false (show ¬ (t : Int) < 0 by omega), decide_eq_false (show ¬ (a : Int) < 0 by omega), u64_nat b (by omega), Nat.div_eq_of_lt hta, Nat.mod_eq_of_lt hta, beq_self_eq_true, Bool.not_true, Int.natCast_zero, hdiv', Option.bind_some]
end Go.Ax
