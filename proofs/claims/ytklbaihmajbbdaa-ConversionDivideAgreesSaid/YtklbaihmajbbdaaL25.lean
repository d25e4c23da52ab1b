import Derived.Test.YtklbaihmajbbdaaL24t
set_option linter.all false
/- The document's Scale, rounded down. -/
set_option maxRecDepth 100000
namespace Go.Ax

theorem rounded_unit (q : Nat) (hle : q ≤ 1000000000000) : ref1_rounded_p0 false 1 (q : Int) = some ((q : Int), 0) := by
  unfold ref1_rounded_p0
  rw [gd_pos (by omega), Int.tdiv_one, u64_in (n := (1000000000000 : Int)) (by omega) (by omega), decide_eq_false (show ¬ (1000000000000 : Int) < (q : Int) by omega), cond_false, cond_false, Int.mul_one, u64_nat q (by omega), w64_in (by omega) (by omega)]
theorem rounded_down (p b : Nat) (hp : p < 18446744073709551616) (hb : b ≤ 1000000000) (h0 : 0 < b) (hle : p / b ≤ 1000000000000) : ref1_rounded_p2 false ⟨0, (p : Int)⟩ (b : Int) ⟨1, 1⟩ = some (((p / b : Nat) : Int), 0) := by
  unfold ref1_rounded_p2
  have e0 : IntKind.u64.wrap (1 : Int) = 1 := u64_in (by omega) (by omega)
  simp only [e0, Int.mul_one, u64_nat b (show b < 18446744073709551616 by omega), over_small p b h0 hp, Option.bind_some]
  generalize p / b = q at hle
  rw [bne_self_eq_false, cond_false, decide_eq_false (show ¬ (1000000000000 : Int) < (q : Int) by omega), cond_false]
  unfold ref1_rounded_p1
  rw [beq_self_eq_true, cond_true, cond_false, cond_false]
  exact rounded_unit q hle
theorem ref1_Scale_down (t a b : Nat) (ht : t ≤ 1000000000000) (hta : t * a < 18446744073709551616) (ha : a ≤ 1000000000000000) (hb : b ≤ 1000000000) (h0 : 0 < b) (hg : Nat.gcd a b = 1) (hle : t * a / b ≤ 1000000000000) :
    ref1_Scale t ⟨a, b⟩ ⟨1, 1⟩ = some (((t * a / b : Nat) : Int), 0) := by
  show ref1_Scale_p0 t ⟨a, b⟩ ⟨1, 1⟩ = _
  unfold ref1_Scale_p0
  have e1 : ref1_ValidAmount (t : Int) = some true := by
    show ref1_ValidAmount_p0 (t : Int) = _
    unfold ref1_ValidAmount_p0
    rw [decide_eq_true (show (-1000000000000 : Int) ≤ (t : Int) by omega), decide_eq_true (show (t : Int) ≤ 1000000000000 by omega)]; rfl
  have e2 : ref1_ValidRounding ⟨1, 1⟩ = some true := rfl
  rw [e1, Option.bind_some, ref1_Valid_nat a b ha hb h0 hg, e2, gd_pos (by intro _; rfl), gd_pos (by intro _; rfl)]
  simp only [Bool.not_true, Option.getD_some, cond_false]
  rw [ref1_size_nat _ (by omega) (by omega), Option.bind_some, ref1_size_nat _ (by omega) (by omega), Option.bind_some, ref1_times_eq t a (by omega) (by omega), Option.bind_some, decide_eq_false (by omega), decide_eq_false (by omega), u64_nat b (by omega), Nat.div_eq_of_lt hta, Nat.mod_eq_of_lt hta]
  show (ref1_rounded_p2 false ⟨0, ((t * a : Nat) : Int)⟩ (b : Int) ⟨1, 1⟩).bind _ = _
  rw [rounded_down (t * a) b hta hb h0 hle]
  rfl
end Go.Ax
