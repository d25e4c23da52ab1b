import Derived.Test.YtgamnldjlncdlaaZA5
set_option linter.all false
/- Loops over lists, and small facts. -/
set_option maxRecDepth 100000
namespace Go.Ax
theorem su (c b : Bool) : (bif c then true else b) = (c || b) := by cases c <;> rfl
theorem Hz (c b : Bool) : (bif c then b else false) = (c && b) := by cases c <;> rfl
theorem bQ {n : Int} (h : -9223372036854775808 ≤ n) (h' : n ≤ 9223372036854775807) : ak n = n := by
  first
    | exact IntWalk.i64_in h h'
    | exact IntWalk.i64_in (by omega) (by omega)
theorem DZ (a : Int) {m : Int} (h : 0 < m) : a.tmod m = a % m ∨ (a.tmod m = a % m - m ∧ a % m ≠ 0) := by
  rw [Int.tmod_eq_emod]
  split
  · left; omega
  · next hn =>
    right
    refine ⟨by omega,fun e => hn (.inr (Int.dvd_of_emod_eq_zero e))⟩
theorem mq {α : Type} (a d : α) : (some a).getD d = a := rfl
theorem Hs {i : Nat} (h : i < 9223372036854775807) : ak ((i : Int) + 1) = ((i + 1 : Nat) : Int) := by rw [bQ (by omega) (by omega)]; omega
theorem OV {i n : Nat} (h : i < n) : decide ((i : Int) < (n : Int)) = true := by simp; omega
theorem DR (n : Nat) : decide ((n : Int) < (n : Int)) = false := by simp
theorem NO {i n : Nat} (h : i < n) : (0 : Int) ≤ (i : Int) ∧ (i : Int) < (n : Int) := by omega
theorem fK {n b : Nat} (h : n * b ≤ 140737488355328) (h' : n ≤ 140737488355328) : jF n b := ⟨h,h'⟩
end Go.Ax
