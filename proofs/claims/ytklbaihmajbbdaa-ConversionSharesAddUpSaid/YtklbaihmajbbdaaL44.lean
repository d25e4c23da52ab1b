import Derived.Test.YtklbaihmajbbdaaL43
set_option linter.all false
/- The parts that are rounded down, over one denominator. -/
set_option maxRecDepth 100000
namespace Go.Ax

/-- A fraction in lowest terms gives the same quotient. -/
theorem frac_quot (t n d : Nat) (hd : 0 < d) : t * (n / Nat.gcd n d) / (d / Nat.gcd n d) = t * n / d := by
  have g0 : 0 < Nat.gcd n d := Nat.gcd_pos_of_pos_right _ hd
  obtain ⟨n', hn⟩ := Nat.gcd_dvd_left n d
  obtain ⟨d', hd'⟩ := Nat.gcd_dvd_right n d
  generalize Nat.gcd n d = g at *
  subst hn hd'
  rw [Nat.mul_div_cancel_left _ g0, Nat.mul_div_cancel_left _ g0, show t * (g * n') = g * (t * n') from Nat.mul_left_comm _ _ _, Nat.mul_div_mul_left _ _ g0]
theorem numL_sum : ∀ (l : List GHeir) (b : Int), (∀ x ∈ l, heirB x = true) → (l.map fun h => if h.Kind = 1 then 60 * h.Days else if h.Kind = 2 then 20 * b else 30 * b).sum = 60 * daysL l + b * ptsL l
  | [], b, _ => by simp [daysL, ptsL]
  | x :: l, b, hb => by
    have ih := numL_sum l b fun y hy => hb y (List.mem_cons_of_mem _ hy)
    have hx := (heirB_facts (hb x List.mem_cons_self)).2
    rw [List.map_cons, List.sum_cons, ih]
    simp only [daysL, ptsL, List.map_cons, List.sum_cons, Int.mul_add]
    unfold daysOf ptsOf
    rcases hx with ⟨k, d1, d2⟩ | ⟨k, d1⟩ | ⟨k, d1⟩
    · rw [if_pos k, if_pos k, if_pos k]; omega
    · rw [if_neg (by omega), if_pos k, if_neg (by omega), if_neg (by omega), if_pos k]; omega
    · rw [if_neg (by omega), if_neg (by omega), if_neg (by omega), if_neg (by omega), if_neg (by omega)]; omega
end Go.Ax
