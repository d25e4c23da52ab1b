import Derived.Test.YtkijjjdaijjpaaaGreatL0
import Derived.Test.YtkijjjdaijjpaaaGreatFs
set_option linter.all false
/- The remainder of a division that is not negative. -/
set_option maxRecDepth 100000
namespace Go.Ax

theorem plain_Mod_eq (n m : Int) (h : 0 < m) (h' : m ≤ 9223372036854775807) : plain_Mod n m = some (n % m) := by
  show plain_Mod_p0 n m = _
  unfold plain_Mod_p0
  rw [gd_pos (by omega)]
  have h1 := Int.emod_nonneg n (show m ≠ 0 by omega)
  have h2 := Int.emod_lt_of_pos n h
  rcases tmod_cases n h with hc | ⟨hc, hz⟩
  · rw [hc]
    simp [show ¬ n % m < 0 by omega]
  · rw [hc]
    have : n % m - m < 0 := by omega
    simp only [this, decide_true, cond_true]
    rw [w64_in (by omega) (by omega)]
    congr 1; omega
end Go.Ax
