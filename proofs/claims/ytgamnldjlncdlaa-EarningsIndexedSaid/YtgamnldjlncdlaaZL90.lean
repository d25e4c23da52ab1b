import Derived.Test.YtgamnldjlncdlaaZL0
import Derived.Test.YtgamnldjlncdlaaZFs
set_option linter.all false
/- Small facts for the laws of chapter 18. -/
set_option maxRecDepth 100000
namespace Go.Ax
open Go.Proofs
theorem pU (n k : Int) (h : k ≤ 4611686018427387903) : bb n k = some (if k < 1 then 0 else n % k) := by
  show mf n k = _
  unfold mf
  by_cases hk : k < 1
  · simp [hk]
  · rw [cV (by omega),cV (by omega)]
    simp only [hk,decide_false,cond_false,if_false]
    have h0 : 0 < k := by omega
    have a := Int.emod_nonneg n (show k ≠ 0 by omega)
    have b := Int.emod_lt_of_pos n h0
    have c := DZ n h0
    rw [bQ (by omega) (by omega)]
    have d : 0 ≤ n.tmod k + k := by omega
    rw [Int.tmod_eq_emod_of_nonneg d,Int.add_emod_right]
    rcases c with c | ⟨c,_⟩
    · rw [c,Int.emod_emod_of_dvd _ (Int.dvd_refl k)]
    · rw [c,Int.sub_emod,Int.emod_self]
      simp
end Go.Ax
