import Derived.Test.YtgamnldjlncdlaaGreatZL0
import Derived.Test.YtgamnldjlncdlaaGreatZFs
set_option linter.all false
/- Small facts for the laws of chapter 18. -/
set_option maxRecDepth 100000
namespace Go.Ax
open Go.Proofs
theorem o4 {T:Type} (p s:List T) (x z:T):(p++x :: s).getD p.length z = x:=by
  rw [List.getD_eq_getElem?_getD,List.getElem?_append_right (Nat.le_refl _)]
  simp
theorem WD {T:Type} (z:T) (p s:List T):m4 z (p++s) 0 p.length = p:=by
  rw [MA (by simp)]
  simp
theorem Ye {T:Type} (z:T) (p s:List T):m4 z (p++s) p.length s.length = s:=by
  rw [MA (by simp)]
  simp
theorem rK (n k:Int) (h:k≤4611686018427387903):fu n k = some (if k < 1 then 0 else n % k):=by
  show (rX n k).opt = _
  simp only [rX,oT]
  by_cases hk:k < 1
  · simp [hk]
  · rw [aE (by omega),aE (by omega)]
    simp only [hk,decide_false,cond_false,if_false]
    have h0:0 < k:=by omega
    have a:=Int.emod_nonneg n (show k≠0 by omega)
    have b:=Int.emod_lt_of_pos n h0
    have c:=La n h0
    rw [bu (by omega) (by omega)]
    have d:0≤n.tmod k+k:=by omega
    rw [Int.tmod_eq_emod_of_nonneg d,Int.add_emod_right]
    rcases c with c | ⟨c,_⟩
    · rw [c,Int.emod_emod_of_dvd _ (Int.dvd_refl k)]
    · rw [c,Int.sub_emod,Int.emod_self]
      simp
end Go.Ax
