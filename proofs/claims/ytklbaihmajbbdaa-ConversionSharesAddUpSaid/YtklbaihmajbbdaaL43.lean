import Derived.Test.YtklbaihmajbbdaaL40
set_option linter.all false
/- Sums of parts. -/
set_option maxRecDepth 100000
namespace Go.Ax

def sumA (l : List GPart) : Int := (l.map (·.Amount)).sum
theorem sumA_set : ∀ (l : List GPart) (k : Nat) (p : GPart) (h : k < l.length), sumA (l.set k p) = sumA l - l[k].Amount + p.Amount
  | [], k, p, h => by simp at h
  | x :: l, 0, p, h => by
    simp only [sumA, List.set_cons_zero, List.map_cons, List.sum_cons, List.getElem_cons_zero]
    omega
  | x :: l, k + 1, p, h => by
    have := sumA_set l k p (by simpa using h)
    simp only [sumA, List.set_cons_succ, List.map_cons, List.sum_cons, List.getElem_cons_succ] at this ⊢
    omega
theorem bump_sum (out : List GPart) (k : Nat) (h : k < out.length) : sumA (bump out k) = sumA out + 1 := by
  unfold bump
  rw [sumA_set out k _ h, List.getD_eq_getElem?_getD, List.getElem?_eq_getElem h]
  show sumA out - out[k].Amount + (out[k].Amount + 1) = _
  omega
theorem giveL_sum : ∀ (cut : List GConversion_remainder) (m : Int) (out : List GPart), (∀ x ∈ cut, 0 ≤ x.at_ ∧ x.at_ < (out.length : Int)) →
    sumA (giveL cut m out) = sumA out + min (max m 0) (cut.length : Int) ∧ (giveL cut m out).length = out.length
  | [], m, out, _ => by
    refine ⟨?_, rfl⟩
    show sumA out = sumA out + min (max m 0) ((0 : Nat) : Int)
    omega
  | x :: cut, m, out, h => by
    have hx := h x List.mem_cons_self
    have ht := fun y hy => h y (List.mem_cons_of_mem _ hy)
    obtain ⟨k, hk⟩ : ∃ k : Nat, x.at_ = (k : Int) := ⟨x.at_.toNat, by omega⟩
    rw [hk] at hx
    by_cases hm : 0 < m
    · have e : giveL (x :: cut) m out = giveL cut (m - 1) (bump out k) := by
        show runE giveG (·.2) cut (if 0 < m then (m - 1, bump out x.at_.toNat) else (m, out)) = _
        rw [if_pos hm, hk, Int.toNat_natCast]
        rfl
      obtain ⟨a, b⟩ := giveL_sum cut (m - 1) (bump out k) (fun y hy => by rw [bump_length]; exact ht y hy)
      rw [e, a, b, bump_sum out k (by omega), bump_length, List.length_cons]
      refine ⟨?_, rfl⟩
      omega
    · have e : giveL (x :: cut) m out = giveL cut m out := by
        show runE giveG (·.2) cut (if 0 < m then (m - 1, bump out x.at_.toNat) else (m, out)) = _
        rw [if_neg hm]
        rfl
      obtain ⟨a, b⟩ := giveL_sum cut m out ht
      rw [e, a, b, List.length_cons]
      refine ⟨?_, rfl⟩
      omega
end Go.Ax
