import Derived.Test.YtkijjjdaijjpaaaGreatL35v
set_option linter.all false
/- Dividing: the list of remainders. -/
set_option maxRecDepth 100000
namespace Go.Ax

def smallR (x : GConversion_remainder) : Prop := (0 ≤ x.num ∧ x.num ≤ 1000000000) ∧ (0 ≤ x.den ∧ x.den ≤ 1000000000)
theorem prod_rng {a b : Int} (ha : 0 ≤ a ∧ a ≤ 1000000000) (hb : 0 ≤ b ∧ b ≤ 1000000000) : 0 ≤ a * b ∧ a * b ≤ 1000000000000000000 := by
  refine ⟨Int.mul_nonneg ha.1 hb.1, ?_⟩
  have := Int.mul_le_mul ha.2 hb.2 hb.1 (by omega)
  omega
def insAtR (l : List GConversion_remainder) (r : GConversion_remainder) : Nat → Nat
  | 0 => 0
  | k + 1 => if (l.getD k zGConversion_remainder).num * r.den < r.num * (l.getD k zGConversion_remainder).den then insAtR l r k else k + 1
theorem insAtR_le (l : List GConversion_remainder) (r : GConversion_remainder) : ∀ k, insAtR l r k ≤ k
  | 0 => Nat.le_refl _
  | k + 1 => by
    have := insAtR_le l r k
    unfold insAtR
    split <;> omega
def insR (r : GConversion_remainder) (l : List GConversion_remainder) : List GConversion_remainder := l.take (insAtR l r l.length) ++ [r] ++ l.drop (insAtR l r l.length)
theorem insR_length (r : GConversion_remainder) (l : List GConversion_remainder) : (insR r l).length = l.length + 1 := by
  have := insAtR_le l r l.length
  unfold insR
  simp
  omega
theorem insR_mem (r y : GConversion_remainder) (l : List GConversion_remainder) (h : y ∈ insR r l) : y = r ∨ y ∈ l := by
  unfold insR at h
  rw [List.mem_append, List.mem_append, List.mem_singleton] at h
  rcases h with (h | h) | h
  · exact .inr (List.mem_of_mem_take h)
  · exact .inl h
  · exact .inr (List.mem_of_mem_drop h)
theorem insert_loop (l : List GConversion_remainder) (r : GConversion_remainder) (hl : l.length ≤ 1000) (hs : ∀ x ∈ l, smallR x) (hr : smallR r) : ∀ k, k ≤ l.length → fixL (conversion_insert_l1 l r) (k : Int) = some ((insAtR l r k : Nat) : Int)
  | 0, _ => by
    rw [fixL_eq]
    show (conversion_insert_p0 l ((0 : Nat) : Int) r).bind _ = _
    unfold conversion_insert_p0
    rw [gd_pos (by intro h; simp at h), gd_pos (by intro h; simp at h), gd_pos (by intro h; simp at h), gd_pos (by intro h; simp at h)]
    rfl
  | k + 1, hk => by
    rw [fixL_eq]
    show (conversion_insert_p0 l ((k + 1 : Nat) : Int) r).bind _ = _
    unfold conversion_insert_p0
    have e1 : w64 (((k + 1 : Nat) : Int) - 1) = (k : Int) := by rw [w64_in (by omega) (by omega)]; omega
    have hx : smallR (l.getD k zGConversion_remainder) := by
      rw [List.getD_eq_getElem?_getD, List.getElem?_eq_getElem (show k < l.length by omega)]
      exact hs _ (List.getElem_mem _)
    have p1 := prod_rng hx.1 hr.2
    have p2 := prod_rng hr.1 hx.2
    rw [e1, gd_pos (fun _ => by omega), gd_pos (fun _ => by omega), gd_pos (fun _ => by omega), gd_pos (fun _ => by omega), decide_eq_true (show (0 : Int) < ((k + 1 : Nat) : Int) by omega), cond_true, Nat.zero_add, Int.toNat_natCast, w64_in (n := (l.getD k zGConversion_remainder).num * r.den) (by omega) (by omega), w64_in (n := r.num * (l.getD k zGConversion_remainder).den) (by omega) (by omega)]
    unfold insAtR
    by_cases h : (l.getD k zGConversion_remainder).num * r.den < r.num * (l.getD k zGConversion_remainder).den
    · rw [decide_eq_true h, cond_true, if_pos h]
      exact insert_loop l r hl hs hr k (by omega)
    · rw [decide_eq_false h, cond_false, if_neg h]
      rfl
theorem conversion_insert_eq (l : List GConversion_remainder) (r : GConversion_remainder) (hl : l.length ≤ 1000) (hs : ∀ x ∈ l, smallR x) (hr : smallR r) : conversion_insert l r = some (insR r l) := by
  show (fixL (conversion_insert_l1 l r) ((l.length : Nat) : Int)).bind _ = _
  rw [insert_loop l r hl hs hr l.length (Nat.le_refl _), Option.bind_some]
  have := insAtR_le l r l.length
  show conversion_insert_p1 l ((insAtR l r l.length : Nat) : Int) r = _
  unfold conversion_insert_p1 slices_Insert_conversion_remainder_conversion_remainder insR
  rw [gd_pos ⟨by omega, by omega, capB_ok (by simp; omega) (by simp; omega)⟩, Int.toNat_natCast]
  rfl
end Go.Ax
