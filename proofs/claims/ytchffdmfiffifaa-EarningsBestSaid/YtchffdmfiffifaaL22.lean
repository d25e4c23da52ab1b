import Derived.Test.YtchffdmfiffifaaL21
set_option linter.all false
/- The average of the best years. -/
set_option maxRecDepth 100000
namespace Go.Ax
open Go.Proofs

/-! ### Insertion into a descending list -/
def insAt (l : List Int) (x : Int) : Nat → Nat
  | 0 => 0
  | k + 1 => if l.getD k 0 < x then insAt l x k else k + 1
theorem insAt_spec (l : List Int) (x : Int) : ∀ k, insAt l x k ≤ k ∧ (∀ j, insAt l x k ≤ j → j < k → l.getD j 0 < x) ∧ (0 < insAt l x k → ¬ l.getD (insAt l x k - 1) 0 < x)
  | 0 => ⟨Nat.le_refl _, fun j h1 h2 => by omega, fun h => by simp [insAt] at h⟩
  | k + 1 => by
    have ih := insAt_spec l x k
    unfold insAt
    split
    · next h =>
      refine ⟨by omega, fun j h1 h2 => ?_, ih.2.2⟩
      by_cases hj : j = k
      · rw [hj]; exact h
      · exact ih.2.1 j h1 (by omega)
    · next h => exact ⟨Nat.le_refl _, fun j h1 h2 => by omega, fun _ => by simpa using h⟩
def ins (x : Int) (l : List Int) : List Int := l.take (insAt l x l.length) ++ [x] ++ l.drop (insAt l x l.length)
def Desc (l : List Int) : Prop := l.Pairwise (fun a b => b ≤ a)
theorem Desc_get {l : List Int} (h : Desc l) {i j : Nat} (hij : i ≤ j) (hj : j < l.length) : l.getD j 0 ≤ l.getD i 0 := by
  rw [List.getD_eq_getElem?_getD, List.getD_eq_getElem?_getD, List.getElem?_eq_getElem hj, List.getElem?_eq_getElem (show i < l.length by omega)]
  show l[j] ≤ l[i]
  by_cases h' : i = j
  · subst h'; omega
  · exact List.pairwise_iff_getElem.1 h i j (by omega) hj (by omega)
theorem ins_desc (x : Int) (l : List Int) (h : Desc l) : Desc (ins x l) := by
  have hs := insAt_spec l x l.length
  unfold ins
  generalize insAt l x l.length = k at hs
  have hlow : ∀ y ∈ l.drop k, y < x := by
    intro y hy
    obtain ⟨j, hj, rfl⟩ := List.mem_iff_getElem.1 hy
    rw [List.length_drop] at hj
    have := hs.2.1 (k + j) (by omega) (by omega)
    rw [List.getD_eq_getElem?_getD, List.getElem?_eq_getElem (show k + j < l.length by omega)] at this
    rw [List.getElem_drop]; exact this
  have hup : ∀ y ∈ l.take k, x ≤ y := by
    intro y hy
    obtain ⟨j, hj, rfl⟩ := List.mem_iff_getElem.1 hy
    rw [List.length_take] at hj
    have h1 := hs.2.2 (by omega)
    have h2 := Desc_get h (i := j) (j := k - 1) (by omega) (by omega)
    rw [List.getD_eq_getElem?_getD (i := j), List.getElem?_eq_getElem (show j < l.length by omega)] at h2
    rw [List.getElem_take]
    have h3 : l.getD (k - 1) 0 ≤ l[j] := h2
    omega
  unfold Desc
  rw [List.append_assoc, List.pairwise_append]
  refine ⟨List.Pairwise.sublist (List.take_sublist k l) h, ?_, ?_⟩
  · rw [List.singleton_append, List.pairwise_cons]
    exact ⟨fun y hy => by have := hlow y hy; omega, List.Pairwise.sublist (List.drop_sublist k l) h⟩
  · intro a ha b hb
    rw [List.singleton_append, List.mem_cons] at hb
    have h1 := hup a ha
    rcases hb with rfl | hb
    · exact h1
    · have := hlow b hb; omega
theorem ins_sum (x : Int) (l : List Int) : (ins x l).sum = l.sum + x := by
  unfold ins
  generalize insAt l x l.length = k
  have : l.sum = (l.take k).sum + (l.drop k).sum := by
    rw [← List.sum_append, List.take_append_drop]
  rw [List.sum_append, List.sum_append, List.sum_cons, List.sum_nil]
  omega
theorem ins_length (x : Int) (l : List Int) : (ins x l).length = l.length + 1 := by
  have := (insAt_spec l x l.length).1
  unfold ins
  simp
  omega
theorem ins_mem (x y : Int) (l : List Int) (h : y ∈ ins x l) : y = x ∨ y ∈ l := by
  unfold ins at h
  rw [List.mem_append, List.mem_append, List.mem_singleton] at h
  rcases h with (h | h) | h
  · exact .inr (List.mem_of_mem_take h)
  · exact .inl h
  · exact .inr (List.mem_of_mem_drop h)
def insAll (l : List Int) : List Int := l.foldl (fun a x => ins x a) []
theorem insAll_facts (l : List Int) : Desc (insAll l) ∧ (insAll l).sum = l.sum ∧ (insAll l).length = l.length ∧ (∀ y ∈ insAll l, y ∈ l) := by
  have : ∀ (l a : List Int), Desc a → Desc (l.foldl (fun a x => ins x a) a) ∧ (l.foldl (fun a x => ins x a) a).sum = a.sum + l.sum ∧ (l.foldl (fun a x => ins x a) a).length = a.length + l.length ∧ (∀ y ∈ l.foldl (fun a x => ins x a) a, y ∈ a ∨ y ∈ l) := by
    intro l
    induction l with
    | nil => intro a h; exact ⟨h, by simp, by simp, fun y hy => .inl hy⟩
    | cons x l ih =>
      intro a h
      obtain ⟨h1, h2, h3, h4⟩ := ih (ins x a) (ins_desc x a h)
      rw [List.foldl_cons]
      refine ⟨h1, by rw [h2, ins_sum, List.sum_cons]; omega, by rw [h3, ins_length, List.length_cons]; omega, fun y hy => ?_⟩
      rcases h4 y hy with h | h
      · rcases ins_mem x y a h with rfl | h
        · exact .inr List.mem_cons_self
        · exact .inl h
      · exact .inr (List.mem_cons_of_mem _ h)
  obtain ⟨h1, h2, h3, h4⟩ := this l [] List.Pairwise.nil
  refine ⟨h1, by simpa [insAll] using h2, by simpa [insAll] using h3, fun y hy => ?_⟩
  rcases h4 y hy with h | h
  · simp at h
  · exact h
theorem sum_ge (v : Int) : ∀ (l : List Int), (∀ y ∈ l, v ≤ y) → v * l.length ≤ l.sum
  | [], _ => by simp
  | x :: l, h => by
    have := sum_ge v l (fun y hy => h y (List.mem_cons_of_mem _ hy))
    have hx := h x List.mem_cons_self
    rw [List.length_cons, List.sum_cons, Int.natCast_add, Int.mul_add]
    omega
theorem sum_le (v : Int) : ∀ (l : List Int), (∀ y ∈ l, y ≤ v) → l.sum ≤ v * l.length
  | [], _ => by simp
  | x :: l, h => by
    have := sum_le v l (fun y hy => h y (List.mem_cons_of_mem _ hy))
    have hx := h x List.mem_cons_self
    rw [List.length_cons, List.sum_cons, Int.natCast_add, Int.mul_add]
    omega
/-- The best ones' average is at least the average of all. -/
theorem best_avg (l : List Int) (h : Desc l) (n : Nat) (h0 : 0 < n) (hn : n ≤ l.length) : l.sum * n ≤ (l.take n).sum * l.length := by
  have hv := fun (i j : Nat) => Desc_get h (i := i) (j := j)
  have e : l.sum = (l.take n).sum + (l.drop n).sum := by rw [← List.sum_append, List.take_append_drop]
  have h1 : l.getD (n - 1) 0 * (l.take n).length ≤ (l.take n).sum := by
    refine sum_ge _ _ fun y hy => ?_
    obtain ⟨j, hj, rfl⟩ := List.mem_iff_getElem.1 hy
    rw [List.length_take] at hj
    have h2 := hv j (n - 1) (by omega) (by omega)
    rw [List.getD_eq_getElem?_getD (i := j), List.getElem?_eq_getElem (show j < l.length by omega)] at h2
    rw [List.getElem_take]; exact h2
  have h2 : (l.drop n).sum ≤ l.getD (n - 1) 0 * (l.drop n).length := by
    refine sum_le _ _ fun y hy => ?_
    obtain ⟨j, hj, rfl⟩ := List.mem_iff_getElem.1 hy
    rw [List.length_drop] at hj
    have h2 := hv (n - 1) (n + j) (by omega) (by omega)
    rw [List.getD_eq_getElem?_getD (i := n + j), List.getElem?_eq_getElem (show n + j < l.length by omega)] at h2
    rw [List.getElem_drop]; exact h2
  rw [List.length_take, show min n l.length = n by omega] at h1
  rw [List.length_drop] at h2
  rw [e]
  generalize l.getD (n - 1) 0 = v at h1 h2
  generalize (l.take n).sum = t at h1 ⊢
  generalize (l.drop n).sum = d at h2 ⊢
  obtain ⟨q, hq⟩ : ∃ q, l.length = n + q := ⟨l.length - n, by omega⟩
  rw [hq] at h2 ⊢
  rw [show n + q - n = q by omega] at h2
  have a1 : d * n ≤ v * q * n := Int.mul_le_mul_of_nonneg_right h2 (by omega)
  have a2 : v * n * q ≤ t * q := Int.mul_le_mul_of_nonneg_right h1 (by omega)
  have a3 : v * q * n = v * n * q := by rw [Int.mul_assoc, Int.mul_comm (q : Int), ← Int.mul_assoc]
  rw [Int.add_mul, Int.natCast_add, Int.mul_add]
  omega

/-! ### The code -/
theorem ref8_amounts_eq (l : List Int) (hl : l.length ≤ 200) (h : ∀ x ∈ l, amountB x = true) : ref8_amounts l = some true := by
  show ref8_amounts_p3 l = _
  unfold ref8_amounts_p3
  rw [decide_eq_false (by omega), cond_false]
  show (fixL (ref8_amounts_l1 l) 0).bind _ = _
  have := fixL_list0 (f := ref8_amounts_l1 l) l (fun i (_ : Unit) => (i : Int)) (fun _ _ => True) (fun x _ => if amountB x then .inl () else .inr (Sum.inl ())) (fun _ => Sum.inr ()) () trivial ?_ (fun _ _ _ _ _ _ => trivial) ?_
  · rw [show ((0 : Int)) = ((0 : Nat) : Int) from rfl, this]
    have : ∀ (l : List Int), (∀ x ∈ l, amountB x = true) → runE (fun x (_ : Unit) => if amountB x then Sum.inl () else .inr (Sum.inl ())) (fun _ => Sum.inr ()) l () = (Sum.inr () : Unit ⊕ Unit) := by
      intro l
      induction l with
      | nil => intro _; rfl
      | cons x l ih =>
        intro h
        unfold runE
        rw [if_pos (h x List.mem_cons_self)]
        exact ih fun y hy => h y (List.mem_cons_of_mem _ hy)
    rw [this l h]; rfl
  · intro i hi a _
    show ref8_amounts_p0 l i = _
    unfold ref8_amounts_p0
    rw [lt_len hi, cond_true, gd_pos (idx_ok hi), gd_pos (fun _ => (idx_ok hi).1), gd_pos (fun _ => (idx_ok hi).2), getD_nat l 0 i hi, amount_bools, w64_succ (by omega)]
    cases amountB l[i] <;> rfl
  · intro a _
    show ref8_amounts_p0 l l.length = _
    unfold ref8_amounts_p0
    rw [not_lt_len, cond_false]
theorem best_inner (years : List Int) (n : Int) (l : List Int) (hl : l.length ≤ 1000) (i : Nat) (hi : i < years.length) (a b c : Int) (m : List Int) : ∀ k, k ≤ l.length → fixL (ref8_Best_l2 years n m a b) (l, (i : Int), (k : Int)) = some (l, (i : Int), ((insAt l years[i] k : Nat) : Int))
  | 0, _ => by
    rw [fixL_eq]
    show (ref8_Best_p0 years n l i ((0 : Nat) : Int)).bind _ = _
    unfold ref8_Best_p0
    rw [gd_pos (by intro h; simp at h), gd_pos (by intro h; simp at h), gd_pos (by intro h; simp at h), gd_pos (by intro h; simp at h)]
    rfl
  | k + 1, hk => by
    rw [fixL_eq]
    show (ref8_Best_p0 years n l i ((k + 1 : Nat) : Int)).bind _ = _
    unfold ref8_Best_p0
    have e1 : w64 (((k + 1 : Nat) : Int) - 1) = (k : Int) := by rw [w64_in (by omega) (by omega)]; omega
    rw [e1, gd_pos (fun _ => by omega), gd_pos (fun _ => by omega), gd_pos (fun _ => by omega), gd_pos (fun _ => by omega), decide_eq_true (show (0 : Int) < ((k + 1 : Nat) : Int) by omega), cond_true, getD_nat years 0 i hi, Nat.zero_add, Int.toNat_natCast]
    unfold insAt
    by_cases h : l.getD k 0 < years[i]
    · rw [decide_eq_true h, cond_true, if_pos h]
      exact best_inner years n l hl i hi a b c m k (by omega)
    · rw [decide_eq_false h, cond_false, if_neg h]
      rfl
theorem best_outer (years : List Int) (n : Int) (hy : years.length ≤ 500) : fixL (ref8_Best_l1 years n) ([], 0) = some (insAll years) := by
  have := fixL_list0 (f := ref8_Best_l1 years n) years (fun i (l : List Int) => (l, (i : Int))) (fun i l => l.length = i) (fun x l => .inl (ins x l)) id [] rfl ?_ ?_ ?_
  · rw [show (([] : List Int), (0 : Int)) = (([] : List Int), ((0 : Nat) : Int)) from rfl, this, runE_fold]; rfl
  · intro i hi l hlen
    show ref8_Best_p6 years n l i = _
    unfold ref8_Best_p6
    rw [lt_len hi, cond_true]
    show (fixL (ref8_Best_l2 years n l i (l.length : Int)) (l, (i : Int), ((l.length : Nat) : Int))).bind (ref8_Best_p3_g years n l i (l.length : Int)) = _
    rw [best_inner years n l (by omega) i hi _ _ 0 l l.length (Nat.le_refl _), Option.bind_some]
    have hs := (insAt_spec l years[i] l.length).1
    show ref8_Best_p2 years n l i ((insAt l years[i] l.length : Nat) : Int) = _
    unfold ref8_Best_p2 ins
    generalize insAt l years[i] l.length = k at hs
    have e0 : Int.toNat ((k : Int) - 0) = k := by omega
    have e1 : Int.toNat ((l.length : Int) - (k : Int)) = l.length - k := by omega
    rw [e0, e1, Int.toNat_natCast k, gd_pos (by omega), gd_pos (capB_ok (by omega) (by omega)), gd_pos (by omega), gd_pos (capB_ok (by omega) (by omega)), gd_pos (by omega), gd_pos (capB_ok (by omega) (by omega)), getD_nat years 0 i hi, subL_take (by omega), subL_take (by omega)]
    unfold ref8_Best_p1
    rw [w64_succ (by omega), List.drop_zero, Nat.zero_add, List.take_of_length_le (l := l.drop k) (by simp)]
  · intro i hi l l' hlen hg
    cases hg
    rw [ins_length]; omega
  · intro l hlen
    show ref8_Best_p6 years n l years.length = _
    unfold ref8_Best_p6
    rw [not_lt_len, cond_false]
    rfl
theorem best_sum (n : Nat) (l l0 : List Int) (hl : l.length ≤ 500) (hb : ∀ x ∈ l, 0 ≤ x ∧ x ≤ 1000000) : ∀ (k i : Nat) (s : Int), i + k = min n l.length → 0 ≤ s ∧ s ≤ 1000000 * i → fixL (ref8_Best_l3 n l0) (l, s, (i : Int)) = some (s + ((l.drop i).take k).sum)
  | 0, i, s, h, hs => by
    rw [fixL_eq]
    show (ref8_Best_p7 n l s i).bind _ = _
    unfold ref8_Best_p7
    have : (bif decide ((i : Int) < (l.length : Int)) then decide ((i : Int) < (n : Int)) else false) = false := by
      rw [cond_and]
      by_cases h1 : i < l.length
      · rw [decide_eq_false (show ¬ (i : Int) < (n : Int) by omega), Bool.and_false]
      · rw [decide_eq_false (show ¬ (i : Int) < (l.length : Int) by omega), Bool.false_and]
    rw [this]; simp
  | k + 1, i, s, h, hs => by
    rw [fixL_eq]
    show (ref8_Best_p7 n l s i).bind _ = _
    unfold ref8_Best_p7
    have hi : i < l.length := by omega
    rw [lt_len hi, cond_true, decide_eq_true (show (i : Int) < (n : Int) by omega), cond_true, gd_pos (idx_ok hi), getD_nat0 l 0 i hi, w64_succ (by omega)]
    have hx := hb l[i] (List.getElem_mem hi)
    rw [w64_in (by omega) (by omega)]
    show fixL (ref8_Best_l3 n l0) (l, s + l[i], ((i + 1 : Nat) : Int)) = _
    rw [best_sum n l l0 hl hb k (i + 1) (s + l[i]) (by omega) (by omega), List.drop_eq_getElem_cons hi, List.take_succ_cons, List.sum_cons]
    congr 1
    omega
theorem ref8_Best_eq (l : List Int) (n : Nat) (hl : l.length ≤ 200) (hb : ∀ x ∈ l, 0 ≤ x ∧ x ≤ 1000000) (h0 : 0 < n) (hn : n ≤ 45) (hnl : n ≤ l.length) :
    ref8_Best l n = some (fracN ((insAll l).take n).sum.toNat n) := by
  show ref8_Best_p12 l n = _
  unfold ref8_Best_p12
  have ha := ref8_amounts_eq l hl fun x hx => by have := hb x hx; simp [amountB]; omega
  rw [gd_pos (fun _ => by rw [ha]; rfl), ha, decide_eq_false (show ¬ (n : Int) < 1 by omega), cond_false, decide_eq_false (show ¬ (45 : Int) < n by omega), cond_false]
  show (fixL (ref8_Best_l1 l n) ([], 0)).bind (ref8_Best_p11_g l n) = _
  have hf := insAll_facts l
  rw [best_outer l n (by omega), Option.bind_some]
  generalize hz : insAll l = z at hf
  show (fixL (ref8_Best_l3 n z) (z, (0 : Int), ((0 : Nat) : Int))).bind (ref8_Best_p9_g n z) = _
  have hbz : ∀ x ∈ z, 0 ≤ x ∧ x ≤ 1000000 := fun x hx => hb x (hf.2.2.2 x hx)
  rw [best_sum n z z (by omega) hbz n 0 0 (by omega) (by omega), Option.bind_some, List.drop_zero, Int.zero_add]
  show ref8_Best_p8 n ((z.take n).sum) = _
  unfold ref8_Best_p8
  have b1 : 0 * ((z.take n).length : Int) ≤ (z.take n).sum := sum_ge 0 _ fun y hy => (hbz y (List.mem_of_mem_take hy)).1
  have b2 : (z.take n).sum ≤ 1000000 * ((z.take n).length : Int) := sum_le _ _ fun y hy => (hbz y (List.mem_of_mem_take hy)).2
  rw [List.length_take] at b2
  obtain ⟨k, hk⟩ : ∃ k : Nat, (z.take n).sum = (k : Int) := ⟨(z.take n).sum.toNat, by omega⟩
  rw [hk, ref1_Make_nat k n (by omega) (by omega) h0, Option.bind_some, Int.toNat_natCast]
end Go.Ax
