import Derived.Test.YtepnedfnpbakeaaL92
set_option linter.all false
/- The document's lists of edges. -/
set_option maxRecDepth 100000
namespace Go.Ax
open Go.Proofs

theorem capI {n : Nat} (h : n ≤ 4000000) : capB n 8 := ⟨by omega, by omega⟩
theorem ins_loop (l : List Int) (n : Int) (hl : l.length ≤ 1000000) : ∀ (k : Nat), k ≤ l.length → ∃ p s, l = p ++ s ∧ fixL (ref1_Ins_l1 l n) ((k : Nat) : Int) = some ((p.length : Nat) : Int) ∧ (∀ x ∈ s.take (k - p.length), n ≤ x) ∧ p.length ≤ k ∧ (∀ q y, p = q ++ [y] → y < n) := by
  intro k
  induction k with
  | zero =>
    intro hk
    refine ⟨[], l, rfl, ?_, by simp, by simp, fun q y h => by simp at h⟩
    rw [fixL_eq]
    show (ref1_Ins_p0 l n (0 : Int)).bind _ = _
    unfold ref1_Ins_p0
    rw [show decide ((0 : Int) < (0 : Int)) = false from rfl, gd_pos (fun h => by simp at h), gd_pos (fun h => by simp at h)]
    rfl
  | succ k ih =>
    intro hk
    have hk' : k < l.length := by omega
    have e1 : w64 (((k + 1 : Nat) : Int) - 1) = (k : Int) := by rw [w64_in (by omega) (by omega)]; omega
    have h0 : decide ((0 : Int) < ((k + 1 : Nat) : Int)) = true := decide_eq_true (by omega)
    have hstep : ref1_Ins_p0 l n ((k + 1 : Nat) : Int) = if n ≤ l[k] then some (.inl (k : Int)) else some (.inr ((k + 1 : Nat) : Int)) := by
      unfold ref1_Ins_p0
      rw [e1, h0, gd_pos (fun _ => (idx_ok hk').1), gd_pos (fun _ => (idx_ok hk').2), cond_true, getD_nat0 l _ k hk']
      by_cases hc : n ≤ l[k]
      · rw [decide_eq_true hc, cond_true, if_pos hc]
      · rw [decide_eq_false hc, cond_false, if_neg hc]
    rw [fixL_eq]
    by_cases hc : n ≤ l[k]
    · obtain ⟨p, s, h1, h2, h3, h4, h5⟩ := ih (by omega)
      refine ⟨p, s, h1, ?_, fun x hx => ?_, by omega, h5⟩
      · show (ref1_Ins_p0 l n ((k + 1 : Nat) : Int)).bind _ = _
        rw [hstep, if_pos hc, Option.bind_some]
        exact h2
      · rw [show k + 1 - p.length = (k - p.length) + 1 by omega, List.take_succ] at hx
        rcases List.mem_append.1 hx with hx | hx
        · exact h3 x hx
        · have : s[k - p.length]? = some l[k] := by
            have : l[k]? = some l[k] := List.getElem?_eq_getElem hk'
            rw [← this]
            conv => rhs; rw [h1]
            rw [List.getElem?_append_right h4]
          rw [this] at hx
          have : x = l[k] := by simpa using hx
          rw [this]; exact hc
    · refine ⟨l.take (k + 1), l.drop (k + 1), (List.take_append_drop _ _).symm, ?_, ?_, by simp; omega, fun q y h => ?_⟩
      · show (ref1_Ins_p0 l n ((k + 1 : Nat) : Int)).bind _ = _
        rw [hstep, if_neg hc, Option.bind_some, List.length_take, Nat.min_eq_left (by omega)]
      · rw [List.length_take, Nat.min_eq_left (by omega)]
        simp
      · have h6 : l.take (k + 1) = l.take k ++ [l[k]] := by rw [List.take_succ, List.getElem?_eq_getElem hk']; rfl
        rw [h6] at h
        have := List.append_inj_right' h rfl
        simp at this
        omega
def Asc1 (l : List Int) : Prop := l.Pairwise (fun a b => a < b)
theorem ref1_Ins_eq (l : List Int) (n : Int) (hl : l.length ≤ 1000000) (hs : Asc1 l) : ∃ r, ref1_Ins l n = some r ∧ Asc1 r ∧ (∀ x, x ∈ r ↔ x ∈ l ∨ x = n) ∧ r.length ≤ l.length + 1 := by
  obtain ⟨p, s, h1, h2, h3, h4, h5⟩ := ins_loop l n hl l.length (Nat.le_refl _)
  have h3' : ∀ x ∈ s, n ≤ x := by
    intro x hx
    refine h3 x ?_
    rw [List.take_of_length_le (by rw [h1]; simp)]
    exact hx
  have e : ref1_Ins l n = ref1_Ins_p1 l n ((p.length : Nat) : Int) := by
    show (fixL (ref1_Ins_l1 l n) ((l.length : Nat) : Int)).bind _ = _
    rw [h2, Option.bind_some]
    rfl
  rw [e]
  have hlen : l.length = p.length + s.length := by rw [h1]; simp
  have hpw := hs
  unfold Asc1 at hpw
  rw [h1] at hpw
  obtain ⟨w1, w2, w3⟩ := List.pairwise_append.1 hpw
  have hp : ∀ x ∈ p, x < n := by
    intro x hx
    rcases snoc_cases p with rfl | ⟨q, y, rfl⟩
    · simp at hx
    · have hy := h5 q y rfl
      rcases List.mem_append.1 hx with hx | hx
      · have := (List.pairwise_append.1 w1).2.2 x hx y (by simp)
        omega
      · rw [List.mem_singleton.1 hx]; exact hy
  have hdone : ∀ (_ : ∀ x ∈ s, n < x), ∃ r, ref1_Ins_p1 l n ((p.length : Nat) : Int) = some r ∧ Asc1 r ∧ (∀ x, x ∈ r ↔ x ∈ l ∨ x = n) ∧ r.length ≤ l.length + 1 := by
    intro hgt
    refine ⟨(p ++ [n]) ++ s, ?_, ?_, fun x => ?_, by simp; omega⟩
    · unfold ref1_Ins_p1
      have hc : (bif decide (((p.length : Nat) : Int) < ((l.length : Nat) : Int)) then (l.getD (0 + Int.toNat ((p.length : Nat) : Int)) (0 : Int) == n) else false) = false := by
        by_cases hh : p.length < l.length
        · rw [lt_len hh, cond_true]
          match s, h1, hgt with
          | [], h1, _ => rw [h1] at hh; simp at hh
          | y :: s, h1, hgt =>
            rw [Nat.zero_add, Int.toNat_natCast, h1, getD_app_right, beq_eq_false_iff_ne]
            have := hgt y (by simp)
            omega
        · rw [decide_eq_false (by omega), cond_false]
      rw [gd_pos (fun _ => by omega), gd_pos (fun h => by simp at h; omega), hc, cond_false, gd_pos (by omega), gd_pos (capI (by omega)), gd_pos (capI (by omega)), gd_pos (by omega), gd_pos (capI (by omega))]
      have e1 : Int.toNat (((p.length : Nat) : Int) - 0) = p.length := by omega
      have e2 : Int.toNat (((l.length : Nat) : Int) - ((p.length : Nat) : Int)) = s.length := by omega
      rw [e1, e2, Nat.zero_add, Int.toNat_natCast]
      conv => lhs; rw [h1]
      rw [sub_front, sub_back]
    · refine List.pairwise_append.2 ⟨List.pairwise_append.2 ⟨w1, List.pairwise_singleton _ _, fun x hx y hy => ?_⟩, w2, fun x hx y hy => ?_⟩
      · rw [List.mem_singleton.1 hy]; exact hp x hx
      · rcases List.mem_append.1 hx with hx | hx
        · exact w3 x hx y hy
        · rw [List.mem_singleton.1 hx]; exact hgt y hy
    · rw [h1]; simp only [List.mem_append, List.mem_singleton]
      constructor
      · rintro ((h | h) | h)
        · exact .inl (.inl h)
        · exact .inr h
        · exact .inl (.inr h)
      · rintro ((h | h) | h)
        · exact .inl (.inl h)
        · exact .inr h
        · exact .inl (.inr h)
  by_cases hmem : n ∈ s
  · -- it stands there already
    match s, h1, h3', hmem, w2, hlen with
    | [], _, _, hmem, _, _ => simp at hmem
    | y :: s, h1, h3', hmem, w2, hlen =>
      have hy : y = n := by
        rcases List.mem_cons.1 hmem with h | h
        · exact h.symm
        · have := (List.pairwise_cons.1 w2).1 n h
          have := h3' y (by simp)
          omega
      refine ⟨l, ?_, hs, fun x => ?_, by omega⟩
      · unfold ref1_Ins_p1
        have hh : p.length < l.length := by rw [hlen]; simp
        rw [gd_pos (fun _ => by omega), gd_pos (fun _ => by omega), lt_len hh, cond_true]
        have : l.getD (0 + Int.toNat ((p.length : Nat) : Int)) (0 : Int) = n := by
          rw [Nat.zero_add, Int.toNat_natCast, h1, getD_app_right, hy]
        rw [this]
        simp
      · constructor
        · exact .inl
        · rintro (h | h)
          · exact h
          · rw [h, h1, ← hy]; simp
  · refine hdone fun x hx => ?_
    have := h3' x hx
    have : x ≠ n := fun h => hmem (h ▸ hx)
    omega
end Go.Ax
