import Derived.Test.YtklbaihmajbbdaaL50
import Derived.Test.YtklbaihmajbbdaaL25
import Derived.Test.YtklbaihmajbbdaaL34
set_option linter.all false
/- The document's Divide: rounding down; who is best. -/
set_option maxRecDepth 100000
namespace Go.Ax

theorem ref21_floor_eq (t n d : Nat) (ht : t ≤ 1000000000000) (hd : 0 < d) (hd2 : d ≤ 1000000000) (hnd : n ≤ d) (hq : n / Nat.gcd n d ≤ 4382940) : ref21_floor t n d = some ((t * n / d : Nat) : Int) := by
  show ref21_floor_p0 t n d = _
  unfold ref21_floor_p0
  have hf := (fracN_facts n d hd (by omega) hd2).1
  have hg : 0 < Nat.gcd n d := Nat.gcd_pos_of_pos_right _ hd
  have hcop : Nat.gcd (n / Nat.gcd n d) (d / Nat.gcd n d) = 1 := (fracN_facts n d hd (by omega) hd2).2.2.2.2
  have hb : d / Nat.gcd n d ≤ d := Nat.div_le_self _ _
  have hb0 : 0 < d / Nat.gcd n d := Nat.div_pos (Nat.gcd_le_right _ hd) hg
  have hfq := frac_quot t n d hd
  have hle : t * n / d ≤ t := by
    have : t * n ≤ t * d := Nat.mul_le_mul_left _ hnd
    exact Nat.div_le_of_le_mul (by rw [Nat.mul_comm d]; exact this)
  have hta : t * (n / Nat.gcd n d) ≤ 1000000000000 * 4382940 := Nat.mul_le_mul ht hq
  rw [ref1_Make_nat n d (by omega) (by omega) hd, Option.bind_some, hf]
  show (ref1_Scale t ⟨((n / Nat.gcd n d : Nat) : Int), ((d / Nat.gcd n d : Nat) : Int)⟩ ⟨1, 1⟩).bind _ = _
  rw [ref1_Scale_down t _ _ ht (by omega) (by omega) (by omega) hb0 hcop (by rw [hfq]; omega), Option.bind_some, hfq]

/-! ### The best of those that are left -/
def bestP (R : Nat → Int) (i : Nat) (b : Int) : Prop := (b = -1 ∧ ∀ j, j < i → R j < 0) ∨ ∃ c : Nat, b = (c : Int) ∧ c < i ∧ 0 ≤ R c ∧ ∀ j, j < i → 0 ≤ R j → R j < R c ∨ (R j = R c ∧ c ≤ j)
def bestS (R : Nat → Int) : Nat → Int
  | 0 => -1
  | i + 1 => if 0 ≤ R i ∧ (bestS R i < 0 ∨ R (bestS R i).toNat < R i) then (i : Int) else bestS R i
theorem bestS_ok (R : Nat → Int) : ∀ i, bestP R i (bestS R i)
  | 0 => .inl ⟨rfl, fun j h => by omega⟩
  | i + 1 => by
    have ih := bestS_ok R i
    unfold bestS
    rcases ih with ⟨e, h⟩ | ⟨c, e, h1, h2, h3⟩
    · rw [e]
      by_cases hi : 0 ≤ R i
      · rw [if_pos ⟨hi, .inl (by omega)⟩]
        refine .inr ⟨i, rfl, by omega, hi, fun j hj h0 => ?_⟩
        by_cases ej : j = i
        · subst ej; exact .inr ⟨rfl, Nat.le_refl _⟩
        · have := h j (by omega); omega
      · rw [if_neg (fun q => hi q.1)]
        refine .inl ⟨rfl, fun j hj => ?_⟩
        by_cases ej : j = i
        · subst ej; omega
        · exact h j (by omega)
    · rw [e, Int.toNat_natCast]
      by_cases hi : 0 ≤ R i ∧ ((c : Int) < 0 ∨ R c < R i)
      · rw [if_pos hi]
        refine .inr ⟨i, rfl, by omega, hi.1, fun j hj h0 => ?_⟩
        by_cases ej : j = i
        · subst ej; exact .inr ⟨rfl, Nat.le_refl _⟩
        · have := h3 j (by omega) h0; omega
      · rw [if_neg hi]
        refine .inr ⟨c, rfl, by omega, h2, fun j hj h0 => ?_⟩
        by_cases ej : j = i
        · subst ej; omega
        · exact h3 j (by omega) h0
/-- What is left behind t rounds. -/
def leftK (K : Nat → Int) (s : List Nat) (t j : Nat) : Int := if j ∈ s.take t then -1 else K j
def leftL (K : Nat → Int) (s : List Nat) (n t : Nat) : List Int := (List.range n).map (leftK K s t)
theorem leftL_get {K : Nat → Int} {s : List Nat} {n t j : Nat} (hj : j < n) : (leftL K s n t).getD j 0 = leftK K s t j := by
  unfold leftL
  rw [List.getD_eq_getElem?_getD, List.getElem?_map, List.getElem?_range hj]
  rfl
theorem leftL_len {K : Nat → Int} {s : List Nat} {n t : Nat} : (leftL K s n t).length = n := by simp [leftL]
theorem best_is {K : Nat → Int} {s : List Nat} {n : Nat} (hs : s.Pairwise (befK K)) (hp : s.Perm (List.range n)) (hK : ∀ j, j < n → 0 ≤ K j) {t : Nat} (ht : t < n) (hl : t < s.length) : bestS (leftK K s t) n = ((s[t] : Nat) : Int) := by
  have hn : s.Nodup := hp.nodup_iff.2 List.nodup_range
  have hmem : ∀ j, j ∈ s ↔ j < n := fun j => by rw [hp.mem_iff, List.mem_range]
  have hst : s[t] < n := (hmem _).1 (List.getElem_mem _)
  have hnot : s[t] ∉ s.take t := by
    intro h
    obtain ⟨i, hi, e⟩ := List.mem_iff_getElem.1 h
    rw [List.length_take] at hi
    rw [List.getElem_take] at e
    have := (List.getElem_inj hn).1 e
    omega
  have hleft : leftK K s t s[t] = K s[t] := if_neg hnot
  have hahead : ∀ j, j < n → j ∉ s.take t → j ≠ s[t] → befK K s[t] j := by
    intro j hj h1 h2
    obtain ⟨i, hi, rfl⟩ := List.mem_iff_getElem.1 ((hmem j).2 hj)
    refine List.pairwise_iff_getElem.1 hs t i hl hi ?_
    rcases Nat.lt_trichotomy i t with h | h | h
    · exact absurd (List.mem_iff_getElem.2 ⟨i, by rw [List.length_take]; omega, by rw [List.getElem_take]⟩) h1
    · subst h; exact absurd rfl h2
    · exact h
  have h0 := hK _ hst
  rcases bestS_ok (leftK K s t) n with ⟨_, h⟩ | ⟨c, e, h1, h2, h3⟩
  · have := h _ hst
    rw [hleft] at this; omega
  · rw [e]
    congr 1
    by_cases hc : c = s[t]
    · exact hc
    · exfalso
      have hcn : c ∉ s.take t := by
        intro h
        unfold leftK at h2
        rw [if_pos h] at h2
        omega
      have hb := hahead c h1 hcn hc
      have := h3 s[t] hst (by rw [hleft]; exact h0)
      rw [hleft] at this
      have hcl : leftK K s t c = K c := if_neg hcn
      rw [hcl] at this
      unfold befK at hb
      omega
theorem leftL_set {K : Nat → Int} {s : List Nat} {n t : Nat} (hl : t < s.length) (hst : s[t] < n) : (leftL K s n t).set s[t] (-1) = leftL K s n (t + 1) := by
  apply List.ext_getElem?
  intro j
  unfold leftL
  rw [List.getElem?_set, List.length_map, List.length_range]
  by_cases h : s[t] = j
  · subst h
    rw [if_pos rfl, if_pos hst, List.getElem?_map, List.getElem?_range hst]
    have : s[t] ∈ s.take (t + 1) := List.mem_iff_getElem.2 ⟨t, by rw [List.length_take]; omega, by rw [List.getElem_take]⟩
    simp [leftK, this]
  · rw [if_neg h, List.getElem?_map, List.getElem?_map]
    by_cases hj : j < n
    · rw [List.getElem?_range hj]
      have : (j ∈ s.take (t + 1)) ↔ j ∈ s.take t := by
        rw [List.take_succ_eq_append_getElem hl, List.mem_append, List.mem_singleton]
        exact ⟨fun q => q.resolve_right (fun e => h e.symm), .inl⟩
      simp [leftK, this]
    · rw [List.getElem?_eq_none (by simp; omega)]; rfl
end Go.Ax
