import Derived.Test.YtkijjjdaijjpaaaGreatL38v
set_option linter.all false
/- Dividing: what Divide computes. -/
set_option maxRecDepth 100000
namespace Go.Ax

def bump (out : List GPart) (k : Nat) : List GPart := out.set k ⟨(out.getD k zGPart).Person, (out.getD k zGPart).Amount + 1⟩
def giveG (r : GConversion_remainder) (a : Int × List GPart) : (Int × List GPart) ⊕ List GPart := .inl (if 0 < a.1 then (a.1 - 1, bump a.2 r.at_.toNat) else a)
def giveL (cut : List GConversion_remainder) (m : Int) (out : List GPart) : List GPart := runE giveG (·.2) cut (m, out)
theorem bump_length (out : List GPart) (k : Nat) : (bump out k).length = out.length := by simp [bump]
theorem bump_mem {out : List GPart} {k : Nat} (hk : k < out.length) {x : GPart} (h : x ∈ bump out k) : x ∈ out ∨ ∃ y ∈ out, x.Amount = y.Amount + 1 := by
  unfold bump at h
  rcases List.mem_or_eq_of_mem_set h with h | rfl
  · exact .inl h
  · refine .inr ⟨out[k], List.getElem_mem hk, ?_⟩
    rw [List.getD_eq_getElem?_getD, List.getElem?_eq_getElem hk]
    rfl
theorem Divide_loop2 (cut : List GConversion_remainder) (out : List GPart) (m m0 q0 : Int) (o0 : List GPart) (c0 : List GConversion_remainder) (hl : cut.length ≤ 1000) (hm : -13000000000000 ≤ m ∧ m ≤ 1000000000000)
    (hat : ∀ x ∈ cut, 0 ≤ x.at_ ∧ x.at_ < (out.length : Int)) (ho : ∀ x ∈ out, 0 ≤ x.Amount ∧ x.Amount ≤ 1000000000000) :
    fixL (conversion_Divide_l2 m0 o0 c0 q0) (m, out, cut, ((cut.length : Nat) : Int), 0) = some (giveL cut m out) := by
  have := fixL_list0 (f := conversion_Divide_l2 m0 o0 c0 q0) cut (fun i (a : Int × List GPart) => (a.1, a.2, cut, ((cut.length : Nat) : Int), (i : Int)))
    (fun i a => (-13000000000000 - (i : Int) ≤ a.1 ∧ a.1 ≤ 1000000000000) ∧ a.2.length = out.length ∧ ∀ x ∈ a.2, 0 ≤ x.Amount ∧ x.Amount ≤ 1000000000000 + (i : Int)) giveG (·.2) (m, out) ⟨⟨by show -13000000000000 - ((0 : Nat) : Int) ≤ m; omega, hm.2⟩, rfl, fun x hx => by have := ho x hx; omega⟩ ?_ ?_ ?_
  · exact this
  · rintro i hi ⟨mi, oi⟩ ⟨⟨b1, b2⟩, b3, b4⟩
    have b1 : -13000000000000 - (i : Int) ≤ mi := b1
    have b2 : mi ≤ 1000000000000 := b2
    have b3 : oi.length = out.length := b3
    have ha := hat cut[i] (List.getElem_mem hi)
    show conversion_Divide_p1 mi oi cut ((cut.length : Nat) : Int) i = _
    unfold conversion_Divide_p1
    rw [lt_len hi, cond_true, gd_pos (idx_ok hi), getD_nat0 cut zGConversion_remainder i hi, w64_succ (by omega)]
    obtain ⟨k, hk⟩ : ∃ k : Nat, cut[i].at_ = (k : Int) := ⟨cut[i].at_.toNat, by omega⟩
    rw [hk] at ha
    by_cases h : 0 < mi
    · have e : giveG cut[i] (mi, oi) = .inl (mi - 1, bump oi k) := by
        unfold giveG
        rw [hk]
        show Sum.inl (if 0 < mi then (mi - 1, bump oi ((k : Int)).toNat) else (mi, oi)) = _
        rw [if_pos h, Int.toNat_natCast]
      rw [e, hk]
      have hx := b4 (oi.getD k zGPart) (by
        rw [List.getD_eq_getElem?_getD, List.getElem?_eq_getElem (show k < oi.length by omega)]
        exact List.getElem_mem _)
      have hx1 : 0 ≤ (oi.getD k zGPart).Amount := hx.1
      have hx2 : (oi.getD k zGPart).Amount ≤ 1000000000000 + (i : Int) := hx.2
      rw [decide_eq_true h, cond_true, gd_pos (by omega), gd_pos (by omega), Nat.zero_add, Int.toNat_natCast, w64_in (n := mi - 1) (by omega) (by omega), w64_in (n := (oi.getD k zGPart).Amount + 1) (by omega) (by omega)]
      rfl
    · have e : giveG cut[i] (mi, oi) = .inl (mi, oi) := by
        unfold giveG
        show Sum.inl (if 0 < mi then (mi - 1, bump oi cut[i].at_.toNat) else (mi, oi)) = _
        rw [if_neg h]
      rw [e, decide_eq_false h, cond_false]
  · rintro i hi ⟨mi, oi⟩ a' ⟨⟨b1, b2⟩, b3, b4⟩ hg
    have b1 : -13000000000000 - (i : Int) ≤ mi := b1
    have b2 : mi ≤ 1000000000000 := b2
    have b3 : oi.length = out.length := b3
    have ha := hat cut[i] (List.getElem_mem hi)
    unfold giveG at hg
    cases hg
    show (-13000000000000 - ((i + 1 : Nat) : Int) ≤ (if 0 < mi then (mi - 1, bump oi cut[i].at_.toNat) else (mi, oi)).1 ∧ (if 0 < mi then (mi - 1, bump oi cut[i].at_.toNat) else (mi, oi)).1 ≤ 1000000000000) ∧ (if 0 < mi then (mi - 1, bump oi cut[i].at_.toNat) else (mi, oi)).2.length = out.length ∧ ∀ x ∈ (if 0 < mi then (mi - 1, bump oi cut[i].at_.toNat) else (mi, oi)).2, 0 ≤ x.Amount ∧ x.Amount ≤ 1000000000000 + ((i + 1 : Nat) : Int)
    by_cases h : 0 < mi
    · rw [if_pos h]
      refine ⟨by show _ ≤ mi - 1 ∧ mi - 1 ≤ _; omega, by rw [bump_length]; exact b3, fun x hx => ?_⟩
      rcases bump_mem (by omega) hx with hx | ⟨y, hy, e⟩
      · have := b4 x hx
        have c1 : 0 ≤ x.Amount := this.1
        have c2 : x.Amount ≤ 1000000000000 + (i : Int) := this.2
        omega
      · have := b4 y hy
        have c1 : 0 ≤ y.Amount := this.1
        have c2 : y.Amount ≤ 1000000000000 + (i : Int) := this.2
        omega
    · rw [if_neg h]
      refine ⟨by show _ ≤ mi ∧ mi ≤ _; omega, b3, fun x hx => ?_⟩
      have := b4 x hx
      have c1 : 0 ≤ x.Amount := this.1
      have c2 : x.Amount ≤ 1000000000000 + (i : Int) := this.2
      omega
  · rintro ⟨mi, oi⟩ _
    show conversion_Divide_p1 mi oi cut ((cut.length : Nat) : Int) cut.length = _
    unfold conversion_Divide_p1
    rw [not_lt_len, cond_false]
end Go.Ax
