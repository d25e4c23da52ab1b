import Derived.Test.YtkijjjdaijjpaaaGreatL37v
set_option linter.all false
/- Dividing: what the first loop leaves. -/
set_option maxRecDepth 100000
namespace Go.Ax

theorem days_le : ∀ (l : List GHeir), (∀ x ∈ l, heirB x = true) → ∀ h ∈ l, daysOf h ≤ daysL l
  | [], _, h, hm => by simp at hm
  | x :: l, hb, h, hm => by
    have h0 := (sum_rng daysOf 73049 (by omega) l fun y hy => daysOf_rng (hb y (List.mem_cons_of_mem _ hy))).1
    have hx := daysOf_rng (hb x List.mem_cons_self)
    show daysOf h ≤ ((x :: l).map daysOf).sum
    rw [List.map_cons, List.sum_cons]
    rcases List.mem_cons.1 hm with rfl | hm
    · omega
    · have := days_le l (fun y hy => hb y (List.mem_cons_of_mem _ hy)) h hm
      unfold daysL at this
      omega
/-- A share is at most 1. -/
theorem share_le {l : List GHeir} (hv : validL l = true) {h : GHeir} (hm : h ∈ l) : (shareL l h).Num ≤ (shareL l h).Den := by
  obtain ⟨h1, h2⟩ := validL_facts hv
  have hr := heirs_rng hv
  have hw := wholeL_rng hv
  have hx := (heirB_facts (h2 h hm)).2
  obtain ⟨w, hww⟩ : ∃ w : Nat, wholeL l = (w : Int) := ⟨(wholeL l).toNat, by omega⟩
  rw [hww] at hw
  have key : ∀ n d : Nat, 0 < d → n ≤ d → d ≤ 1000000000 → (fracN n d).1.Num ≤ (fracN n d).1.Den := by
    intro n d h0 hn hd
    obtain ⟨e, _⟩ := fracN_facts n d h0 (by omega) (by omega)
    rw [e]
    have : n / Nat.gcd n d ≤ d / Nat.gcd n d := Nat.div_le_div_right hn
    show ((n / Nat.gcd n d : Nat) : Int) ≤ ((d / Nat.gcd n d : Nat) : Int)
    exact Int.ofNat_le.2 this
  unfold shareL
  rcases hx with ⟨k, d1, d2⟩ | ⟨k, d1⟩ | ⟨k, d1⟩
  · obtain ⟨x, hx⟩ : ∃ x : Nat, h.Days = (x : Int) := ⟨h.Days.toNat, by omega⟩
    have hd := days_le l h2 h hm
    have hdo : daysOf h = h.Days := by unfold daysOf; rw [if_pos k]
    obtain ⟨d, hdd⟩ : ∃ d : Nat, daysL l = (d : Int) := ⟨(daysL l).toNat, by omega⟩
    rw [hdd] at hr hd
    have hmul : d * w ≤ 876588 * 420 := Nat.mul_le_mul (by omega) (by omega)
    have hmul0 : 0 < d * w := Nat.mul_pos (by omega) (by omega)
    have hle : x * 60 ≤ d * w := Nat.mul_le_mul (by omega) (by omega)
    rw [if_pos k, hx, hdd, hww, ← Int.natCast_mul, Int.toNat_natCast, show ((60 : Int) * (x : Int)).toNat = 60 * x by omega]
    exact key _ _ hmul0 (by omega) (by omega)
  · rw [if_neg (by omega), if_neg (by omega), hww, Int.toNat_natCast]
    exact key _ _ (by omega) (by omega) (by omega)
  · rw [if_neg (by omega), if_pos k, hww, Int.toNat_natCast]
    exact key _ _ (by omega) (by omega) (by omega)
theorem part_le {total : Int} (ht : 0 ≤ total) {l : List GHeir} (hv : validL l = true) {h : GHeir} (hm : h ∈ l) : partL total (shareL l h) ≤ total := by
  have h1 := share_le hv hm
  have h2 := (shareL_facts hv hm).2
  unfold partL
  refine Int.ediv_le_of_le_mul (by omega) ?_
  exact Int.mul_le_mul_of_nonneg_left h1 ht
/-- Missing, parts, remainders behind the first loop. -/
def divS (total : Int) (l : List GHeir) (m : Int) : Int × List GPart × List GConversion_remainder := runE (divG total l) id l (m, [], [])
def divP (i : Nat) (a : Int × List GPart × List GConversion_remainder) : Prop :=
  (-1000000000000 * (i : Int) ≤ a.1 ∧ a.1 ≤ 1000000000000) ∧ a.2.1.length = i ∧ a.2.2.length = i ∧ (∀ x ∈ a.2.2, smallR x ∧ 0 ≤ x.at_ ∧ x.at_ < (i : Int)) ∧ ∀ x ∈ a.2.1, 0 ≤ x.Amount ∧ x.Amount ≤ 1000000000000
theorem divG_keeps {total : Int} (ht : 0 ≤ total ∧ total ≤ 1000000000000) {l : List GHeir} (hv : validL l = true) (i : Nat) (hi : i < l.length) (a a' : Int × List GPart × List GConversion_remainder) (h : divP i a) (hg : divG total l l[i] a = .inl a') : divP (i + 1) a' := by
  obtain ⟨⟨h1, h2⟩, h3, h4, h5, h6⟩ := h
  have hm : l[i] ∈ l := List.getElem_mem hi
  have hf := shareL_facts hv hm
  have hp := part_rng ht hf
  have hle := part_le ht.1 hv hm
  cases hg
  refine ⟨?_, by simp [h3], by rw [insR_length]; omega, fun x hx => ?_, fun x hx => ?_⟩
  · show -1000000000000 * ((i + 1 : Nat) : Int) ≤ a.1 - partL total (shareL l l[i]) ∧ a.1 - partL total (shareL l l[i]) ≤ 1000000000000
    omega
  · rcases insR_mem _ _ _ hx with rfl | hx
    · refine ⟨⟨hp.2.2, by show 0 ≤ (shareL l l[i]).Den ∧ (shareL l l[i]).Den ≤ 1000000000; omega⟩, ?_⟩
      show 0 ≤ ((a.2.1.length : Nat) : Int) ∧ ((a.2.1.length : Nat) : Int) < ((i + 1 : Nat) : Int)
      omega
    · have := h5 x hx
      exact ⟨this.1, this.2.1, by omega⟩
  · rcases List.mem_append.1 hx with hx | hx
    · exact h6 x hx
    · rw [List.mem_singleton] at hx
      subst hx
      show 0 ≤ partL total (shareL l l[i]) ∧ partL total (shareL l l[i]) ≤ 1000000000000
      omega
theorem Divide_loop1 {total : Int} (ht : 0 ≤ total ∧ total ≤ 1000000000000) {l : List GHeir} (hv : validL l = true) (m m0 : Int) (hm : 0 ≤ m ∧ m ≤ 1000000000000) :
    fixL (conversion_Divide_l1 total l m0 (l.map (shareL l)) ((l.length : Nat) : Int)) (m, [], [], 0) = some (divS total l m) := by
  obtain ⟨h1, h2⟩ := validL_facts hv
  have := fixL_list0 (f := conversion_Divide_l1 total l m0 (l.map (shareL l)) ((l.length : Nat) : Int)) l (fun i (a : Int × List GPart × List GConversion_remainder) => (a.1, a.2.1, a.2.2, (i : Int))) divP (divG total l) id (m, [], [])
    ⟨⟨by show -1000000000000 * ((0 : Nat) : Int) ≤ m; omega, hm.2⟩, rfl, rfl, fun x hx => by simp at hx, fun x hx => by simp at hx⟩ ?_ ?_ ?_
  · exact this
  · rintro i hi ⟨mi, out, cut⟩ ⟨⟨b1, b2⟩, b3, b4, b5, b6⟩
    have b1 : -1000000000000 * (i : Int) ≤ mi := b1
    have b2 : mi ≤ 1000000000000 := b2
    have b3 : out.length = i := b3
    have b4 : cut.length = i := b4
    have hmem : l[i] ∈ l := List.getElem_mem hi
    have hf := shareL_facts hv hmem
    have hp := part_rng ht hf
    have hle := part_le ht.1 hv hmem
    have hlen : (l.map (shareL l)).length = l.length := List.length_map _
    show conversion_Divide_p0 total l mi out cut (l.map (shareL l)) ((l.length : Nat) : Int) i = _
    unfold conversion_Divide_p0
    rw [lt_len hi, cond_true, gd_pos (idx_ok (by omega)), getD_nat (l.map (shareL l)) zGFraction i (by omega), List.getElem_map, gd_pos (by omega), gd_pos (idx_ok hi), gd_pos (capB_ok (by omega) (by omega)), gd_pos (by omega), getD_nat l zGHeir i hi, w64_in (n := total * (shareL l l[i]).Num) (by omega) (by omega), Int.tmod_eq_emod_of_nonneg hp.1.1, Int.tdiv_eq_ediv_of_nonneg hp.1.1]
    have er : conversion_insert cut ⟨(i : Int), total * (shareL l l[i]).Num % (shareL l l[i]).Den, (shareL l l[i]).Den⟩ = some (insR (remL total out.length (shareL l l[i])) cut) := by
      rw [b3]
      exact conversion_insert_eq cut (remL total i (shareL l l[i])) (by omega) (fun x hx => (b5 x hx).1) ⟨hp.2.2, by show 0 ≤ (shareL l l[i]).Den ∧ (shareL l l[i]).Den ≤ 1000000000; omega⟩
    rw [er, Option.bind_some, w64_succ (by omega)]
    have ep : total * (shareL l l[i]).Num / (shareL l l[i]).Den = partL total (shareL l l[i]) := rfl
    rw [ep, w64_in (n := partL total (shareL l l[i])) (by omega) (by omega), w64_in (by omega) (by omega)]
    rfl
  · intro i hi a a' h hg
    exact divG_keeps ht hv i hi a a' h hg
  · rintro ⟨mi, out, cut⟩ _
    show conversion_Divide_p0 total l mi out cut (l.map (shareL l)) ((l.length : Nat) : Int) l.length = _
    unfold conversion_Divide_p0
    rw [not_lt_len, cond_false]
    rfl
end Go.Ax
