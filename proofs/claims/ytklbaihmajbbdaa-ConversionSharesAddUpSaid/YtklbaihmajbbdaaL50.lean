import Derived.Test.YtklbaihmajbbdaaL49
set_option linter.all false
/- The parts add up; equal survivors. -/
set_option maxRecDepth 100000
namespace Go.Ax

theorem gdi {α : Type} {p q : Prop} {o : Option α} (h : q) : gd (p → q) o = o := gd_pos fun _ => h
/-- A loop whose states are known. -/
theorem fixL_st {S R : Type} {f : S → Option (S ⊕ R)} (st : Nat → S) (n : Nat) (fin : R) (hs : ∀ i, i < n → f (st i) = some (.inl (st (i + 1)))) (he : f (st n) = some (.inr fin)) : fixL f (st 0) = some fin := by
  have : ∀ m i, i + m = n → fixL f (st i) = some fin := by
    intro m
    induction m with
    | zero => intro i h; rw [fixL_eq, show i = n by omega, he]; rfl
    | succ m ih => intro i h; rw [fixL_eq, hs i (by omega)]; exact ih (i + 1) (by omega)
  exact this n 0 (by omega)
theorem map_sum_succ {T : Type} (f : T → Int) (l : List T) (i : Nat) (hi : i < l.length) : ((l.take (i + 1)).map f).sum = ((l.take i).map f).sum + f l[i] := by
  rw [List.take_succ_eq_append_getElem hi, List.map_append, List.sum_append, List.map_singleton, List.sum_singleton]
theorem sum_nonneg {T : Type} (f : T → Int) : ∀ l : List T, (∀ x ∈ l, 0 ≤ f x) → 0 ≤ (l.map f).sum
  | [], _ => by simp
  | x :: l, h => by
    have := sum_nonneg f l fun y hy => h y (List.mem_cons_of_mem _ hy)
    have := h x List.mem_cons_self
    rw [List.map_cons, List.sum_cons]; omega
theorem sum_take_le {T : Type} (f : T → Int) (l : List T) (h : ∀ x ∈ l, 0 ≤ f x) (i : Nat) : 0 ≤ ((l.take i).map f).sum ∧ ((l.take i).map f).sum ≤ (l.map f).sum := by
  have a := sum_nonneg f (l.take i) fun x hx => h x (List.mem_of_mem_take hx)
  have b := sum_nonneg f (l.drop i) fun x hx => h x (List.mem_of_mem_drop hx)
  have e : (l.map f).sum = ((l.take i).map f).sum + ((l.drop i).map f).sum := by rw [← List.sum_append, ← List.map_append, List.take_append_drop]
  omega
theorem sum_mem_le {T : Type} (f : T → Int) (l : List T) (h : ∀ x ∈ l, 0 ≤ f x) (i : Nat) (hi : i < l.length) : f l[i] ≤ (l.map f).sum := by
  have a := sum_take_le f l h (i + 1)
  have b := sum_take_le f l h i
  rw [map_sum_succ f l i hi] at a
  omega
theorem parts_rng {total : Int} (ht : 0 ≤ total ∧ total ≤ 1000000000000) {l : List GHeir} (hv : validL l = true) : (∀ x ∈ divideL total l, 0 ≤ x.Amount ∧ x.Amount ≤ total) ∧ ∀ i, 0 ≤ sumA ((divideL total l).take i) ∧ sumA ((divideL total l).take i) ≤ total := by
  obtain ⟨s, _, _, hl, hg⟩ := divide_get ht.1 hv
  obtain ⟨hs, _⟩ := divide_sum ht hv
  have hr := sumL_rng ht hv
  have h0 : ∀ x ∈ divideL total l, 0 ≤ x.Amount := by
    intro x hx
    obtain ⟨k, hk, rfl⟩ := List.mem_iff_getElem.1 hx
    have e := hg k (by omega)
    rw [List.getD_eq_getElem?_getD, List.getElem?_eq_getElem hk] at e
    have e' : (divideL total l)[k] = _ := e
    have hf := shareL_facts hv (List.getElem_mem (show k < l.length by omega))
    have := (part_rng ht hf).2.1
    rw [e']
    show 0 ≤ partL total (shareL l l[k]) + _
    split <;> omega
  have hq := sum_take_le GPart.Amount _ h0
  refine ⟨fun x hx => ⟨h0 x hx, ?_⟩, fun i => ?_⟩
  · obtain ⟨k, hk, rfl⟩ := List.mem_iff_getElem.1 hx
    have := sum_mem_le GPart.Amount _ h0 k hk
    show (divideL total l)[k].Amount ≤ total
    have e : ((divideL total l).map GPart.Amount).sum = sumL total l := hs
    omega
  · have := hq i
    have e : ((divideL total l).map GPart.Amount).sum = sumL total l := hs
    show 0 ≤ (((divideL total l).take i).map GPart.Amount).sum ∧ (((divideL total l).take i).map GPart.Amount).sum ≤ total
    omega
theorem spouse_iff {l : List GHeir} (hb : ∀ x ∈ l, heirB x = true) : (l.any fun h => h.Kind == 1) = decide (0 < daysL l) := by
  induction l with
  | nil => rfl
  | cons x l ih =>
    have ih := ih fun y hy => hb y (List.mem_cons_of_mem _ hy)
    have h0 := (sum_rng daysOf 73049 (by omega) l fun y hy => daysOf_rng (hb y (List.mem_cons_of_mem _ hy))).1
    have hx := (heirB_facts (hb x List.mem_cons_self)).2
    rw [List.any_cons, ih]
    have e : daysL (x :: l) = daysOf x + daysL l := by unfold daysL; rw [List.map_cons, List.sum_cons]
    have h0' : 0 ≤ daysL l := h0
    rw [e]
    unfold daysOf
    rcases hx with ⟨k, d1, d2⟩ | ⟨k, d1⟩ | ⟨k, d1⟩
    · rw [if_pos k, k]
      have : decide (0 < x.Days + daysL l) = true := decide_eq_true (by omega)
      rw [this]; rfl
    · rw [if_neg (by omega), k, Int.zero_add]; rfl
    · rw [if_neg (by omega), k, Int.zero_add]; rfl
theorem any_take_succ {T : Type} (p : T → Bool) (l : List T) (i : Nat) (hi : i < l.length) : (l.take (i + 1)).any p = ((l.take i).any p || p l[i]) := by
  rw [List.take_succ_eq_append_getElem hi, List.any_append, List.any_cons, List.any_nil, Bool.or_false]
theorem amountL_rng (n : Int) : 0 ≤ amountL n ∧ amountL n ≤ 1000000000000 := amountL_range n
theorem law_ConversionPartsAddUp (r : List GPensionlaw22_Raw) (total : Int) (hr : r.length ≤ 9223372036854775807) : law22_ConversionPartsAddUp r total = some true := by
  show law22_ConversionPartsAddUp_p5 r total = _
  unfold law22_ConversionPartsAddUp_p5
  have ht := amountL_rng total
  have hv := heirsL_valid r
  generalize hh : heirsL r = h at hv
  generalize htt : amountL total = t at ht
  rw [law22_Heirs_eq r hr, hh, Option.bind_some, plain_Amount_eq, htt, Option.bind_some, conversion_Divide_eq, if_pos ht, if_pos hv, Option.bind_some, conversion_Shares_eq, if_pos hv, Option.bind_some, law22_awake_eq, Option.bind_some]
  obtain ⟨h1, h2⟩ := validL_facts hv
  obtain ⟨s, _, _, hl, hg⟩ := divide_get ht.1 hv
  obtain ⟨hs, _⟩ := divide_sum ht hv
  obtain ⟨p1, p2⟩ := parts_rng ht hv
  have hpr := heirs_rng hv
  show (bif (bif (bif (bif (bif (!true) then true else ((0 : Int) != 0)) then true else ((0 : Int) != 0)) then true else ((((divideL t h).length : Nat) : Int) != ((h.length : Nat) : Int))) then true else ((((h.map (shareL h)).length : Nat) : Int) != ((h.length : Nat) : Int))) then _ else _) = _
  rw [hl, List.length_map, bne_self_eq_false, bne_self_eq_false]
  show law22_ConversionPartsAddUp_p4 h t (divideL t h) = _
  generalize hp : divideL t h = p at hl hg p1 p2 hs
  unfold law22_ConversionPartsAddUp_p4
  have hloop : fixL (law22_ConversionPartsAddUp_l1 h t p) ((0 : Int), (0 : Int), false, (0 : Int)) = some (.inr (sumA p, ptsL h, h.any (fun x => x.Kind == 1))) := fixL_st (f := law22_ConversionPartsAddUp_l1 h t p) (fun i => (sumA (p.take i), ptsL (h.take i), (h.take i).any (fun x => x.Kind == 1), (i : Int))) p.length (.inr (sumA p, ptsL h, h.any (fun x => x.Kind == 1))) ?_ ?_
  · rw [hloop, Option.bind_some]
    show law22_ConversionPartsAddUp_p3 t (sumA p) (ptsL h) (h.any fun x => x.Kind == 1) = _
    unfold law22_ConversionPartsAddUp_p3 law22_ConversionPartsAddUp_p2
    rw [spouse_iff h2, hs]
    have hsr := sumL_rng ht hv
    have hfin : ∀ q : Int, q = allPts h → (some (bif (decide (sumL t h ≤ t)) then (bif (decide (q < 100)) then true else (sumL t h == t)) else false)) = some true := by
      intro q hq
      subst hq
      rw [decide_eq_true hsr.2, cond_true]
      by_cases hc : allPts h < 100
      · rw [decide_eq_true hc]; rfl
      · rw [decide_eq_false hc, cond_false]
        have : sumL t h = t := by
          unfold sumL
          rw [show min 100 (allPts h) = 100 by omega, Int.mul_ediv_cancel _ (by omega)]
        rw [this, beq_self_eq_true]
    unfold allPts at hfin
    by_cases hd : 0 < daysL h
    · rw [decide_eq_true hd, cond_true, w64_in (by omega) (by omega)]
      rw [if_pos hd] at hfin
      exact hfin _ rfl
    · rw [decide_eq_false hd, cond_false]
      rw [if_neg hd] at hfin
      exact hfin _ rfl
  · intro i hi
    have hi' : i < h.length := by omega
    show law22_ConversionPartsAddUp_p1 h t p (sumA (p.take i)) (ptsL (h.take i)) ((h.take i).any fun x => x.Kind == 1) i = some (.inl (sumA (p.take (i + 1)), ptsL (h.take (i + 1)), (h.take (i + 1)).any (fun x => x.Kind == 1), ((i + 1 : Nat) : Int)))
    have gp : p.getD i zGPart = p[i] := by rw [List.getD_eq_getElem?_getD, List.getElem?_eq_getElem hi]; rfl
    have e1 : p[i].Person = h[i].Person := by
      rw [← gp, hg i hi']
    have e2 := p1 p[i] (List.getElem_mem hi)
    have e3 := p2 i
    have e4 := p2 (i + 1)
    have e5 : sumA (p.take (i + 1)) = sumA (p.take i) + p[i].Amount := map_sum_succ GPart.Amount p i hi
    have e6 : ptsL (h.take (i + 1)) = ptsL (h.take i) + ptsOf h[i] := map_sum_succ ptsOf h i hi'
    have e7 := sum_take_le ptsOf h (fun x _ => (ptsOf_rng x).1) i
    have e7' : 0 ≤ ptsL (h.take i) ∧ ptsL (h.take i) ≤ ptsL h := e7
    have hx := (heirB_facts (h2 h[i] (List.getElem_mem hi'))).2
    unfold law22_ConversionPartsAddUp_p1 law22_ConversionPartsAddUp_p0
    rw [lt_len hi, cond_true, gd_pos (idx_ok hi), gd_pos (idx_ok hi'), getD_nat p zGPart i hi, getD_nat0 h zGHeir i hi', e1, bne_self_eq_false]
    simp only [gdi (show (0 : Int) ≤ (i : Int) from by omega), gdi (show (i : Int) < ((p.length : Nat) : Int) from by omega), gdi (show (i : Int) < ((h.length : Nat) : Int) from by omega), gd_pos (idx_ok hi'), gd_pos (idx_ok hi)]
    rw [decide_eq_false (show ¬ p[i].Amount < 0 by omega), decide_eq_false (show ¬ t < p[i].Amount by omega), cond_false, cond_false, cond_false, w64_in (n := sumA (p.take i) + p[i].Amount) (by omega) (by omega), w64_succ (by omega), any_take_succ _ h i hi', e5, e6, cond_or]
    unfold ptsOf
    rcases hx with ⟨k, d1, d2⟩ | ⟨k, d1⟩ | ⟨k, d1⟩
    · rw [k, show ((1 : Int) == 2) = false from rfl, cond_false, show ((1 : Int) == 3) = false from rfl, cond_false, if_pos rfl, Int.add_zero]
    · rw [k, show ((2 : Int) == 2) = true from rfl, cond_true, show ((2 : Int) == 3) = false from rfl, cond_false, if_neg (by omega), if_pos rfl, w64_in (by omega) (by omega)]
    · rw [k, show ((3 : Int) == 2) = false from rfl, cond_false, show ((3 : Int) == 3) = true from rfl, cond_true, if_neg (by omega), if_neg (by omega), w64_in (by omega) (by omega)]
  · show law22_ConversionPartsAddUp_p1 h t p (sumA (p.take p.length)) (ptsL (h.take p.length)) ((h.take p.length).any fun x => x.Kind == 1) p.length = _
    unfold law22_ConversionPartsAddUp_p1
    rw [not_lt_len, cond_false, List.take_length, hl, List.take_length]

/-- Of two equal survivors the earlier one stands ahead. -/
theorem share_same (l : List GHeir) {a b : GHeir} (h1 : a.Kind = b.Kind) (h2 : a.Days = b.Days) : shareL l a = shareL l b ∧ numL l a = numL l b := by
  unfold shareL numL
  rw [h1, h2]
  exact ⟨rfl, rfl⟩
theorem take_ahead {K : Nat → Int} {s : List Nat} (hs : s.Pairwise (befK K)) {a b : Nat} (ha : a ∈ s) (hk : K a = K b) (hab : a < b) (m : Nat) (hb : b ∈ s.take m) : a ∈ s.take m := by
  obtain ⟨i, hi, ei⟩ := List.mem_iff_getElem.1 ha
  obtain ⟨j, hj, ej⟩ := List.mem_iff_getElem.1 hb
  rw [List.length_take] at hj
  rw [List.getElem_take] at ej
  have hij : i ≤ j := by
    rcases Nat.lt_or_ge j i with h | h
    · have := List.pairwise_iff_getElem.1 hs j i (by omega) hi h
      rw [ei, ej] at this
      unfold befK at this
      omega
    · exact h
  refine List.mem_iff_getElem.2 ⟨i, by rw [List.length_take]; omega, ?_⟩
  rw [List.getElem_take]; exact ei
theorem law_ConversionEqualSurvivors (r : List GPensionlaw22_Raw) (total i k : Int) (hr : r.length ≤ 9223372036854775807) : law22_ConversionEqualSurvivors r total i k = some true := by
  show law22_ConversionEqualSurvivors_p1 r total i k = _
  unfold law22_ConversionEqualSurvivors_p1
  have ht := amountL_rng total
  have hv := heirsL_valid r
  generalize hh : heirsL r = h at hv
  generalize htt : amountL total = t at ht
  rw [law22_Heirs_eq r hr, hh, Option.bind_some, plain_Amount_eq, htt, Option.bind_some, conversion_Divide_eq, if_pos ht, if_pos hv, Option.bind_some, law22_awake_eq, Option.bind_some]
  obtain ⟨h1, h2⟩ := validL_facts hv
  obtain ⟨s, hs1, hs2, hl, hg⟩ := divide_get ht.1 hv
  obtain ⟨p1, p2⟩ := parts_rng ht hv
  show (bif (bif (bif (!true) then true else ((0 : Int) != 0)) then true else ((((divideL t h).length : Nat) : Int) != ((h.length : Nat) : Int))) then _ else _) = _
  rw [hl, bne_self_eq_false, bne_self_eq_false]
  show (bif (decide (((h.length : Nat) : Int) < (2 : Int))) then (some true) else _) = _
  by_cases h3 : ((h.length : Nat) : Int) < 2
  · rw [decide_eq_true h3]; rfl
  · rw [decide_eq_false h3, cond_false, plain_Mod_eq _ _ (by omega) (by omega), Option.bind_some, plain_Mod_eq _ _ (by omega) (by omega), Option.bind_some]
    have ra := emod_rng i (m := ((h.length : Nat) : Int)) (by omega)
    have rb := emod_rng k (m := ((h.length : Nat) : Int)) (by omega)
    obtain ⟨a, ha⟩ : ∃ a : Nat, i % ((h.length : Nat) : Int) = (a : Int) := ⟨(i % ((h.length : Nat) : Int)).toNat, by omega⟩
    obtain ⟨b, hb⟩ : ∃ b : Nat, k % ((h.length : Nat) : Int) = (b : Int) := ⟨(k % ((h.length : Nat) : Int)).toNat, by omega⟩
    rw [ha] at ra
    rw [hb] at rb
    have la : a < h.length := by omega
    have lb : b < h.length := by omega
    rw [ha, hb]
    simp only [gdi (show (0 : Int) ≤ (a : Int) from by omega), gdi (show (0 : Int) ≤ (b : Int) from by omega), gdi (show (a : Int) < ((h.length : Nat) : Int) from by omega), gdi (show (b : Int) < ((h.length : Nat) : Int) from by omega)]
    rw [getD_nat0 h zGHeir a la, getD_nat0 h zGHeir b lb]
    by_cases c1 : (b : Int) ≤ (a : Int)
    · rw [decide_eq_true c1]; rfl
    rw [decide_eq_false c1, cond_false]
    by_cases c2 : ¬ h[a].Kind = h[b].Kind
    · rw [bne_iff_ne.2 c2]; rfl
    have c2 := Classical.not_not.1 c2
    by_cases c3 : ¬ h[a].Days = h[b].Days
    · rw [bne_iff_ne.2 c3, c2, bne_self_eq_false]; rfl
    have c3 := Classical.not_not.1 c3
    rw [c2, c3, bne_self_eq_false, bne_self_eq_false]
    show law22_ConversionEqualSurvivors_p0 (divideL t h) a b = _
    have pa : a < (divideL t h).length := by omega
    have pb : b < (divideL t h).length := by omega
    have ga : (divideL t h)[a] = (divideL t h).getD a zGPart := by rw [List.getD_eq_getElem?_getD, List.getElem?_eq_getElem pa]; rfl
    have gb : (divideL t h)[b] = (divideL t h).getD b zGPart := by rw [List.getD_eq_getElem?_getD, List.getElem?_eq_getElem pb]; rfl
    have hpa := p1 _ (List.getElem_mem pa)
    have hpb := p1 _ (List.getElem_mem pb)
    have hea : (divideL t h)[a].Amount = partL t (shareL h h[a]) + (if a ∈ s.take (missL t h).toNat then 1 else 0) := by
      rw [ga, hg a la]
    have heb : (divideL t h)[b].Amount = partL t (shareL h h[b]) + (if b ∈ s.take (missL t h).toNat then 1 else 0) := by
      rw [gb, hg b lb]
    unfold law22_ConversionEqualSurvivors_p0
    rw [gd_pos (idx_ok pa), gd_pos (idx_ok pb)]
    simp only [gdi (show (0 : Int) ≤ (a : Int) from by omega), gdi (show (0 : Int) ≤ (b : Int) from by omega), gdi (show (a : Int) < (((divideL t h).length : Nat) : Int) from by omega), gdi (show (b : Int) < (((divideL t h).length : Nat) : Int) from by omega)]
    rw [getD_nat (divideL t h) zGPart a pa, getD_nat (divideL t h) zGPart b pb, w64_in (by omega) (by omega)]
    obtain ⟨q1, q2⟩ := share_same h c2 c3
    have hkey : keyL t h a = keyL t h b := by
      unfold keyL
      rw [List.getD_eq_getElem?_getD, List.getElem?_eq_getElem la, List.getD_eq_getElem?_getD, List.getElem?_eq_getElem lb]
      show t * numL h h[a] % _ = t * numL h h[b] % _
      rw [q2]
    have hma : a ∈ s := hs2.mem_iff.2 (List.mem_range.2 la)
    have himp := take_ahead hs1 hma hkey (by omega) (missL t h).toNat
    rw [q1] at hea
    have : (divideL t h)[a].Amount = (divideL t h)[b].Amount ∨ (divideL t h)[a].Amount = (divideL t h)[b].Amount + 1 := by
      rw [hea, heb]
      by_cases m1 : b ∈ s.take (missL t h).toNat
      · rw [if_pos m1, if_pos (himp m1)]; exact .inl rfl
      · rw [if_neg m1]
        by_cases m2 : a ∈ s.take (missL t h).toNat
        · rw [if_pos m2]; omega
        · rw [if_neg m2]; omega
    rcases this with e | e
    · rw [e, beq_self_eq_true]; rfl
    · by_cases e2 : (divideL t h)[a].Amount = (divideL t h)[b].Amount
      · rw [e2, beq_self_eq_true]; rfl
      · rw [beq_eq_false_iff_ne.2 e2, cond_false, beq_iff_eq.2 e]
end Go.Ax
