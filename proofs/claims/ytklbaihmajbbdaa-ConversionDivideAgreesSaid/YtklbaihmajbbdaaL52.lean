import Derived.Test.YtklbaihmajbbdaaL51
set_option linter.all false
/- The document's Divide is the program's. -/
set_option maxRecDepth 100000
namespace Go.Ax

theorem baseW_rng {l : List GHeir} (hv : validL l = true) : 100 ≤ baseD l * wholeL l ∧ baseD l * wholeL l ≤ 368166960 := by
  have hb := baseD_rng hv
  have hw := wholeL_rng hv
  have h1 : baseD l * wholeL l ≤ 876588 * 420 := Int.mul_le_mul hb.2 hw.2 (by omega) (by omega)
  have h2 : 1 * 100 ≤ baseD l * wholeL l := Int.mul_le_mul hb.1 hw.1 (by omega) (by omega)
  omega
theorem numL_rng {l : List GHeir} (hv : validL l = true) {h : GHeir} (hm : h ∈ l) : 0 ≤ numL l h ∧ numL l h ≤ baseD l * wholeL l := by
  obtain ⟨n, d, e1, e2, e3, e4, e5, e6⟩ := ref_frac l hv h hm
  have hD := baseW_rng hv
  obtain ⟨f1, f2, f3, f4, f5⟩ := fracN_facts n d e5 (by omega) (by omega)
  have hs := share_le hv hm
  rw [← e6, f1] at hs
  have hs : ((n / Nat.gcd n d : Nat) : Int) ≤ ((d / Nat.gcd n d : Nat) : Int) := hs
  have hle : n / Nat.gcd n d * Nat.gcd n d ≤ d / Nat.gcd n d * Nat.gcd n d := Nat.mul_le_mul_right _ (by omega)
  rw [Nat.div_mul_cancel (Nat.gcd_dvd_left _ _), Nat.div_mul_cancel (Nat.gcd_dvd_right _ _)] at hle
  omega
theorem floor_part {total : Int} (ht : 0 ≤ total ∧ total ≤ 1000000000000) {l : List GHeir} (hv : validL l = true) {h : GHeir} (hm : h ∈ l) : ref21_floor total (numL l h) (baseD l * wholeL l) = some (partL total (shareL l h)) := by
  have hr := numL_rng hv hm
  have hD := baseW_rng hv
  have hsf := shareL_facts hv hm
  rw [partL_eq ht.1 hv hm]
  obtain ⟨n, d, e1, e2, e3, e4, e5, e6⟩ := ref_frac l hv h hm
  obtain ⟨f1, f2, f3, f4, f5⟩ := fracN_facts n d e5 (by omega) (by omega)
  obtain ⟨t, rfl⟩ : ∃ t : Nat, total = (t : Int) := ⟨total.toNat, by omega⟩
  rw [← e6, f1] at hsf
  have hq : ((n / Nat.gcd n d : Nat) : Int) ≤ 4382940 := hsf.1.2
  rw [e1, e2] at hr ⊢
  rw [ref21_floor_eq t n d (by omega) e5 (by omega) (by omega) (by omega)]
  rw [← Int.natCast_mul, ← Int.natCast_ediv]
theorem floor_all {total : Int} (ht : 0 ≤ total ∧ total ≤ 1000000000000) {l : List GHeir} (hv : validL l = true) : ref21_floor total (baseD l * allPts l) (baseD l * wholeL l) = some (sumL total l) := by
  have hD := baseW_rng hv
  have hb := baseD_rng hv
  have hw := wholeL_rng hv
  have ha := allPts_rng hv
  obtain ⟨t, rfl⟩ : ∃ t : Nat, total = (t : Int) := ⟨total.toNat, by omega⟩
  obtain ⟨b, hbb⟩ : ∃ b : Nat, baseD l = (b : Int) := ⟨(baseD l).toNat, by omega⟩
  obtain ⟨a, haa⟩ : ∃ a : Nat, allPts l = (a : Int) := ⟨(allPts l).toNat, by omega⟩
  obtain ⟨w, hww⟩ : ∃ w : Nat, wholeL l = (w : Int) := ⟨(wholeL l).toNat, by omega⟩
  have hwa : w = max 100 a := by unfold wholeL at hww; omega
  have haw : a ≤ w := by omega
  unfold sumL
  rw [hbb, hww] at hD
  rw [hbb] at hb
  rw [hww] at hw
  rw [haa] at ha
  rw [hbb, haa, hww]
  have hba : b * a ≤ b * w := Nat.mul_le_mul_left _ haw
  have hq : b * a / Nat.gcd (b * a) (b * w) ≤ a := by
    rw [Nat.gcd_mul_left, Nat.mul_div_mul_left _ _ (by omega)]
    exact Nat.div_le_self _ _
  have hbw : ((b * w : Nat) : Int) = (b : Int) * (w : Int) := Int.natCast_mul _ _
  rw [← Int.natCast_mul, ← Int.natCast_mul, ref21_floor_eq t (b * a) (b * w) (by omega) (by omega) (by omega) hba (by omega)]
  congr 1
  have e1 : t * (b * a) / (b * w) = t * a / w := by rw [Nat.mul_left_comm, Nat.mul_div_mul_left _ _ (by omega)]
  rw [e1, hwa]
  by_cases h : 100 ≤ a
  · rw [show max 100 a = a by omega, show min (100 : Int) (a : Int) = 100 by omega, Nat.mul_div_cancel _ (by omega), Int.mul_ediv_cancel _ (by omega)]
  · rw [show max 100 a = 100 by omega, show min (100 : Int) (a : Int) = (a : Int) by omega, ← Int.natCast_mul]
    rfl
theorem key_eq {total : Int} (ht : 0 ≤ total) {l : List GHeir} (hv : validL l = true) {h : GHeir} (hm : h ∈ l) : Int.tmod (w64 (Int.tmod total (baseD l * wholeL l) * numL l h)) (baseD l * wholeL l) = total * numL l h % (baseD l * wholeL l) := by
  have hr := numL_rng hv hm
  have hD := baseW_rng hv
  generalize baseD l * wholeL l = D at *
  generalize numL l h = n at *
  have e := emod_rng total (m := D) (by omega)
  rw [Int.tmod_eq_emod_of_nonneg ht]
  have h0 : 0 ≤ total % D * n := Int.mul_nonneg e.1 hr.1
  have h1 : total % D * n ≤ 368166960 * 368166960 := Int.mul_le_mul (by omega) (by omega) hr.1 (by omega)
  rw [w64_in (by omega) (by omega), Int.tmod_eq_emod_of_nonneg h0, Int.mul_emod (total % D), Int.emod_emod_of_dvd _ (Int.dvd_refl _), ← Int.mul_emod]
theorem key_rng {total : Int} {l : List GHeir} (hv : validL l = true) (j : Nat) : 0 ≤ keyL total l j := by
  have hD := baseW_rng hv
  unfold keyL
  exact (emod_rng _ (by omega)).1
def keysL (total : Int) (l : List GHeir) : List Int := (List.range l.length).map (keyL total l)
theorem ref_div_loop1 {total : Int} (ht : 0 ≤ total ∧ total ≤ 1000000000000) {l : List GHeir} (hv : validL l = true) :
    fixL (ref21_Divide_l1 total l (l.map (numL l)) (baseD l * wholeL l)) ((0 : Int), (0 : Int), ([] : List GPart), ([] : List Int), (0 : Int)) = some (baseD l * allPts l, (l.map fun h => partL total (shareL l h)).sum, downL total l, keysL total l) := by
  obtain ⟨h1, h2⟩ := validL_facts hv
  have hD := baseW_rng hv
  have hm := missing_rng ht.1 hv
  have hsr := sumL_rng ht hv
  have hnl : (l.map (numL l)).length = l.length := List.length_map _
  have hdl : (downL total l).length = l.length := List.length_map _
  have hkl : (keysL total l).length = l.length := by simp [keysL]
  have hnt := numL_total hv
  have hn0 : ∀ x ∈ l, 0 ≤ numL l x := fun x hx => (numL_rng hv hx).1
  have hp0 : ∀ x ∈ l, 0 ≤ partL total (shareL l x) := fun x hx => (part_rng ht (shareL_facts hv hx)).2.1.1
  have hall : baseD l * allPts l ≤ 368166960 := by
    have ha := allPts_rng hv
    have hb := baseD_rng hv
    have hw := wholeL_rng hv
    have : baseD l * allPts l ≤ 876588 * 420 := Int.mul_le_mul hb.2 (by omega) (by omega) (by omega)
    omega
  refine fixL_st (f := ref21_Divide_l1 total l (l.map (numL l)) (baseD l * wholeL l)) (fun i => (((l.take i).map (numL l)).sum, ((l.take i).map fun h => partL total (shareL l h)).sum, (downL total l).take i, (keysL total l).take i, (i : Int))) l.length _ ?_ ?_
  · intro i hi
    show ref21_Divide_p0 total l (l.map (numL l)) (baseD l * wholeL l) _ _ ((downL total l).take i) ((keysL total l).take i) i = _
    have hmi := List.getElem_mem hi
    have a1 := sum_take_le (numL l) l hn0 i
    have a2 := sum_take_le (numL l) l hn0 (i + 1)
    have b1 := sum_take_le (fun h => partL total (shareL l h)) l hp0 i
    have b2 := sum_take_le (fun h => partL total (shareL l h)) l hp0 (i + 1)
    have a3 := map_sum_succ (numL l) l i hi
    have b3 := map_sum_succ (fun h => partL total (shareL l h)) l i hi
    have hin : i < (l.map (numL l)).length := by omega
    have t1 : ((downL total l).take i).length = i := by rw [List.length_take]; omega
    have t2 : ((keysL total l).take i).length = i := by rw [List.length_take]; omega
    unfold ref21_Divide_p0
    rw [lt_len hi, cond_true, gd_pos (idx_ok hin), getD_nat _ (0 : Int) i hin, List.getElem_map, floor_part ht hv hmi, Option.bind_some, gd_pos (idx_ok hi), gd_pos (capB_ok (by omega) (by omega)), gd_pos (by omega), gd_pos (idx_ok hin), gd_pos (by omega), gd_pos (capB_ok (by omega) (by omega)), gd_pos (idx_ok hin), key_eq ht.1 hv hmi, getD_nat l zGHeir i hi, w64_succ (by omega), w64_in (n := ((l.take i).map (numL l)).sum + numL l l[i]) (by omega) (by omega), w64_in (n := ((l.take i).map fun h => partL total (shareL l h)).sum + partL total (shareL l l[i])) (by omega) (by omega)]
    congr 2
    refine Prod.ext a3.symm (Prod.ext b3.symm (Prod.ext ?_ (Prod.ext ?_ rfl)))
    · show (downL total l).take i ++ [⟨l[i].Person, partL total (shareL l l[i])⟩] = (downL total l).take (i + 1)
      rw [List.take_succ_eq_append_getElem (by omega)]
      congr 2
      unfold downL
      rw [List.getElem_map]
    · show (keysL total l).take i ++ [total * numL l l[i] % (baseD l * wholeL l)] = (keysL total l).take (i + 1)
      rw [List.take_succ_eq_append_getElem (by omega)]
      congr 2
      unfold keysL
      rw [List.getElem_map, List.getElem_range]
      unfold keyL
      rw [List.getD_eq_getElem?_getD, List.getElem?_eq_getElem hi]
      rfl
  · show ref21_Divide_p0 total l (l.map (numL l)) (baseD l * wholeL l) ((l.take l.length).map (numL l)).sum _ ((downL total l).take l.length) ((keysL total l).take l.length) l.length = _
    unfold ref21_Divide_p0
    rw [not_lt_len, cond_false, List.take_length, hnt, List.take_of_length_le (by omega), List.take_of_length_le (by omega)]
theorem ref_div_loop3 (out o0 : List GPart) (rest r0 : List Int) (more m0 : Int) (hl : rest.length ≤ 1000) :
    fixL (ref21_Divide_l3 o0 r0 m0) (out, rest, more, (-1 : Int), (0 : Int)) = some (out, rest, more, bestS (fun j => rest.getD j 0) rest.length) := by
  refine fixL_st (f := ref21_Divide_l3 o0 r0 m0) (fun i => (out, rest, more, bestS (fun j => rest.getD j 0) i, (i : Int))) rest.length _ ?_ ?_
  · intro i hi
    show ref21_Divide_p1 out rest more (bestS (fun j => rest.getD j 0) i) i = _
    have hb := bestS_ok (fun j => rest.getD j 0) i
    have e : bestS (fun j => rest.getD j 0) (i + 1) = if 0 ≤ rest.getD i 0 ∧ (bestS (fun j => rest.getD j 0) i < 0 ∨ rest.getD (bestS (fun j => rest.getD j 0) i).toNat 0 < rest.getD i 0) then (i : Int) else bestS (fun j => rest.getD j 0) i := rfl
    show _ = some (Sum.inl (out, rest, more, bestS (fun j => rest.getD j 0) (i + 1), ((i + 1 : Nat) : Int)))
    rw [e]
    generalize bestS (fun j => rest.getD j 0) i = b at hb
    unfold ref21_Divide_p1
    have hbr : ¬ b < 0 → 0 ≤ b ∧ b < (rest.length : Int) := by
      intro h
      rcases hb with ⟨q, _⟩ | ⟨c, q, q1, _⟩
      · omega
      · omega
    have g1 : ((!decide (b < 0)) && (decide (0 ≤ rest.getD (0 + Int.toNat (i : Int)) 0) && true)) = true → ¬ b < 0 := by
      intro h
      rw [Bool.and_eq_true] at h
      have := h.1
      simpa using this
    rw [lt_len hi, cond_true, gd_pos (idx_ok hi), gd_pos (fun _ => by omega), gd_pos (fun _ => by omega), gd_pos (fun h => (hbr (g1 h)).1), gd_pos (fun h => (hbr (g1 h)).2), w64_succ (by omega), Nat.zero_add, Int.toNat_natCast, Nat.zero_add]
    by_cases c0 : 0 ≤ rest.getD i 0
    · rw [decide_eq_true c0, cond_true]
      by_cases c1 : b < 0
      · rw [decide_eq_true c1, cond_true, cond_true, if_pos ⟨c0, .inl c1⟩]
      · rw [decide_eq_false c1, cond_false]
        by_cases c2 : rest.getD b.toNat 0 < rest.getD i 0
        · rw [decide_eq_true c2, cond_true, if_pos ⟨c0, .inr c2⟩]
        · rw [decide_eq_false c2, cond_false, if_neg (fun q => q.2.elim c1 c2)]
    · rw [decide_eq_false c0, cond_false, cond_false, if_neg (fun q => c0 q.1)]
  · show ref21_Divide_p1 out rest more (bestS (fun j => rest.getD j 0) rest.length) rest.length = _
    unfold ref21_Divide_p1
    rw [not_lt_len, cond_false]
theorem bestS_congr {R R' : Nat → Int} : ∀ n, (∀ j, j < n → R j = R' j) → bestS R n = bestS R' n
  | 0, _ => rfl
  | n + 1, h => by
    have ih := bestS_congr n fun j hj => h j (by omega)
    unfold bestS
    rw [ih, h n (by omega)]
    rcases bestS_ok R' n with ⟨e, _⟩ | ⟨c, e, h1, _⟩
    · rw [e]
      by_cases h0 : 0 ≤ R' n
      · rw [if_pos ⟨h0, .inl (by omega)⟩, if_pos ⟨h0, .inl (by omega)⟩]
      · rw [if_neg (fun q => h0 q.1), if_neg (fun q => h0 q.1)]
    · rw [e, Int.toNat_natCast, h c (by omega)]
theorem ref_div_loop2 {K : Nat → Int} {s : List Nat} {n M : Nat} (hs : s.Pairwise (befK K)) (hp : s.Perm (List.range n)) (hK : ∀ j, j < n → 0 ≤ K j) (hn : n ≤ 1000) (hM : M ≤ n) (down o0 : List GPart) (r0 : List Int) (m0 : Int) (hd : down.length = n) (hda : ∀ k, k < n → 0 ≤ (down.getD k zGPart).Amount ∧ (down.getD k zGPart).Amount ≤ 1000000000000) :
    fixL (ref21_Divide_l2 o0 r0 m0) (down, leftL K s n 0, (M : Int)) = some ((s.take M).foldl bump down) := by
  have hsl : s.length = n := by rw [hp.length_eq, List.length_range]
  have hnd : s.Nodup := hp.nodup_iff.2 List.nodup_range
  have := fixL_st (f := ref21_Divide_l2 o0 r0 m0) (fun t => ((s.take t).foldl bump down, leftL K s n t, (M : Int) - (t : Int))) M ((s.take M).foldl bump down) ?_ ?_
  · simpa using this
  · intro t ht
    have htl : t < s.length := by omega
    have hst : s[t] < n := List.mem_range.1 (hp.mem_iff.1 (List.getElem_mem htl))
    show ref21_Divide_p7 ((s.take t).foldl bump down) (leftL K s n t) ((M : Int) - (t : Int)) = _
    unfold ref21_Divide_p7
    rw [decide_eq_true (show (0 : Int) < (M : Int) - (t : Int) by omega), cond_true]
    show (fixL (ref21_Divide_l3 _ _ _) (_, _, _, (-1 : Int), (0 : Int))).bind _ = _
    rw [ref_div_loop3 _ _ _ _ _ _ (by rw [leftL_len]; exact hn), Option.bind_some, leftL_len, bestS_congr n (fun j hj => leftL_get hj), best_is hs hp hK (by omega) htl]
    show ref21_Divide_p3 ((s.take t).foldl bump down) (leftL K s n t) ((M : Int) - (t : Int)) ((s[t] : Nat) : Int) = _
    unfold ref21_Divide_p3 ref21_Divide_p2
    have hfl : ((s.take t).foldl bump down).length = n := by rw [fold_length, hd]
    have hfg := fold_get (s.take t) down s[t] (hnd.sublist (List.take_sublist _ _)) (by omega)
    have hr := hda s[t] hst
    rw [decide_eq_false (by omega), cond_false, gd_pos (by omega), gd_pos (by omega), gd_pos (by rw [leftL_len]; omega), Nat.zero_add, Int.toNat_natCast, leftL_set htl hst]
    have hw : w64 ((((s.take t).foldl bump down).getD s[t] zGPart).Amount + 1) = (((s.take t).foldl bump down).getD s[t] zGPart).Amount + 1 := by
      rw [hfg]
      refine w64_in ?_ ?_
      · show _ ≤ (down.getD s[t] zGPart).Amount + (if s[t] ∈ s.take t then 1 else 0) + 1
        split <;> omega
      · show (down.getD s[t] zGPart).Amount + (if s[t] ∈ s.take t then 1 else 0) + 1 ≤ _
        split <;> omega
    rw [hw, w64_in (n := (M : Int) - (t : Int) - 1) (by omega) (by omega)]
    show some (Sum.inl (bump ((s.take t).foldl bump down) s[t], leftL K s n (t + 1), (M : Int) - (t : Int) - 1)) = some (Sum.inl ((s.take (t + 1)).foldl bump down, leftL K s n (t + 1), (M : Int) - ((t + 1 : Nat) : Int)))
    rw [List.take_succ_eq_append_getElem htl, List.foldl_append, show (M : Int) - (t : Int) - 1 = (M : Int) - ((t + 1 : Nat) : Int) by omega]
    rfl
  · show ref21_Divide_p7 ((s.take M).foldl bump down) (leftL K s n M) ((M : Int) - (M : Int)) = _
    unfold ref21_Divide_p7
    rw [decide_eq_false (by omega), cond_false]
theorem ref21_Divide_eq (total : Int) (l : List GHeir) : ref21_Divide total l = some (if 0 ≤ total ∧ total ≤ 1000000000000 then (if validL l then (divideL total l, 0) else ([], 1)) else ([], 1)) := by
  show ref21_Divide_p12 total l = _
  unfold ref21_Divide_p12
  rw [ref21_ValidHeirs_eq, gd_pos (by intro _; rfl)]
  simp only [cond_or]
  by_cases ht : 0 ≤ total ∧ total ≤ 1000000000000
  · rw [if_pos ht, decide_eq_false (show ¬ total < 0 by omega), decide_eq_false (show ¬ 1000000000000 < total by omega), Bool.or_self, Bool.false_or, Option.getD_some]
    cases hv : validL l with
    | false => rfl
    | true =>
      rw [Bool.not_true, cond_false, ref21_points_eq l hv, Option.bind_some, if_pos rfl]
      show (fixL (ref21_Divide_l1 total l (l.map (numL l)) (baseD l * wholeL l)) ((0 : Int), (0 : Int), ([] : List GPart), ([] : List Int), (0 : Int))).bind _ = _
      rw [ref_div_loop1 ht hv, Option.bind_some]
      show ref21_Divide_p10 total (baseD l * wholeL l) (baseD l * allPts l) (l.map fun h => partL total (shareL l h)).sum (downL total l) (keysL total l) = _
      unfold ref21_Divide_p10
      obtain ⟨h1, h2⟩ := validL_facts hv
      have hm := missing_rng ht.1 hv
      have hsr := sumL_rng ht hv
      obtain ⟨s, q1, q2, q3⟩ := divide_fold ht.1 hv
      rw [floor_all ht hv, Option.bind_some, q3]
      have hM : sumL total l - (l.map fun h => partL total (shareL l h)).sum = missL total l := rfl
      have hM0 : 0 ≤ missL total l ∧ missL total l ≤ (l.length : Int) := by rw [← hM]; omega
      rw [hM, w64_in (by omega) (by omega)]
      show (fixL (ref21_Divide_l2 _ _ _) (downL total l, keysL total l, missL total l)).bind _ = _
      have hk : keysL total l = leftL (keyL total l) s l.length 0 := by
        unfold keysL leftL leftK
        simp
      obtain ⟨M, hMM⟩ : ∃ M : Nat, missL total l = (M : Int) := ⟨(missL total l).toNat, by omega⟩
      rw [hk, hMM, ref_div_loop2 (M := M) q1 q2 (fun j _ => key_rng hv j) (by omega) (by omega) (downL total l) _ _ _ (show (downL total l).length = l.length from List.length_map _) (fun k hk => ?_), Option.bind_some, Int.toNat_natCast]
      · rfl
      · have e : (downL total l).getD k zGPart = ⟨l[k].Person, partL total (shareL l l[k])⟩ := by
          unfold downL
          rw [List.getD_eq_getElem?_getD, List.getElem?_map, List.getElem?_eq_getElem hk]
          rfl
        rw [e]
        have hp := (part_rng ht (shareL_facts hv (List.getElem_mem hk))).2
        have hp2 := part_le ht.1 hv (List.getElem_mem hk)
        show 0 ≤ partL total (shareL l l[k]) ∧ partL total (shareL l l[k]) ≤ 1000000000000
        omega
  · rw [if_neg ht]
    have : (decide (total < 0) || decide (1000000000000 < total)) = true := by
      by_cases h : total < 0
      · rw [decide_eq_true h]; rfl
      · rw [decide_eq_true (show 1000000000000 < total by omega), Bool.or_true]
    rw [this, Bool.true_or, cond_true]
theorem Same_Part_self (a : List GPart) (ha : a.length ≤ 1000) : plain_Same_api_Part a a = some true := by
  show plain_Same_api_Part_p3 a a = _
  unfold plain_Same_api_Part_p3
  rw [bne_self_eq_false, cond_false]
  show (fixL (plain_Same_api_Part_l1 a a) ((0 : Nat) : Int)).bind _ = _
  have : fixL (plain_Same_api_Part_l1 a a) ((0 : Nat) : Int) = some (.inr ()) := by
    refine fixL_st (f := plain_Same_api_Part_l1 a a) (fun i => (i : Int)) a.length _ ?_ ?_
    · intro i hi
      show plain_Same_api_Part_p0 a a i = _
      unfold plain_Same_api_Part_p0
      rw [lt_len hi, cond_true, gd_pos (idx_ok hi), gd_pos (idx_ok hi), w64_succ (by omega)]
      simp
    · show plain_Same_api_Part_p0 a a a.length = _
      unfold plain_Same_api_Part_p0
      rw [not_lt_len, cond_false]
  rw [this]; rfl
theorem divide_len (total : Int) (l : List GHeir) : (if 0 ≤ total ∧ total ≤ 1000000000000 then (if validL l then (divideL total l, (0 : Int)) else ([], 1)) else ([], 1)).1.length ≤ 1000 := by
  split
  · next ht =>
    split
    · next hv =>
      have := (divide_sum ht hv).2
      have h1 := (validL_facts hv).1
      show (divideL total l).length ≤ 1000
      omega
    · simp
  · simp
theorem law_ConversionDivideAgrees (r : List GPensionlaw22_Raw) (total : Int) (l : List GHeir) (hr : r.length ≤ 9223372036854775807) : law22_ConversionDivideAgrees r total l = some true := by
  show law22_ConversionDivideAgrees_p0 r total l = _
  unfold law22_ConversionDivideAgrees_p0
  rw [law22_Heirs_eq r hr, Option.bind_some, plain_Amount_eq, Option.bind_some, conversion_Divide_eq, Option.bind_some, ref21_Divide_eq, Option.bind_some, conversion_Divide_eq, Option.bind_some, ref21_Divide_eq, Option.bind_some, law22_awake_eq, Option.bind_some]
  have h1 := divide_len (amountL total) (heirsL r)
  have h2 := divide_len total l
  rw [Same_Part_self _ h1, Same_Part_self _ h2, gd_pos (by intro _; rfl), gd_pos (by intro _; rfl)]
  simp
end Go.Ax
