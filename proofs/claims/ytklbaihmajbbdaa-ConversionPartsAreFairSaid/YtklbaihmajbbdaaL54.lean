import Derived.Test.YtklbaihmajbbdaaL50
import Derived.Test.YtklbaihmajbbdaaL53
set_option linter.all false
/- Each part is the exact share, rounded down or up. -/
set_option maxRecDepth 100000
namespace Go.Ax

theorem perm_sum {s s' : List Nat} (f : Nat → Int) (h : s.Perm s') : (s.map f).sum = (s'.map f).sum := by
  induction h with
  | nil => rfl
  | cons x _ ih => rw [List.map_cons, List.map_cons, List.sum_cons, List.sum_cons, ih]
  | swap x y l => simp only [List.map_cons, List.sum_cons]; omega
  | trans _ _ a b => exact a.trans b
theorem range_map_getD {T U : Type} (l : List T) (z : T) (f : T → U) : (List.range l.length).map (fun j => f (l.getD j z)) = l.map f := by
  apply List.ext_getElem?
  intro j
  rw [List.getElem?_map, List.getElem?_map]
  by_cases h : j < l.length
  · rw [List.getElem?_range h, List.getElem?_eq_getElem h]
    show some (f (l.getD j z)) = some (f l[j])
    rw [List.getD_eq_getElem?_getD, List.getElem?_eq_getElem h]
    rfl
  · rw [List.getElem?_eq_none (by simp; omega), List.getElem?_eq_none (by omega)]
    rfl
theorem sumL_le {total : Int} (ht : 0 ≤ total) {l : List GHeir} (hv : validL l = true) : baseD l * wholeL l * sumL total l ≤ total * (baseD l * allPts l) := by
  have hb := baseD_rng hv
  have ha := allPts_rng hv
  unfold sumL wholeL
  by_cases h : 100 ≤ allPts l
  · rw [show min 100 (allPts l) = 100 by omega, show max 100 (allPts l) = allPts l by omega, Int.mul_ediv_cancel _ (by omega)]
    have : baseD l * allPts l * total = total * (baseD l * allPts l) := Int.mul_comm _ _
    omega
  · rw [show min 100 (allPts l) = allPts l by omega, show max 100 (allPts l) = 100 by omega]
    have e := Int.mul_ediv_add_emod (total * allPts l) 100
    have e2 := emod_rng (total * allPts l) (m := 100) (by omega)
    have e3 : total * (baseD l * allPts l) = baseD l * (total * allPts l) := Int.mul_left_comm _ _ _
    rw [e3, Int.mul_assoc]
    refine Int.mul_le_mul_of_nonneg_left ?_ (by omega)
    omega
theorem quot_sum (t D : Int) (f : GHeir → Int) : ∀ l : List GHeir, t * (l.map f).sum = D * (l.map fun h => t * f h / D).sum + (l.map fun h => t * f h % D).sum
  | [] => by simp
  | x :: l => by
    have ih := quot_sum t D f l
    have e := Int.mul_ediv_add_emod (t * f x) D
    simp only [List.map_cons, List.sum_cons, Int.mul_add]
    omega
theorem keys_sum {total : Int} (ht : 0 ≤ total) {l : List GHeir} (hv : validL l = true) : baseD l * wholeL l * missL total l ≤ ((List.range l.length).map (keyL total l)).sum := by
  have h := quot_sum total (baseD l * wholeL l) (numL l) l
  rw [numL_total hv] at h
  have hs := sumL_le ht hv
  have e : (List.range l.length).map (keyL total l) = l.map fun h => total * numL l h % (baseD l * wholeL l) := range_map_getD l zGHeir fun h => total * numL l h % (baseD l * wholeL l)
  have e2 : (l.map fun h => partL total (shareL l h)) = l.map fun h => total * numL l h / (baseD l * wholeL l) := List.map_congr_left fun h hm => partL_eq ht hv hm
  rw [e]
  unfold missL
  rw [e2, Int.mul_sub]
  omega
theorem sum_le_mul {T : Type} (f : T → Int) (m : Int) : ∀ l : List T, (∀ x ∈ l, f x ≤ m) → (l.map f).sum ≤ m * (l.length : Int)
  | [], _ => by simp
  | x :: l, h => by
    have := sum_le_mul f m l fun y hy => h y (List.mem_cons_of_mem _ hy)
    have := h x List.mem_cons_self
    rw [List.map_cons, List.sum_cons, List.length_cons, Int.natCast_add, Int.mul_add]
    omega
/-- Who gets one more has a rest. -/
theorem given_pos {total : Int} (ht : 0 ≤ total) {l : List GHeir} (hv : validL l = true) {s : List Nat} (hs : s.Pairwise (befK (keyL total l))) (hp : s.Perm (List.range l.length)) {k : Nat} (hk : k ∈ s.take (missL total l).toNat) : 0 < keyL total l k := by
  obtain ⟨t, htl, e⟩ := List.mem_iff_getElem.1 hk
  rw [List.length_take] at htl
  rw [List.getElem_take] at e
  have hD := Int.mul_pos (show 0 < baseD l by have := baseD_rng hv; omega) (show 0 < wholeL l by have := wholeL_rng hv; omega)
  have hn : ∀ j, 0 ≤ keyL total l j ∧ keyL total l j < baseD l * wholeL l := fun j => emod_rng _ hD
  have hm := keys_sum ht hv
  rw [← perm_sum (keyL total l) hp, ← List.take_append_drop t s, List.map_append, List.sum_append] at hm
  rcases Int.lt_or_le 0 (keyL total l k) with h | h
  · exact h
  · exfalso
    have h0 : ∀ x ∈ s.drop t, keyL total l x ≤ 0 := by
      intro x hx
      obtain ⟨j, hj, rfl⟩ := List.mem_iff_getElem.1 hx
      rw [List.length_drop] at hj
      rw [List.getElem_drop]
      by_cases hj0 : j = 0
      · subst hj0
        simp only [Nat.add_zero]
        rw [e]; exact h
      · have := List.pairwise_iff_getElem.1 hs t (t + j) (by omega) (by omega) (by omega)
        rw [e] at this
        unfold befK at this
        omega
    have a := sum_le_mul (keyL total l) 0 (s.drop t) h0
    have b := sum_le_mul (keyL total l) (baseD l * wholeL l - 1) (s.take t) fun x _ => by have := hn x; omega
    rw [List.length_take, show min t s.length = t by omega] at b
    have c : (baseD l * wholeL l - 1) * (t : Int) ≤ baseD l * wholeL l * (t : Int) := Int.mul_le_mul_of_nonneg_right (by omega) (by omega)
    have d : baseD l * wholeL l * missL total l ≤ baseD l * wholeL l * (t : Int) := by omega
    have := Int.le_of_mul_le_mul_left d hD
    omega
theorem share_scale (m : Int) {total : Int} (hm : m = 1 ∨ m = 2) (ht : 0 ≤ total ∧ total ≤ 1000000000000) {l : List GHeir} (hv : validL l = true) {h : GHeir} (hmem : h ∈ l) :
    money_Scale total (shareL l h) ⟨m, 1⟩ = some (partL total (shareL l h) + (if m = 2 ∧ 0 < total * (shareL l h).Num % (shareL l h).Den then 1 else 0), 0) ∧ rational_Valid (shareL l h) = some true := by
  have hb := baseD_rng hv
  have hw := wholeL_rng hv
  have hmul : baseD l * wholeL l ≤ 876588 * 420 := Int.mul_le_mul hb.2 hw.2 (by omega) (by omega)
  have hs := share_le hv hmem
  have hf := shareL_facts hv hmem
  obtain ⟨n, d, e1, e2, e3, e4, e5, e6⟩ := ref_frac l hv h hmem
  obtain ⟨f1, f2, f3, f4, f5⟩ := fracN_facts n d e5 (by omega) (by omega)
  obtain ⟨t, rfl⟩ : ∃ t : Nat, total = (t : Int) := ⟨total.toNat, by omega⟩
  unfold partL
  rw [← e6, f1] at hs hf ⊢
  generalize n / Nat.gcd n d = a at *
  generalize d / Nat.gcd n d = b at *
  have hs : (a : Int) ≤ (b : Int) := hs
  have hf : (0 ≤ (a : Int) ∧ (a : Int) ≤ 4382940) ∧ (1 ≤ (b : Int) ∧ (b : Int) ≤ 1000000000) := hf
  have hta : t * a ≤ 1000000000000 * 4382940 := Nat.mul_le_mul (by omega) (by omega)
  refine ⟨?_, rational_Valid_nat a b (by omega) (by omega) (by omega) f5⟩
  rw [money_scale m t a b hm (by omega) (by omega) (by omega) (by omega) (by omega) f5 (by omega)]
  show some (((t * a / b + (if m = 2 ∧ 0 < t * a % b then 1 else 0) : Nat) : Int), (0 : Int)) = some ((t : Int) * (a : Int) / (b : Int) + (if m = 2 ∧ 0 < (t : Int) * (a : Int) % (b : Int) then 1 else 0), 0)
  rw [← Int.natCast_mul, ← Int.natCast_ediv, ← Int.natCast_emod]
  generalize t * a / b = q
  generalize t * a % b = r
  by_cases hc : m = 2 ∧ 0 < r
  · rw [if_pos hc, if_pos ⟨hc.1, by omega⟩]; rfl
  · rw [if_neg hc, if_neg (fun h => hc ⟨h.1, by omega⟩)]; rfl
theorem rest_pos {total : Int} (ht : 0 ≤ total) {l : List GHeir} (hv : validL l = true) {k : Nat} (hk : k < l.length) (h : 0 < keyL total l k) : 0 < total * (shareL l l[k]).Num % (shareL l l[k]).Den := by
  have hmem := List.getElem_mem hk
  have e := rem_key ht hv hmem
  have hf := shareL_facts hv hmem
  have hD := Int.mul_pos (show 0 < baseD l by have := baseD_rng hv; omega) (show 0 < wholeL l by have := wholeL_rng hv; omega)
  have hkey : keyL total l k = total * numL l l[k] % (baseD l * wholeL l) := by
    unfold keyL
    rw [List.getD_eq_getElem?_getD, List.getElem?_eq_getElem hk]
    rfl
  rw [hkey] at h
  have hp : 0 < total * numL l l[k] % (baseD l * wholeL l) * (shareL l l[k]).Den := Int.mul_pos h (by omega)
  rw [← e] at hp
  rcases Int.lt_or_le 0 (total * (shareL l l[k]).Num % (shareL l l[k]).Den) with h2 | h2
  · exact h2
  · have := Int.mul_le_mul_of_nonneg_right h2 (show 0 ≤ baseD l * wholeL l by omega)
    rw [Int.zero_mul] at this
    omega
theorem law_ConversionPartsAreFair (r : List GPensionlaw22_Raw) (total : Int) (hr : r.length ≤ 9223372036854775807) : law22_ConversionPartsAreFair r total = some true := by
  show law22_ConversionPartsAreFair_p3 r total = _
  unfold law22_ConversionPartsAreFair_p3
  have ht := amountL_rng total
  have hv := heirsL_valid r
  generalize hh : heirsL r = h at hv
  generalize htt : amountL total = t at ht
  rw [law22_Heirs_eq r hr, hh, Option.bind_some, plain_Amount_eq, htt, Option.bind_some, conversion_Divide_eq, if_pos ht, if_pos hv, Option.bind_some, conversion_Shares_eq, if_pos hv, Option.bind_some, law22_awake_eq, Option.bind_some]
  obtain ⟨h1, h2⟩ := validL_facts hv
  obtain ⟨s, hs1, hs2, hl, hg⟩ := divide_get ht.1 hv
  show (bif (bif (bif (bif (bif (!true) then true else ((0 : Int) != 0)) then true else ((0 : Int) != 0)) then true else ((((divideL t h).length : Nat) : Int) != ((h.length : Nat) : Int))) then true else ((((h.map (shareL h)).length : Nat) : Int) != ((h.length : Nat) : Int))) then _ else _) = _
  have hml : (h.map (shareL h)).length = h.length := List.length_map _
  rw [hl, hml, bne_self_eq_false, bne_self_eq_false]
  show (fixL (law22_ConversionPartsAreFair_l1 t (divideL t h) (h.map (shareL h))) (((0 : Nat)) : Int)).bind _ = _
  have hloop : fixL (law22_ConversionPartsAreFair_l1 t (divideL t h) (h.map (shareL h))) (((0 : Nat)) : Int) = some (.inr ()) := by
    refine fixL_st (f := law22_ConversionPartsAreFair_l1 t (divideL t h) (h.map (shareL h))) (fun i => (i : Int)) (divideL t h).length _ ?_ ?_
    · intro i hi
      have hi' : i < h.length := by omega
      have him : i < (h.map (shareL h)).length := by omega
      show law22_ConversionPartsAreFair_p0 t (divideL t h) (h.map (shareL h)) i = _
      have hmem := List.getElem_mem hi'
      obtain ⟨s1, s2⟩ := share_scale 1 (.inl rfl) ht hv hmem
      obtain ⟨s3, _⟩ := share_scale 2 (.inr rfl) ht hv hmem
      have gp : (divideL t h).getD i zGPart = (divideL t h)[i] := by rw [List.getD_eq_getElem?_getD, List.getElem?_eq_getElem hi]; rfl
      have ga : (divideL t h)[i].Amount = partL t (shareL h h[i]) + (if i ∈ s.take (missL t h).toNat then 1 else 0) := by rw [← gp, hg i hi']
      have c1 : ¬ (divideL t h)[i].Amount < partL t (shareL h h[i]) := by
        rw [ga]; split <;> omega
      have c2 : ¬ (partL t (shareL h h[i]) + (if (2 : Int) = 2 ∧ 0 < t * (shareL h h[i]).Num % (shareL h h[i]).Den then 1 else 0)) < (divideL t h)[i].Amount := by
        rw [ga]
        by_cases hb : i ∈ s.take (missL t h).toNat
        · rw [if_pos hb, if_pos ⟨rfl, rest_pos ht.1 hv hi' (given_pos ht.1 hv hs1 hs2 hb)⟩]; omega
        · rw [if_neg hb]; split <;> omega
      generalize (partL t (shareL h h[i]) + (if (2 : Int) = 2 ∧ 0 < t * (shareL h h[i]).Num % (shareL h h[i]).Den then 1 else 0)) = U at s3 c2
      unfold law22_ConversionPartsAreFair_p0
      rw [lt_len hi, cond_true, gd_pos (idx_ok him), getD_nat _ zGFraction i him, List.getElem_map, s1, Option.bind_some, gd_pos (idx_ok him), s3, Option.bind_some, s2, getD_nat _ zGPart i hi]
      simp only [gdi (show (0 : Int) ≤ (i : Int) from by omega), gdi (show (i : Int) < (((divideL t h).length : Nat) : Int) from by omega), gdi (show (i : Int) < (((h.map (shareL h)).length : Nat) : Int) from by omega)]
      rw [gd_pos (by intro _; rfl), if_neg (by omega), Int.add_zero, bne_self_eq_false, cond_false, cond_false, w64_succ (by omega)]
      rw [decide_eq_false c1, cond_false, decide_eq_false c2, cond_false]
      rfl
    · show law22_ConversionPartsAreFair_p0 t (divideL t h) (h.map (shareL h)) (divideL t h).length = _
      unfold law22_ConversionPartsAreFair_p0
      rw [not_lt_len, cond_false]
  rw [hloop]
  rfl
end Go.Ax
