import Derived.Test.YtklbaihmajbbdaaL46
set_option linter.all false
/- What is missing lies between 0 and the number of survivors. -/
set_option maxRecDepth 100000
namespace Go.Ax

theorem missing_core {D q X n S : Int} (hD : 0 < D) (hn : 0 ≤ n) (h1 : D * q ≤ X) (h2 : X ≤ D * q + (D - 1) * n) (h3 : D * S ≤ X) (h4 : X < D * S + D) : q ≤ S ∧ S ≤ q + n := by
  constructor
  · have : D * q < D * (S + 1) := by rw [Int.mul_add, Int.mul_one]; omega
    have := Int.lt_of_mul_lt_mul_left this (by omega)
    omega
  · have e : (D - 1) * n = D * n - n := by rw [Int.sub_mul, Int.one_mul]
    have : D * S ≤ D * (q + n) := by rw [Int.mul_add]; omega
    exact Int.le_of_mul_le_mul_left this hD
theorem numL_total {l : List GHeir} (hv : validL l = true) : (l.map (numL l)).sum = baseD l * allPts l := by
  obtain ⟨h1, h2⟩ := validL_facts hv
  have hr := heirs_rng hv
  have := numL_sum l (baseD l) h2
  show (l.map fun h => if h.Kind = 1 then 60 * h.Days else if h.Kind = 2 then 20 * baseD l else 30 * baseD l).sum = _
  rw [this]
  unfold allPts baseD
  by_cases h : 0 < daysL l
  · rw [if_pos h, show max (daysL l) 1 = daysL l by omega, Int.mul_add]; omega
  · rw [if_neg h, show daysL l = 0 by omega]; omega
theorem map_mul_sum (t : Int) (f : GHeir → Int) : ∀ l : List GHeir, (l.map fun h => t * f h).sum = t * (l.map f).sum
  | [] => by simp
  | x :: l => by rw [List.map_cons, List.sum_cons, map_mul_sum t f l, List.map_cons, List.sum_cons, Int.mul_add]
theorem missing_rng {total : Int} (ht : 0 ≤ total) {l : List GHeir} (hv : validL l = true) : (l.map fun h => partL total (shareL l h)).sum ≤ sumL total l ∧ sumL total l ≤ (l.map fun h => partL total (shareL l h)).sum + (l.length : Int) := by
  have hb := baseD_rng hv
  have hw := wholeL_rng hv
  have ha := allPts_rng hv
  have hD : 0 < baseD l * wholeL l := Int.mul_pos (by omega) (by omega)
  have hf := floor_sum (baseD l * wholeL l) hD (l.map fun h => total * numL l h)
  rw [map_mul_sum, numL_total hv, List.map_map, List.length_map] at hf
  have hq : (l.map fun h => partL total (shareL l h)) = l.map ((· / (baseD l * wholeL l)) ∘ fun h => total * numL l h) := List.map_congr_left fun h hm => partL_eq ht hv hm
  rw [hq]
  refine missing_core hD (by omega) hf.1 hf.2 ?_ ?_
  all_goals
    unfold sumL wholeL
    by_cases h : 100 ≤ allPts l
    · rw [show min 100 (allPts l) = 100 by omega, show max 100 (allPts l) = allPts l by omega, Int.mul_ediv_cancel _ (by omega)]
      have : baseD l * allPts l * total = total * (baseD l * allPts l) := Int.mul_comm _ _
      have hp : 0 < baseD l * allPts l := Int.mul_pos (by omega) (by omega)
      omega
    · rw [show min 100 (allPts l) = allPts l by omega, show max 100 (allPts l) = 100 by omega]
      have e := Int.mul_ediv_add_emod (total * allPts l) 100
      have e2 := emod_rng (total * allPts l) (m := 100) (by omega)
      have e3 : total * (baseD l * allPts l) = baseD l * (total * allPts l) := Int.mul_left_comm _ _ _
      rw [e3, Int.mul_assoc]
      generalize total * allPts l / 100 = S at *
      generalize total * allPts l % 100 = r at *
      rw [← e, Int.mul_add]
      have f1 : 0 ≤ baseD l * r := Int.mul_nonneg (by omega) e2.1
      have f2 : baseD l * r < baseD l * 100 := Int.mul_lt_mul_of_pos_left e2.2 (by omega)
      omega
end Go.Ax
