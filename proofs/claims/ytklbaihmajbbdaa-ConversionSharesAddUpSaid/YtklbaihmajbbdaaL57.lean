import Derived.Test.YtklbaihmajbbdaaL50
import Derived.Test.YtklbaihmajbbdaaL24t
set_option linter.all false
/- The shares add up. -/
set_option maxRecDepth 100000
namespace Go.Ax

theorem fracN_ratio {n d m e : Nat} (hd : 0 < d) (he : 0 < e) (h : n * e = m * d) : fracN n d = fracN m e := by
  rw [← fracN_scale e n d he, ← fracN_scale d m e hd, Nat.mul_comm e n, h, Nat.mul_comm d m, Nat.mul_comm e d]
theorem ref1_Add_nat (a b c d : Nat) (hb : b ≤ 1000000000) (hd : d ≤ 1000000000) (hab : a ≤ b) (hcd : c ≤ d) (hb0 : 0 < b) (hd0 : 0 < d) (h1 : Nat.gcd a b = 1) (h2 : Nat.gcd c d = 1) : ref1_AddFractions ⟨a, b⟩ ⟨c, d⟩ = some (fracN (a * d + c * b) (b * d)) := by
  show ref1_AddFractions_p0 ⟨a, b⟩ ⟨c, d⟩ = _
  unfold ref1_AddFractions_p0
  have p1 : a * d ≤ 1000000000 * 1000000000 := Nat.mul_le_mul (by omega) hd
  have p2 : c * b ≤ 1000000000 * 1000000000 := Nat.mul_le_mul (by omega) hb
  have p3 : b * d ≤ 1000000000 * 1000000000 := Nat.mul_le_mul hb hd
  have p0 : 0 < b * d := Nat.mul_pos hb0 hd0
  have hplus : ref1_wide_plus ⟨((0 : Nat) : Int), ((a * d : Nat) : Int)⟩ ⟨((0 : Nat) : Int), ((c * b : Nat) : Int)⟩ = some ⟨0, ((a * d + c * b : Nat) : Int)⟩ := by
    show ref1_wide_plus_p0 _ _ = _
    unfold ref1_wide_plus_p0 math_bits_Add64
    generalize a * d = x at *
    generalize c * b = y at *
    rw [gd_pos (show (0 : Int) ≤ (x : Int) ∧ (0 : Int) ≤ (y : Int) ∧ (0 : Int) ≤ 0 ∧ (0 : Int) ≤ 1 by omega), Option.bind_some]
    show some (GPensionref1_wide.mk (IntKind.u64.wrap ((IntKind.u64.wrap (((0 : Nat) : Int) + ((0 : Nat) : Int))) + ((x : Int) + (y : Int) + 0) / 18446744073709551616)) (((x : Int) + (y : Int) + 0) % 18446744073709551616)) = _
    have e1 : ((x : Int) + (y : Int) + 0) / 18446744073709551616 = 0 := by omega
    have e2 : ((x : Int) + (y : Int) + 0) % 18446744073709551616 = ((x + y : Nat) : Int) := by omega
    rw [e1, e2, u64_in (n := ((0 : Nat) : Int) + ((0 : Nat) : Int)) (by omega) (by omega), u64_in (by omega) (by omega)]
    rfl
  rw [ref1_Valid_nat a b (by omega) hb hb0 h1, ref1_Valid_nat c d (by omega) hd hd0 h2, Option.bind_some, gd_pos (by intro _; rfl)]
  rw [Option.getD_some, Bool.not_true, cond_false, cond_false, ref1_size_nat (a : Int) (by omega) (by omega), Option.bind_some, u64_nat d (by omega), ref1_times_eq a d (by omega) (by omega), Option.bind_some, ref1_size_nat (c : Int) (by omega) (by omega), Option.bind_some, u64_nat b (by omega), ref1_times_eq c b (by omega) (by omega), Option.bind_some, decide_eq_false (show ¬ (a : Int) < 0 by omega), decide_eq_false (show ¬ (c : Int) < 0 by omega), beq_self_eq_true, cond_true,
    Nat.div_eq_of_lt (show a * d < 18446744073709551616 by omega), Nat.mod_eq_of_lt (show a * d < 18446744073709551616 by omega), Nat.div_eq_of_lt (show c * b < 18446744073709551616 by omega), Nat.mod_eq_of_lt (show c * b < 18446744073709551616 by omega), hplus, Option.bind_some, ← Int.natCast_mul, u64_nat (b * d) (by omega), ref1_lowest_nat _ _ (by omega) (by omega) p0, Option.bind_some]
def spN (l : List GHeir) : Int := (l.map fun h => if h.Kind = 1 then (1 : Int) else 0).sum
theorem spN_iff : ∀ {l : List GHeir}, (∀ x ∈ l, heirB x = true) → (0 ≤ spN l ∧ (0 < spN l ↔ 0 < daysL l))
  | [], _ => by simp [spN, daysL]
  | x :: l, hb => by
    obtain ⟨ih0, ih⟩ := spN_iff fun y hy => hb y (List.mem_cons_of_mem _ hy)
    have h0 : 0 ≤ daysL l := (sum_rng daysOf 73049 (by omega) l fun y hy => daysOf_rng (hb y (List.mem_cons_of_mem _ hy))).1
    have hx := (heirB_facts (hb x List.mem_cons_self)).2
    have e1 : spN (x :: l) = (if x.Kind = 1 then (1 : Int) else 0) + spN l := by unfold spN; rw [List.map_cons, List.sum_cons]
    have e2 : daysL (x :: l) = daysOf x + daysL l := by unfold daysL; rw [List.map_cons, List.sum_cons]
    rw [e1, e2]
    unfold daysOf
    rcases hx with ⟨k, d1, d2⟩ | ⟨k, d1⟩ | ⟨k, d1⟩
    · rw [if_pos k, if_pos k]; omega
    · rw [if_neg (by omega), if_neg (by omega)]; omega
    · rw [if_neg (by omega), if_neg (by omega)]; omega
/-- The sum of the first i shares. -/
def accF (l : List GHeir) (i : Nat) : GFraction := (fracN ((l.take i).map (numL l)).sum.toNat (baseD l * wholeL l).toNat).1
theorem baseW {l : List GHeir} (hv : validL l = true) : 100 ≤ baseD l * wholeL l ∧ baseD l * wholeL l ≤ 368166960 := by
  have hb := baseD_rng hv
  have hw := wholeL_rng hv
  have h1 : baseD l * wholeL l ≤ 876588 * 420 := Int.mul_le_mul hb.2 hw.2 (by omega) (by omega)
  have h2 : 1 * 100 ≤ baseD l * wholeL l := Int.mul_le_mul hb.1 hw.1 (by omega) (by omega)
  omega
theorem numL_nonneg {l : List GHeir} (hv : validL l = true) : ∀ x ∈ l, 0 ≤ numL l x := by
  intro x hx
  obtain ⟨n, d, e1, _⟩ := ref_frac l hv x hx
  omega
theorem acc_step {l : List GHeir} (hv : validL l = true) {i : Nat} (hi : i < l.length) : ref1_AddFractions (accF l i) (shareL l l[i]) = some (accF l (i + 1), 0) := by
  have hD := baseW hv
  have hb := baseD_rng hv
  have hw := wholeL_rng hv
  have ha := allPts_rng hv
  have hn0 := numL_nonneg hv
  have s1 := sum_take_le (numL l) l hn0 i
  have s2 := sum_take_le (numL l) l hn0 (i + 1)
  have s3 := map_sum_succ (numL l) l i hi
  have hnt := numL_total hv
  have hall : baseD l * allPts l ≤ baseD l * wholeL l := Int.mul_le_mul_of_nonneg_left (by unfold wholeL; omega) (by omega)
  obtain ⟨n, d, e1, e2, e3, e4, e5, e6⟩ := ref_frac l hv l[i] (List.getElem_mem hi)
  have hni := hn0 l[i] (List.getElem_mem hi)
  rw [← e6]
  unfold accF
  rw [s3]
  rw [s3] at s2
  rw [hnt] at s1 s2
  rw [e1] at s2 ⊢
  rw [e2] at hD hall ⊢
  obtain ⟨S, hS⟩ : ∃ S : Nat, ((l.take i).map (numL l)).sum = (S : Int) := ⟨_, (Int.toNat_of_nonneg s1.1).symm⟩
  rw [hS] at s1 s2 ⊢
  rw [Int.toNat_natCast, Int.toNat_natCast, ← Int.natCast_add, Int.toNat_natCast]
  have hSd : S + n ≤ d := by omega
  obtain ⟨f1, f2, f3, f4, f5⟩ := fracN_facts S d e5 (by omega) (by omega)
  obtain ⟨g1, g2, g3, g4, g5⟩ := fracN_facts n d e5 (by omega) (by omega)
  obtain ⟨k1, _⟩ := fracN_facts (S + n) d e5 (by omega) (by omega)
  have hgS : 0 < Nat.gcd S d := Nat.gcd_pos_of_pos_right _ e5
  have hgn : 0 < Nat.gcd n d := Nat.gcd_pos_of_pos_right _ e5
  have l1 : S / Nat.gcd S d ≤ d / Nat.gcd S d := Nat.div_le_div_right (by omega)
  have l2 : n / Nat.gcd n d ≤ d / Nat.gcd n d := Nat.div_le_div_right (by omega)
  have q1 : S / Nat.gcd S d * d = S * (d / Nat.gcd S d) := by
    have a1 := Nat.div_mul_cancel (Nat.gcd_dvd_left S d)
    have a2 := Nat.div_mul_cancel (Nat.gcd_dvd_right S d)
    generalize S / Nat.gcd S d = x at *
    generalize d / Nat.gcd S d = y at *
    generalize Nat.gcd S d = g at *
    rw [← a1, ← a2, Nat.mul_comm y g, Nat.mul_assoc]
  have q2 : n / Nat.gcd n d * d = n * (d / Nat.gcd n d) := by
    have a1 := Nat.div_mul_cancel (Nat.gcd_dvd_left n d)
    have a2 := Nat.div_mul_cancel (Nat.gcd_dvd_right n d)
    generalize n / Nat.gcd n d = x at *
    generalize d / Nat.gcd n d = y at *
    generalize Nat.gcd n d = g at *
    rw [← a1, ← a2, Nat.mul_comm y g, Nat.mul_assoc]
  rw [f1, g1]
  show ref1_AddFractions ⟨((S / Nat.gcd S d : Nat) : Int), ((d / Nat.gcd S d : Nat) : Int)⟩ ⟨((n / Nat.gcd n d : Nat) : Int), ((d / Nat.gcd n d : Nat) : Int)⟩ = _
  rw [ref1_Add_nat _ _ _ _ (by omega) (by omega) l1 l2 f4 g4 f5 g5]
  have : fracN (S / Nat.gcd S d * (d / Nat.gcd n d) + n / Nat.gcd n d * (d / Nat.gcd S d)) (d / Nat.gcd S d * (d / Nat.gcd n d)) = fracN (S + n) d := by
    refine fracN_ratio (Nat.mul_pos f4 g4) e5 ?_
    generalize S / Nat.gcd S d = x at *
    generalize n / Nat.gcd n d = y at *
    generalize d / Nat.gcd S d = u at *
    generalize d / Nat.gcd n d = v at *
    rw [Nat.add_mul, Nat.add_mul, Nat.mul_right_comm x v d, q1, Nat.mul_right_comm y u d, q2, Nat.mul_assoc S u v, Nat.mul_assoc n v u, Nat.mul_comm v u]
  rw [this, k1]
theorem law_ConversionSharesAddUp (r : List GPensionlaw22_Raw) (hr : r.length ≤ 9223372036854775807) : law22_ConversionSharesAddUp r = some true := by
  show law22_ConversionSharesAddUp_p4 r = _
  unfold law22_ConversionSharesAddUp_p4
  have hv := heirsL_valid r
  generalize hh : heirsL r = h at hv
  rw [law22_Heirs_eq r hr, hh, Option.bind_some, conversion_Shares_eq, if_pos hv, Option.bind_some, law22_awake_eq, Option.bind_some]
  obtain ⟨h1, h2⟩ := validL_facts hv
  have hpr := heirs_rng hv
  have ha := allPts_rng hv
  have hD := baseW hv
  have hb := baseD_rng hv
  have hw := wholeL_rng hv
  show (bif (bif (bif (!true) then true else ((0 : Int) != 0)) then true else ((((h.map (shareL h)).length : Nat) : Int) != ((h.length : Nat) : Int))) then _ else _) = _
  have hml : (h.map (shareL h)).length = h.length := List.length_map _
  rw [hml, bne_self_eq_false, bne_self_eq_false]
  show (fixL (law22_ConversionSharesAddUp_l1 h (h.map (shareL h))) ((0 : Int), (0 : Int), (0 : Int), (GFraction.mk (0 : Int) (1 : Int)))).bind _ = _
  have h00 : accF h 0 = GFraction.mk 0 1 := by
    unfold accF
    obtain ⟨D, hDD⟩ : ∃ D : Nat, baseD h * wholeL h = (D : Int) := ⟨_, (Int.toNat_of_nonneg (by omega)).symm⟩
    rw [hDD] at hD ⊢
    obtain ⟨f1, _⟩ := fracN_facts 0 D (by omega) (by omega) (by omega)
    rw [List.take_zero, List.map_nil, List.sum_nil, Int.toNat_natCast, show (0 : Int).toNat = 0 from rfl, f1, Nat.gcd_zero_left, Nat.zero_div, Nat.div_self (by omega)]
    rfl
  have hloop : fixL (law22_ConversionSharesAddUp_l1 h (h.map (shareL h))) ((0 : Int), (0 : Int), (0 : Int), (GFraction.mk (0 : Int) (1 : Int))) = some (.inr (ptsL h, spN h, accF h h.length)) := by
    have := fixL_st (f := law22_ConversionSharesAddUp_l1 h (h.map (shareL h))) (fun i => (ptsL (h.take i), spN (h.take i), (i : Int), accF h i)) h.length (.inr (ptsL h, spN h, accF h h.length)) ?_ ?_
    · rw [← h00]
      exact this
    · intro i hi
      show law22_ConversionSharesAddUp_p0 h (h.map (shareL h)) (ptsL (h.take i)) (spN (h.take i)) i (accF h i) = some (Sum.inl (ptsL (h.take (i + 1)), spN (h.take (i + 1)), ((i + 1 : Nat) : Int), accF h (i + 1)))
      have him : i < (h.map (shareL h)).length := by omega
      have e6 : ptsL (h.take (i + 1)) = ptsL (h.take i) + ptsOf h[i] := map_sum_succ ptsOf h i hi
      have e7 : spN (h.take (i + 1)) = spN (h.take i) + (if h[i].Kind = 1 then (1 : Int) else 0) := map_sum_succ (fun h : GHeir => if h.Kind = 1 then (1 : Int) else 0) h i hi
      have e8 : 0 ≤ ptsL (h.take i) ∧ ptsL (h.take i) ≤ ptsL h := sum_take_le ptsOf h (fun x _ => (ptsOf_rng x).1) i
      have e9 : 0 ≤ spN (h.take i) ∧ spN (h.take i) ≤ 1 * ((h.take i).length : Int) := sum_rng (fun h : GHeir => if h.Kind = 1 then (1 : Int) else 0) 1 (by omega) (h.take i) (fun x _ => by split <;> omega)
      have e10 : (h.take i).length ≤ 12 := by rw [List.length_take]; omega
      have hx := (heirB_facts (h2 h[i] (List.getElem_mem hi))).2
      unfold law22_ConversionSharesAddUp_p0
      rw [lt_len hi, cond_true, gd_pos (idx_ok hi), getD_nat0 h zGHeir i hi]
      simp only [gd_pos (idx_ok him), getD_nat (h.map (shareL h)) zGFraction i him, List.getElem_map, acc_step hv hi, Option.bind_some]
      rw [bne_self_eq_false, cond_false, w64_succ (by omega), e6, e7]
      unfold ptsOf
      rcases hx with ⟨k, d1, d2⟩ | ⟨k, d1⟩ | ⟨k, d1⟩
      · rw [k, show ((1 : Int) == 1) = true from rfl, cond_true, if_pos rfl, if_pos rfl, Int.add_zero, w64_in (by omega) (by omega)]
      · rw [k, show ((2 : Int) == 1) = false from rfl, cond_false, show ((2 : Int) == 2) = true from rfl, cond_true, if_neg (show ¬ (2 : Int) = 1 by omega), if_pos rfl, if_neg (show ¬ (2 : Int) = 1 by omega), Int.add_zero, w64_in (by omega) (by omega), cond_false]
      · rw [k, show ((3 : Int) == 1) = false from rfl, cond_false, show ((3 : Int) == 2) = false from rfl, cond_false, if_neg (by omega), if_neg (by omega), if_neg (by omega), Int.add_zero, w64_in (by omega) (by omega), cond_false]
    · show law22_ConversionSharesAddUp_p0 h (h.map (shareL h)) (ptsL (h.take h.length)) (spN (h.take h.length)) h.length (accF h h.length) = _
      unfold law22_ConversionSharesAddUp_p0
      rw [not_lt_len, cond_false, List.take_length]
  rw [hloop, Option.bind_some]
  show law22_ConversionSharesAddUp_p2 (ptsL h) (spN h) (accF h h.length) = _
  unfold law22_ConversionSharesAddUp_p2
  have hsp := (spN_iff h2).2
  have hacc : accF h h.length = (fracN (allPts h).toNat (wholeL h).toNat).1 := by
    unfold accF
    rw [List.take_length, numL_total hv]
    obtain ⟨b, hbb⟩ : ∃ b : Nat, baseD h = (b : Int) := ⟨_, (Int.toNat_of_nonneg (by omega)).symm⟩
    obtain ⟨w, hww⟩ : ∃ w : Nat, wholeL h = (w : Int) := ⟨_, (Int.toNat_of_nonneg (by omega)).symm⟩
    obtain ⟨a, haa⟩ : ∃ a : Nat, allPts h = (a : Int) := ⟨_, (Int.toNat_of_nonneg (by omega)).symm⟩
    rw [hbb] at hb
    rw [hbb, hww, haa, ← Int.natCast_mul, ← Int.natCast_mul, Int.toNat_natCast, Int.toNat_natCast, Int.toNat_natCast, Int.toNat_natCast, fracN_scale b a w (by omega)]
  have hfin : law22_ConversionSharesAddUp_p1 (allPts h) (accF h h.length) = some true := by
    unfold law22_ConversionSharesAddUp_p1
    have hwe : (if allPts h < 100 then (100 : Int) else allPts h) = wholeL h := by unfold wholeL; split <;> omega
    rw [hwe, hacc]
    obtain ⟨w, hww⟩ : ∃ w : Nat, wholeL h = (w : Int) := ⟨_, (Int.toNat_of_nonneg (by omega)).symm⟩
    obtain ⟨a, haa⟩ : ∃ a : Nat, allPts h = (a : Int) := ⟨_, (Int.toNat_of_nonneg (by omega)).symm⟩
    rw [hww] at hw
    rw [haa] at ha
    rw [hww, haa, Int.toNat_natCast, Int.toNat_natCast, ref1_Make_nat a w (by omega) (by omega) (by omega), Option.bind_some]
    simp
  by_cases hd : 0 < daysL h
  · rw [decide_eq_true (hsp.2 hd), cond_true]
    have e : w64 (ptsL h + 60) = allPts h := by
      unfold allPts
      rw [if_pos hd, w64_in (by omega) (by omega)]
    rw [e]; exact hfin
  · rw [decide_eq_false (fun q => hd (hsp.1 q)), cond_false]
    have e : ptsL h = allPts h := by
      unfold allPts
      rw [if_neg hd]
    rw [e]; exact hfin
end Go.Ax
