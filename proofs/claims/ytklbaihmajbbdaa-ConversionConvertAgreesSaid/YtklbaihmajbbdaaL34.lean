import Derived.Test.YtklbaihmajbbdaaL33a
import Derived.Test.YtklbaihmajbbdaaL32r
set_option linter.all false
/- Survivors: the document's shares. -/
set_option maxRecDepth 100000
namespace Go.Ax

def refPt (h : GHeir) (a : Int × Int) : (Int × Int) ⊕ (Int × Int) := .inl (a.1 + daysOf h, a.2 + ptsOf h + (if h.Kind = 1 ∧ a.1 = 0 then 60 else 0))
theorem refPt_fold : ∀ (l : List GHeir) (a : Int × Int), (∀ x ∈ l, heirB x = true) → 0 ≤ a.1 → runE refPt id l a = (a.1 + daysL l, a.2 + ptsL l + (if a.1 = 0 ∧ 0 < daysL l then 60 else 0))
  | [], a, _, _ => by simp [runE, ptsL, daysL]
  | x :: l, a, hb, h0 => by
    have hx := heirB_facts (hb x List.mem_cons_self)
    have hxd := daysOf_rng (hb x List.mem_cons_self)
    have hl := (sum_rng daysOf 73049 (by omega) l fun y hy => daysOf_rng (hb y (List.mem_cons_of_mem _ hy))).1
    show runE refPt id l (a.1 + daysOf x, a.2 + ptsOf x + (if x.Kind = 1 ∧ a.1 = 0 then 60 else 0)) = _
    rw [refPt_fold l _ (fun y hy => hb y (List.mem_cons_of_mem _ hy)) (by show 0 ≤ a.1 + daysOf x; omega)]
    simp only [ptsL, daysL, List.map_cons, List.sum_cons]
    refine Prod.ext (by show a.1 + daysOf x + (l.map daysOf).sum = a.1 + (daysOf x + (l.map daysOf).sum); omega) ?_
    show a.2 + ptsOf x + (if x.Kind = 1 ∧ a.1 = 0 then 60 else 0) + (l.map ptsOf).sum + (if a.1 + daysOf x = 0 ∧ 0 < (l.map daysOf).sum then 60 else 0) = a.2 + (ptsOf x + (l.map ptsOf).sum) + (if a.1 = 0 ∧ 0 < daysOf x + (l.map daysOf).sum then 60 else 0)
    by_cases k : x.Kind = 1
    · have hd : daysOf x = x.Days := by unfold daysOf; rw [if_pos k]
      have : 1 ≤ x.Days := by omega
      by_cases h1 : a.1 = 0
      · rw [if_pos ⟨k, h1⟩, if_neg (by omega), if_pos (by omega)]; omega
      · rw [if_neg (by omega), if_neg (by omega), if_neg (by omega)]; omega
    · have hd : daysOf x = 0 := by unfold daysOf; rw [if_neg k]
      rw [if_neg (by omega), hd]
      by_cases h1 : a.1 = 0 ∧ 0 < (l.map daysOf).sum
      · rw [if_pos (by omega), if_pos (by omega)]; omega
      · rw [if_neg (by omega), if_neg (by omega)]; omega
theorem ref_points_loop (l : List GHeir) (hv : validL l = true) : fixL (ref21_points_l1 l) (0, 0, 0) = some (daysL l, allPts l) := by
  obtain ⟨h1, h2⟩ := validL_facts hv
  have hr := heirs_rng hv
  have := fixL_list0 (f := ref21_points_l1 l) l (fun i (a : Int × Int) => (a.1, a.2, (i : Int))) (fun i a => (0 ≤ a.1 ∧ a.1 ≤ 73049 * i) ∧ (0 ≤ a.2 ∧ a.2 ≤ 100 * i)) refPt id (0, 0) (by simp) ?_ ?_ ?_
  · rw [show ((0 : Int), (0 : Int), (0 : Int)) = ((0 : Int), (0 : Int), ((0 : Nat) : Int)) from rfl, this, refPt_fold l _ h2 (by show (0 : Int) ≤ 0; omega)]
    show some ((0 : Int) + daysL l, (0 : Int) + ptsL l + (if (0 : Int) = 0 ∧ 0 < daysL l then 60 else 0)) = _
    unfold allPts
    rw [Int.zero_add, Int.zero_add]
    by_cases h : 0 < daysL l
    · rw [if_pos ⟨rfl, h⟩, if_pos h]
    · rw [if_neg (by omega), if_neg h, Int.add_zero]
  · rintro i hi ⟨s, p⟩ ⟨b1, b2⟩
    show ref21_points_p1 l s p i = some (.inl (s + daysOf l[i], p + ptsOf l[i] + (if l[i].Kind = 1 ∧ s = 0 then 60 else 0), ((i + 1 : Nat) : Int)))
    have b1 : 0 ≤ s ∧ s ≤ 73049 * (i : Int) := b1
    have b2 : 0 ≤ p ∧ p ≤ 100 * (i : Int) := b2
    have hx := (heirB_facts (h2 l[i] (List.getElem_mem hi))).2
    unfold ref21_points_p1 ref21_points_p0
    rw [lt_len hi, cond_true, gd_pos (idx_ok hi), getD_nat l zGHeir i hi, w64_succ (by omega)]
    simp only [gd_pos (idx_ok hi)]
    unfold ptsOf daysOf
    rcases hx with ⟨k, d1, d2⟩ | ⟨k, d1⟩ | ⟨k, d1⟩
    · rw [k, show ((1 : Int) == 1) = true from rfl, cond_true, if_pos rfl, if_pos rfl, w64_in (n := s + l[i].Days) (by omega) (by omega), w64_in (n := p + 60) (by omega) (by omega), Int.add_zero]
      by_cases hs : s = 0
      · rw [show (s == 0) = true from beq_iff_eq.2 hs, cond_true, if_pos ⟨rfl, hs⟩]
      · rw [show (s == 0) = false from beq_eq_false_iff_ne.2 hs, cond_false, if_neg (by omega), Int.add_zero]
    · rw [k, show ((2 : Int) == 1) = false from rfl, cond_false, show ((2 : Int) == 2) = true from rfl, cond_true, if_neg (by omega), if_neg (by omega), if_pos rfl, if_neg (by omega), w64_in (by omega) (by omega), Int.add_zero, Int.add_zero]
    · rw [k, show ((3 : Int) == 1) = false from rfl, cond_false, show ((3 : Int) == 2) = false from rfl, cond_false, if_neg (by omega), if_neg (by omega), if_neg (by omega), if_neg (by omega), w64_in (by omega) (by omega), Int.add_zero, Int.add_zero]
  · rintro i hi ⟨s, p⟩ a' ⟨b1, b2⟩ hg
    cases hg
    have c1 := ptsOf_rng l[i]
    have c2 := daysOf_rng (h2 l[i] (List.getElem_mem hi))
    have b1 : 0 ≤ s ∧ s ≤ 73049 * (i : Int) := b1
    have b2 : 0 ≤ p ∧ p ≤ 100 * (i : Int) := b2
    show (0 ≤ s + daysOf l[i] ∧ s + daysOf l[i] ≤ 73049 * ((i + 1 : Nat) : Int)) ∧ (0 ≤ p + ptsOf l[i] + (if l[i].Kind = 1 ∧ s = 0 then 60 else 0) ∧ p + ptsOf l[i] + (if l[i].Kind = 1 ∧ s = 0 then 60 else 0) ≤ 100 * ((i + 1 : Nat) : Int))
    split <;> omega
  · rintro ⟨s, p⟩ _
    show ref21_points_p1 l s p l.length = _
    unfold ref21_points_p1
    rw [not_lt_len, cond_false]
    rfl
theorem ref_points_loop2 (l : List GHeir) (s p s0 p0 : Int) (hl : l.length ≤ 12) (hs : s = baseD l) (hsr : 1 ≤ s ∧ s ≤ 876588) (h2 : ∀ x ∈ l, heirB x = true) : fixL (ref21_points_l2 l s0 p0) (s, p, [], 0) = some (s, p, l.map (numL l)) := by
  have := fixL_list0 (f := ref21_points_l2 l s0 p0) l (fun i (o : List Int) => (s, p, o, (i : Int))) (fun i o => o.length = i) (fun h o => .inl (o ++ [numL l h])) (fun o => (s, p, o)) [] rfl ?_ ?_ ?_
  · rw [show (s, p, ([] : List Int), (0 : Int)) = (s, p, ([] : List Int), ((0 : Nat) : Int)) from rfl, this, runE_fold, map_fold]
    rfl
  · intro i hi o ho
    show ref21_points_p2 l s p o i = _
    unfold ref21_points_p2
    have hcap : capB (o.length + 1) 8 := capB_ok (by omega) (by omega)
    have hx := (heirB_facts (h2 l[i] (List.getElem_mem hi))).2
    rw [lt_len hi, cond_true, gd_pos (idx_ok hi), getD_nat l zGHeir i hi, w64_succ (by omega)]
    simp only [gd_pos hcap, gd_pos (idx_ok hi)]
    unfold numL
    rw [← hs]
    rcases hx with ⟨k, d1, d2⟩ | ⟨k, d1⟩ | ⟨k, d1⟩
    · rw [k, show ((1 : Int) == 1) = true from rfl, cond_true, if_pos rfl, w64_in (by omega) (by omega)]
    · rw [k, show ((2 : Int) == 1) = false from rfl, cond_false, show ((2 : Int) == 2) = true from rfl, cond_true, if_neg (by omega), if_pos rfl, w64_in (by omega) (by omega)]
    · rw [k, show ((3 : Int) == 1) = false from rfl, cond_false, show ((3 : Int) == 2) = false from rfl, cond_false, if_neg (by omega), if_neg (by omega), w64_in (by omega) (by omega)]
  · intro i hi o o' ho hg
    cases hg
    simp [ho]
  · intro o ho
    show ref21_points_p2 l s p o l.length = _
    unfold ref21_points_p2
    rw [not_lt_len, cond_false]
theorem ref21_points_eq (l : List GHeir) (hv : validL l = true) : ref21_points l = some (l.map (numL l), baseD l * wholeL l) := by
  obtain ⟨h1, h2⟩ := validL_facts hv
  have hr := heirs_rng hv
  have hb := baseD_rng hv
  have hw := wholeL_rng hv
  show (fixL (ref21_points_l1 l) (0, 0, 0)).bind _ = _
  rw [ref_points_loop l hv, Option.bind_some]
  show ref21_points_p4 l (if daysL l < 1 then 1 else daysL l) (allPts l) = _
  rw [show (if daysL l < 1 then 1 else daysL l) = baseD l by unfold baseD; omega]
  show (fixL (ref21_points_l2 l (baseD l) (allPts l)) (baseD l, allPts l, [], 0)).bind _ = _
  rw [ref_points_loop2 l _ _ _ _ h1 rfl hb h2, Option.bind_some]
  show ref21_points_p3 (baseD l) (allPts l) (l.map (numL l)) = _
  unfold ref21_points_p3
  rw [show (if (100 : Int) < allPts l then allPts l else 100) = wholeL l by unfold wholeL; omega]
  have hm : baseD l * wholeL l ≤ 876588 * 420 := Int.mul_le_mul hb.2 hw.2 (by omega) (by omega)
  have hm0 : 0 ≤ baseD l * wholeL l := Int.mul_nonneg (by omega) (by omega)
  rw [w64_in (by omega) (by omega)]
theorem ref21_Shares_eq (l : List GHeir) : ref21_Shares l = some (if validL l then (l.map (shareL l), 0) else ([], 1)) := by
  show ref21_Shares_p3 l = _
  unfold ref21_Shares_p3
  rw [ref21_ValidHeirs_eq, Option.bind_some]
  cases hv : validL l with
  | false => rfl
  | true =>
    obtain ⟨h1, h2⟩ := validL_facts hv
    rw [show (!true) = false from rfl, cond_false, ref21_points_eq l hv, Option.bind_some, if_pos rfl]
    show (fixL (ref21_Shares_l1 (l.map (numL l)) (baseD l * wholeL l)) ([], ((0 : Nat) : Int))).bind _ = _
    have hlen : (l.map (numL l)).length = l.length := List.length_map _
    have := fixL_list0 (f := ref21_Shares_l1 (l.map (numL l)) (baseD l * wholeL l)) l (fun i (o : List GFraction) => (o, (i : Int))) (fun i o => o.length = i) (fun h o => .inl (o ++ [shareL l h])) id [] rfl ?_ ?_ ?_
    · rw [this, runE_fold, map_fold, Option.bind_some]
      rfl
    · intro i hi o ho
      show ref21_Shares_p0 (l.map (numL l)) (baseD l * wholeL l) o i = _
      unfold ref21_Shares_p0
      have hcap : capB (o.length + 1) 16 := capB_ok (by omega) (by omega)
      obtain ⟨n, d, e1, e2, e3, e4, e5, e6⟩ := ref_frac l hv l[i] (List.getElem_mem hi)
      rw [lt_len (show i < (l.map (numL l)).length by omega), cond_true, gd_pos (idx_ok (show i < (l.map (numL l)).length by omega)), getD_nat _ 0 i (by omega), w64_succ (by omega), List.getElem_map, e1, e2, ref1_Make_nat n d (by omega) (by omega) e5, Option.bind_some, gd_pos hcap, e6]
    · intro i hi o o' ho hg
      cases hg
      simp [ho]
    · intro o ho
      show ref21_Shares_p0 (l.map (numL l)) (baseD l * wholeL l) o l.length = _
      unfold ref21_Shares_p0
      rw [hlen, not_lt_len, cond_false]
      rfl
end Go.Ax
