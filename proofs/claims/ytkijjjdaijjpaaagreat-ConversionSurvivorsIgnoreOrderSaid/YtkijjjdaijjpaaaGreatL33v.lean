import Derived.Test.YtkijjjdaijjpaaaGreatL32v
import Derived.Test.YtkijjjdaijjpaaaGreatL20v
set_option linter.all false
/- Survivors: points and shares. -/
set_option maxRecDepth 100000
namespace Go.Ax

def daysOf (h : GHeir) : Int := if h.Kind = 1 then h.Days else 0
def ptsOf (h : GHeir) : Int := if h.Kind = 1 then 0 else if h.Kind = 2 then 20 else 30
def daysL (l : List GHeir) : Int := (l.map daysOf).sum
def ptsL (l : List GHeir) : Int := (l.map ptsOf).sum
theorem heirB_facts {h : GHeir} (e : heirB h = true) : (1 ≤ h.Person ∧ h.Person ≤ 99) ∧ ((h.Kind = 1 ∧ 1 ≤ h.Days ∧ h.Days ≤ 73049) ∨ (h.Kind = 2 ∧ h.Days = 0) ∨ (h.Kind = 3 ∧ h.Days = 0)) := by
  unfold heirB at e
  rw [Bool.and_eq_true] at e
  refine ⟨by simpa using e.1, ?_⟩
  have e2 := e.2
  by_cases k : h.Kind = 1
  · rw [if_pos k] at e2
    simp only [Bool.and_eq_true, decide_eq_true_eq] at e2
    exact .inl ⟨k, e2⟩
  · rw [if_neg k] at e2
    simp only [Bool.and_eq_true, Bool.or_eq_true, beq_iff_eq] at e2
    rcases e2 with ⟨h1 | h1, h2⟩
    · exact .inr (.inl ⟨h1, h2⟩)
    · exact .inr (.inr ⟨h1, h2⟩)
theorem daysOf_rng {h : GHeir} (e : heirB h = true) : 0 ≤ daysOf h ∧ daysOf h ≤ 73049 := by
  have := (heirB_facts e).2
  unfold daysOf
  split <;> omega
theorem ptsOf_rng (h : GHeir) : 0 ≤ ptsOf h ∧ ptsOf h ≤ 30 := by
  unfold ptsOf
  split
  · omega
  · split <;> omega
theorem sum_rng (f : GHeir → Int) (m : Int) (hm : 0 ≤ m) : ∀ (l : List GHeir), (∀ x ∈ l, 0 ≤ f x ∧ f x ≤ m) → 0 ≤ (l.map f).sum ∧ (l.map f).sum ≤ m * l.length
  | [], _ => by simp
  | x :: l, h => by
    have := sum_rng f m hm l (fun y hy => h y (List.mem_cons_of_mem _ hy))
    have hx := h x List.mem_cons_self
    rw [List.map_cons, List.sum_cons, List.length_cons, Int.natCast_add, Int.mul_add]
    omega
def ptG (h : GHeir) (a : Int × Int) : (Int × Int) ⊕ (Int × Int) := .inl (a.1 + ptsOf h, a.2 + daysOf h)
theorem points_fold : ∀ (l : List GHeir) (a : Int × Int), runE ptG id l a = (a.1 + ptsL l, a.2 + daysL l)
  | [], a => by simp [runE, ptsL, daysL]
  | x :: l, a => by
    show runE ptG id l (a.1 + ptsOf x, a.2 + daysOf x) = _
    rw [points_fold l]
    simp only [ptsL, daysL, List.map_cons, List.sum_cons]
    rw [Int.add_assoc, Int.add_assoc]
theorem heirs_rng {l : List GHeir} (h : validL l = true) : (0 ≤ daysL l ∧ daysL l ≤ 876588) ∧ (0 ≤ ptsL l ∧ ptsL l ≤ 360) := by
  obtain ⟨h1, h2⟩ := validL_facts h
  have a := sum_rng daysOf 73049 (by omega) l fun x hx => daysOf_rng (h2 x hx)
  have b := sum_rng ptsOf 30 (by omega) l fun x _ => ptsOf_rng x
  unfold daysL ptsL
  omega
/-- All points. -/
def allPts (l : List GHeir) : Int := if 0 < daysL l then ptsL l + 60 else ptsL l
theorem conversion_points_eq (l : List GHeir) (hv : validL l = true) : conversion_points l = some (allPts l, daysL l) := by
  obtain ⟨h1, h2⟩ := validL_facts hv
  have hr := heirs_rng hv
  show (fixL (conversion_points_l1 l) ((0 : Int), (0 : Int), ((0 : Nat) : Int))).bind _ = _
  have := fixL_list0 (f := conversion_points_l1 l) l (fun i (a : Int × Int) => (a.1, a.2, (i : Int))) (fun i a => (0 ≤ a.1 ∧ a.1 ≤ 30 * i) ∧ (0 ≤ a.2 ∧ a.2 ≤ 73049 * i)) ptG id (0, 0) (by simp) ?_ ?_ ?_
  · rw [this, points_fold, Option.bind_some]
    show conversion_points_p2 (0 + ptsL l) (0 + daysL l) = _
    unfold conversion_points_p2 allPts
    rw [Int.zero_add, Int.zero_add]
    by_cases h : 0 < daysL l
    · rw [decide_eq_true h, cond_true, if_pos h, w64_in (by omega) (by omega)]
    · rw [decide_eq_false h, cond_false, if_neg h]
  · rintro i hi ⟨p, d⟩ ⟨b1, b2⟩
    show conversion_points_p1 p d l i = some (.inl (p + ptsOf l[i], d + daysOf l[i], ((i + 1 : Nat) : Int)))
    have b1 : 0 ≤ p ∧ p ≤ 30 * (i : Int) := b1
    have b2 : 0 ≤ d ∧ d ≤ 73049 * (i : Int) := b2
    unfold conversion_points_p1
    rw [lt_len hi, cond_true, gd_pos (idx_ok hi), getD_nat l zGHeir i hi]
    have hx := (heirB_facts (h2 l[i] (List.getElem_mem hi))).2
    unfold conversion_points_p0 ptsOf daysOf
    rw [w64_succ (by omega)]
    rcases hx with ⟨k, d1, d2⟩ | ⟨k, d1⟩ | ⟨k, d1⟩
    · rw [k, if_pos rfl, if_pos rfl, show ((1 : Int) == 1) = true from rfl, cond_true, w64_in (by omega) (by omega), Int.add_zero]
    · rw [k, if_neg (by omega), if_pos rfl, if_neg (by omega), show ((2 : Int) == 1) = false from rfl, cond_false, show ((2 : Int) == 2) = true from rfl, cond_true, w64_in (by omega) (by omega), Int.add_zero]
    · rw [k, if_neg (by omega), if_neg (by omega), if_neg (by omega), show ((3 : Int) == 1) = false from rfl, cond_false, show ((3 : Int) == 2) = false from rfl, cond_false, show ((3 : Int) == 3) = true from rfl, cond_true, w64_in (by omega) (by omega), Int.add_zero]
  · rintro i hi ⟨p, d⟩ a' ⟨b1, b2⟩ hg
    cases hg
    have c1 := ptsOf_rng l[i]
    have c2 := daysOf_rng (h2 l[i] (List.getElem_mem hi))
    have b1 : 0 ≤ p ∧ p ≤ 30 * (i : Int) := b1
    have b2 : 0 ≤ d ∧ d ≤ 73049 * (i : Int) := b2
    show (0 ≤ p + ptsOf l[i] ∧ p + ptsOf l[i] ≤ 30 * ((i + 1 : Nat) : Int)) ∧ (0 ≤ d + daysOf l[i] ∧ d + daysOf l[i] ≤ 73049 * ((i + 1 : Nat) : Int))
    omega
  · rintro ⟨p, d⟩ _
    show conversion_points_p1 p d l l.length = _
    unfold conversion_points_p1
    rw [not_lt_len, cond_false]
    rfl
/-- 100 points, or all if there are more. -/
def wholeL (l : List GHeir) : Int := max 100 (allPts l)
/-- A survivor's share. -/
def shareL (l : List GHeir) (h : GHeir) : GFraction :=
  if h.Kind = 1 then (fracN (60 * h.Days).toNat (daysL l * wholeL l).toNat).1 else if h.Kind = 3 then (fracN 30 (wholeL l).toNat).1 else (fracN 20 (wholeL l).toNat).1
theorem allPts_rng {l : List GHeir} (h : validL l = true) : 0 ≤ allPts l ∧ allPts l ≤ 420 := by
  have := heirs_rng h
  unfold allPts
  split <;> omega
theorem daysL_pos : ∀ (l : List GHeir), (∀ x ∈ l, heirB x = true) → ∀ h ∈ l, h.Kind = 1 → 0 < daysL l
  | [], _, h, hm, _ => by simp at hm
  | x :: l, hb, h, hm, hk => by
    have h0 := (sum_rng daysOf 73049 (by omega) l fun y hy => daysOf_rng (hb y (List.mem_cons_of_mem _ hy))).1
    have hx := daysOf_rng (hb x List.mem_cons_self)
    show 0 < ((x :: l).map daysOf).sum
    rw [List.map_cons, List.sum_cons]
    rcases List.mem_cons.1 hm with rfl | hm
    · have := (heirB_facts (hb h List.mem_cons_self)).2
      have : daysOf h = h.Days := by unfold daysOf; rw [if_pos hk]
      omega
    · have := daysL_pos l (fun y hy => hb y (List.mem_cons_of_mem _ hy)) h hm hk
      unfold daysL at this
      omega
theorem map_fold {T : Type} (g : GHeir → T) : ∀ (l : List GHeir) (a : List T), l.foldl (fun a x => a ++ [g x]) a = a ++ l.map g
  | [], a => by simp
  | x :: l, a => by rw [List.foldl_cons, map_fold g l]; simp
theorem conversion_Shares_eq (l : List GHeir) : conversion_Shares l = some (if validL l then (l.map (shareL l), 0) else ([], 1)) := by
  show conversion_Shares_p3 l = _
  unfold conversion_Shares_p3
  rw [conversion_valid_eq, Option.bind_some]
  cases hv : validL l with
  | false => rfl
  | true =>
    obtain ⟨h1, h2⟩ := validL_facts hv
    have hr := heirs_rng hv
    have ha := allPts_rng hv
    have hw : (if (100 : Int) < allPts l then allPts l else 100) = wholeL l := by unfold wholeL; omega
    have hwr : 100 ≤ wholeL l ∧ wholeL l ≤ 420 := by unfold wholeL; omega
    rw [show (!true) = false from rfl, cond_false, conversion_points_eq l hv, Option.bind_some, if_pos rfl]
    show conversion_Shares_p2 (daysL l) (if (100 : Int) < allPts l then allPts l else 100) l = _
    rw [hw]
    show (fixL (conversion_Shares_l1 (daysL l) (wholeL l) l) ([], ((0 : Nat) : Int))).bind _ = _
    have := fixL_list0 (f := conversion_Shares_l1 (daysL l) (wholeL l) l) l (fun i (o : List GFraction) => (o, (i : Int))) (fun i o => o.length = i) (fun h o => .inl (o ++ [shareL l h])) id [] rfl ?_ ?_ ?_
    · rw [this, runE_fold, map_fold, Option.bind_some]
      rfl
    · intro i hi o ho
      show conversion_Shares_p0 (daysL l) (wholeL l) o l i = _
      unfold conversion_Shares_p0
      have hx := (heirB_facts (h2 l[i] (List.getElem_mem hi))).2
      have hd := daysL_pos l h2 l[i] (List.getElem_mem hi)
      obtain ⟨w, hw2⟩ : ∃ w : Nat, wholeL l = (w : Int) := ⟨(wholeL l).toNat, by omega⟩
      rw [lt_len hi, cond_true, gd_pos (idx_ok hi), getD_nat l zGHeir i hi, w64_succ (by omega)]
      have hcap : capB (o.length + 1) 16 := capB_ok (by omega) (by omega)
      simp only [gd_pos hcap]
      unfold shareL
      rw [hw2] at hwr ⊢
      rcases hx with ⟨k, d1, d2⟩ | ⟨k, d1⟩ | ⟨k, d1⟩
      · have hdp := hd k
        obtain ⟨x, hx⟩ : ∃ x : Nat, l[i].Days = (x : Int) := ⟨l[i].Days.toNat, by omega⟩
        obtain ⟨d, hdd⟩ : ∃ d : Nat, daysL l = (d : Int) := ⟨(daysL l).toNat, by omega⟩
        rw [hx] at d1 d2 ⊢
        rw [hdd] at hr hdp ⊢
        have hm : d * w ≤ 876588 * 420 := Nat.mul_le_mul (by omega) (by omega)
        have hm0 : 0 < d * w := Nat.mul_pos (by omega) (by omega)
        rw [k, show ((1 : Int) == 1) = true from rfl, cond_true, if_pos rfl, w64_in (n := 60 * (x : Int)) (by omega) (by omega), show (d : Int) * (w : Int) = ((d * w : Nat) : Int) from by rw [Int.natCast_mul], w64_in (n := ((d * w : Nat) : Int)) (by omega) (by omega), show (60 : Int) * (x : Int) = ((60 * x : Nat) : Int) by omega, rational_Make_nat (60 * x) (d * w) (by omega) (by omega) hm0, Option.bind_some, Int.toNat_natCast, Int.toNat_natCast]
      · rw [k, show ((2 : Int) == 1) = false from rfl, cond_false, show ((2 : Int) == 3) = false from rfl, cond_false, if_neg (by omega), if_neg (by omega), show (20 : Int) = ((20 : Nat) : Int) from rfl, rational_Make_nat 20 w (by omega) (by omega) (by omega), Option.bind_some, Int.toNat_natCast]
      · rw [k, show ((3 : Int) == 1) = false from rfl, cond_false, show ((3 : Int) == 3) = true from rfl, cond_true, if_neg (by omega), if_pos rfl, show (30 : Int) = ((30 : Nat) : Int) from rfl, rational_Make_nat 30 w (by omega) (by omega) (by omega), Option.bind_some, Int.toNat_natCast]
    · intro i hi o o' ho hg
      cases hg
      simp [ho]
    · intro o ho
      show conversion_Shares_p0 (daysL l) (wholeL l) o l l.length = _
      unfold conversion_Shares_p0
      rw [not_lt_len, cond_false]
      rfl
end Go.Ax
