import Derived.Test.YtepnedfnpbakeaaL91
set_option linter.all false
/- spans.Make. -/
set_option maxRecDepth 100000
namespace Go.Ax
open Go.Proofs

def clampS (s : GSpan) : GSpan := GSpan.mk (if s.From < (0 : Int) then (0 : Int) else s.From) (if (73049 : Int) < s.To then (73049 : Int) else s.To)
def keepS (s : GSpan) : Bool := decide (s.From < s.To)
def cutL (l : List GSpan) : List GSpan := (l.map clampS).filter keepS
theorem clamp_day (s : GSpan) (d : Int) : ((clampS s).From ≤ d ∧ d < (clampS s).To) ↔ (s.From ≤ d ∧ d < s.To) ∧ 0 ≤ d ∧ d < 73049 := by
  unfold clampS
  simp only
  split <;> split <;> omega
theorem cutL_cov (l : List GSpan) (d : Int) : Cov (cutL l) d ↔ Cov l d ∧ 0 ≤ d ∧ d < 73049 := by
  unfold Cov cutL
  constructor
  · rintro ⟨s, hs, h⟩
    obtain ⟨h1, _⟩ := List.mem_filter.1 hs
    obtain ⟨t, ht, rfl⟩ := List.mem_map.1 h1
    have := (clamp_day t d).1 h
    exact ⟨⟨t, ht, this.1⟩, this.2⟩
  · rintro ⟨⟨t, ht, h⟩, h2⟩
    have := (clamp_day t d).2 ⟨h, h2⟩
    refine ⟨clampS t, List.mem_filter.2 ⟨List.mem_map.2 ⟨t, ht, rfl⟩, ?_⟩, this⟩
    unfold keepS
    rw [decide_eq_true_iff]; omega
theorem cutL_ok (l : List GSpan) : ∀ s ∈ cutL l, 0 ≤ s.From ∧ s.From < s.To ∧ s.To ≤ 73049 := by
  intro s hs
  obtain ⟨h1, h2⟩ := List.mem_filter.1 hs
  obtain ⟨t, ht, rfl⟩ := List.mem_map.1 h1
  unfold keepS at h2
  rw [decide_eq_true_iff] at h2
  refine ⟨?_, h2, ?_⟩ <;> (unfold clampS; simp only; split <;> omega)
theorem cutL_len (l : List GSpan) : (cutL l).length ≤ l.length := by
  unfold cutL
  have := List.length_filter_le keepS (l.map clampS)
  simpa using this
theorem capS {n : Nat} (h : n ≤ 4000000) : capB n 16 := ⟨by omega, by omega⟩
theorem make_loop1 (l : List GSpan) (hn : l.length ≤ 1000000) : ∀ (n i : Nat) (out : List GSpan), l.length = i + n → out.length ≤ i → fixL (spans_Make_l1 l) ((i : Int), out) = some (out ++ cutL (l.drop i)) := by
  intro n
  induction n with
  | zero =>
    intro i out h ho
    rw [fixL_eq]
    show (spans_Make_p0 l (i : Int) out).bind _ = _
    unfold spans_Make_p0
    have : i = l.length := by omega
    subst this
    rw [not_lt_len, cond_false, List.drop_length]
    simp [cutL]
  | succ n ih =>
    intro i out h ho
    have hi : i < l.length := by omega
    rw [fixL_eq]
    show (spans_Make_p0 l (i : Int) out).bind _ = _
    unfold spans_Make_p0
    rw [lt_len hi, cond_true, gd_pos (idx_ok hi), getD_nat l _ i hi]
    have e1 : spans_clamp l[i] = some (clampS l[i]) := rfl
    rw [e1, Option.bind_some, w64_succ (by omega), List.drop_eq_getElem_cons hi]
    by_cases hk : (clampS l[i]).From < (clampS l[i]).To
    · have hk' : decide ((clampS l[i]).From < (clampS l[i]).To) = true := decide_eq_true hk
      have hc : cutL (l[i] :: l.drop (i + 1)) = clampS l[i] :: cutL (l.drop (i + 1)) := by
        unfold cutL
        rw [List.map_cons, List.filter_cons, if_pos (by unfold keepS; exact hk')]
      rw [hk', cond_true, gd_pos (capS (by omega)), Option.bind_some, hc]
      show fixL (spans_Make_l1 l) (((i + 1 : Nat) : Int), out ++ [clampS l[i]]) = _
      rw [ih (i + 1) _ (by omega) (by simp; omega), List.append_assoc]
      rfl
    · have hk' : decide ((clampS l[i]).From < (clampS l[i]).To) = false := decide_eq_false hk
      have hc : cutL (l[i] :: l.drop (i + 1)) = cutL (l.drop (i + 1)) := by
        unfold cutL
        rw [List.map_cons, List.filter_cons, if_neg (by unfold keepS; rw [hk']; simp)]
      rw [hk', cond_false, Option.bind_some, hc]
      show fixL (spans_Make_l1 l) (((i + 1 : Nat) : Int), out) = _
      rw [ih (i + 1) _ (by omega) (by omega)]
theorem last_ix (p : List GSpan) (x : GSpan) (h : p.length ≤ 1000000) : w64 ((((p ++ [x]).length : Nat) : Int) - 1) = ((p.length : Nat) : Int) := by
  have hl : (p ++ [x]).length = p.length + 1 := by simp
  rw [w64_in (by omega) (by omega)]
  omega
theorem set_last (p : List GSpan) (x y : GSpan) : (p ++ [x]).set p.length y = p ++ [y] := by
  rw [List.set_append_right _ _ (Nat.le_refl _)]
  simp
theorem make_step2 (t out : List GSpan) (i : Nat) (hi : i < t.length) (ho : out.length ≤ 1000000) (hn : t.length ≤ 1000000) :
    spans_Make_p1 out t ((t.length : Nat) : Int) (i : Int) = some (.inl (joinS out t[i], t, ((t.length : Nat) : Int), ((i + 1 : Nat) : Int))) := by
  unfold spans_Make_p1
  rw [lt_len hi, cond_true, gd_pos (idx_ok hi), getD_nat0 t _ i hi, w64_succ (by omega)]
  rcases snoc_cases out with rfl | ⟨p, x, rfl⟩
  · rw [show decide ((0 : Int) < ((([] : List GSpan).length : Nat) : Int)) = false from rfl]
    simp only [Bool.false_and, Bool.false_eq_true, false_implies, gd_true, cond_false]
    rw [gd_pos (capS (by simp)), joinS_nil]
    rfl
  · have hp : p.length ≤ 1000000 := by simp at ho; omega
    have hl : (p ++ [x]).length = p.length + 1 := by simp
    have h0 : decide ((0 : Int) < (((p ++ [x]).length : Nat) : Int)) = true := decide_eq_true (by omega)
    have hlt : ((p.length : Nat) : Int) < (((p ++ [x]).length : Nat) : Int) := by omega
    have hg : (p ++ [x]).getD (0 + Int.toNat ((p.length : Nat) : Int)) zGSpan = x := by
      rw [Nat.zero_add, Int.toNat_natCast]; exact getD_app_right p [] x zGSpan
    have hi0 : (0 : Int) ≤ ((p.length : Nat) : Int) := by omega
    rw [last_ix p x hp, h0, hg, gd_pos (fun _ => hi0), gd_pos (fun _ => hlt), cond_true, joinS_snoc, Nat.zero_add, Int.toNat_natCast, set_last]
    by_cases hc : t[i].From ≤ x.To
    · rw [decide_eq_true hc, cond_true, gd_pos ⟨hi0, hlt⟩, gd_pos ⟨hi0, hlt⟩, if_pos hc]
    · rw [decide_eq_false hc, cond_false, gd_pos (capS (by omega)), if_neg hc]
theorem joinS_len (out : List GSpan) (s : GSpan) : (joinS out s).length ≤ out.length + 1 := by
  rcases snoc_cases out with rfl | ⟨p, x, rfl⟩
  · rw [joinS_nil]; simp
  · rw [joinS_snoc]; split <;> simp
theorem make_loop2 (t : List GSpan) (hn : t.length ≤ 1000000) : ∀ (n i : Nat) (out : List GSpan), t.length = i + n → out.length ≤ i → fixL (spans_Make_l2 t ((t.length : Nat) : Int)) (out, t, ((t.length : Nat) : Int), (i : Int)) = some ((t.drop i).foldl joinS out) := by
  intro n
  induction n with
  | zero =>
    intro i out h ho
    rw [fixL_eq]
    show (spans_Make_p1 out t ((t.length : Nat) : Int) (i : Int)).bind _ = _
    unfold spans_Make_p1
    have : i = t.length := by omega
    subst this
    rw [not_lt_len, cond_false, List.drop_length]
    rfl
  | succ n ih =>
    intro i out h ho
    have hi : i < t.length := by omega
    have := joinS_len out t[i]
    rw [fixL_eq]
    show (spans_Make_p1 out t ((t.length : Nat) : Int) (i : Int)).bind _ = _
    rw [make_step2 t out i hi (by omega) hn, Option.bind_some, List.drop_eq_getElem_cons hi, List.foldl_cons]
    exact ih (i + 1) _ (by omega) (by omega)
noncomputable def makeS (l : List GSpan) : List GSpan := (sortL sort_Slice_lt (cutL l)).foldl joinS []
theorem sort_Slice_sw : Go.Sort.SWO sort_Slice_lt := ⟨fun x => by simp [sort_Slice_lt], fun x y z h1 h2 => by simp [sort_Slice_lt] at *; omega, fun x y z h1 h2 => by simp [sort_Slice_lt] at *; omega⟩
theorem spans_Make_eq (l : List GSpan) (hn : l.length ≤ 1000000) : spans_Make l = some (makeS l) := by
  have h1 := make_loop1 l hn l.length 0 [] (by omega) (by simp)
  have hc := cutL_len l
  have hs := sortL_length sort_Slice_sw (cutL l)
  show (fixL (spans_Make_l1 l) ((0 : Int), ([] : List GSpan))).bind (spans_Make_p5_g l) = _
  rw [show ((0 : Nat) : Int) = 0 from rfl, List.drop_zero, List.nil_append] at h1
  rw [h1, Option.bind_some]
  show (sort_Slice (cutL l)).bind _ = _
  unfold sort_Slice
  rw [gd_pos (by omega), Option.bind_some]
  have h2 := make_loop2 (sortL sort_Slice_lt (cutL l)) (by omega) (sortL sort_Slice_lt (cutL l)).length 0 [] (by omega) (by simp)
  show (fixL (spans_Make_l2 (sortL sort_Slice_lt (cutL l)) (((sortL sort_Slice_lt (cutL l)).length : Nat) : Int)) (([] : List GSpan), sortL sort_Slice_lt (cutL l), (((sortL sort_Slice_lt (cutL l)).length : Nat) : Int), (0 : Int))).bind _ = _
  rw [show ((0 : Nat) : Int) = 0 from rfl, List.drop_zero] at h2
  rw [h2, Option.bind_some]
  rfl
theorem makeS_ok (l : List GSpan) : NormL (-1) (makeS l) ∧ (∀ d, Cov (makeS l) d ↔ Cov l d ∧ 0 ≤ d ∧ d < 73049) ∧ (makeS l).length ≤ l.length := by
  obtain ⟨hp, hs⟩ := sortL_spec sort_Slice_sw (cutL l)
  have hc := cutL_len l
  obtain ⟨f1, f2, f3⟩ := join_fold (sortL sort_Slice_lt (cutL l)) [] trivial (fun x hx => by simp at hx) (hs.imp fun h => by simp [sort_Slice_lt] at h; omega) (fun s h => cutL_ok l s (hp.mem_iff.1 h))
  refine ⟨f1, fun d => ?_, ?_⟩
  · unfold makeS
    rw [f2, ← cutL_cov]
    constructor
    · rintro (h | ⟨s, h, h'⟩)
      · exact (cov_nil h).elim
      · exact ⟨s, hp.mem_iff.1 h, h'⟩
    · rintro ⟨s, h, h'⟩
      exact .inr ⟨s, hp.mem_iff.2 h, h'⟩
  · unfold makeS
    have := hp.length_eq
    simp at f3
    omega
end Go.Ax
