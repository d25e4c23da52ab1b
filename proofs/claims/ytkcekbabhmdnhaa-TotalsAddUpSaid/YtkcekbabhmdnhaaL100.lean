import Derived.Test.YtkcekbabhmdnhaaL99
set_option linter.all false
/- The sums of a totalisation; another day. -/
set_option maxRecDepth 100000
namespace Go.Ax
open Go.Proofs

theorem own_at (l : List GCounted) (m : Int) (k : Nat) (h : k < 6) : GArr6_I64.at (totAt l m 6).Own k = ownS l (k : Int) := by
  match k, h with
  | 0, _ => rfl
  | 1, _ => rfl
  | 2, _ => rfl
  | 3, _ => rfl
  | 4, _ => rfl
  | 5, _ => rfl
theorem few_at (l : List GCounted) (m : Int) (k : Nat) (h : k < 6) : GArr6_Bool.at (totAt l m 6).Few k = fewS l m (k : Int) := by
  match k, h with
  | 0, _ => rfl
  | 1, _ => rfl
  | 2, _ => rfl
  | 3, _ => rfl
  | 4, _ => rfl
  | 5, _ => rfl
/-- The days of the states with few. -/
noncomputable def fewSum (l : List GCounted) (m : Int) : Nat → Int
  | 0 => 0
  | k + 1 => bif fewS l m (k : Int) then fewSum l m k + ownS l (k : Int) else fewSum l m k
theorem few_base (l : List GCounted) (m : Int) : ∀ k, fewSum l m k + baseS l m k = sumS l k
  | 0 => rfl
  | k + 1 => by
    have := few_base l m k
    unfold fewSum baseS sumS
    cases fewS l m (k : Int) <;> simp only [cond_true, cond_false] <;> omega
theorem few_rng (l : List GCounted) (m : Int) : ∀ k, 0 ≤ fewSum l m k
  | 0 => Int.le_refl _
  | k + 1 => by
    have h1 := few_rng l m k
    have h2 := ownS_rng l (k : Int)
    unfold fewSum
    cases fewS l m (k : Int) <;> simp only [cond_true, cond_false] <;> omega
theorem all_loop (m : Int) (c : List GCounted) (t : GTotal) (hl : c.length ≤ 1000) : ∀ (n i : Nat) (out : List GSpan), c.length = i + n → out.length ≤ i →
    fixL (law18_TotalsSums_l1 m c t) (out, (i : Int)) = some (out ++ (c.drop i).map fun x => x.Span) := by
  intro n
  induction n with
  | zero =>
    intro i out h ho
    have : i = c.length := by omega
    subst this
    rw [fixL_eq]
    show (law18_TotalsSums_p0 m c out ((c.length : Nat) : Int) t).bind _ = _
    unfold law18_TotalsSums_p0
    rw [not_lt_len, cond_false, List.drop_length]
    simp
  | succ n ih =>
    intro i out h ho
    have hi : i < c.length := by omega
    rw [fixL_eq]
    show (law18_TotalsSums_p0 m c out (i : Int) t).bind _ = _
    unfold law18_TotalsSums_p0
    rw [lt_len hi, cond_true, gd_pos (idx_ok hi), getD_nat c _ i hi, gd_pos (capS (by omega)), w64_succ (by omega), Option.bind_some, List.drop_eq_getElem_cons hi]
    show fixL (law18_TotalsSums_l1 m c t) (out ++ [c[i].Span], ((i + 1 : Nat) : Int)) = _
    rw [ih (i + 1) _ (by omega) (by simp; omega), List.append_assoc]
    rfl
theorem few_loop (m : Int) (c : List GCounted) (all : List GSpan) : ∀ n k : Nat, k + n = 6 →
    fixL (law18_TotalsSums_l2 m all (totAt c m 6)) (all, fewSum c m k, (k : Int)) = some (.inr (all, fewSum c m 6)) := by
  intro n
  induction n with
  | zero =>
    intro k h
    obtain rfl : k = 6 := by omega
    rw [fixL_eq]
    rfl
  | succ n ih =>
    intro k h
    have hk : k < 6 := by omega
    have hr := few_rng c m k
    have hs := few_base c m k
    have hb := baseS_rng c m k
    have h6 := sumS_rng c k
    have ho := ownS_rng c (k : Int)
    rw [fixL_eq]
    show (law18_TotalsSums_p1 m all (fewSum c m k) (k : Int) (totAt c m 6)).bind _ = _
    unfold law18_TotalsSums_p1
    rw [decide_eq_true (by omega), cond_true, gd_pos (by omega), Int.toNat_natCast, own_at c m k hk, few_at c m k hk, w64_succ (by omega)]
    have e : (bif decide (0 < ownS c (k : Int)) then decide (ownS c (k : Int) < m) else false) = fewS c m (k : Int) := rfl
    rw [e, beq_self_eq_true, Bool.not_true, cond_false, cond_false, w64_in (by omega) (by omega)]
    have hstep : fewSum c m (k + 1) = bif fewS c m (k : Int) then fewSum c m k + ownS c (k : Int) else fewSum c m k := rfl
    have := ih (k + 1) (by omega)
    rw [hstep] at this
    cases hf : fewS c m (k : Int) with
    | true => rw [hf, cond_true] at this; rw [cond_true, Option.bind_some]; exact this
    | false => rw [hf, cond_false] at this; rw [cond_false, Option.bind_some]; exact this
theorem sum_states : ∀ c : List GCounted, (∀ x ∈ c, 0 ≤ x.State ∧ x.State < 5) → daysN (stOf c 0) + daysN (stOf c 1) + daysN (stOf c 2) + daysN (stOf c 3) + daysN (stOf c 4) + daysN (stOf c 5) = daysN (c.map fun x => x.Span)
  | [], _ => rfl
  | x :: r, h => by
    have ih := sum_states r fun y hy => h y (by simp [hy])
    have hx := h x (by simp)
    have e : ∀ s, daysN (stOf (x :: r) s) = (if x.State = s then x.Span.To - x.Span.From else 0) + daysN (stOf r s) := by
      intro s
      rw [stOf_cons]
      by_cases hs : x.State = s
      · rw [beq_iff_eq.2 hs, cond_true, if_pos hs]; rfl
      · rw [beq_eq_false_iff_ne.2 hs, cond_false, if_neg hs]; omega
    rw [e, e, e, e, e, e, List.map_cons]
    show _ = (x.Span.To - x.Span.From) + daysN (r.map fun x => x.Span)
    rw [← ih]
    rcases (by omega : x.State = 0 ∨ x.State = 1 ∨ x.State = 2 ∨ x.State = 3 ∨ x.State = 4) with h | h | h | h | h <;> rw [h] <;> simp <;> omega
theorem sum_all {c : List GCounted} {lo : Int} (h0 : 0 ≤ lo) (ha : AscC lo c) (hs : ∀ x ∈ c, 0 ≤ x.State ∧ x.State < 5) : sumS c 6 = daysN (c.map fun x => x.Span) := by
  rw [← sum_states c hs]
  show 0 + ownS c 0 + ownS c 1 + ownS c 2 + ownS c 3 + ownS c 4 + ownS c 5 = _
  rw [own_asc h0 ha, own_asc h0 ha, own_asc h0 ha, own_asc h0 ha, own_asc h0 ha, own_asc h0 ha, Int.zero_add]
theorem law_TotalsSums (l : List GCounted) (m : Int) : law18_TotalsSums l m = some true := by
  show law18_TotalsSums_p6 l m = _
  unfold law18_TotalsSums_p6
  by_cases h : (60 : Int) < ((l.length : Nat) : Int)
  · rw [decide_eq_true h, cond_true]
  · rw [decide_eq_false h, cond_false]
    have hl : l.length ≤ 60 := by omega
    have ha := countedL_asc l 0 (by omega)
    have hst := countedL_st l 0
    have hlen : (countedL 0 l).length ≤ 60 := by rw [countedL_len]; exact hl
    rw [counted_eq l hl, Option.bind_some, made_Pick_eq m 900 (by omega), Option.bind_some, totals_Compute_eq _ _ (by omega), Option.bind_some]
    generalize (if (900 : Int) < 1 then 0 else m % 900) = m
    generalize countedL 0 l = c at ha hst hlen
    have h1 := all_loop m c (totAt c m 6) (by omega) c.length 0 [] (by omega) (by simp)
    rw [show ((0 : Nat) : Int) = 0 from rfl, List.drop_zero, List.nil_append] at h1
    show (fixL (law18_TotalsSums_l1 m c (totAt c m 6)) (([] : List GSpan), (0 : Int))).bind _ = _
    rw [h1, Option.bind_some]
    generalize hall : (c.map fun x => x.Span) = all
    have h2 := few_loop m c all 6 0 rfl
    show (fixL (law18_TotalsSums_l2 m all (totAt c m 6)) (all, (0 : Int), (0 : Int))).bind _ = _
    rw [show (all, (0 : Int), (0 : Int)) = (all, fewSum c m 0, ((0 : Nat) : Int)) from rfl, h2, Option.bind_some]
    show law18_TotalsSums_p2 all (fewSum c m 6) (totAt c m 6) = _
    unfold law18_TotalsSums_p2
    have hal : all.length ≤ 100000 := by rw [← hall, List.length_map]; omega
    have hd : ref1_Days all = some (sumS c 6) := by
      rw [ref1_Days_eq all hal, sum_all (Int.le_refl 0) ha hst, hall, days_asc (Int.le_refl 0) (hall ▸ ha)]
    have hb := few_base c m 6
    have hr := baseS_rng c m 6
    have hs := sumS_rng c 6
    have hf := few_rng c m 6
    have e1 : (totAt c m 6).Sum = sumS c 6 := rfl
    have e2 : (totAt c m 6).Base = baseS c m 6 := rfl
    rw [law18_awake_eq, Option.bind_some, hd, gd_pos (fun _ => Option.isSome_some), Option.getD_some, e1, e2, w64_in (by omega) (by omega), beq_self_eq_true, cond_true, cond_true, beq_iff_eq.2 (by omega)]
end Go.Ax
