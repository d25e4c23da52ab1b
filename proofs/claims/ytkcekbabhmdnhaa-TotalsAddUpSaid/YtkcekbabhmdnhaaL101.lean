import Derived.Test.YtkcekbabhmdnhaaL100
set_option linter.all false
/- Another day for a state. -/
set_option maxRecDepth 100000
namespace Go.Ax
open Go.Proofs

theorem stOf_app (a b : List GCounted) (s : Int) : stOf (a ++ b) s = stOf a s ++ stOf b s := by
  unfold stOf
  rw [List.filter_append, List.map_append]
theorem asc_snoc : ∀ (c : List GCounted) (lo hi : Int) (x : GCounted), AscC lo c → (∀ y ∈ c, y.Span.To ≤ hi) → lo ≤ hi → hi ≤ x.Span.From → x.Span.From < x.Span.To → x.Span.To ≤ 73049 → AscC lo (c ++ [x])
  | [], lo, hi, x, _, _, h1, h2, h3, h4 => ⟨by show lo ≤ x.Span.From; omega, h3, h4, trivial⟩
  | y :: r, lo, hi, x, ⟨a1, a2, a3, a4⟩, hy, h1, h2, h3, h4 => ⟨a1, a2, a3, asc_snoc r y.Span.To hi x a4 (fun z hz => hy z (by simp [hz])) (hy y (by simp)) h2 h3 h4⟩
theorem cnt_last : ∀ (l : List GCounted) (at_ : Int), (∀ y ∈ countedL at_ l, y.Span.To ≤ at_ + 429 * (l.length : Int)) ∧ (∀ z, (countedL at_ l).getLast? = some z → (∀ y ∈ countedL at_ l, y.Span.To ≤ z.Span.To) ∧ at_ ≤ z.Span.To)
  | [], at_ => ⟨fun y hy => by simp [countedL] at hy, fun z hz => by simp [countedL] at hz⟩
  | x :: r, at_ => by
    obtain ⟨i1, i2⟩ := cnt_last r (cntT at_ x)
    have hr := cnt_rng at_ x
    refine ⟨fun y hy => ?_, fun z hz => ?_⟩
    · unfold countedL at hy
      rw [List.length_cons]
      rcases List.mem_cons.1 hy with rfl | hy
      · show cntT at_ x ≤ _
        omega
      · have := i1 y hy
        omega
    · unfold countedL at hz ⊢
      cases hc : countedL (cntT at_ x) r with
      | nil =>
        rw [hc] at hz
        simp at hz
        subst hz
        refine ⟨fun y hy => ?_, by show at_ ≤ cntT at_ x; omega⟩
        rw [List.mem_singleton.1 hy]
        exact Int.le_refl _
      | cons q s =>
        rw [hc] at hz i2
        rw [List.getLast?_cons_cons] at hz
        obtain ⟨j1, j2⟩ := i2 z hz
        refine ⟨fun y hy => ?_, by omega⟩
        rcases List.mem_cons.1 hy with rfl | hy
        · exact j2
        · exact j1 y hy
theorem own_snoc {c : List GCounted} {lo : Int} (h0 : 0 ≤ lo) (x : GCounted) (h : AscC lo c) (h' : AscC lo (c ++ [x])) (s : Int) : ownS (c ++ [x]) s = ownS c s + if x.State = s then x.Span.To - x.Span.From else 0 := by
  rw [own_asc h0 h', own_asc h0 h, stOf_app, daysN_app]
  congr 1
  rw [stOf_cons]
  by_cases hs : x.State = s
  · rw [beq_iff_eq.2 hs, cond_true, if_pos hs]
    show (x.Span.To - x.Span.From) + 0 = _
    omega
  · rw [beq_eq_false_iff_ne.2 hs, cond_false, if_neg hs]
    rfl
theorem base_own (c : List GCounted) (m : Int) (st : Nat) (hf : fewS c m (st : Int) = false) : ∀ n, st < n → ownS c (st : Int) ≤ baseS c m n
  | 0, h => by omega
  | n + 1, h => by
    have hb := baseS_rng c m n
    have ho := ownS_rng c (n : Int)
    unfold baseS
    by_cases e : st = n
    · subst e
      rw [hf, cond_false]; omega
    · have := base_own c m st hf n (by omega)
      cases fewS c m (n : Int) <;> simp only [cond_true, cond_false] <;> omega
theorem base_snoc {c d : List GCounted} {m k : Int} {st : Nat} (ho : ∀ s : Nat, ownS d (s : Int) = ownS c (s : Int) + if st = s then k else 0) (hf : fewS c m (st : Int) = false) (hf' : fewS d m (st : Int) = false) : ∀ n, baseS d m n = baseS c m n + if st < n then k else 0
  | 0 => by simp [baseS]
  | n + 1 => by
    have ih := base_snoc ho hf hf' n
    unfold baseS
    by_cases e : st = n
    · subst e
      rw [hf, hf', cond_false, cond_false, ih, ho, if_pos rfl, if_neg (by omega), if_pos (by omega)]
      omega
    · have h1 : ownS d (n : Int) = ownS c (n : Int) := by rw [ho, if_neg e]; omega
      have h2 : fewS d m (n : Int) = fewS c m (n : Int) := by unfold fewS; rw [h1]
      rw [h1, h2, ih]
      by_cases e2 : st < n
      · rw [if_pos e2, if_pos (by omega)]
        cases fewS c m (n : Int) <;> simp only [cond_true, cond_false] <;> omega
      · rw [if_neg e2, if_neg (by omega)]
        cases fewS c m (n : Int) <;> simp only [cond_true, cond_false] <;> omega
theorem frac_own (c : List GCounted) (m : Int) (st : Nat) (h : st < 6) (hf : fewS c m (st : Int) = false) (ho : 0 < ownS c (st : Int)) : totals_Fraction (totAt c m 6) (st : Int) = some (ownS c (st : Int), baseS c m 6) := by
  have hb := base_own c m st hf 6 h
  show totals_Fraction_p0 _ _ = _
  unfold totals_Fraction_p0
  have e2 : (totAt c m 6).Base = baseS c m 6 := rfl
  rw [decide_eq_false (by omega), decide_eq_false (by omega), cond_false, cond_false, gd_pos (by omega), Int.toNat_natCast, own_at c m st h, few_at c m st h, hf, decide_eq_true ho, e2, decide_eq_true (by omega)]
  rfl
theorem grow_p0 (m more : Int) (st : Nat) (hst : st < 6) (c : List GCounted) (hl : c.length ≤ 100) (ha : AscC 0 c) (from_ : Int) (hto : ∀ y ∈ c, y.Span.To ≤ from_) (h0 : 0 ≤ from_) (h1 : from_ ≤ 30000) :
    law18_TotalsGrow_p0 m (st : Int) more c from_ = some true := by
  unfold law18_TotalsGrow_p0
  have hm := mod_rng more 300 (by omega)
  rw [totals_Compute_eq c m (by omega), Option.bind_some, gd_pos (capC (by omega)), made_Pick_eq more 300 (by omega), Option.bind_some, gd_pos (capC (by omega)), if_neg (by omega), w64_in (n := from_ + 1) (by omega) (by omega), w64_in (n := from_ + 1 + more % 300) (by omega) (by omega)]
  generalize hx : (GCounted.mk (GSpan.mk from_ (from_ + 1 + more % 300)) (st : Int) 1) = x
  have ha' : AscC 0 (c ++ [x]) := by
    subst hx
    exact asc_snoc c 0 from_ _ ha hto h0 (Int.le_refl _) (by show from_ < from_ + 1 + more % 300; omega) (by show from_ + 1 + more % 300 ≤ 73049; omega)
  have hi : (0 : Int) ≤ (st : Int) ∧ (st : Int) < ((6 : Nat) : Int) := by omega
  rw [totals_Compute_eq (c ++ [x]) m (by simp; omega), Option.bind_some, law18_awake_eq, Option.bind_some, gd_pos (fun _ => hi.1), gd_pos (fun _ => hi.2), gd_pos (fun _ => hi.1), gd_pos (fun _ => hi.2), Int.toNat_natCast, own_at c m st hst, few_at c m st hst, Option.bind_some, Bool.not_true, cond_false]
  cases hf : fewS c m (st : Int) with
  | true => rfl
  | false =>
    rw [cond_false]
    have hr := ownS_rng c (st : Int)
    by_cases ho : ownS c (st : Int) = 0
    · rw [beq_iff_eq.2 ho, cond_true]
    · rw [beq_eq_false_iff_ne.2 ho, cond_false, frac_own c m st hst hf (by omega), Option.bind_some]
      have hown : ∀ s : Nat, ownS (c ++ [x]) (s : Int) = ownS c (s : Int) + if st = s then 1 + more % 300 else 0 := by
        intro s
        rw [own_snoc (Int.le_refl 0) x ha ha']
        subst hx
        congr 1
        show (if (st : Int) = (s : Int) then (from_ + 1 + more % 300) - from_ else 0) = _
        by_cases e : st = s
        · rw [if_pos e, if_pos (by omega)]; omega
        · rw [if_neg e, if_neg (by omega)]
      have ho' : ownS (c ++ [x]) (st : Int) = ownS c (st : Int) + (1 + more % 300) := by rw [hown, if_pos rfl]
      have hge : m ≤ ownS c (st : Int) := by
        unfold fewS at hf
        rw [decide_eq_true (by omega), cond_true, decide_eq_false_iff_not] at hf
        omega
      have hf' : fewS (c ++ [x]) m (st : Int) = false := by
        unfold fewS
        rw [ho', decide_eq_true (by omega), cond_true, decide_eq_false (by omega)]
      have hb' := base_snoc hown hf hf' 6
      rw [if_pos hst] at hb'
      rw [frac_own (c ++ [x]) m st hst hf' (by omega), Option.bind_some, ho', hb']
      have hle := base_own c m st hf 6 hst
      have hbr := baseS_rng c m 6
      have hsr := sumS_rng c 6
      generalize hk : 1 + more % 300 = k
      have hk1 : 0 ≤ k ∧ k ≤ 300 := by omega
      generalize ownS c (st : Int) = a at *
      generalize baseS c m 6 = b at *
      have hsb : b ≤ 438300 := by omega
      have q1 : a * k ≤ b * k := Int.mul_le_mul_of_nonneg_right hle hk1.1
      have q2 : a * b ≤ 73050 * 438300 := Int.mul_le_mul hr.2 hsb (by omega) (by omega)
      have q3 : a * k ≤ 73050 * 300 := Int.mul_le_mul hr.2 hk1.2 (by omega) (by omega)
      have q4 : 0 ≤ a * b := Int.mul_nonneg hr.1 (by omega)
      have q5 : 0 ≤ a * k := Int.mul_nonneg hr.1 hk1.1
      have q6 : b * k ≤ 438300 * 300 := Int.mul_le_mul hsb hk1.2 (by omega) (by omega)
      have e1 : a * (b + k) = a * b + a * k := Int.mul_add _ _ _
      have e2 : (a + k) * b = a * b + b * k := by rw [Int.add_mul, Int.mul_comm k b]
      show some (decide (w64 (a * (b + k)) ≤ w64 ((a + k) * b))) = _
      rw [e1, e2, w64_in (by omega) (by omega), w64_in (by omega) (by omega), decide_eq_true (by omega)]
theorem snoc_casesC (l : List GCounted) : l = [] ∨ ∃ p x, l = p ++ [x] := snoc_cases l
theorem law_TotalsGrow (l : List GCounted) (m s more : Int) : law18_TotalsGrow l m s more = some true := by
  show law18_TotalsGrow_p1 l m s more = _
  unfold law18_TotalsGrow_p1
  by_cases h : (60 : Int) < ((l.length : Nat) : Int)
  · rw [decide_eq_true h, cond_true]
  · rw [decide_eq_false h, cond_false]
    have hl : l.length ≤ 60 := by omega
    have ha := countedL_asc l 0 (by omega)
    have hlast := cnt_last l 0
    have hlen : (countedL 0 l).length ≤ 60 := by rw [countedL_len]; exact hl
    have hs := mod_rng s 5 (by omega)
    rw [counted_eq l hl, Option.bind_some, made_Pick_eq m 900 (by omega), Option.bind_some, made_Pick_eq s 5 (by omega), Option.bind_some, if_neg (show ¬ (5 : Int) < 1 by omega)]
    generalize (if (900 : Int) < 1 then 0 else m % 900) = m
    obtain ⟨st, hst⟩ := Int.eq_ofNat_of_zero_le hs.1
    rw [hst]
    generalize countedL 0 l = c at ha hlast hlen
    rcases snoc_casesC c with rfl | ⟨p, x, rfl⟩
    · rw [show decide ((0 : Int) < ((([] : List GCounted).length : Nat) : Int)) = false from rfl, cond_false]
      exact grow_p0 m more st (by omega) [] (by simp) trivial 0 (fun y hy => by simp at hy) (Int.le_refl _) (by omega)
    · have hll : (p ++ [x]).length = p.length + 1 := by simp
      have e1 : w64 ((((p ++ [x]).length : Nat) : Int) - 1) = (p.length : Int) := by rw [w64_in (by omega) (by omega)]; omega
      obtain ⟨j1, j2⟩ := hlast.2 x (by simp)
      have j3 := hlast.1 x (by simp)
      rw [decide_eq_true (by omega), cond_true, e1, gd_pos (by omega), Int.toNat_natCast, getD_app_right]
      exact grow_p0 m more st (by omega) (p ++ [x]) (by omega) ha _ j1 j2 (by omega)
end Go.Ax
