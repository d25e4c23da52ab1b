import Derived.Test.YtkcekbabhmdnhaaL101
import Derived.Test.YtkcekbabhmdnhaaL103
set_option linter.all false
/- The fractions of all states add up. -/
set_option maxRecDepth 100000
namespace Go.Ax
open Go.Proofs

theorem lastP_ok (c : List GCounted) : ∀ n, (lastP c n = (-1, -1) ∧ ∀ j : Nat, j < n → ownS c (j : Int) = 0) ∨ (∃ j : Nat, j < n ∧ (lastP c n).2 = (j : Int) ∧ 0 < ownS c (j : Int) ∧ 0 ≤ (lastP c n).1)
  | 0 => .inl ⟨rfl, fun j h => by omega⟩
  | n + 1 => by
    obtain ⟨l1, l2⟩ := last_own c (n : Int)
    have hr := ownS_rng c (n : Int)
    have hstep : lastP c (n + 1) = bif (bif (lastC c (n : Int)).2 then decide ((lastP c n).1 < (lastC c (n : Int)).1) else false) then ((lastC c (n : Int)).1, (n : Int)) else lastP c n := rfl
    rw [hstep]
    rcases lastP_ok c n with ⟨h1, h2⟩ | ⟨j, h1, h2, h3, h4⟩
    · rw [h1]
      cases hb : (lastC c (n : Int)).2 with
      | true =>
        have hp := l1.1 hb
        have hq := l2 hb
        have : decide ((-1 : Int) < (lastC c (n : Int)).1) = true := decide_eq_true (by omega)
        rw [cond_true, this, cond_true]
        exact .inr ⟨n, by omega, rfl, hp, hq⟩
      | false =>
        rw [cond_false, cond_false]
        refine .inl ⟨rfl, fun j hj => ?_⟩
        by_cases e : j = n
        · subst e
          have : ¬ 0 < ownS c (j : Int) := fun h => by rw [l1.2 h] at hb; cases hb
          omega
        · exact h2 j (by omega)
    · cases hb : (bif (lastC c (n : Int)).2 then decide ((lastP c n).1 < (lastC c (n : Int)).1) else false) with
      | true =>
        rw [cond_and, Bool.and_eq_true] at hb
        rw [cond_true]
        exact .inr ⟨n, by omega, rfl, l1.1 hb.1, l2 hb.1⟩
      | false =>
        rw [cond_false]
        exact .inr ⟨j, by omega, h2, h3, h4⟩
noncomputable def everyS (c : List GCounted) (m : Int) : Nat → Bool
  | 0 => true
  | k + 1 => bif everyS c m k then (bif (ownS c (k : Int) == (0 : Int)) then true else fewS c m (k : Int)) else false
theorem every_loop (l c : List GCounted) (m : Int) : ∀ n k : Nat, k + n = 6 → fixL (law18_TotalsAddUp_l1 l (totAt c m 6)) (everyS c m k, (k : Int)) = some (everyS c m 6) := by
  intro n
  induction n with
  | zero =>
    intro k h
    obtain rfl : k = 6 := by omega
    rw [fixL_eq]
    rfl
  | succ n ih =>
    intro k h
    have hk : k < 6 := by omega
    have hi : (0 : Int) ≤ (k : Int) ∧ (k : Int) < ((6 : Nat) : Int) := by omega
    rw [fixL_eq]
    show (law18_TotalsAddUp_p0 l (everyS c m k) (k : Int) (totAt c m 6)).bind _ = _
    unfold law18_TotalsAddUp_p0
    rw [decide_eq_true (by omega), cond_true, gd_pos (fun _ => hi.1), gd_pos (fun _ => hi.2), gd_pos (fun _ => hi.1), gd_pos (fun _ => hi.2), Int.toNat_natCast, own_at c m k hk, few_at c m k hk, w64_succ (by omega), Option.bind_some]
    exact ih (k + 1) (by omega)
theorem every_of {c : List GCounted} {m : Int} : ∀ n, (∀ j : Nat, j < n → ownS c (j : Int) = 0 ∨ fewS c m (j : Int) = true) → everyS c m n = true
  | 0, _ => rfl
  | n + 1, h => by
    unfold everyS
    rw [every_of n fun j hj => h j (by omega), cond_true]
    rcases h n (by omega) with e | e
    · rw [beq_iff_eq.2 e]; rfl
    · rw [e]; cases (ownS c (n : Int) == 0) <;> rfl
def wsum (w : Nat → Nat) : Nat → Nat
  | 0 => 0
  | k + 1 => wsum w k + w k
theorem wsum_mono (w : Nat → Nat) : ∀ n k, wsum w k ≤ wsum w (k + n)
  | 0, k => Nat.le_refl _
  | n + 1, k => by
    have := wsum_mono w n k
    show _ ≤ wsum w (k + n) + w (k + n)
    omega
theorem add_step_frac (D a b : Nat) (h0 : 0 < D) (hD : D ≤ 1000000000) (hab : a + b ≤ D) : ref1_AddFractions (fracN a D).1 (fracN b D).1 = some (fracN (a + b) D) := by
  obtain ⟨a1, a2, a3, a4, a5⟩ := fracN_facts a D h0 (by omega) hD
  obtain ⟨b1, b2, b3, b4, b5⟩ := fracN_facts b D h0 (by omega) hD
  rw [a1, b1]
  have ga : 0 < Nat.gcd a D := Nat.gcd_pos_of_pos_right _ h0
  have gb : 0 < Nat.gcd b D := Nat.gcd_pos_of_pos_right _ h0
  have e1 : a / Nat.gcd a D * Nat.gcd a D = a := Nat.div_mul_cancel (Nat.gcd_dvd_left a D)
  have e2 : D / Nat.gcd a D * Nat.gcd a D = D := Nat.div_mul_cancel (Nat.gcd_dvd_right a D)
  have e3 : b / Nat.gcd b D * Nat.gcd b D = b := Nat.div_mul_cancel (Nat.gcd_dvd_left b D)
  have e4 : D / Nat.gcd b D * Nat.gcd b D = D := Nat.div_mul_cancel (Nat.gcd_dvd_right b D)
  have l1 : a / Nat.gcd a D ≤ D / Nat.gcd a D := Nat.div_le_div_right (by omega)
  have l2 : b / Nat.gcd b D ≤ D / Nat.gcd b D := Nat.div_le_div_right (by omega)
  show ref1_AddFractions ⟨((a / Nat.gcd a D : Nat) : Int), ((D / Nat.gcd a D : Nat) : Int)⟩ ⟨((b / Nat.gcd b D : Nat) : Int), ((D / Nat.gcd b D : Nat) : Int)⟩ = _
  generalize Nat.gcd a D = g at *
  generalize Nat.gcd b D = k at *
  generalize a / g = A at *
  generalize hB : D / g = B at *
  generalize b / k = C at *
  generalize hE : D / k = E at *
  rw [ref1_Add_nat A B C E (by omega) (by omega) l1 l2 a4 b4 a5 b5]
  congr 1
  refine fracN_ratio (Nat.mul_pos a4 b4) h0 ?_
  have h1 : A * E * D = a * (B * E) := by
    conv => lhs; rw [← e2]
    conv => rhs; rw [← e1]
    rw [Nat.mul_assoc A E, Nat.mul_comm E, Nat.mul_assoc A g, Nat.mul_comm g, Nat.mul_assoc B, Nat.mul_comm g E, Nat.mul_assoc B E g]
  have h2 : C * B * D = b * (B * E) := by
    conv => lhs; rw [← e4]
    conv => rhs; rw [← e3]
    rw [Nat.mul_assoc C B, Nat.mul_assoc C k, Nat.mul_comm k (B * E), Nat.mul_assoc B E k]
  rw [Nat.add_mul, Nat.add_mul, h1, h2]
theorem frac_loop (l c : List GCounted) (m : Int) (ev : Bool) (D : Nat) (w : Nat → Nat) (h0 : 0 < D) (hD : D ≤ 1000000000) (hw : wsum w 6 ≤ D)
    (hs : ∀ k : Nat, k < 6 → ∃ p q : Nat, totals_Fraction (totAt c m 6) (k : Int) = some ((p : Int), (q : Int)) ∧ 0 < q ∧ q ≤ 1000000000 ∧ p ≤ q ∧ fracN p q = fracN (w k) D ∧ (bif (bif fewS c m (k : Int) then decide ((0 : Int) < (p : Int)) else false) then (!ev) else false) = false ∧ (bif (ownS c (k : Int) == (0 : Int)) then decide ((0 : Int) < (p : Int)) else false) = false) :
    ∀ n k : Nat, k + n = 6 → fixL (law18_TotalsAddUp_l2 l ev (totAt c m 6)) ((k : Int), (fracN (wsum w k) D).1) = some (.inr (fracN (wsum w 6) D).1) := by
  intro n
  induction n with
  | zero =>
    intro k h
    obtain rfl : k = 6 := by omega
    rw [fixL_eq]
    rfl
  | succ n ih =>
    intro k h
    have hk : k < 6 := by omega
    have hi : (0 : Int) ≤ (k : Int) ∧ (k : Int) < ((6 : Nat) : Int) := by omega
    obtain ⟨p, q, h1, h2, h3, h4, h5, h6, h7⟩ := hs k hk
    have hle : wsum w k + w k ≤ D := by
      have := wsum_mono w n (k + 1)
      rw [show k + 1 + n = 6 by omega] at this
      have : wsum w (k + 1) = wsum w k + w k := rfl
      omega
    obtain ⟨f1, _⟩ := fracN_facts (w k) D h0 (by omega) hD
    obtain ⟨f2, _⟩ := fracN_facts (wsum w k + w k) D h0 (by omega) hD
    have f1' : (fracN (w k) D).2 = 0 := by rw [f1]
    have f2' : (fracN (wsum w k + w k) D).2 = 0 := by rw [f2]
    rw [fixL_eq]
    show (law18_TotalsAddUp_p1 l ev (k : Int) (totAt c m 6) (fracN (wsum w k) D).1).bind _ = _
    unfold law18_TotalsAddUp_p1
    rw [decide_eq_true (by omega), cond_true, h1, Option.bind_some, ref1_Make_nat p q (by omega) (by omega) h2, Option.bind_some, gd_pos (fun _ => hi.1), gd_pos (fun _ => hi.2), gd_pos (fun _ => hi.1), gd_pos (fun _ => hi.2), Int.toNat_natCast, own_at c m k hk, few_at c m k hk, h5, f1', h6, h7]
    have c0 : (bif (bif ((0 : Int) != 0) then true else decide ((p : Int) < 0)) then true else decide ((q : Int) < (p : Int))) = false := by
      rw [decide_eq_false (show ¬ (p : Int) < 0 by omega), decide_eq_false (show ¬ (q : Int) < (p : Int) by omega)]; rfl
    rw [c0, cond_false, cond_false, cond_false, add_step_frac D _ _ h0 hD hle, Option.bind_some, f2', show ((0 : Int) != 0) = false from rfl, cond_false, w64_succ (by omega), Option.bind_some]
    exact ih (k + 1) (by omega)
theorem fracN_zero (D : Nat) (h0 : 0 < D) : fracN 0 D = (⟨0, 1⟩, 0) := by
  rw [fracN_ratio (m := 0) (e := 1) h0 (by omega) (by omega)]; rfl
theorem fracN_one (D : Nat) (h0 : 0 < D) : fracN D D = (⟨1, 1⟩, 0) := by
  rw [fracN_ratio (m := 1) (e := 1) h0 (by omega) (by omega)]; rfl
/-- A state without a part. -/
theorem frac_zero (c : List GCounted) (m : Int) (k : Nat) (hk : k < 6) (h1 : fewS c m (k : Int) = true ∨ ownS c (k : Int) = 0 ∨ baseS c m 6 = 0) (h2 : baseS c m 6 ≠ 0 ∨ sumS c 6 = 0 ∨ (k : Int) ≠ (lastP c 6).2) : totals_Fraction (totAt c m 6) (k : Int) = some (0, 1) := by
  have hb := baseS_rng c m 6
  show totals_Fraction_p0 _ _ = _
  unfold totals_Fraction_p0
  have e1 : (totAt c m 6).Sum = sumS c 6 := rfl
  have e2 : (totAt c m 6).Base = baseS c m 6 := rfl
  have e3 : (totAt c m 6).Last = (lastP c 6).2 := rfl
  rw [decide_eq_false (by omega), decide_eq_false (by omega), cond_false, cond_false, gd_pos (by omega), Int.toNat_natCast, own_at c m k hk, few_at c m k hk, e1, e2, e3]
  have x1 : (bif (bif (!fewS c m (k : Int)) then decide (0 < ownS c (k : Int)) else false) then decide (0 < baseS c m 6) else false) = false := by
    rcases h1 with h | h | h
    · rw [h]; rfl
    · rw [h]; cases fewS c m (k : Int) <;> rfl
    · rw [h]; cases (bif (!fewS c m (k : Int)) then decide (0 < ownS c (k : Int)) else false) <;> rfl
  have x2 : (bif (bif (baseS c m 6 == (0 : Int)) then decide (0 < sumS c 6) else false) then ((k : Int) == (lastP c 6).2) else false) = false := by
    rcases h2 with h | h | h
    · rw [beq_eq_false_iff_ne.2 h]; rfl
    · rw [h]; cases (baseS c m 6 == (0 : Int)) <;> rfl
    · rw [beq_eq_false_iff_ne.2 h]; cases (bif (baseS c m 6 == (0 : Int)) then decide (0 < sumS c 6) else false) <;> rfl
  rw [x1, x2]
  rfl
theorem fracs (l c : List GCounted) (m : Int) : ∃ W D : Nat, 0 < D ∧ fixL (law18_TotalsAddUp_l2 l (everyS c m 6) (totAt c m 6)) ((0 : Int), (⟨0, 1⟩ : GFraction)) = some (.inr (fracN W D).1) ∧ (0 < sumS c 6 → W = D) ∧ (sumS c 6 = 0 → W = 0) := by
  have hb := baseS_rng c m 6
  have hs := sumS_rng c 6
  by_cases hb0 : baseS c m 6 = 0
  · have hfew : ∀ j : Nat, j < 6 → ownS c (j : Int) = 0 ∨ fewS c m (j : Int) = true := by
      intro j hj
      cases hf : fewS c m (j : Int) with
      | true => exact .inr rfl
      | false =>
        have := base_own c m j hf 6 hj
        have := ownS_rng c (j : Int)
        exact .inl (by omega)
    have hev : everyS c m 6 = true := every_of 6 hfew
    rw [hev]
    rcases lastP_ok c 6 with ⟨h1, h2⟩ | ⟨j, j1, j2, j3, j4⟩
    · have hz : sumS c 6 = 0 := by
        have z : ∀ n, n ≤ 6 → sumS c n = 0 := by
          intro n
          induction n with
          | zero => intro _; rfl
          | succ n ih => intro hn; unfold sumS; rw [ih (by omega), h2 n (by omega)]; rfl
        exact z 6 (Nat.le_refl _)
      have := frac_loop l c m true 1 (fun _ => 0) (by omega) (by omega) (by decide) (fun k hk => ⟨0, 1, frac_zero c m k hk (.inr (.inr hb0)) (.inr (.inl hz)), by omega, by omega, by omega, rfl, by cases fewS c m (k : Int) <;> rfl, by cases (ownS c (k : Int) == 0) <;> rfl⟩) 6 0 rfl
      rw [show (fracN (wsum (fun _ => 0) 0) 1).1 = ⟨0, 1⟩ from by rw [show wsum (fun _ => 0) 0 = 0 from rfl, fracN_zero 1 (by omega)]] at this
      exact ⟨wsum (fun _ => 0) 6, 1, by omega, this, fun h => by omega, fun _ => rfl⟩
    · have hjs : ownS c (j : Int) ≤ sumS c 6 := by
        have z : ∀ n, j < n → ownS c (j : Int) ≤ sumS c n := by
          intro n
          induction n with
          | zero => intro h; omega
          | succ n ih =>
            intro h
            have h1 := sumS_rng c n
            have h2 := ownS_rng c (n : Int)
            unfold sumS
            by_cases e : j = n
            · subst e; omega
            · have := ih (by omega); omega
        exact z 6 j1
      have hw : wsum (fun k => if k = j then 1 else 0) 6 = 1 := by
        match j, j1 with
        | 0, _ => rfl
        | 1, _ => rfl
        | 2, _ => rfl
        | 3, _ => rfl
        | 4, _ => rfl
        | 5, _ => rfl
      have := frac_loop l c m true 1 (fun k => if k = j then 1 else 0) (by omega) (by omega) (by omega) (fun k hk => by
        by_cases e : k = j
        · subst e
          refine ⟨1, 1, ?_, by omega, by omega, by omega, by rw [if_pos rfl], by cases fewS c m (k : Int) <;> rfl, by rw [beq_eq_false_iff_ne.2 (by omega)]; rfl⟩
          show totals_Fraction_p0 _ _ = _
          unfold totals_Fraction_p0
          have e1 : (totAt c m 6).Sum = sumS c 6 := rfl
          have e2 : (totAt c m 6).Base = baseS c m 6 := rfl
          have e3 : (totAt c m 6).Last = (lastP c 6).2 := rfl
          rw [decide_eq_false (by omega), decide_eq_false (by omega), cond_false, cond_false, gd_pos (by omega), Int.toNat_natCast, own_at c m k hk, few_at c m k hk, e1, e2, e3, hb0, j2, decide_eq_true (show 0 < sumS c 6 by omega), beq_self_eq_true, beq_self_eq_true]
          cases (bif (!fewS c m (k : Int)) then decide (0 < ownS c (k : Int)) else false) <;> rfl
        · exact ⟨0, 1, frac_zero c m k hk (.inr (.inr hb0)) (.inr (.inr (by rw [j2]; omega))), by omega, by omega, by omega, by rw [if_neg e], by cases fewS c m (k : Int) <;> rfl, by cases (ownS c (k : Int) == 0) <;> rfl⟩) 6 0 rfl
      rw [show (fracN (wsum (fun k => if k = j then 1 else 0) 0) 1).1 = ⟨0, 1⟩ from by rw [show wsum (fun k => if k = j then 1 else 0) 0 = 0 from rfl, fracN_zero 1 (by omega)]] at this
      exact ⟨wsum (fun k => if k = j then 1 else 0) 6, 1, by omega, this, fun _ => hw, fun h => by omega⟩
  · have hwb : ∀ n, ((wsum (fun k => (bif fewS c m (k : Int) then 0 else ownS c (k : Int)).toNat) n : Nat) : Int) = baseS c m n := by
      intro n
      induction n with
      | zero => rfl
      | succ n ih =>
        have ho := ownS_rng c (n : Int)
        unfold wsum baseS
        rw [Int.natCast_add, ih]
        cases fewS c m (n : Int) with
        | true => simp
        | false => rw [cond_false, cond_false, Int.toNat_of_nonneg ho.1]
    have h6 := hwb 6
    have hD : ((baseS c m 6).toNat : Int) = baseS c m 6 := Int.toNat_of_nonneg hb.1
    have hpos : 0 < (baseS c m 6).toNat := by omega
    have := frac_loop l c m (everyS c m 6) (baseS c m 6).toNat (fun k => (bif fewS c m (k : Int) then 0 else ownS c (k : Int)).toNat) hpos (by omega) (by omega) (fun k hk => by
      have ho := ownS_rng c (k : Int)
      cases hf : fewS c m (k : Int) with
      | true =>
        refine ⟨0, 1, frac_zero c m k hk (.inl hf) (.inl hb0), by omega, by omega, by omega, ?_, by cases everyS c m 6 <;> rfl, by cases (ownS c (k : Int) == 0) <;> rfl⟩
        exact fracN_ratio (by omega) hpos (by simp)
      | false =>
        by_cases hz : ownS c (k : Int) = 0
        · refine ⟨0, 1, frac_zero c m k hk (.inr (.inl hz)) (.inl hb0), by omega, by omega, by omega, ?_, rfl, by cases (ownS c (k : Int) == 0) <;> rfl⟩
          rw [hz]
          exact fracN_ratio (by omega) hpos (by simp)
        · have hle := base_own c m k hf 6 hk
          refine ⟨(ownS c (k : Int)).toNat, (baseS c m 6).toNat, ?_, hpos, by omega, by omega, rfl, rfl, by rw [beq_eq_false_iff_ne.2 hz]; rfl⟩
          rw [frac_own c m k hk hf (by omega), hD, Int.toNat_of_nonneg ho.1]) 6 0 rfl
    rw [show (fracN (wsum (fun k => (bif fewS c m (k : Int) then 0 else ownS c (k : Int)).toNat) 0) (baseS c m 6).toNat).1 = ⟨0, 1⟩ from by rw [show wsum (fun k => (bif fewS c m (k : Int) then 0 else ownS c (k : Int)).toNat) 0 = 0 from rfl, fracN_zero _ hpos]] at this
    exact ⟨_, _, hpos, this, fun _ => by omega, fun h => by omega⟩
theorem asc_pos : ∀ (l : List GSpan) (lo : Int), AscS lo l → 0 ≤ daysN l ∧ (l ≠ [] → 0 < daysN l)
  | [], _, _ => ⟨Int.le_refl _, fun h => (h rfl).elim⟩
  | s :: r, lo, ⟨h1, h2, h3, h4⟩ => by
    have := (asc_pos r s.To h4).1
    unfold daysN
    exact ⟨by omega, fun _ => by omega⟩
theorem law_TotalsAddUp (l : List GCounted) (m : Int) : law18_TotalsAddUp l m = some true := by
  show law18_TotalsAddUp_p7 l m = _
  unfold law18_TotalsAddUp_p7
  by_cases h : (60 : Int) < ((l.length : Nat) : Int)
  · rw [decide_eq_true h, cond_true]
  · rw [decide_eq_false h, cond_false]
    have hl : l.length ≤ 60 := by omega
    have ha := countedL_asc l 0 (by omega)
    have hst := countedL_st l 0
    have hlen := countedL_len 0 l
    rw [counted_eq l hl, Option.bind_some, made_Pick_eq m 1500 (by omega), Option.bind_some, totals_Compute_eq _ _ (by omega), Option.bind_some]
    generalize (if (1500 : Int) < 1 then 0 else m % 1500) = m
    generalize countedL 0 l = c at ha hst hlen
    have h1 := every_loop l c m 6 0 rfl
    show (fixL (law18_TotalsAddUp_l1 l (totAt c m 6)) (true, (0 : Int))).bind _ = _
    rw [show (true, (0 : Int)) = (everyS c m 0, ((0 : Nat) : Int)) from rfl, h1, Option.bind_some]
    show (fixL (law18_TotalsAddUp_l2 l (everyS c m 6) (totAt c m 6)) ((0 : Int), (⟨0, 1⟩ : GFraction))).bind _ = _
    obtain ⟨W, D, d0, d1, d2, d3⟩ := fracs l c m
    rw [d1, Option.bind_some]
    show law18_TotalsAddUp_p3 l (fracN W D).1 = _
    unfold law18_TotalsAddUp_p3
    have hsum := sum_all (Int.le_refl 0) ha hst
    have hpos := asc_pos _ 0 ha
    by_cases e : l.length = 0
    · have hc : c = [] := List.length_eq_zero_iff.1 (by omega)
      rw [d3 (by rw [hsum, hc]; rfl), fracN_zero D d0, beq_iff_eq.2 (by omega), cond_true]
      unfold law18_TotalsAddUp_p2
      rw [law18_awake_eq, Option.bind_some]
      rfl
    · have hc : (c.map fun x => x.Span) ≠ [] := by
        intro hc
        rw [List.map_eq_nil_iff] at hc
        rw [hc] at hlen
        exact e hlen.symm
      rw [d2 (by rw [hsum]; exact hpos.2 hc), fracN_one D d0, beq_eq_false_iff_ne.2 (by omega), cond_false]
      unfold law18_TotalsAddUp_p2
      rw [law18_awake_eq, Option.bind_some]
      rfl
end Go.Ax
