import Derived.Test.YtkcekbabhmdnhaaL96
set_option linter.all false
/- The totalisation of a list: the program's, and the document's. -/
set_option maxRecDepth 100000
namespace Go.Ax
open Go.Proofs

theorem at_setI (x : GArr6_I64) (i : Nat) (v : Int) (h : i < 6) : GArr6_I64.at (GArr6_I64.set x i v) i = v := by
  match i, h with
  | 0, _ => rfl
  | 1, _ => rfl
  | 2, _ => rfl
  | 3, _ => rfl
  | 4, _ => rfl
  | 5, _ => rfl
theorem at_setB (x : GArr6_Bool) (i : Nat) (v : Bool) (h : i < 6) : GArr6_Bool.at (GArr6_Bool.set x i v) i = v := by
  match i, h with
  | 0, _ => rfl
  | 1, _ => rfl
  | 2, _ => rfl
  | 3, _ => rfl
  | 4, _ => rfl
  | 5, _ => rfl
/-- Has the state few days? -/
noncomputable def fewS (l : List GCounted) (m s : Int) : Bool := bif decide (0 < ownS l s) then decide (ownS l s < m) else false
noncomputable def sumS (l : List GCounted) : Nat → Int
  | 0 => 0
  | k + 1 => sumS l k + ownS l (k : Int)
noncomputable def baseS (l : List GCounted) (m : Int) : Nat → Int
  | 0 => 0
  | k + 1 => bif fewS l m (k : Int) then baseS l m k else baseS l m k + ownS l (k : Int)
/-- The latest day of the first states, and the state of it. -/
noncomputable def lastP (l : List GCounted) : Nat → Int × Int
  | 0 => (-1, -1)
  | k + 1 => bif (bif (lastC l (k : Int)).2 then decide ((lastP l k).1 < (lastC l (k : Int)).1) else false) then ((lastC l (k : Int)).1, (k : Int)) else lastP l k
noncomputable def ownA (l : List GCounted) (k : Nat) : GArr6_I64 := ⟨if 0 < k then ownS l 0 else 0, if 1 < k then ownS l 1 else 0, if 2 < k then ownS l 2 else 0, if 3 < k then ownS l 3 else 0, if 4 < k then ownS l 4 else 0, if 5 < k then ownS l 5 else 0⟩
noncomputable def fewA (l : List GCounted) (m : Int) (k : Nat) : GArr6_Bool := ⟨if 0 < k then fewS l m 0 else false, if 1 < k then fewS l m 1 else false, if 2 < k then fewS l m 2 else false, if 3 < k then fewS l m 3 else false, if 4 < k then fewS l m 4 else false, if 5 < k then fewS l m 5 else false⟩
theorem ownA_set (l : List GCounted) (k : Nat) (h : k < 6) : GArr6_I64.set (ownA l k) k (ownS l (k : Int)) = ownA l (k + 1) := by
  match k, h with
  | 0, _ => rfl
  | 1, _ => rfl
  | 2, _ => rfl
  | 3, _ => rfl
  | 4, _ => rfl
  | 5, _ => rfl
theorem fewA_set (l : List GCounted) (m : Int) (k : Nat) (h : k < 6) : GArr6_Bool.set (fewA l m k) k (fewS l m (k : Int)) = fewA l m (k + 1) := by
  match k, h with
  | 0, _ => rfl
  | 1, _ => rfl
  | 2, _ => rfl
  | 3, _ => rfl
  | 4, _ => rfl
  | 5, _ => rfl
noncomputable def totAt (l : List GCounted) (m : Int) (k : Nat) : GTotal := ⟨ownA l k, fewA l m k, sumS l k, baseS l m k, (lastP l k).2⟩
theorem sumS_rng (l : List GCounted) : ∀ k : Nat, 0 ≤ sumS l k ∧ sumS l k ≤ 73050 * (k : Int)
  | 0 => by simp [sumS]
  | k + 1 => by
    have h1 := sumS_rng l k
    have h2 := ownS_rng l (k : Int)
    unfold sumS
    omega
theorem baseS_rng (l : List GCounted) (m : Int) : ∀ k : Nat, 0 ≤ baseS l m k ∧ baseS l m k ≤ sumS l k
  | 0 => by simp [sumS, baseS]
  | k + 1 => by
    have h1 := baseS_rng l m k
    have h2 := ownS_rng l (k : Int)
    unfold sumS baseS
    cases fewS l m (k : Int) <;> simp only [cond_true, cond_false] <;> omega
theorem totals_step (l : List GCounted) (m : Int) (hl : l.length ≤ 100000) (k : Nat) (hk : k < 6) :
    totals_Compute_l1 l m ((lastP l k).1, (k : Int), totAt l m k) = some (.inl ((lastP l (k + 1)).1, ((k + 1 : Nat) : Int), totAt l m (k + 1))) := by
  show totals_Compute_p1 l m (lastP l k).1 (k : Int) (totAt l m k) = _
  unfold totals_Compute_p1
  have hA : ∀ v, GArr6_I64.at (GArr6_I64.set (totAt l m k).Own k v) k = v := fun v => at_setI _ _ _ hk
  have hB : ∀ v, GArr6_Bool.at (GArr6_Bool.set (totAt l m k).Few k v) k = v := fun v => at_setB _ _ _ hk
  have hi : (0 : Int) ≤ (k : Int) ∧ (k : Int) < ((6 : Nat) : Int) := by omega
  have hs := sumS_rng l k
  have hb := baseS_rng l m k
  have ho := ownS_rng l (k : Int)
  have e1 : (totAt l m k).Sum = sumS l k := rfl
  have e2 : (totAt l m k).Base = baseS l m k := rfl
  have e3 : (totAt l m k).Last = (lastP l k).2 := rfl
  have e4 : GArr6_I64.set (totAt l m k).Own k (ownS l (k : Int)) = ownA l (k + 1) := ownA_set l k hk
  have e5 : GArr6_Bool.set (totAt l m k).Few k (fewS l m (k : Int)) = fewA l m (k + 1) := fewA_set l m k hk
  have e6 : (bif decide (0 < ownS l (k : Int)) then decide (ownS l (k : Int) < m) else false) = fewS l m (k : Int) := rfl
  have w1 : w64 (sumS l k + ownS l (k : Int)) = sumS l (k + 1) := by rw [w64_in (by omega) (by omega)]; rfl
  have w2 : w64 (baseS l m k + ownS l (k : Int)) = baseS l m k + ownS l (k : Int) := w64_in (by omega) (by omega)
  have hlast : spans_Last (makeS (stOf l (k : Int))) = some (lastC l (k : Int)) := by
    rw [spans_Last_eq _ (makeS_len' l _ hl), makeS_idem (makeS_ok _).1]; rfl
  rw [decide_eq_true (by omega), cond_true, overlap_Days_eq l _ hl, Option.bind_some, gd_pos hi]
  simp only [Int.toNat_natCast, hA, hB]
  simp only [e6, e4, e5, e1, e2, e3, w1, w2]
  rw [overlap_Of_eq l _ hl, Option.bind_some, hlast, Option.bind_some, Option.bind_some, hlast, Option.bind_some]
  have hT : totAt l m (k + 1) = ⟨ownA l (k + 1), fewA l m (k + 1), sumS l (k + 1), baseS l m (k + 1), (lastP l (k + 1)).2⟩ := rfl
  have hP : ∀ a t, totals_Compute_p0 l m a (k : Int) t = some (.inl (a, ((k + 1 : Nat) : Int), t)) := by
    intro a t
    unfold totals_Compute_p0
    rw [w64_succ (by omega)]
  rw [hT]
  simp only [hP]
  have hbase : baseS l m (k + 1) = bif fewS l m (k : Int) then baseS l m k else baseS l m k + ownS l (k : Int) := rfl
  have hlp : lastP l (k + 1) = bif (bif (lastC l (k : Int)).2 then decide ((lastP l k).1 < (lastC l (k : Int)).1) else false) then ((lastC l (k : Int)).1, (k : Int)) else lastP l k := rfl
  rw [hbase, hlp]
  cases fewS l m (k : Int) <;> cases (bif (lastC l (k : Int)).2 then decide ((lastP l k).1 < (lastC l (k : Int)).1) else false) <;> rfl
theorem totals_Compute_eq (l : List GCounted) (m : Int) (hl : l.length ≤ 100000) : totals_Compute l m = some (totAt l m 6) := by
  have key : ∀ n k : Nat, k + n = 6 → fixL (totals_Compute_l1 l m) ((lastP l k).1, (k : Int), totAt l m k) = some (totAt l m 6) := by
    intro n
    induction n with
    | zero =>
      intro k h
      obtain rfl : k = 6 := by omega
      rw [fixL_eq]
      rfl
    | succ n ih =>
      intro k h
      rw [fixL_eq, totals_step l m hl k (by omega), Option.bind_some]
      exact ih (k + 1) (by omega)
  show (fixL (totals_Compute_l1 l m) ((-1 : Int), (0 : Int), (GTotal.mk (GArr6_I64.mk (0 : Int) (0 : Int) (0 : Int) (0 : Int) (0 : Int) (0 : Int)) (GArr6_Bool.mk false false false false false false) (0 : Int) (0 : Int) (-1 : Int)))).bind _ = _
  have := key 6 0 rfl
  have e0 : totAt l m 0 = (GTotal.mk (GArr6_I64.mk (0 : Int) (0 : Int) (0 : Int) (0 : Int) (0 : Int) (0 : Int)) (GArr6_Bool.mk false false false false false false) (0 : Int) (0 : Int) (-1 : Int)) := rfl
  rw [e0] at this
  rw [show ((-1 : Int), (0 : Int), (GTotal.mk (GArr6_I64.mk (0 : Int) (0 : Int) (0 : Int) (0 : Int) (0 : Int) (0 : Int)) (GArr6_Bool.mk false false false false false false) (0 : Int) (0 : Int) (-1 : Int))) = ((lastP l 0).1, ((0 : Nat) : Int), (GTotal.mk (GArr6_I64.mk (0 : Int) (0 : Int) (0 : Int) (0 : Int) (0 : Int) (0 : Int)) (GArr6_Bool.mk false false false false false false) (0 : Int) (0 : Int) (-1 : Int))) from rfl, this, Option.bind_some]
  rfl
theorem ref16_step (l : List GCounted) (m : Int) (hl : l.length ≤ 100000) (k : Nat) (hk : k < 6) :
    ref16_Compute_l1 l m ((lastP l k).1, (k : Int), totAt l m k) = some (.inl ((lastP l (k + 1)).1, ((k + 1 : Nat) : Int), totAt l m (k + 1))) := by
  show ref16_Compute_p1 l m (lastP l k).1 (k : Int) (totAt l m k) = _
  unfold ref16_Compute_p1
  have hA : ∀ v, GArr6_I64.at (GArr6_I64.set (totAt l m k).Own k v) k = v := fun v => at_setI _ _ _ hk
  have hB : ∀ v, GArr6_Bool.at (GArr6_Bool.set (totAt l m k).Few k v) k = v := fun v => at_setB _ _ _ hk
  have hi : (0 : Int) ≤ (k : Int) ∧ (k : Int) < ((6 : Nat) : Int) := by omega
  have hs := sumS_rng l k
  have hb := baseS_rng l m k
  have ho := ownS_rng l (k : Int)
  have e1 : (totAt l m k).Sum = sumS l k := rfl
  have e2 : (totAt l m k).Base = baseS l m k := rfl
  have e3 : (totAt l m k).Last = (lastP l k).2 := rfl
  have e4 : GArr6_I64.set (totAt l m k).Own k (ownS l (k : Int)) = ownA l (k + 1) := ownA_set l k hk
  have e5 : GArr6_Bool.set (totAt l m k).Few k (fewS l m (k : Int)) = fewA l m (k + 1) := fewA_set l m k hk
  have e6 : (bif decide (0 < ownS l (k : Int)) then decide (ownS l (k : Int) < m) else false) = fewS l m (k : Int) := rfl
  have w1 : w64 (sumS l k + ownS l (k : Int)) = sumS l (k + 1) := by rw [w64_in (by omega) (by omega)]; rfl
  have w2 : w64 (baseS l m k + ownS l (k : Int)) = baseS l m k + ownS l (k : Int) := w64_in (by omega) (by omega)
  have hlast : ref1_Last (makeS (stOf l (k : Int))) = some (lastC l (k : Int)) := by
    rw [ref1_Last_eq _ (makeS_len' l _ hl), makeS_idem (makeS_ok _).1]; rfl
  rw [decide_eq_true (by omega), cond_true, ref16_CountedDays_eq l _ hl, Option.bind_some, gd_pos hi]
  simp only [Int.toNat_natCast, hA, hB]
  simp only [e6, e4, e5, e1, e2, e3, w1, w2]
  rw [ref16_CountedOf_eq l _ hl, Option.bind_some, hlast, Option.bind_some, Option.bind_some, hlast, Option.bind_some]
  have hT : totAt l m (k + 1) = ⟨ownA l (k + 1), fewA l m (k + 1), sumS l (k + 1), baseS l m (k + 1), (lastP l (k + 1)).2⟩ := rfl
  have hP : ∀ a t, ref16_Compute_p0 l m a (k : Int) t = some (.inl (a, ((k + 1 : Nat) : Int), t)) := by
    intro a t
    unfold ref16_Compute_p0
    rw [w64_succ (by omega)]
  rw [hT]
  simp only [hP]
  have hbase : baseS l m (k + 1) = bif fewS l m (k : Int) then baseS l m k else baseS l m k + ownS l (k : Int) := rfl
  have hlp : lastP l (k + 1) = bif (bif (lastC l (k : Int)).2 then decide ((lastP l k).1 < (lastC l (k : Int)).1) else false) then ((lastC l (k : Int)).1, (k : Int)) else lastP l k := rfl
  rw [hbase, hlp]
  cases fewS l m (k : Int) <;> cases (bif (lastC l (k : Int)).2 then decide ((lastP l k).1 < (lastC l (k : Int)).1) else false) <;> rfl
theorem ref16_Compute_eq (l : List GCounted) (m : Int) (hl : l.length ≤ 100000) : ref16_Compute l m = some (totAt l m 6) := by
  have key : ∀ n k : Nat, k + n = 6 → fixL (ref16_Compute_l1 l m) ((lastP l k).1, (k : Int), totAt l m k) = some (totAt l m 6) := by
    intro n
    induction n with
    | zero =>
      intro k h
      obtain rfl : k = 6 := by omega
      rw [fixL_eq]
      rfl
    | succ n ih =>
      intro k h
      rw [fixL_eq, ref16_step l m hl k (by omega), Option.bind_some]
      exact ih (k + 1) (by omega)
  show (fixL (ref16_Compute_l1 l m) ((-1 : Int), (0 : Int), (GTotal.mk (GArr6_I64.mk (0 : Int) (0 : Int) (0 : Int) (0 : Int) (0 : Int) (0 : Int)) (GArr6_Bool.mk false false false false false false) (0 : Int) (0 : Int) (-1 : Int)))).bind _ = _
  have := key 6 0 rfl
  have e0 : totAt l m 0 = (GTotal.mk (GArr6_I64.mk (0 : Int) (0 : Int) (0 : Int) (0 : Int) (0 : Int) (0 : Int)) (GArr6_Bool.mk false false false false false false) (0 : Int) (0 : Int) (-1 : Int)) := rfl
  rw [e0] at this
  rw [show ((-1 : Int), (0 : Int), (GTotal.mk (GArr6_I64.mk (0 : Int) (0 : Int) (0 : Int) (0 : Int) (0 : Int) (0 : Int)) (GArr6_Bool.mk false false false false false false) (0 : Int) (0 : Int) (-1 : Int))) = ((lastP l 0).1, ((0 : Nat) : Int), (GTotal.mk (GArr6_I64.mk (0 : Int) (0 : Int) (0 : Int) (0 : Int) (0 : Int) (0 : Int)) (GArr6_Bool.mk false false false false false false) (0 : Int) (0 : Int) (-1 : Int))) from rfl, this, Option.bind_some]
  rfl
end Go.Ax
