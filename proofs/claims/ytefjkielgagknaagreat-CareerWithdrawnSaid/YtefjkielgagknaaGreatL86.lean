import Derived.Test.YtefjkielgagknaaGreatL85
set_option linter.all false
/- A withdrawn fact has no effect: the law. -/
set_option maxRecDepth 100000
namespace Go.Ax
open Go.Proofs

theorem withdrawn_part (kind state day : Int) (b c : List GFact) (hb : b.length ≤ 100000) (hc : c.length ≤ 100000) (h : b.filter curB = c.filter curB) (x : Int) (ok : Bool) : law13_CareerWithdrawn_p1 kind state day b c x ok x ok = some true := by
  have e1 : lifeL b = lifeL c := by unfold lifeL firstL; rw [h]
  have e2 : spansOf b kind state = spansOf c kind state := by unfold spansOf; rw [h]
  have e3 : kidsL b day = kidsL c day := by unfold kidsL; rw [h]
  have l1 := spansOf_len c kind state
  have l2 := kids_len c day
  have l3 := clipL_len (spansOf c kind state) (lifeL c) (by omega)
  have l4 := Lib.compact_length_le (sortI (kidsL c day))
  have l5 := (sortI_spec (kidsL c day)).2.2
  have l6 := List.length_filter_le curB c
  unfold law13_CareerWithdrawn_p1
  rw [law13_awake_eq, Option.bind_some, cond_true, beq_self_eq_true, cond_true, beq_self_eq_true, cond_true, career_Life_eq b (by omega), Option.bind_some, career_Life_eq c (by omega), Option.bind_some, e1, beq_self_eq_true, beq_self_eq_true,
    show (true && (true && true)) = true from rfl, cond_true, career_Spans_eq b kind state hb, Option.bind_some, career_Spans_eq c kind state hc, Option.bind_some, e1, e2, ref1_SameSpans_refl _ l3, Option.bind_some, cond_true,
    career_Children_eq b day hb, Option.bind_some, career_Children_eq c day hc, Option.bind_some, e3, ref1_SameInts_refl _ (by omega), Option.bind_some, cond_true, career_Current_eq b (by omega), Option.bind_some, career_Current_eq c (by omega), Option.bind_some, h,
    SameFacts_refl _ (by omega), Option.bind_some]
  rfl
theorem residence_part (b c : List GFact) (day : Int) (hb : b.length ≤ 100000) (hc : c.length ≤ 100000) (h : b.filter curB = c.filter curB) : ∃ r, career_Residence b day = some r ∧ career_Residence c day = some r := by
  refine ⟨_, career_Residence_eq b day (by omega), ?_⟩
  have e1 : lifeL b = lifeL c := by unfold lifeL firstL; rw [h]
  have e2 : bestL b day = bestL c day := by unfold bestL; rw [h]
  have e3 : inLife b day = inLife c day := by unfold inLife; rw [e1]
  rw [career_Residence_eq c day (by omega), e2, e3]
theorem law_CareerWithdrawn (l : List GHand) (n : List Int) (at_ kind state day : Int) (hn : n.length ≤ 9223372036854775807) : law13_CareerWithdrawn l n at_ kind state day = some true := by
  obtain ⟨a, ha, h1⟩ := law13_alone_some l n hn
  show law13_CareerWithdrawn_p2 l n at_ kind state day = _
  unfold law13_CareerWithdrawn_p2
  rw [ha, Option.bind_some]
  by_cases h0 : a.length = 0
  · have : (((a.length : Nat) : Int) == (0 : Int)) = true := by rw [h0]; rfl
    rw [this, cond_true, law13_awake_eq]
    rfl
  · have : (((a.length : Nat) : Int) == (0 : Int)) = false := by
      rw [beq_eq_false_iff_ne]; omega
    rw [this, cond_false, made_Pick_eq _ _ (by omega), Option.bind_some, if_neg (by omega)]
    have m1 := Int.emod_nonneg at_ (show ((a.length : Nat) : Int) ≠ 0 by omega)
    have m2 := Int.emod_lt_of_pos at_ (show (0 : Int) < ((a.length : Nat) : Int) by omega)
    generalize hk : at_ % ((a.length : Nat) : Int) = k at m1 m2
    obtain ⟨j, rfl⟩ : ∃ j : Nat, k = j := ⟨k.toNat, by omega⟩
    have hj : j < a.length := by omega
    have w1 : w64 ((j : Int) + 1) = ((j + 1 : Nat) : Int) := w64_succ (by omega)
    have t1 : Int.toNat ((j : Int) - 0) = j := by omega
    have t2 : Int.toNat (((a.length : Nat) : Int) - ((j + 1 : Nat) : Int)) = a.length - (j + 1) := by omega
    rw [w1, t1, t2, Int.toNat_natCast, Int.toNat_natCast, Nat.zero_add, Nat.zero_add, gd_pos (capF (by omega)), gd_pos (by omega), gd_pos (by omega), gd_pos (capF (by omega)), gd_pos (by omega), gd_pos (capF (by omega)),
      made_Pick_eq _ 15 (by omega), Option.bind_some, made_Pick_eq _ 3 (by omega), Option.bind_some, made_Pick_eq _ 25000 (by omega), Option.bind_some]
    obtain ⟨p, x, s, rfl, rfl⟩ : ∃ p x s, a = p ++ x :: s ∧ p.length = j := ⟨a.take j, a[j], a.drop (j + 1), by rw [← List.drop_eq_getElem_cons hj, List.take_append_drop], by simp; omega⟩
    have g2 : subL zGFact (p ++ x :: s) 0 p.length = p := sub_front zGFact p (x :: s)
    have g3 : subL zGFact (p ++ x :: s) (0 + (p.length + 1)) ((p ++ x :: s).length - (p.length + 1)) = s := by
      have := sub_back zGFact (p ++ [x]) s
      rw [List.append_assoc] at this
      have e : (p ++ [x]).length = p.length + 1 := by simp
      rw [e] at this
      have e2 : (p ++ x :: s).length - (p.length + 1) = s.length := by simp; omega
      rw [e2, Nat.zero_add]
      exact this
    have g4 : ∀ y, (p ++ x :: s).set p.length y = p ++ y :: s := fun y => by
      rw [List.set_append_right _ _ (Nat.le_refl _)]
      simp
    rw [g2, g3, g4]
    have hf : ∀ y : GFact, y.Withdrawn = true → (p ++ y :: s).filter curB = (p ++ s).filter curB := by
      intro y hy
      rw [List.filter_append, List.filter_append, List.filter_cons, if_neg (by unfold curB; rw [hy]; simp)]
    have hl : ∀ y : GFact, (p ++ y :: s).length ≤ 100000 := fun y => by simp at h1 ⊢; omega
    have hl2 : (p ++ s).length ≤ 100000 := by simp at h1 ⊢; omega
    generalize hy : (GFact.mk ((p ++ x :: s).getD p.length zGFact).Issuer ((p ++ x :: s).getD p.length zGFact).Number ((p ++ x :: s).getD p.length zGFact).Version true ((p ++ x :: s).getD p.length zGFact).Person ((p ++ x :: s).getD p.length zGFact).Kind ((p ++ x :: s).getD p.length zGFact).State ((p ++ x :: s).getD p.length zGFact).Span ((p ++ x :: s).getD p.length zGFact).Seat ((p ++ x :: s).getD p.length zGFact).Share ((p ++ x :: s).getD p.length zGFact).Currency ((p ++ x :: s).getD p.length zGFact).Amount ((p ++ x :: s).getD p.length zGFact).Ref) = y
    have hw : y.Withdrawn = true := by rw [← hy]
    obtain ⟨r, q1, q2⟩ := residence_part (p ++ y :: s) (p ++ s) (w64 (20000 + (if (25000 : Int) < 1 then 0 else day % 25000))) (hl y) hl2 (hf y hw)
    rw [q1, Option.bind_some, q2, Option.bind_some]
    exact withdrawn_part _ _ _ _ _ (hl y) hl2 (hf y hw) _ _
end Go.Ax
