import Derived.Test.YtefjkielgagknaaGreatL80
set_option linter.all false
/- The facts of one person, from drawn numbers: they are made. -/
set_option maxRecDepth 100000
namespace Go.Ax
open Go.Proofs

/-- One of drawn numbers. -/
def pickL (n : List Int) (i : Int) : Int := if n.length = 0 then 0 else n.getD (i % (n.length : Int)).toNat 0
theorem hand_Pick_eq (n : List Int) (i : Int) (hn : n.length ≤ 9223372036854775807) : hand_Pick n i = some (pickL n i) := by
  show hand_Pick_p0 n i = _
  unfold hand_Pick_p0 pickL
  by_cases h : n.length = 0
  · have : (((n.length : Nat) : Int) == (0 : Int)) = true := by rw [h]; rfl
    rw [this, cond_true, if_pos h]
  · have : (((n.length : Nat) : Int) == (0 : Int)) = false := by
      rw [beq_eq_false_iff_ne]; omega
    have h1 := Int.emod_nonneg i (show ((n.length : Nat) : Int) ≠ 0 by omega)
    have h2 := Int.emod_lt_of_pos i (show (0 : Int) < ((n.length : Nat) : Int) by omega)
    rw [this, cond_false, if_neg h, plain_Mod_eq _ _ (by omega) (by omega), Option.bind_some, gd_pos ⟨h1, h2⟩]
theorem lives_step (n : List Int) (hn : n.length ≤ 9223372036854775807) (out : List GFact) (p : Int) (hp : 0 ≤ p ∧ p ≤ 2) (ho : out.length ≤ 100) : ∃ x : List GFact, x.length = 6 ∧ hand_Lives_p1 n out p = some (.inl (out ++ x, p + 1)) := by
  unfold hand_Lives_p1 hand_Lives_p0
  simp only [hand_Pick_eq n _ hn, Option.bind_some, plain_Mod_eq _ 3 (by omega) (by omega), plain_Mod_eq _ 6000 (by omega) (by omega), plain_Mod_eq _ 3000 (by omega) (by omega), plain_Mod_eq _ 900000 (by omega) (by omega)]
  rw [gd_pos (capF (by omega)), gd_pos (capF (by omega)), gd_pos (capF (by omega)), gd_pos (capF (by omega)), gd_pos (capF (by omega)), gd_pos (capF (by omega)), w64_in (n := p + 1) (by omega) (by omega)]
  simp only [List.append_assoc]
  exact ⟨_, rfl, rfl⟩
theorem hand_Lives_some (n : List Int) (hn : n.length ≤ 9223372036854775807) : ∃ x, hand_Lives n = some x ∧ x.length = 15 := by
  obtain ⟨a, ha, h1⟩ := lives_step n hn [] 1 (by omega) (by simp)
  obtain ⟨b, hb, h2⟩ := lives_step n hn ([] ++ a) (1 + 1) (by omega) (by simp [ha])
  have hl : fixL (hand_Lives_l1 n) (([] : List GFact), (1 : Int)) = some (([] ++ a) ++ b) := by
    rw [fixL_eq]
    have e1 : hand_Lives_l1 n (([] : List GFact), (1 : Int)) = some (.inl ([] ++ a, 1 + 1)) := h1
    rw [e1, Option.bind_some]
    show fixL (hand_Lives_l1 n) ([] ++ a, (1 + 1 : Int)) = _
    rw [fixL_eq]
    have e2 : hand_Lives_l1 n ([] ++ a, (1 + 1 : Int)) = some (.inl (([] ++ a) ++ b, 1 + 1 + 1)) := h2
    rw [e2, Option.bind_some]
    show fixL (hand_Lives_l1 n) (([] ++ a) ++ b, (1 + 1 + 1 : Int)) = _
    rw [fixL_eq]
    have e3 : hand_Lives_l1 n (([] ++ a) ++ b, (1 + 1 + 1 : Int)) = some (.inr (([] ++ a) ++ b)) := rfl
    rw [e3, Option.bind_some]
  have hlen : (([] ++ a) ++ b).length = 12 := by simp [ha, hb]
  have e : hand_Lives n = hand_Lives_p3 n (([] ++ a) ++ b) := by
    show (fixL (hand_Lives_l1 n) (([] : List GFact), (1 : Int))).bind (hand_Lives_p4_g n) = _
    rw [hl, Option.bind_some]
    rfl
  rw [e]
  generalize ([] ++ a) ++ b = out at hlen
  unfold hand_Lives_p3
  simp only [hand_Pick_eq n _ hn, Option.bind_some, plain_Mod_eq _ 2000 (by omega) (by omega), plain_Mod_eq _ 900 (by omega) (by omega), plain_Mod_eq _ 1200 (by omega) (by omega), plain_Mod_eq _ 300 (by omega) (by omega)]
  rw [gd_pos (capF (by omega)), gd_pos (capF (by omega)), gd_pos (capF (by omega))]
  exact ⟨_, rfl, by simp [hlen]⟩
/-- Facts of one person are made, and merged. -/
theorem law13_alone_some (l : List GHand) (n : List Int) (hn : n.length ≤ 9223372036854775807) : ∃ a, law13_alone l n = some a ∧ a.length ≤ 100 := by
  have key : ∀ (k i : Nat) (out : List GFact), min l.length 14 = i + k → out.length = i → ∃ a, fixL (law13_alone_l1 l n) (out, (i : Int)) = some a ∧ a.length ≤ 14 := by
    intro k
    induction k with
    | zero =>
      intro i out h ho
      refine ⟨out, ?_, by omega⟩
      rw [fixL_eq]
      show (law13_alone_p0 l n out (i : Int)).bind _ = _
      unfold law13_alone_p0
      have : (bif decide ((i : Int) < ((l.length : Nat) : Int)) then decide ((i : Int) < (14 : Int)) else false) = false := by
        rw [cond_and, Bool.and_eq_false_iff]
        by_cases hc : l.length ≤ i
        · left; simp; omega
        · right; simp; omega
      rw [this]
      rfl
    | succ k ih =>
      intro i out h ho
      have hi : i < l.length := by omega
      have h14 : decide ((i : Int) < (14 : Int)) = true := by simp; omega
      obtain ⟨f, hf⟩ : ∃ f, law13_alone_p0 l n out (i : Int) = some (.inl (out ++ [f], ((i + 1 : Nat) : Int))) := by
        unfold law13_alone_p0
        rw [lt_len hi, cond_true, h14, cond_true, gd_pos (idx_ok hi), hand_Make_eq, Option.bind_some, gd_pos (capF (n := out.length + 1) (by omega)), w64_succ (by omega)]
        exact ⟨_, rfl⟩
      rw [fixL_eq]
      show ∃ a, (law13_alone_p0 l n out (i : Int)).bind _ = some a ∧ _
      rw [hf, Option.bind_some]
      exact ih (i + 1) _ (by omega) (by simp [ho])
  obtain ⟨a, h1, h2⟩ := key (min l.length 14) 0 [] (by omega) rfl
  show ∃ x, (fixL (law13_alone_l1 l n) ([], (0 : Int))).bind (law13_alone_p2_g l n) = some x ∧ _
  rw [show ((0 : Nat) : Int) = 0 from rfl] at h1
  rw [h1, Option.bind_some]
  show ∃ x, law13_alone_p1 n a = some x ∧ _
  unfold law13_alone_p1
  by_cases hc : decide ((0 : Int) < ((n.length : Nat) : Int)) = true
  · obtain ⟨x, hx, h15⟩ := hand_Lives_some n hn
    have hf := List.length_filter_le (ofB 1) x
    have hm := ascL_length (a ++ x.filter (ofB 1) ++ [])
    rw [hc, cond_true, hx, Option.bind_some, ref12_Of_eq _ _ (by omega), Option.bind_some, gd_pos (capF (by omega)), ref12_Merge_eq _ _ (by simp; omega) (by simp)]
    exact ⟨_, rfl, by simp at hm ⊢; omega⟩
  · have : decide ((0 : Int) < ((n.length : Nat) : Int)) = false := by simpa using hc
    have hm := ascL_length (a ++ [])
    rw [this, cond_false, ref12_Merge_eq _ _ (by omega) (by simp)]
    exact ⟨_, rfl, by simp at hm ⊢; omega⟩
end Go.Ax
