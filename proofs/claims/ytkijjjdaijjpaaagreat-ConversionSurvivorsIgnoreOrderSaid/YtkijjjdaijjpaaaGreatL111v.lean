import Derived.Test.YtkijjjdaijjpaaaGreatL110v
set_option linter.all false
/- The facts of four persons, and drawn facts: they are made. -/
set_option maxRecDepth 100000
namespace Go.Ax
open Go.Proofs

/-- One of drawn numbers. -/
def pickL (n : List Int) (i : Int) : Int := if n.length = 0 then 0 else n.getD (i % (n.length : Int)).toNat 0
theorem hand_Pick_eq (n : List Int) (i : Int) (hn : n.length ≤ 9223372036854775807) : hand_Pick n i = some (pickL n i) := by
  show hand_Pick_p0 n i = _
  unfold hand_Pick_p0 pickL
  by_cases h : n.length = 0
  · have : (((n.length : Nat) : Int) == (0 : Int)) = true := by rw [h]; rfl
    rw [this, cond_true, if_pos h]
  · have : (((n.length : Nat) : Int) == (0 : Int)) = false := by
      rw [beq_eq_false_iff_ne]; omega
    have h1 := Int.emod_nonneg i (show ((n.length : Nat) : Int) ≠ 0 by omega)
    have h2 := Int.emod_lt_of_pos i (show (0 : Int) < ((n.length : Nat) : Int) by omega)
    rw [this, cond_false, if_neg h, plain_Mod_eq _ _ (by omega) (by omega), Option.bind_some, gd_pos ⟨h1, h2⟩]
theorem lives_step (n : List Int) (hn : n.length ≤ 9223372036854775807) (out : List GFact) (p : Int) (hp : 0 ≤ p ∧ p ≤ 2) (ho : out.length ≤ 100) : ∃ x : List GFact, x.length = 6 ∧ (∀ f ∈ x, f.Kind ≠ 12) ∧ hand_Lives_p1 n out p = some (.inl (out ++ x, p + 1)) := by
  unfold hand_Lives_p1 hand_Lives_p0
  simp only [hand_Pick_eq n _ hn, Option.bind_some, plain_Mod_eq _ 3 (by omega) (by omega), plain_Mod_eq _ 6000 (by omega) (by omega), plain_Mod_eq _ 3000 (by omega) (by omega), plain_Mod_eq _ 900000 (by omega) (by omega)]
  rw [gd_pos (capF (by omega)), gd_pos (capF (by omega)), gd_pos (capF (by omega)), gd_pos (capF (by omega)), gd_pos (capF (by omega)), gd_pos (capF (by omega)), w64_in (n := p + 1) (by omega) (by omega)]
  simp only [List.append_assoc]
  refine ⟨_, rfl, ?_, rfl⟩
  intro f hf
  simp only [List.cons_append, List.nil_append, List.mem_cons, List.not_mem_nil, or_false] at hf
  rcases hf with rfl | rfl | rfl | rfl | rfl | rfl <;> exact ne_of_beq_false rfl
theorem hand_Lives_some (n : List Int) (hn : n.length ≤ 9223372036854775807) : ∃ x, hand_Lives n = some x ∧ x.length = 15 ∧ ∀ f ∈ x, f.Kind = 12 → 30000 ≤ f.Span.From := by
  obtain ⟨a, ha, ha', h1⟩ := lives_step n hn [] 1 (by omega) (by simp)
  obtain ⟨b, hb, hb', h2⟩ := lives_step n hn ([] ++ a) (1 + 1) (by omega) (by simp [ha])
  have hl : fixL (hand_Lives_l1 n) (([] : List GFact), (1 : Int)) = some (([] ++ a) ++ b) := by
    rw [fixL_eq]
    have e1 : hand_Lives_l1 n (([] : List GFact), (1 : Int)) = some (.inl ([] ++ a, 1 + 1)) := h1
    rw [e1, Option.bind_some]
    show fixL (hand_Lives_l1 n) ([] ++ a, (1 + 1 : Int)) = _
    rw [fixL_eq]
    have e2 : hand_Lives_l1 n ([] ++ a, (1 + 1 : Int)) = some (.inl (([] ++ a) ++ b, 1 + 1 + 1)) := h2
    rw [e2, Option.bind_some]
    show fixL (hand_Lives_l1 n) (([] ++ a) ++ b, (1 + 1 + 1 : Int)) = _
    rw [fixL_eq]
    have e3 : hand_Lives_l1 n (([] ++ a) ++ b, (1 + 1 + 1 : Int)) = some (.inr (([] ++ a) ++ b)) := rfl
    rw [e3, Option.bind_some]
  have hlen : (([] ++ a) ++ b).length = 12 := by simp [ha, hb]
  have e : hand_Lives n = hand_Lives_p3 n (([] ++ a) ++ b) := by
    show (fixL (hand_Lives_l1 n) (([] : List GFact), (1 : Int))).bind (hand_Lives_p4_g n) = _
    rw [hl, Option.bind_some]
    rfl
  have hk : ∀ f ∈ ([] ++ a) ++ b, f.Kind ≠ 12 := by
    intro f hf
    rcases List.mem_append.1 hf with hf | hf
    · exact ha' f (by simpa using hf)
    · exact hb' f hf
  rw [e]
  generalize ([] ++ a) ++ b = out at hlen hk
  unfold hand_Lives_p3
  simp only [hand_Pick_eq n _ hn, Option.bind_some, plain_Mod_eq _ 2000 (by omega) (by omega), plain_Mod_eq _ 900 (by omega) (by omega), plain_Mod_eq _ 1200 (by omega) (by omega), plain_Mod_eq _ 300 (by omega) (by omega)]
  rw [gd_pos (capF (by omega)), gd_pos (capF (by omega)), gd_pos (capF (by omega))]
  refine ⟨_, rfl, by simp [hlen], fun f hf h12 => ?_⟩
  simp only [List.mem_append, List.mem_singleton] at hf
  rcases hf with ((hf | rfl) | rfl) | rfl
  · exact (hk f hf h12).elim
  · exact ((by decide : (13 : Int) ≠ 12) h12).elim
  · have := Int.emod_nonneg (pickL n 17) (show (900 : Int) ≠ 0 by omega)
    have h2 := Int.emod_lt_of_pos (pickL n 17) (show (0 : Int) < 900 by omega)
    show 30000 ≤ w64 (35600 + pickL n 17 % 900)
    rw [w64_in (by omega) (by omega)]
    omega
  · exact ((by decide : (8 : Int) ≠ 12) h12).elim
theorem hand_Facts_some (l : List GHand) : ∃ x, hand_Facts l = some x ∧ x.length ≤ 12 ∧ ∀ f ∈ x, ∃ r, f = makeL r := by
  have key : ∀ (k i : Nat) (out : List GFact), min l.length 12 = i + k → out.length = i → (∀ f ∈ out, ∃ r, f = makeL r) → ∃ a, fixL (hand_Facts_l1 l) (out, (i : Int)) = some a ∧ a.length ≤ 12 ∧ ∀ f ∈ a, ∃ r, f = makeL r := by
    intro k
    induction k with
    | zero =>
      intro i out h ho hm
      refine ⟨out, ?_, by omega, hm⟩
      rw [fixL_eq]
      show (hand_Facts_p0 l out (i : Int)).bind _ = _
      unfold hand_Facts_p0
      have : (bif decide ((i : Int) < ((l.length : Nat) : Int)) then decide ((i : Int) < (12 : Int)) else false) = false := by
        rw [cond_and, Bool.and_eq_false_iff]
        by_cases hc : l.length ≤ i
        · left; simp; omega
        · right; simp; omega
      rw [this]
      rfl
    | succ k ih =>
      intro i out h ho hm
      have hi : i < l.length := by omega
      have h12 : decide ((i : Int) < (12 : Int)) = true := by simp; omega
      obtain ⟨f, hf, hr⟩ : ∃ f, hand_Facts_p0 l out (i : Int) = some (.inl (out ++ [f], ((i + 1 : Nat) : Int))) ∧ ∃ r, f = makeL r := by
        unfold hand_Facts_p0
        rw [lt_len hi, cond_true, h12, cond_true, gd_pos (idx_ok hi), hand_Make_eq, Option.bind_some, gd_pos (capF (n := out.length + 1) (by omega)), w64_succ (by omega)]
        exact ⟨_, rfl, _, rfl⟩
      rw [fixL_eq]
      show ∃ a, (hand_Facts_p0 l out (i : Int)).bind _ = some a ∧ _
      rw [hf, Option.bind_some]
      exact ih (i + 1) _ (by omega) (by simp [ho]) (fun g hg => by
        rcases List.mem_append.1 hg with hg | hg
        · exact hm g hg
        · rw [List.mem_singleton.1 hg]; exact hr)
  obtain ⟨a, h1, h2, h3⟩ := key (min l.length 12) 0 [] (by omega) rfl (fun f hf => by simp at hf)
  rw [show ((0 : Nat) : Int) = 0 from rfl] at h1
  refine ⟨a, ?_, h2, h3⟩
  show (fixL (hand_Facts_l1 l) (([] : List GFact), (0 : Int))).bind _ = _
  rw [h1]
  rfl
end Go.Ax
