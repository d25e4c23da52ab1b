import Derived.Test.YtepnedfnpbakeaaL90
set_option linter.all false
/- The rank of every kind. -/
set_option maxRecDepth 100000
namespace Go.Ax
open Go.Proofs

theorem law16_awake_eq : law16_awake = some true := by kernel_rfl
theorem fixL_inl {S R : Type} {f : S → Option (S ⊕ R)} {s s' : S} (h : f s = some (.inl s')) : fixL f s = fixL f s' := by rw [fixL_eq, h]; rfl
theorem fixL_inr {S R : Type} {f : S → Option (S ⊕ R)} {s : S} {r : R} (h : f s = some (.inr r)) : fixL f s = some r := by rw [fixL_eq, h]; rfl

def rankN (k : Int) : Int := if k = 6 then 2 else if k = 9 then 3 else if k = 7 then 4 else if k = 8 then 5 else if k = 10 then 6 else if k = 5 then 7 else 0
theorem beq_if {T : Type} (a b : Int) (x y : T) : (bif a == b then x else y) = if b = a then x else y := by
  by_cases h : b = a
  · subst h; simp
  · rw [if_neg h]
    have : (a == b) = false := by simp; exact fun e => h e.symm
    rw [this, cond_false]
theorem ref16_Rank_eq (k : Int) : ref16_Rank k = some (rankN k) := by
  show ref16_Rank_p0 k = _
  unfold ref16_Rank_p0 rankN
  simp only [beq_if, @eq_comm Int _ k]
  repeat' split
  all_goals rfl
def creds : List GAnon57 := [(GAnon57.mk 6 2), (GAnon57.mk 9 3), (GAnon57.mk 7 4), (GAnon57.mk 8 5), (GAnon57.mk 10 6), (GAnon57.mk 5 7)]
theorem rank_step (k : Int) (i : Nat) (hi : i < 6) (a b : Int) (h : creds.getD i zGAnon57 = ⟨a, b⟩) : coverage_Rank_l1 k creds 6 (i : Int) = if k = a then some (.inr (.inl b)) else some (.inl ((i + 1 : Nat) : Int)) := by
  show coverage_Rank_p0 k creds 6 (i : Int) = _
  unfold coverage_Rank_p0
  rw [show decide ((i : Int) < 6) = true by simp; omega, cond_true, gd_pos (show (0 : Int) ≤ (i : Int) ∧ (i : Int) < ((creds.length : Nat) : Int) from ⟨by omega, by show (i : Int) < 6; omega⟩), show (0 + Int.toNat (i : Int)) = i by omega, h, w64_succ (by omega), beq_if]
theorem coverage_Rank_eq (k : Int) : coverage_Rank k = some (rankN k) := by
  show coverage_Rank_p3 k = _
  unfold coverage_Rank_p3
  rw [show coverage_credited = some creds from rfl, Option.bind_some]
  show coverage_Rank_p2 k creds 6 = _
  unfold coverage_Rank_p2
  have s0 := rank_step k 0 (by omega) 6 2 rfl
  have s1 := rank_step k 1 (by omega) 9 3 rfl
  have s2 := rank_step k 2 (by omega) 7 4 rfl
  have s3 := rank_step k 3 (by omega) 8 5 rfl
  have s4 := rank_step k 4 (by omega) 10 6 rfl
  have s5 := rank_step k 5 (by omega) 5 7 rfl
  have s6 : coverage_Rank_l1 k creds 6 ((6 : Nat) : Int) = some (.inr (.inr ())) := rfl
  unfold rankN
  by_cases h0 : k = 6
  · rw [if_pos h0] at s0 ⊢; rw [show (0 : Int) = ((0 : Nat) : Int) from rfl, fixL_inr s0]; rfl
  rw [if_neg h0] at s0 ⊢
  rw [show (0 : Int) = ((0 : Nat) : Int) from rfl, fixL_inl s0]
  by_cases h1 : k = 9
  · rw [if_pos h1] at s1 ⊢; rw [fixL_inr s1]; rfl
  rw [if_neg h1] at s1 ⊢
  rw [fixL_inl s1]
  by_cases h2 : k = 7
  · rw [if_pos h2] at s2 ⊢; rw [fixL_inr s2]; rfl
  rw [if_neg h2] at s2 ⊢
  rw [fixL_inl s2]
  by_cases h3 : k = 8
  · rw [if_pos h3] at s3 ⊢; rw [fixL_inr s3]; rfl
  rw [if_neg h3] at s3 ⊢
  rw [fixL_inl s3]
  by_cases h4 : k = 10
  · rw [if_pos h4] at s4 ⊢; rw [fixL_inr s4]; rfl
  rw [if_neg h4] at s4 ⊢
  rw [fixL_inl s4]
  by_cases h5 : k = 5
  · rw [if_pos h5] at s5 ⊢; rw [fixL_inr s5]; rfl
  rw [if_neg h5] at s5 ⊢
  rw [fixL_inl s5, fixL_inr s6]
  rfl
theorem law_CoverageRanks (kind : Int) : law16_CoverageRanks kind = some true := by
  show law16_CoverageRanks_p0 kind = _
  unfold law16_CoverageRanks_p0
  simp only [made_Pick_eq _ 18 (by omega), law16_awake_eq, Option.bind_some, coverage_Rank_eq, ref16_Rank_eq]
  simp [gd]
end Go.Ax
