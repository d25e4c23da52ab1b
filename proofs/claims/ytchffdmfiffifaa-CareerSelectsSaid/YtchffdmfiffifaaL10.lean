import Derived.Test.YtchffdmfiffifaaL9
import Derived.Test.YtchffdmfiffifaaL2
set_option linter.all false
/- Merged lists, lists compared, made facts. -/
set_option maxRecDepth 100000
namespace Go.Ax
open Go.Proofs

/-- Is a list merged, behind some fact? -/
noncomputable def mergedB (prev : Option GFact) : List GFact → Bool
  | [] => true
  | f :: r => validB f && (match prev with | none => true | some p => decide (cmpI p f < 0)) && mergedB (some f) r
theorem mergedB_asc : ∀ (l : List GFact) (prev : Option GFact), Valids l → Asc l → (∀ p, prev = some p → ∀ f ∈ l, idlt p f) → mergedB prev l = true
  | [], _, _, _, _ => rfl
  | f :: r, prev, hv, ha, hp => by
    obtain ⟨h1, h2⟩ := asc_cons ha
    unfold mergedB
    rw [hv f (by simp), mergedB_asc r (some f) (fun g hg => hv g (by simp [hg])) h2 (fun p e g hg => by cases e; exact h1 g hg)]
    cases prev with
    | none => rfl
    | some p =>
      have := hp p rfl f (by simp)
      rcases cmpI_cases p f with ⟨hc, e⟩ | ⟨hc, e⟩ | ⟨hc, e⟩
      · simp [e]
      · exact (idlt_not_eq this hc).elim
      · exact (idlt_asymm this hc).elim

/-- The fact before place i. -/
noncomputable def prevOf (l : List GFact) (i : Nat) : Option GFact := if i = 0 then none else some (l.getD (i - 1) zGFact)
theorem prevOf_succ (l : List GFact) (i : Nat) (hi : i < l.length) : prevOf l (i + 1) = some l[i] := by
  unfold prevOf
  rw [if_neg (by omega), Nat.add_sub_cancel, List.getD_eq_getElem?_getD, List.getElem?_eq_getElem hi]
  rfl
theorem decide_pos (i : Nat) : decide ((0 : Int) < (i : Int)) = decide (0 < i) := by rw [decide_eq_decide]; omega

theorem career_Merged_eq (l : List GFact) (hn : l.length ≤ 1000000) : career_Merged l = some (mergedB none l) := by
  show (fixL (career_Merged_l1 l) (0 : Int)).bind (career_Merged_p2_g l) = _
  have key : ∀ (n i : Nat), l.length = i + n → (fixL (career_Merged_l1 l) (i : Int)).bind (career_Merged_p2_g l) = some (mergedB (prevOf l i) (l.drop i)) := by
    intro n
    induction n with
    | zero =>
      intro i h
      have : i = l.length := by omega
      subst this
      rw [fixL_eq]
      show ((career_Merged_p0 l (l.length : Int)).bind _).bind _ = _
      unfold career_Merged_p0
      rw [not_lt_len, cond_false, List.drop_length]
      rfl
    | succ n ih =>
      intro i h
      have hi : i < l.length := by omega
      have step : career_Merged_p0 l (i : Int) = some (bif (validB l[i] && (match prevOf l i with | none => true | some p => decide (cmpI p l[i] < 0))) then .inl ((i + 1 : Nat) : Int) else .inr (.inl ())) := by
        unfold career_Merged_p0
        rw [lt_len hi, cond_true, gd_pos (idx_ok hi), getD_nat l _ i hi, fact_Valid_eq, Option.bind_some, w64_succ (by omega), decide_pos]
        by_cases h0 : i = 0
        · subst h0
          rw [show decide (0 < 0) = false from rfl, gd_pos (by intro h; simp at h), gd_pos (by intro h; simp at h), gd_pos (by intro h; simp at h)]
          unfold prevOf
          cases validB l[0] <;> rfl
        · have e : w64 ((i : Int) - 1) = ((i - 1 : Nat) : Int) := by rw [w64_nat (by omega) (by omega)]; omega
          have hp : prevOf l i = some (l.getD (i - 1) zGFact) := by unfold prevOf; rw [if_neg h0]
          rw [e, career_byIdentity_eq, gd_pos (by intro _; omega), gd_pos (by intro _; omega), gd_pos (by intro _; rfl), Int.toNat_natCast, hp]
          have hd : decide (0 < i) = true := by simp; omega
          rw [hd]
          simp only [Option.getD_some, cond_true]
          cases validB l[i] with
          | false => rfl
          | true =>
            rcases cmpI_cases (l.getD (i - 1) zGFact) l[i] with ⟨_, e⟩ | ⟨_, e⟩ | ⟨_, e⟩ <;> rw [e] <;> rfl
      rw [fixL_eq]
      show ((career_Merged_p0 l (i : Int)).bind _).bind _ = _
      rw [step, List.drop_eq_getElem_cons hi]
      unfold mergedB
      rw [← prevOf_succ l i hi]
      cases hb : (validB l[i] && (match prevOf l i with | none => true | some p => decide (cmpI p l[i] < 0))) with
      | false => rfl
      | true =>
        rw [cond_true, Bool.true_and, Option.bind_some]
        exact ih (i + 1) (by omega)
  exact key l.length 0 (by omega)

theorem ref12_Merged_eq (l : List GFact) (hn : l.length ≤ 1000000) : ref12_Merged l = some (mergedB none l) := by
  show (fixL (ref12_Merged_l1 l) (0 : Int)).bind (ref12_Merged_p2_g l) = _
  have key : ∀ (n i : Nat), l.length = i + n → (∀ p, prevOf l i = some p → validB p = true) → (fixL (ref12_Merged_l1 l) (i : Int)).bind (ref12_Merged_p2_g l) = some (mergedB (prevOf l i) (l.drop i)) := by
    intro n
    induction n with
    | zero =>
      intro i h _
      have : i = l.length := by omega
      subst this
      rw [fixL_eq]
      show ((ref12_Merged_p0 l (l.length : Int)).bind _).bind _ = _
      unfold ref12_Merged_p0
      rw [not_lt_len, cond_false, List.drop_length]
      rfl
    | succ n ih =>
      intro i h hpv
      have hi : i < l.length := by omega
      have step : ref12_Merged_p0 l (i : Int) = some (bif (validB l[i] && (match prevOf l i with | none => true | some p => decide (cmpI p l[i] < 0))) then .inl ((i + 1 : Nat) : Int) else .inr (.inl ())) := by
        unfold ref12_Merged_p0
        rw [lt_len hi, cond_true, gd_pos (idx_ok hi), getD_nat l _ i hi, ref12_Valid_eq, Option.bind_some, w64_succ (by omega), decide_pos]
        by_cases h0 : i = 0
        · subst h0
          rw [show decide (0 < 0) = false from rfl, gd_pos (by intro h; simp at h), gd_pos (by intro h; simp at h), gd_pos (by intro h; simp at h), gd_pos (by intro h; simp at h), gd_pos (by intro h; simp at h)]
          unfold prevOf
          cases validB l[0] <;> rfl
        · have e : w64 ((i : Int) - 1) = ((i - 1 : Nat) : Int) := by rw [w64_nat (by omega) (by omega)]; omega
          have hp : prevOf l i = some (l.getD (i - 1) zGFact) := by unfold prevOf; rw [if_neg h0]
          have hvp := hpv _ hp
          have hd : decide (0 < i) = true := by simp; omega
          rw [e, Int.toNat_natCast, hp, hd]
          cases hv : validB l[i] with
          | false => rw [gd_pos (by intro h; simp at h), gd_pos (by intro h; simp at h), gd_pos (by intro h; simp at h), gd_pos (by intro h; simp at h), gd_pos (by intro h; simp at h)]; rfl
          | true =>
            rw [ref12_ID_eq hvp hv, gd_pos (by intro _; omega), gd_pos (by intro _; omega), gd_pos (by intro _; omega), gd_pos (by intro _; omega), gd_pos (by intro _; rfl)]
            simp only [Option.getD_some, cond_true, Bool.not_true, cond_false, Bool.true_and]
            have h1 := idv_neg (l.getD (i - 1) zGFact) l[i]
            rcases cmpI_cases (l.getD (i - 1) zGFact) l[i] with ⟨hc, e⟩ | ⟨hc, e⟩ | ⟨hc, e⟩
            · have : ¬ (0 ≤ idv (l.getD (i - 1) zGFact) l[i]) := by have := h1.2 hc; omega
              rw [e, decide_eq_false this]; rfl
            · have : 0 ≤ idv (l.getD (i - 1) zGFact) l[i] := by have := (idv_zero _ _).2 hc; omega
              rw [e, decide_eq_true this]; rfl
            · have : 0 ≤ idv (l.getD (i - 1) zGFact) l[i] := by have := (idv_pos _ _).2 hc; omega
              rw [e, decide_eq_true this]; rfl
      rw [fixL_eq]
      show ((ref12_Merged_p0 l (i : Int)).bind _).bind _ = _
      rw [step, List.drop_eq_getElem_cons hi]
      unfold mergedB
      rw [← prevOf_succ l i hi]
      cases hb : (validB l[i] && (match prevOf l i with | none => true | some p => decide (cmpI p l[i] < 0))) with
      | false => rfl
      | true =>
        rw [cond_true, Bool.true_and, Option.bind_some]
        refine ih (i + 1) (by omega) fun p hp => ?_
        rw [prevOf_succ l i hi] at hp
        cases hp
        rw [Bool.and_eq_true] at hb
        exact hb.1
  exact key l.length 0 (by omega) (fun p hp => by simp [prevOf] at hp)

/-- A list compared with itself. -/
theorem SameFacts_refl (a : List GFact) (hn : a.length ≤ 1000000) : ref12_SameFacts a a = some true := by
  show ref12_SameFacts_p3 a a = _
  unfold ref12_SameFacts_p3
  rw [show (((a.length : Nat) : Int) != ((a.length : Nat) : Int)) = false by simp, cond_false]
  show (fixL (ref12_SameFacts_l1 a a) (0 : Int)).bind _ = _
  have key : ∀ (n i : Nat), a.length = i + n → fixL (ref12_SameFacts_l1 a a) (i : Int) = some (.inr ()) := by
    intro n
    induction n with
    | zero =>
      intro i h
      have : i = a.length := by omega
      subst this
      rw [fixL_eq]
      show (ref12_SameFacts_p0 a a (a.length : Int)).bind _ = _
      unfold ref12_SameFacts_p0
      rw [not_lt_len]
      rfl
    | succ n ih =>
      intro i h
      have hi : i < a.length := by omega
      rw [fixL_eq]
      show (ref12_SameFacts_p0 a a (i : Int)).bind _ = _
      unfold ref12_SameFacts_p0
      rw [lt_len hi, cond_true, gd_pos (idx_ok hi), gd_pos (idx_ok hi)]
      simp only [beq_self_eq_true, Bool.and_true, Bool.not_true, cond_false, Option.bind_some]
      rw [w64_succ (by omega)]
      exact ih (i + 1) (by omega)
  have := key a.length 0 (by omega)
  rw [show ((0 : Nat) : Int) = 0 from rfl] at this
  rw [this]
  rfl

/-- Facts are made. -/
theorem law13_facts_some (l : List GHand) (near : Int) : ∃ a, law13_facts l near = some a ∧ a.length ≤ 14 := by
  have key : ∀ (n i : Nat) (out : List GFact), min l.length 14 = i + n → out.length = i → ∃ a, fixL (law13_facts_l1 l near) (out, (i : Int)) = some a ∧ a.length ≤ 14 := by
    intro n
    induction n with
    | zero =>
      intro i out h ho
      refine ⟨out, ?_, by omega⟩
      rw [fixL_eq]
      show (law13_facts_p1 l near out (i : Int)).bind _ = _
      unfold law13_facts_p1
      have : (bif decide ((i : Int) < ((l.length : Nat) : Int)) then decide ((i : Int) < (14 : Int)) else false) = false := by
        rw [cond_and, Bool.and_eq_false_iff]
        by_cases hc : l.length ≤ i
        · left; simp; omega
        · right; simp; omega
      rw [this]
      rfl
    | succ n ih =>
      intro i out h ho
      have hi : i < l.length := by omega
      have h14 : decide ((i : Int) < (14 : Int)) = true := by simp; omega
      obtain ⟨f, hf⟩ : ∃ f, law13_facts_p1 l near out (i : Int) = some (.inl (out ++ [f], ((i + 1 : Nat) : Int))) := by
        unfold law13_facts_p1 law13_facts_p0
        rw [lt_len hi, cond_true, h14, cond_true, gd_pos (idx_ok hi), getD_nat l _ i hi]
        rw [made_Pick_eq _ 2 (by omega), made_Pick_eq _ 3 (by omega), made_Pick_eq _ 9 (by omega), w64_succ (by omega)]
        simp only [Option.bind_some, hand_Make_eq]
        have hc := capF (n := out.length + 1) (by omega)
        simp only [gd_pos hc, Option.isSome_some, implies_true, gd_true]
        by_cases h3 : (Int.tmod near 3 != 0) = true
        · rw [h3, cond_true]
          cases (bif near.tmod 4 == 0 then ((some (if (9 : Int) < 1 then 0 else (l[i]).Amount % 9)).getD 0 == 0) else false) <;> exact ⟨_, rfl⟩
        · have : (Int.tmod near 3 != 0) = false := by simpa using h3
          rw [this, cond_false]
          cases (bif near.tmod 4 == 0 then ((some (if (9 : Int) < 1 then 0 else (l[i]).Amount % 9)).getD 0 == 0) else false) <;> exact ⟨_, rfl⟩
      rw [fixL_eq]
      show ∃ a, (law13_facts_p1 l near out (i : Int)).bind _ = some a ∧ _
      rw [hf, Option.bind_some]
      exact ih (i + 1) _ (by omega) (by simp [ho])
  obtain ⟨a, h1, h2⟩ := key (min l.length 14) 0 [] (by omega) rfl
  refine ⟨a, ?_, h2⟩
  show (fixL (law13_facts_l1 l near) ([], (0 : Int))).bind _ = _
  rw [show ((0 : Nat) : Int) = 0 from rfl] at h1
  rw [h1]
  rfl
end Go.Ax
