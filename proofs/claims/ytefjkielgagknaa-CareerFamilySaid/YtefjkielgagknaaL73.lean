import Derived.Test.YtefjkielgagknaaL72
set_option linter.all false
/- The document's residence; the law. -/
set_option maxRecDepth 100000
namespace Go.Ax
open Go.Proofs

theorem ref12_in_eq (s : GSpan) (d : Int) : ref12_in s d = some (decide (s.From ≤ d) && decide (d < s.To)) := by
  show some (bif decide (s.From ≤ d) then decide (d < s.To) else false) = _
  rw [cond_and]
/-- The place that the document's search holds, and the fact that stands there. -/
def AtIs (c : List GFact) (i : Nat) (at_ : Int) (b : Option GFact) : Prop := (at_ = -1 ∧ b = none) ∨ ∃ k : Nat, ∃ h : k < c.length, at_ = (k : Int) ∧ k < i ∧ b = some c[k]
theorem here_cond (f : GFact) (day : Int) : (bif (f.Kind != (5 : Int)) then true else (!(decide (f.Span.From ≤ day) && decide (day < f.Span.To)))) = !(hereB day f) := by
  unfold hereB
  show (bif (!(f.Kind == 5)) then true else _) = _
  cases (f.Kind == (5 : Int)) <;> cases decide (f.Span.From ≤ day) <;> cases decide (day < f.Span.To) <;> rfl
theorem rres_step (l : List GFact) (day : Int) (c : List GFact) (at_ : Int) (b : Option GFact) (i : Nat) (hl : l.length ≤ 1000000) (hn : c.length ≤ 1000000) (hin : inLife l day = true) (hi : i < c.length) (ha : AtIs c i at_ b) :
    ∃ a2, ref12_Residence_p0 l day c at_ (i : Int) = some (.inl (a2, ((i + 1 : Nat) : Int))) ∧ AtIs c (i + 1) a2 (if hereB day c[i] = true then bestS b c[i] else b) := by
  have hin' : (decide ((lifeL l).From ≤ day) && decide (day < (lifeL l).To)) = true := hin
  have hpre : ref12_Residence_p0 l day c at_ (i : Int) = bif !(hereB day c[i]) then some (.inl (at_, ((i + 1 : Nat) : Int))) else (bif (bif (bif (decide (at_ < (0 : Int))) then true else (decide ((c.getD (0 + (Int.toNat at_)) zGFact).Span.From < c[i].Span.From))) then true else (bif (c[i].Span.From == (c.getD (0 + (Int.toNat at_)) zGFact).Span.From) then (decide (c[i].State < (c.getD (0 + (Int.toNat at_)) zGFact).State)) else false)) then some (.inl ((i : Int), ((i + 1 : Nat) : Int))) else some (.inl (at_, ((i + 1 : Nat) : Int)))) := by
    unfold ref12_Residence_p0
    simp only [ref12_Life_eq l hl, ref12_in_eq, Option.isSome_some, Option.getD_some, implies_true, gd_true, lt_len hi, hin', cond_true, getD_nat0 c _ i hi, w64_succ (show i < 9223372036854775807 by omega), here_cond]
    rw [gd_pos (idx_ok hi), gd_pos (fun _ => (idx_ok hi).1), gd_pos (fun _ => (idx_ok hi).2)]
    rcases ha with ⟨rfl, rfl⟩ | ⟨k, hk, rfl, hki, rfl⟩
    · simp only [show decide ((-1 : Int) < 0) = true from rfl, Bool.not_true, Bool.false_and, Bool.and_false, Bool.false_eq_true, false_implies, gd_true, cond_true]
    · rw [gd_pos (fun _ => (idx_ok hi).1), gd_pos (fun _ => (idx_ok hi).2), gd_pos (fun _ => (idx_ok hk).1), gd_pos (fun _ => (idx_ok hk).2), gd_pos (fun _ => (idx_ok hi).1), gd_pos (fun _ => (idx_ok hi).2), gd_pos (fun _ => (idx_ok hk).1), gd_pos (fun _ => (idx_ok hk).2), gd_pos (fun _ => (idx_ok hi).1), gd_pos (fun _ => (idx_ok hi).2), gd_pos (fun _ => (idx_ok hk).1), gd_pos (fun _ => (idx_ok hk).2)]
  rw [hpre]
  cases hh : hereB day c[i] with
  | false =>
    rw [show (!false) = true from rfl, cond_true, if_neg (by simp)]
    refine ⟨at_, rfl, ?_⟩
    rcases ha with h | ⟨k, hk, h1, h2, h3⟩
    · exact .inl h
    · exact .inr ⟨k, hk, h1, by omega, h3⟩
  | true =>
    rw [show (!true) = false from rfl, cond_false, if_pos rfl]
    rcases ha with ⟨rfl, rfl⟩ | ⟨k, hk, rfl, hki, rfl⟩
    · exact ⟨(i : Int), rfl, .inr ⟨i, hi, rfl, by omega, rfl⟩⟩
    · rw [getD_nat0 c _ k hk, decide_eq_false (show ¬ ((k : Nat) : Int) < 0 by omega), cond_false]
      have e : (bif decide (c[k].Span.From < c[i].Span.From) then true else (bif (c[i].Span.From == c[k].Span.From) then decide (c[i].State < c[k].State) else false)) = nearB c[k] c[i] := by
        unfold nearB
        cases decide (c[k].Span.From < c[i].Span.From) <;> cases (c[i].Span.From == c[k].Span.From) <;> rfl
      have hb : bestS (some c[k]) c[i] = bif nearB c[k] c[i] then some c[i] else some c[k] := by
        unfold bestS
        show (if nearB c[k] c[i] = true then some c[i] else some c[k]) = _
        cases nearB c[k] c[i] <;> rfl
      rw [e, hb]
      cases nearB c[k] c[i] with
      | true => exact ⟨(i : Int), rfl, .inr ⟨i, hi, rfl, by omega, rfl⟩⟩
      | false => exact ⟨((k : Nat) : Int), rfl, .inr ⟨k, hk, rfl, by omega, rfl⟩⟩
theorem rres_loop (l : List GFact) (day : Int) (c : List GFact) (hl : l.length ≤ 1000000) (hn : c.length ≤ 1000000) (hin : inLife l day = true) : ∀ (n i : Nat) (at_ : Int) (b : Option GFact), c.length = i + n → AtIs c i at_ b →
    ∃ a2, fixL (ref12_Residence_l1 l day c) (at_, (i : Int)) = some a2 ∧ AtIs c c.length a2 (((c.drop i).filter (hereB day)).foldl bestS b) := by
  intro n
  induction n with
  | zero =>
    intro i at_ b h ha
    have : i = c.length := by omega
    subst this
    refine ⟨at_, ?_, by rw [List.drop_length]; exact ha⟩
    rw [fixL_eq]
    show (ref12_Residence_p0 l day c at_ ((c.length : Nat) : Int)).bind _ = _
    unfold ref12_Residence_p0
    rw [not_lt_len, gd_pos (fun h => by simp at h), gd_pos (fun h => by simp at h), cond_false, cond_false]
    rfl
  | succ n ih =>
    intro i at_ b h ha
    have hi : i < c.length := by omega
    obtain ⟨a2, h1, h2⟩ := rres_step l day c at_ b i hl hn hin hi ha
    obtain ⟨a3, h3, h4⟩ := ih (i + 1) a2 _ (by omega) h2
    refine ⟨a3, ?_, ?_⟩
    · rw [fixL_eq]
      show (ref12_Residence_p0 l day c at_ (i : Int)).bind _ = _
      rw [h1, Option.bind_some]
      exact h3
    · rw [List.drop_eq_getElem_cons hi, List.filter_cons]
      cases hh : hereB day c[i] with
      | true => rw [hh, if_pos rfl] at h4; rw [if_pos rfl, List.foldl_cons]; exact h4
      | false => rw [hh, if_neg (by simp)] at h4; rw [if_neg (by simp)]; exact h4
theorem ref12_Residence_eq (l : List GFact) (day : Int) (hn : l.length ≤ 1000000) : ref12_Residence l day = some (if inLife l day = true then restS (bestL l day) else (0, false)) := by
  have hf := List.length_filter_le curB l
  show (ref12_Current l).bind _ = _
  rw [ref12_Current_eq l hn, Option.bind_some]
  show (fixL (ref12_Residence_l1 l day (l.filter curB)) ((-1 : Int), (0 : Int))).bind _ = _
  cases hl : inLife l day with
  | false =>
    have hl' : (decide ((lifeL l).From ≤ day) && decide (day < (lifeL l).To)) = false := hl
    have h1 : fixL (ref12_Residence_l1 l day (l.filter curB)) ((-1 : Int), (0 : Int)) = some (-1) := by
      rw [fixL_eq]
      show (ref12_Residence_p0 l day (l.filter curB) (-1) (0 : Int)).bind _ = _
      unfold ref12_Residence_p0
      simp only [ref12_Life_eq l hn, ref12_in_eq, Option.isSome_some, Option.getD_some, implies_true, gd_true, hl']
      cases decide ((0 : Int) < (((l.filter curB).length : Nat) : Int)) <;> rfl
    rw [h1, if_neg (by simp)]
    rfl
  | true =>
    obtain ⟨a2, h1, h2⟩ := rres_loop l day (l.filter curB) hn (by omega) hl (l.filter curB).length 0 (-1) none (by omega) (.inl ⟨rfl, rfl⟩)
    rw [show ((0 : Nat) : Int) = 0 from rfl] at h1
    rw [List.drop_zero] at h2
    rw [h1, Option.bind_some, if_pos rfl]
    show ref12_Residence_p1 (l.filter curB) a2 = _
    unfold ref12_Residence_p1
    change AtIs _ _ a2 (bestL l day) at h2
    rcases h2 with ⟨rfl, h⟩ | ⟨k, hk, rfl, _, h⟩
    · rw [h]; rfl
    · rw [h, decide_eq_false (show ¬ ((k : Nat) : Int) < 0 by omega), cond_false, gd_pos (idx_ok hk), getD_nat0 _ _ k hk]
      rfl
theorem best_mem : ∀ (l : List GFact) (b : Option GFact) (g : GFact), l.foldl bestS b = some g → b = some g ∨ g ∈ l
  | [], b, g, h => .inl h
  | f :: l, b, g, h => by
    rw [List.foldl_cons] at h
    rcases best_mem l _ g h with h1 | h1
    · cases b with
      | none => cases h1; exact .inr (by simp)
      | some x =>
        unfold bestS at h1
        change (if nearB x f = true then some f else some x) = some g at h1
        split at h1
        · cases h1; exact .inr (by simp)
        · exact .inl h1
    · exact .inr (by simp [h1])
theorem residence_same (l : List GFact) (day : Int) (hn : l.length ≤ 1000000) : ∃ r, career_Residence l day = some r ∧ ref12_Residence l day = some r := by
  refine ⟨_, career_Residence_eq l day hn, ?_⟩
  rw [ref12_Residence_eq l day hn]
  by_cases hd : 0 ≤ day ∧ day < 73049
  · cases hl : inLife l day with
    | true => rw [if_pos rfl, if_pos ⟨hd, rfl⟩]
    | false => rw [if_neg (by simp), if_neg (by simp)]
  · rw [if_neg (show ¬ ((0 ≤ day ∧ day < 73049) ∧ inLife l day = true) from fun h => hd h.1)]
    cases hl : inLife l day with
    | false => rw [if_neg (by simp)]
    | true =>
      rw [if_pos rfl]
      have : bestL l day = none := by
        cases hb : bestL l day with
        | none => rfl
        | some g =>
          rcases best_mem _ _ _ hb with h | h
          · cases h
          · obtain ⟨h1, h2⟩ := List.mem_filter.1 h
            obtain ⟨_, h3⟩ := List.mem_filter.1 h1
            unfold curB at h3
            unfold hereB at h2
            simp only [Bool.and_eq_true, decide_eq_true_iff] at h2 h3
            have := valid_amount h3.1
            omega
      rw [this]
      rfl
theorem family_part (a : List GFact) (day : Int) (hn : a.length ≤ 100000) : law13_CareerFamily_p1 day a = some true := by
  obtain ⟨r, h1, h2⟩ := residence_same a day (by omega)
  obtain ⟨q, g1, g2, g3⟩ := children_same a day hn
  unfold law13_CareerFamily_p1
  rw [h1, Option.bind_some, h2, Option.bind_some, law13_awake_eq, Option.bind_some, cond_true, beq_self_eq_true, cond_true, beq_self_eq_true, cond_true, g1, Option.bind_some, g2, Option.bind_some, ref1_SameInts_refl _ (by omega), Option.bind_some]
  rfl
theorem law_CareerFamily (l : List GHand) (n : List Int) (day : Int) (hn : n.length ≤ 9223372036854775807) : law13_CareerFamily l n day = some true := by
  obtain ⟨a, ha, h1⟩ := law13_alone_some l n hn
  show law13_CareerFamily_p2 l n day = _
  unfold law13_CareerFamily_p2
  rw [ha, Option.bind_some, made_Pick_eq _ 25000 (by omega), Option.bind_some, family_part a _ (by omega), family_part a _ (by omega)]
  cases (Int.tmod day 8 != 0) <;> rfl
end Go.Ax
