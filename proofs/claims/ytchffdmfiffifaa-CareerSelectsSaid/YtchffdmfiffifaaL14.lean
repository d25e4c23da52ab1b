import Derived.Test.YtchffdmfiffifaaL13
set_option linter.all false
/- The laws CareerSelects and CareerMoves. -/
set_option maxRecDepth 100000
namespace Go.Ax
open Go.Proofs

theorem law_CareerSelects (l : List GHand) (near person : Int) (sorted : Bool) : law13_CareerSelects l near person sorted = some true := by
  obtain ⟨a, ha, na⟩ := law13_facts_some l near
  show law13_CareerSelects_p2 l near person sorted = _
  unfold law13_CareerSelects_p2
  rw [ha, Option.bind_some]
  have core : ∀ b : List GFact, b.length ≤ 100 → law13_CareerSelects_p1 person b = some true := by
    intro b hb
    unfold law13_CareerSelects_p1
    have h1 := fun p => List.length_filter_le (ofB p) b
    have h2 := List.length_filter_le curB b
    rw [made_Pick_eq _ _ (by omega), Option.bind_some, law13_awake_eq, Option.bind_some, cond_true, career_Of_eq b _ (by omega), Option.bind_some, ref12_Of_eq b _ (by omega), Option.bind_some, SameFacts_refl _ (by have := h1 (if (6 : Int) < 1 then 0 else person % 6); omega), Option.bind_some, cond_true,
      career_Valid_eq b (by omega), Option.bind_some, ref12_Career_eq b (by omega), Option.bind_some]
    rw [show ((mergedB none b && decide (b.length ≤ 40) && careerB b) == (mergedB none b && decide (b.length ≤ 40) && careerB b)) = true by simp, cond_true, career_Current_eq b (by omega), Option.bind_some, ref12_Current_eq b (by omega), Option.bind_some, SameFacts_refl _ (by omega), Option.bind_some]
    rfl
  cases sorted with
  | false => exact core a (by omega)
  | true =>
    have h1 := ascL_length (a ++ [])
    rw [List.append_nil] at h1
    rw [cond_true, ref12_Merge_eq a [] (by omega) (by simp), Option.bind_some, made_Pick_eq _ _ (by omega), Option.bind_some, List.append_nil, ref12_Of_eq _ _ (by omega), Option.bind_some]
    have h2 := List.length_filter_le (ofB (w64 (1 + if (4 : Int) < 1 then 0 else person % 4))) (ascL a)
    exact core _ (by omega)

theorem newer_valid {f : GFact} {p : Int} (hf : validB f = true) (hv : f.Version ≤ 3) (hp : 50 ≤ p ∧ p ≤ 89) (hr : f.Ref ≤ 4) : validB { f with Version := f.Version + 1, Person := p } = true := by
  obtain ⟨h0, h1, h2, h3, h4, h5, h6, h7, h8, h9, ha, hb, hc⟩ := (validB_iff f).1 hf
  refine (validB_iff _).2 ⟨h0, h1, h2, (show 1 ≤ f.Version + 1 ∧ f.Version + 1 ≤ 99 by omega), (show 1 ≤ p ∧ p ≤ 99 by omega), h5, h6, h7, h8, h9, ha, hb, ?_⟩
  unfold kindB at hc ⊢
  simp only at hc ⊢
  split
  · next h => rw [if_pos h] at hc; exact hc
  · next h =>
    rw [if_neg h] at hc
    split
    · next h' => rw [if_pos h'] at hc; exact hc
    · next h' =>
      rw [if_neg h'] at hc
      split
      · simp only [bne_iff_ne, ne_eq]; omega
      · rfl
theorem make_ref (r : GHand) : (makeL r).Ref ≤ 4 := by
  have b2 := hm r.Ref (m := 4) (by decide)
  have b3 := hm (1 + r.Person % 4) (m := 4) (by decide)
  have w3 : w64 (1 + r.Ref % 4) = 1 + r.Ref % 4 := w64_in (by omega) (by omega)
  have w4 : w64 (1 + (1 + r.Person % 4) % 4) = 1 + (1 + r.Person % 4) % 4 := w64_in (by omega) (by omega)
  unfold makeL
  have key : ∀ (l : List Nat) (a b : Int) (f : GFact), f.Person = 1 + r.Person % 4 → f.Ref ≤ 4 → (l.foldl (handSet r a b) f).Ref ≤ 4 := by
    intro l a b
    induction l with
    | nil => intro f _ h; exact h
    | cons c l ih =>
      intro f hp h
      rw [List.foldl_cons]
      refine ih _ ?_ ?_
      · unfold handSet
        repeat' split
        all_goals exact hp
      · unfold handSet
        repeat' split
        all_goals first
          | exact h
          | (show w64 (1 + f.Person % 4) ≤ 4; rw [hp, w4]; omega)
          | (show w64 (1 + r.Ref % 4) ≤ 4; rw [w3]; omega)
          | (simp only; first | exact h | (rw [hp, w4]; omega) | (rw [w3]; omega))
  exact key _ _ _ _ rfl (by show (0 : Int) ≤ 4; decide)
theorem law_CareerMoves (r : GHand) (person : Int) : law13_CareerMoves r person = some true := by
  show law13_CareerMoves_p1 r person = _
  unfold law13_CareerMoves_p1
  have hv := make_valid r
  have hr := make_ref r
  have h3 := hm r.Version (m := 3) (by decide)
  have h4 := hm r.Person (m := 4) (by decide)
  have h40 := hm person (m := 40) (by decide)
  rw [hand_Make_eq, Option.bind_some]
  generalize makeL r = f at hv hr
  obtain ⟨v1, _, _, v4, v5⟩ := hv
  rw [made_Pick_eq _ _ (by omega), Option.bind_some, if_neg (by omega), w64_in (n := f.Version + 1) (by omega) (by omega), w64_in (n := 50 + person % 40) (by omega) (by omega), career_Merge_eq _ _ (by simp) (by simp)]
  have hg := newer_valid (p := 50 + person % 40) v1 (by omega) (by omega) hr
  have hm1 := merge_newer (f := f) (g := { f with Version := f.Version + 1, Person := 50 + person % 40 }) v1 hg ⟨rfl, rfl⟩ (by show f.Version < f.Version + 1; omega)
  have hm2 : careerMerge [GFact.mk f.Issuer f.Number (f.Version + 1) f.Withdrawn (50 + person % 40) f.Kind f.State f.Span f.Seat f.Share f.Currency f.Amount f.Ref] [f] = [GFact.mk f.Issuer f.Number (f.Version + 1) f.Withdrawn (50 + person % 40) f.Kind f.State f.Span f.Seat f.Share f.Currency f.Amount f.Ref] := hm1
  rw [hm2, Option.bind_some, law13_awake_eq, Option.bind_some, cond_true]
  have e1 : ((([GFact.mk f.Issuer f.Number (f.Version + 1) f.Withdrawn (50 + person % 40) f.Kind f.State f.Span f.Seat f.Share f.Currency f.Amount f.Ref] : List GFact).length : Int) == 1) = true := rfl
  rw [e1, cond_true, career_Of_eq _ _ (by simp), Option.bind_some, career_Of_eq _ _ (by simp)]
  have n1 : (50 + person % 40 == f.Person) = false := by simp; omega
  have n2 : (50 + person % 40 == 50 + person % 40) = true := by simp
  simp only [List.filter_cons, List.filter_nil, ofB, n1, n2, if_true, Bool.false_eq_true, if_false]
  rfl
end Go.Ax
