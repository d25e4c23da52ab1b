import Derived.Test.YtkijjjdaijjpaaaGreatL116v
set_option linter.all false
/- The document's combinations of two lists; its MakeSpans is the program's Make. -/
set_option maxRecDepth 100000
namespace Go.Ax
open Go.Proofs

noncomputable def addS (out : List GSpan) (s : GSpan) : List GSpan := match out.getLast? with
  | none => [s]
  | some x => if x.To = s.From then out.dropLast ++ [⟨x.From, s.To⟩] else out ++ [s]
theorem addS_snoc (p : List GSpan) (x s : GSpan) : addS (p ++ [x]) s = if x.To = s.From then p ++ [⟨x.From, s.To⟩] else (p ++ [x]) ++ [s] := by
  unfold addS
  rw [List.getLast?_concat]
  simp
theorem add_step {out : List GSpan} {s : GSpan} (hn : NormL (-1) out) (hb : endT (-1) out ≤ s.From) (h1 : 0 ≤ s.From) (h2 : s.From < s.To) (h3 : s.To ≤ 73049) :
    NormL (-1) (addS out s) ∧ (∀ d, Cov (addS out s) d ↔ Cov out d ∨ (s.From ≤ d ∧ d < s.To)) ∧ endT (-1) (addS out s) ≤ s.To ∧ (addS out s).length ≤ out.length + 1 := by
  rcases snoc_cases out with rfl | ⟨p, x, rfl⟩
  · refine ⟨⟨by omega, h2, h3, trivial⟩, fun d => ?_, Int.le_refl _, by simp [addS]⟩
    show Cov [s] d ↔ _
    rw [cov_cons]; simp [cov_nil]
  · obtain ⟨n1, n2, n3, n4⟩ := norm_snoc.1 hn
    rw [endT_snoc] at hb
    rw [addS_snoc]
    by_cases hc : x.To = s.From
    · rw [if_pos hc]
      refine ⟨norm_snoc.2 ⟨n1, n2, by show x.From < s.To; omega, h3⟩, fun d => ?_, by rw [endT_snoc]; exact Int.le_refl _, by simp⟩
      rw [cov_app, cov_app, cov_cons, cov_cons]
      simp only [cov_nil, or_false]
      constructor
      · rintro (h | ⟨h4, h5⟩)
        · exact .inl (.inl h)
        · by_cases hd : d < x.To
          · exact .inl (.inr ⟨h4, hd⟩)
          · exact .inr ⟨by omega, h5⟩
      · rintro ((h | ⟨h4, h5⟩) | ⟨h4, h5⟩)
        · exact .inl h
        · exact .inr ⟨h4, by omega⟩
        · exact .inr ⟨by omega, h5⟩
    · rw [if_neg hc]
      refine ⟨norm_snoc.2 ⟨hn, by rw [endT_snoc]; omega, h2, h3⟩, fun d => ?_, by rw [endT_snoc]; exact Int.le_refl _, by simp⟩
      rw [cov_app (b := [s]), cov_cons]; simp [cov_nil]
/-- Does a list hold a day? -/
def covB (l : List GSpan) (d : Int) : Bool := l.any fun s => decide (s.From ≤ d) && decide (d < s.To)
theorem covB_iff {l : List GSpan} {d : Int} : covB l d = true ↔ Cov l d := by
  unfold covB Cov
  rw [List.any_eq_true]
  constructor
  · rintro ⟨s, hs, h⟩
    rw [Bool.and_eq_true, decide_eq_true_iff, decide_eq_true_iff] at h
    exact ⟨s, hs, h⟩
  · rintro ⟨s, hs, h⟩
    exact ⟨s, hs, by rw [Bool.and_eq_true, decide_eq_true_iff, decide_eq_true_iff]; exact h⟩
/-- A day that exists, of what two lists hold together. -/
def InF (f : Bool → Bool → Bool) (a b : List GSpan) (d : Int) : Prop := f (covB a d) (covB b d) = true ∧ 0 ≤ d ∧ d < 73049
theorem edge_rng {l : List GSpan} {x : Int} (h : EdgeOf l x) : 0 ≤ x ∧ x ≤ 73049 := by
  obtain ⟨s, hs, hx⟩ := h
  have := cutL_ok l s hs
  omega
/-- Between two neighbours no span begins or ends. -/
theorem between {e : List Int} {a : List GSpan} {i : Nat} (he : Asc1 e) (hi : i + 1 < e.length) (hE : ∀ x, EdgeOf a x → x ∈ e) {d : Int} (h1 : e[i]'(by omega) ≤ d) (h2 : d < e[i + 1]) :
    (Cov a d ∧ 0 ≤ d ∧ d < 73049) ↔ (Cov a (e[i]'(by omega)) ∧ 0 ≤ e[i]'(by omega) ∧ e[i]'(by omega) < 73049) := by
  have hasc : ∀ j k (hj : j < e.length) (hk : k < e.length), j < k → e[j] < e[k] := fun j k hj hk h => List.pairwise_iff_getElem.1 he j k hj hk h
  have hlo : ∀ x ∈ e, x < e[i + 1] → x ≤ e[i]'(by omega) := by
    intro x hx hlt
    obtain ⟨j, hj, rfl⟩ := List.getElem_of_mem hx
    rcases Nat.lt_trichotomy j i with h | h | h
    · have := hasc j i hj (by omega) h; omega
    · subst h; exact Int.le_refl _
    · by_cases h' : j = i + 1
      · subst h'; omega
      · have := hasc (i + 1) j hi hj (by omega); omega
  have hhi : ∀ x ∈ e, e[i]'(by omega) < x → e[i + 1] ≤ x := by
    intro x hx hlt
    obtain ⟨j, hj, rfl⟩ := List.getElem_of_mem hx
    rcases Nat.lt_trichotomy j (i + 1) with h | h | h
    · by_cases h' : j = i
      · subst h'; omega
      · have := hasc j i hj (by omega) (by omega); omega
    · subst h; exact Int.le_refl _
    · have := hasc (i + 1) j hi hj h; omega
  rw [← cutL_cov, ← cutL_cov]
  constructor
  · rintro ⟨s, hs, h3, h4⟩
    have e1 := hE _ ⟨s, hs, .inl rfl⟩
    have := hlo _ e1 (by omega)
    exact ⟨s, hs, this, by omega⟩
  · rintro ⟨s, hs, h3, h4⟩
    have e2 := hE _ ⟨s, hs, .inr rfl⟩
    have := hhi _ e2 h4
    exact ⟨s, hs, by omega, by omega⟩
end Go.Ax
