import Derived.Test.YtkijjjdaijjpaaaGreatL115v
set_option linter.all false
/- The edges of lists; what a list contains. -/
set_option maxRecDepth 100000
namespace Go.Ax
open Go.Proofs

/-- A beginning or an end of a list's spans. -/
def EdgeOf (l : List GSpan) (x : Int) : Prop := ∃ s ∈ cutL l, x = s.From ∨ x = s.To
theorem cutL_cons (s : GSpan) (l : List GSpan) : cutL (s :: l) = if (clampS s).From < (clampS s).To then clampS s :: cutL l else cutL l := by
  unfold cutL
  rw [List.map_cons, List.filter_cons]
  unfold keepS
  by_cases h : (clampS s).From < (clampS s).To
  · rw [if_pos (decide_eq_true h), if_pos h]
  · rw [if_neg (by rw [decide_eq_false h]; simp), if_neg h]
theorem edge_cons (s : GSpan) (l : List GSpan) (x : Int) : EdgeOf (s :: l) x ↔ ((clampS s).From < (clampS s).To ∧ (x = (clampS s).From ∨ x = (clampS s).To)) ∨ EdgeOf l x := by
  unfold EdgeOf
  rw [cutL_cons]
  by_cases h : (clampS s).From < (clampS s).To
  · rw [if_pos h]
    constructor
    · rintro ⟨t, ht, hx⟩
      rcases List.mem_cons.1 ht with rfl | ht
      · exact .inl ⟨h, hx⟩
      · exact .inr ⟨t, ht, hx⟩
    · rintro (⟨_, hx⟩ | ⟨t, ht, hx⟩)
      · exact ⟨_, List.mem_cons_self .., hx⟩
      · exact ⟨t, List.mem_cons_of_mem _ ht, hx⟩
  · rw [if_neg h]
    constructor
    · exact .inr
    · rintro (⟨h', _⟩ | h')
      · exact (h h').elim
      · exact h'
end Go.Ax
