import Derived.Test.YtepnedfnpbakeaaL93
set_option linter.all false
/- The edges of lists; what a list contains. -/
set_option maxRecDepth 100000
namespace Go.Ax
open Go.Proofs

/-- A beginning or an end of a list's spans. -/
def EdgeOf (l : List GSpan) (x : Int) : Prop := ∃ s ∈ cutL l, x = s.From ∨ x = s.To
theorem cutL_cons (s : GSpan) (l : List GSpan) : cutL (s :: l) = if (clampS s).From < (clampS s).To then clampS s :: cutL l else cutL l := by
  unfold cutL
  rw [List.map_cons, List.filter_cons]
  unfold keepS
  by_cases h : (clampS s).From < (clampS s).To
  · rw [if_pos (decide_eq_true h), if_pos h]
  · rw [if_neg (by rw [decide_eq_false h]; simp), if_neg h]
theorem edge_cons (s : GSpan) (l : List GSpan) (x : Int) : EdgeOf (s :: l) x ↔ ((clampS s).From < (clampS s).To ∧ (x = (clampS s).From ∨ x = (clampS s).To)) ∨ EdgeOf l x := by
  unfold EdgeOf
  rw [cutL_cons]
  by_cases h : (clampS s).From < (clampS s).To
  · rw [if_pos h]
    constructor
    · rintro ⟨t, ht, hx⟩
      rcases List.mem_cons.1 ht with rfl | ht
      · exact .inl ⟨h, hx⟩
      · exact .inr ⟨t, ht, hx⟩
    · rintro (⟨_, hx⟩ | ⟨t, ht, hx⟩)
      · exact ⟨_, List.mem_cons_self .., hx⟩
      · exact ⟨t, List.mem_cons_of_mem _ ht, hx⟩
  · rw [if_neg h]
    constructor
    · exact .inr
    · rintro (⟨h', _⟩ | h')
      · exact (h h').elim
      · exact h'
theorem edge_loop (L : List (List GSpan)) (o9 : List Int) (i4 : Int) (i : Nat) (hi : i < L.length) (hl : (L[i]).length ≤ 200000) : ∀ (n k : Nat) (out : List Int), (L[i]).length = k + n → Asc1 out → out.length + 2 * n ≤ 1000000 →
    ∃ r, fixL (ref1_edges_l2 L o9 i4) (out, (i : Int), (k : Int)) = some (r, (i : Int)) ∧ Asc1 r ∧ (∀ x, x ∈ r ↔ x ∈ out ∨ EdgeOf ((L[i]).drop k) x) ∧ r.length ≤ out.length + 2 * n := by
  have hg : L.getD (Int.toNat (i : Int)) ([] : List GSpan) = L[i] := getD_nat L _ i hi
  intro n
  induction n with
  | zero =>
    intro k out h ho hb
    have : k = (L[i]).length := by omega
    subst this
    refine ⟨out, ?_, ho, fun x => ?_, by omega⟩
    · rw [fixL_eq]
      show (ref1_edges_p0 L out (i : Int) (((L[i]).length : Nat) : Int)).bind _ = _
      unfold ref1_edges_p0
      rw [gd_pos (idx_ok hi), hg, not_lt_len, cond_false]
      rfl
    · rw [List.drop_length]
      simp [EdgeOf, cutL]
  | succ n ih =>
    intro k out h ho hb
    have hk : k < (L[i]).length := by omega
    have hstep : ref1_edges_p0 L out (i : Int) (k : Int) = bif decide ((clampS (L[i])[k]).From < (clampS (L[i])[k]).To) then (ref1_Ins out (clampS (L[i])[k]).From).bind fun r_2 => ((ref1_Ins r_2 (clampS (L[i])[k]).To).bind fun r_3 => (some (Sum.inl (r_3, (i : Int), ((k + 1 : Nat) : Int))))) else some (Sum.inl (out, (i : Int), ((k + 1 : Nat) : Int))) := by
      unfold ref1_edges_p0
      rw [gd_pos (idx_ok hi), hg, lt_len hk, cond_true, gd_pos (idx_ok hi), gd_pos (idx_ok hk), getD_nat (L[i]) _ k hk, w64_succ (by omega)]
      rfl
    rw [List.drop_eq_getElem_cons hk]
    by_cases hc : (clampS (L[i])[k]).From < (clampS (L[i])[k]).To
    · obtain ⟨r2, a1, a2, a3, a4⟩ := ref1_Ins_eq out (clampS (L[i])[k]).From (by omega) ho
      obtain ⟨r3, b1, b2, b3, b4⟩ := ref1_Ins_eq r2 (clampS (L[i])[k]).To (by omega) a2
      rw [decide_eq_true hc, cond_true, a1, Option.bind_some, b1, Option.bind_some] at hstep
      obtain ⟨r, c1, c2, c3, c4⟩ := ih (k + 1) r3 (by omega) b2 (by omega)
      refine ⟨r, ?_, c2, fun x => ?_, by omega⟩
      · rw [fixL_eq]
        show (ref1_edges_p0 L out (i : Int) (k : Int)).bind _ = _
        rw [hstep, Option.bind_some]
        exact c1
      · rw [c3, b3, a3, edge_cons]
        constructor
        · rintro (((h1 | h1) | h1) | h1)
          · exact .inl h1
          · exact .inr (.inl ⟨hc, .inl h1⟩)
          · exact .inr (.inl ⟨hc, .inr h1⟩)
          · exact .inr (.inr h1)
        · rintro (h1 | ⟨_, h1 | h1⟩ | h1)
          · exact .inl (.inl (.inl h1))
          · exact .inl (.inl (.inr h1))
          · exact .inl (.inr h1)
          · exact .inr h1
    · rw [decide_eq_false hc, cond_false] at hstep
      obtain ⟨r, c1, c2, c3, c4⟩ := ih (k + 1) out (by omega) ho (by omega)
      refine ⟨r, ?_, c2, fun x => ?_, by omega⟩
      · rw [fixL_eq]
        show (ref1_edges_p0 L out (i : Int) (k : Int)).bind _ = _
        rw [hstep, Option.bind_some]
        exact c1
      · rw [c3, edge_cons]
        constructor
        · rintro (h1 | h1)
          · exact .inl h1
          · exact .inr (.inr h1)
        · rintro (h1 | ⟨h2, _⟩ | h1)
          · exact .inl h1
          · exact (hc h2).elim
          · exact .inr h1
theorem edge_item (L : List (List GSpan)) (i : Nat) (hi : i < L.length) (hl : (L[i]).length ≤ 200000) (out : List Int) (ho : Asc1 out) (hb : out.length + 2 * (L[i]).length ≤ 1000000) (hn : L.length ≤ 1000) :
    ∃ r, ref1_edges_p5 L out (i : Int) = some (.inl (r, ((i + 1 : Nat) : Int))) ∧ Asc1 r ∧ (∀ x, x ∈ r ↔ x ∈ out ∨ EdgeOf (L[i]) x) ∧ r.length ≤ out.length + 2 * (L[i]).length := by
  obtain ⟨r, h1, h2, h3, h4⟩ := edge_loop L out (i : Int) i hi hl (L[i]).length 0 out (by omega) ho hb
  refine ⟨r, ?_, h2, by rw [List.drop_zero] at h3; exact h3, h4⟩
  unfold ref1_edges_p5
  rw [lt_len hi, cond_true]
  show (fixL (ref1_edges_l2 L out (i : Int)) (out, (i : Int), (0 : Int))).bind _ = _
  rw [show ((0 : Nat) : Int) = 0 from rfl] at h1
  rw [h1, Option.bind_some]
  show some (Sum.inl (r, w64 ((i : Int) + 1))) = _
  rw [w64_succ (by omega)]
theorem ref1_edges_eq (a b : List GSpan) (ha : a.length ≤ 100000) (hb : b.length ≤ 100000) : ∃ e, ref1_edges [a, b] = some e ∧ Asc1 e ∧ (∀ x, x ∈ e ↔ EdgeOf a x ∨ EdgeOf b x) ∧ e.length ≤ 500000 := by
  obtain ⟨r, h1, h2, h3, h4⟩ := edge_item [a, b] 0 (by simp) (by show a.length ≤ _; omega) [] List.Pairwise.nil (by show 0 + 2 * a.length ≤ _; omega) (by simp)
  have h4' : r.length ≤ 0 + 2 * a.length := h4
  obtain ⟨q, g1, g2, g3, g4⟩ := edge_item [a, b] 1 (by simp) (by show b.length ≤ _; omega) r h2 (by show r.length + 2 * b.length ≤ _; omega) (by simp)
  have g4' : q.length ≤ r.length + 2 * b.length := g4
  refine ⟨q, ?_, g2, fun x => ?_, by omega⟩
  · show (fixL (ref1_edges_l1 [a, b]) (([] : List Int), (0 : Int))).bind _ = _
    have : fixL (ref1_edges_l1 [a, b]) (([] : List Int), (0 : Int)) = some q := by
      rw [fixL_eq]
      have e1 : ref1_edges_l1 [a, b] (([] : List Int), (0 : Int)) = some (.inl (r, (1 : Int))) := h1
      rw [e1, Option.bind_some]
      show fixL (ref1_edges_l1 [a, b]) (r, (1 : Int)) = _
      rw [fixL_eq]
      have e2 : ref1_edges_l1 [a, b] (r, (1 : Int)) = some (.inl (q, (2 : Int))) := g1
      rw [e2, Option.bind_some]
      show fixL (ref1_edges_l1 [a, b]) (q, (2 : Int)) = _
      rw [fixL_eq]
      rfl
    rw [this, Option.bind_some]
    rfl
  · rw [g3, h3]
    simp
theorem contains_loop (l : List GSpan) (d : Int) (hl : l.length ≤ 1000000) : ∀ (n k : Nat), l.length = k + n →
    ∃ r : Unit ⊕ Unit, fixL (ref1_Contains_l1 l d) (k : Int) = some r ∧ (r = .inl () ↔ Cov (l.drop k) d ∧ 0 ≤ d ∧ d < 73049) := by
  intro n
  induction n with
  | zero =>
    intro k h
    have : k = l.length := by omega
    subst this
    refine ⟨.inr (), ?_, by simp [cov_nil]⟩
    rw [fixL_eq]
    show (ref1_Contains_p0 l d ((l.length : Nat) : Int)).bind _ = _
    unfold ref1_Contains_p0
    rw [not_lt_len, cond_false]
    rfl
  | succ n ih =>
    intro k h
    have hk : k < l.length := by omega
    have hv : ref1_ValidDay d = some (bif decide ((0 : Int) ≤ d) then decide (d ≤ (73048 : Int)) else false) := rfl
    have hstep : ref1_Contains_p0 l d (k : Int) = if (l[k].From ≤ d ∧ d < l[k].To) ∧ 0 ≤ d ∧ d < 73049 then some (.inr (.inl ())) else some (.inl ((k + 1 : Nat) : Int)) := by
      unfold ref1_Contains_p0
      rw [lt_len hk, cond_true, gd_pos (idx_ok hk), getD_nat l _ k hk, w64_succ (by omega), hv, gd_pos (fun _ => (idx_ok hk).1), gd_pos (fun _ => (idx_ok hk).2), gd_pos (fun _ => Option.isSome_some), Option.getD_some]
      by_cases c1 : l[k].From ≤ d
      · by_cases c2 : d < l[k].To
        · by_cases c3 : 0 ≤ d
          · by_cases c4 : d ≤ 73048
            · rw [decide_eq_true c1, decide_eq_true c2, decide_eq_true c3, decide_eq_true c4, if_pos (by omega)]; rfl
            · rw [decide_eq_true c1, decide_eq_true c2, decide_eq_true c3, decide_eq_false c4, if_neg (by omega)]; rfl
          · rw [decide_eq_true c1, decide_eq_true c2, decide_eq_false c3, if_neg (by omega)]; rfl
        · rw [decide_eq_true c1, decide_eq_false c2, if_neg (by omega)]; rfl
      · rw [decide_eq_false c1, if_neg (by omega)]; rfl
    rw [fixL_eq, List.drop_eq_getElem_cons hk]
    by_cases hc : (l[k].From ≤ d ∧ d < l[k].To) ∧ 0 ≤ d ∧ d < 73049
    · rw [if_pos hc] at hstep
      refine ⟨.inl (), ?_, by simp only [true_iff]; exact ⟨cov_cons.2 (.inl hc.1), hc.2⟩⟩
      show (ref1_Contains_p0 l d (k : Int)).bind _ = _
      rw [hstep]
      rfl
    · rw [if_neg hc] at hstep
      obtain ⟨r, h1, h2⟩ := ih (k + 1) (by omega)
      refine ⟨r, ?_, ?_⟩
      · show (ref1_Contains_p0 l d (k : Int)).bind _ = _
        rw [hstep]
        exact h1
      · rw [h2, cov_cons]
        constructor
        · rintro ⟨h3, h4⟩; exact ⟨.inr h3, h4⟩
        · rintro ⟨h3 | h3, h4⟩
          · exact (hc ⟨h3, h4⟩).elim
          · exact ⟨h3, h4⟩
theorem ref1_Contains_eq (l : List GSpan) (d : Int) (hl : l.length ≤ 1000000) : ∃ b, ref1_Contains l d = some b ∧ (b = true ↔ Cov l d ∧ 0 ≤ d ∧ d < 73049) := by
  obtain ⟨r, h1, h2⟩ := contains_loop l d hl l.length 0 (by omega)
  rw [show ((0 : Nat) : Int) = 0 from rfl, List.drop_zero] at *
  have e : ref1_Contains l d = ref1_Contains_p2_g l d r := by
    show (fixL (ref1_Contains_l1 l d) (0 : Int)).bind _ = _
    rw [h1, Option.bind_some]
  rw [e]
  match r, h2 with
  | .inl (), h2 => exact ⟨true, rfl, by rw [← h2]; simp⟩
  | .inr (), h2 => exact ⟨false, rfl, by rw [← h2]; simp⟩
end Go.Ax
