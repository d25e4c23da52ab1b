import Derived.Test.YtkijjjdaijjpaaaGreatL113v
set_option linter.all false
/- spans.Intersect and Clip. -/
set_option maxRecDepth 100000
namespace Go.Ax
open Go.Proofs

def meetS (s t : GSpan) : GSpan := GSpan.mk (if s.From < t.From then t.From else s.From) (if t.To < s.To then t.To else s.To)
def oneS (s t : GSpan) : List GSpan := if (meetS s t).From < (meetS s t).To then [meetS s t] else []
noncomputable def interL : List GSpan → List GSpan → List GSpan
  | [], _ => []
  | _ :: _, [] => []
  | s :: r, t :: u => oneS s t ++ (if s.To < t.To then interL r (t :: u) else interL (s :: r) u)
termination_by a b => a.length + b.length
theorem interL_nil (b : List GSpan) : interL [] b = [] := by rw [interL]
theorem interL_nil' (a : List GSpan) : interL a [] = [] := by cases a <;> rw [interL]
theorem interL_cons (s t : GSpan) (r u : List GSpan) : interL (s :: r) (t :: u) = oneS s t ++ (if s.To < t.To then interL r (t :: u) else interL (s :: r) u) := by rw [interL]
theorem one_len (s t : GSpan) : (oneS s t).length ≤ 1 := by unfold oneS; split <;> simp
theorem inter_step (a b out : List GSpan) (i j : Nat) (hi : i < a.length) (hj : j < b.length) (ha : a.length ≤ 1000000) (hb : b.length ≤ 1000000) (ho : out.length ≤ 2000000) :
    spans_Intersect_p0 a b out (i : Int) (j : Int) = some (.inl (if a[i].To < b[j].To then (out ++ oneS a[i] b[j], ((i + 1 : Nat) : Int), (j : Int)) else (out ++ oneS a[i] b[j], (i : Int), ((j + 1 : Nat) : Int)))) := by
  unfold spans_Intersect_p0
  rw [lt_len hi, lt_len hj, cond_true, cond_true, gd_pos (idx_ok hi), gd_pos (idx_ok hj), gd_pos (idx_ok hi), gd_pos (idx_ok hj), getD_nat0 a _ i hi, getD_nat0 b _ j hj, w64_succ (by omega), w64_succ (by omega)]
  generalize a[i] = s
  generalize b[j] = t
  have hm : oneS s t = if (if s.From < t.From then t.From else s.From) < (if t.To < s.To then t.To else s.To) then [GSpan.mk (if s.From < t.From then t.From else s.From) (if t.To < s.To then t.To else s.To)] else [] := rfl
  rw [hm]
  generalize (if s.From < t.From then t.From else s.From) = x
  generalize (if t.To < s.To then t.To else s.To) = y
  by_cases hk : x < y
  · rw [decide_eq_true hk, cond_true, gd_pos (capS (by omega)), gd_pos (idx_ok hi), gd_pos (idx_ok hj), if_pos hk]
    by_cases hc : s.To < t.To
    · rw [decide_eq_true hc, cond_true, if_pos hc]
    · rw [decide_eq_false hc, cond_false, if_neg hc]
  · rw [decide_eq_false hk, cond_false, gd_pos (idx_ok hi), gd_pos (idx_ok hj), if_neg hk, List.append_nil]
    by_cases hc : s.To < t.To
    · rw [decide_eq_true hc, cond_true, if_pos hc]
    · rw [decide_eq_false hc, cond_false, if_neg hc]
theorem inter_loop (a b : List GSpan) (ha : a.length ≤ 1000000) (hb : b.length ≤ 1000000) : ∀ (n i j : Nat) (out : List GSpan), (a.length - i) + (b.length - j) ≤ n → i ≤ a.length → j ≤ b.length → out.length ≤ i + j →
    fixL (spans_Intersect_l1 a b) (out, (i : Int), (j : Int)) = some (out ++ interL (a.drop i) (b.drop j)) := by
  intro n
  induction n with
  | zero =>
    intro i j out h hi hj ho
    have e : i = a.length := by omega
    subst e
    rw [fixL_eq]
    show (spans_Intersect_p0 a b out ((a.length : Nat) : Int) (j : Int)).bind _ = _
    unfold spans_Intersect_p0
    rw [not_lt_len, cond_false, cond_false, List.drop_length, interL_nil, List.append_nil]
    rfl
  | succ n ih =>
    intro i j out h hi hj ho
    rw [fixL_eq]
    show (spans_Intersect_p0 a b out (i : Int) (j : Int)).bind _ = _
    by_cases hi' : i < a.length
    · by_cases hj' : j < b.length
      · have h1 := one_len a[i] b[j]
        rw [inter_step a b out i j hi' hj' ha hb (by omega), Option.bind_some, List.drop_eq_getElem_cons hi', List.drop_eq_getElem_cons hj', interL_cons]
        by_cases hc : a[i].To < b[j].To
        · rw [if_pos hc, if_pos hc]
          show fixL (spans_Intersect_l1 a b) (out ++ oneS a[i] b[j], ((i + 1 : Nat) : Int), (j : Int)) = _
          rw [ih (i + 1) j _ (by omega) (by omega) hj (by rw [List.length_append]; omega), List.append_assoc, ← List.drop_eq_getElem_cons hj']
        · rw [if_neg hc, if_neg hc]
          show fixL (spans_Intersect_l1 a b) (out ++ oneS a[i] b[j], (i : Int), ((j + 1 : Nat) : Int)) = _
          rw [ih i (j + 1) _ (by omega) hi (by omega) (by rw [List.length_append]; omega), List.append_assoc, ← List.drop_eq_getElem_cons hi']
      · have e : j = b.length := by omega
        subst e
        unfold spans_Intersect_p0
        rw [lt_len hi', cond_true, not_lt_len, cond_false, List.drop_length (l := b), interL_nil', List.append_nil]
        rfl
    · have e : i = a.length := by omega
      subst e
      unfold spans_Intersect_p0
      rw [not_lt_len, cond_false, cond_false, List.drop_length, interL_nil, List.append_nil]
      rfl
theorem inter_norm : ∀ (a b : List GSpan) (lo lo' m : Int), NormL lo a → NormL lo' b → m ≤ lo ∨ m ≤ lo' → NormL m (interL a b)
  | [], b, lo, lo', m, _, _, _ => by rw [interL_nil]; trivial
  | _ :: _, [], lo, lo', m, _, _, _ => by rw [interL_nil']; trivial
  | s :: r, t :: u, lo, lo', m, ⟨a1, a2, a3, a4⟩, ⟨b1, b2, b3, b4⟩, hm => by
    have key : (meetS s t).From = max s.From t.From ∧ (meetS s t).To = min s.To t.To := by
      unfold meetS; simp only
      constructor <;> split <;> omega
    rw [interL_cons]
    by_cases hc : s.To < t.To
    · rw [if_pos hc]
      unfold oneS
      by_cases hk : (meetS s t).From < (meetS s t).To
      · rw [if_pos hk]
        exact ⟨by omega, hk, by omega, inter_norm r (t :: u) s.To lo' _ a4 ⟨b1, b2, b3, b4⟩ (.inl (by omega))⟩
      · rw [if_neg hk]
        exact inter_norm r (t :: u) s.To lo' _ a4 ⟨b1, b2, b3, b4⟩ (by omega)
    · rw [if_neg hc]
      unfold oneS
      by_cases hk : (meetS s t).From < (meetS s t).To
      · rw [if_pos hk]
        exact ⟨by omega, hk, by omega, inter_norm (s :: r) u lo t.To _ ⟨a1, a2, a3, a4⟩ b4 (.inr (by omega))⟩
      · rw [if_neg hk]
        exact inter_norm (s :: r) u lo t.To _ ⟨a1, a2, a3, a4⟩ b4 (by omega)
termination_by a b => a.length + b.length
theorem one_cov (s t : GSpan) (d : Int) : Cov (oneS s t) d ↔ (s.From ≤ d ∧ d < s.To) ∧ (t.From ≤ d ∧ d < t.To) := by
  have key : (meetS s t).From = max s.From t.From ∧ (meetS s t).To = min s.To t.To := by
    unfold meetS; simp only
    constructor <;> split <;> omega
  unfold oneS
  split
  · rw [cov_cons]; simp only [cov_nil, or_false]; omega
  · simp only [cov_nil, false_iff]; omega
theorem inter_cov : ∀ (a b : List GSpan) (lo lo' d : Int), NormL lo a → NormL lo' b → (Cov (interL a b) d ↔ Cov a d ∧ Cov b d)
  | [], b, lo, lo', d, _, _ => by rw [interL_nil]; simp [cov_nil]
  | _ :: _, [], lo, lo', d, _, _ => by rw [interL_nil']; simp [cov_nil]
  | s :: r, t :: u, lo, lo', d, ⟨a1, a2, a3, a4⟩, ⟨b1, b2, b3, b4⟩ => by
    rw [interL_cons, cov_app, one_cov]
    by_cases hc : s.To < t.To
    · rw [if_pos hc, inter_cov r (t :: u) s.To lo' d a4 ⟨b1, b2, b3, b4⟩, cov_cons (s := s), cov_cons (s := t)]
      constructor
      · rintro (⟨h1, h2⟩ | ⟨h1, h2⟩)
        · exact ⟨.inl h1, .inl h2⟩
        · exact ⟨.inr h1, h2⟩
      · rintro ⟨h1 | h1, h2⟩
        · rcases h2 with h2 | h2
          · exact .inl ⟨h1, h2⟩
          · have := norm_low b4 h2; omega
        · exact .inr ⟨h1, h2⟩
    · rw [if_neg hc, inter_cov (s :: r) u lo t.To d ⟨a1, a2, a3, a4⟩ b4, cov_cons (s := s), cov_cons (s := t)]
      constructor
      · rintro (⟨h1, h2⟩ | ⟨h1, h2⟩)
        · exact ⟨.inl h1, .inl h2⟩
        · exact ⟨h1, .inr h2⟩
      · rintro ⟨h1, h2 | h2⟩
        · rcases h1 with h1 | h1
          · exact .inl ⟨h1, h2⟩
          · have := norm_low a4 h1; omega
        · exact .inr ⟨h1, h2⟩
termination_by a b => a.length + b.length
noncomputable def clipL (l : List GSpan) (s : GSpan) : List GSpan := interL (makeS l) (makeS [s])
theorem spans_Clip_eq (l : List GSpan) (s : GSpan) (hn : l.length ≤ 1000000) : spans_Clip l s = some (clipL l s) := by
  have h1 := makeS_ok l
  have h2 := makeS_ok [s]
  have h2' : (makeS [s]).length ≤ 1 := h2.2.2
  show (spans_Intersect l [s]).bind _ = _
  have : spans_Intersect l [s] = some (clipL l s) := by
    show (spans_Make l).bind _ = _
    rw [spans_Make_eq l hn, Option.bind_some, spans_Make_eq [s] (by simp), Option.bind_some]
    show (fixL (spans_Intersect_l1 (makeS l) (makeS [s])) (([] : List GSpan), (0 : Int), (0 : Int))).bind _ = _
    have := inter_loop (makeS l) (makeS [s]) (by omega) (by omega) _ 0 0 [] (Nat.le_refl _) (by omega) (by omega) (by simp)
    rw [show ((0 : Nat) : Int) = 0 from rfl, List.drop_zero, List.drop_zero] at this
    rw [this, Option.bind_some]
    rfl
  rw [this]
  rfl
theorem clipL_ok (l : List GSpan) (s : GSpan) : NormL (-1) (clipL l s) ∧ ∀ d, Cov (clipL l s) d ↔ (Cov l d ∧ (s.From ≤ d ∧ d < s.To)) ∧ 0 ≤ d ∧ d < 73049 := by
  obtain ⟨a1, a2, _⟩ := makeS_ok l
  obtain ⟨b1, b2, _⟩ := makeS_ok [s]
  refine ⟨inter_norm _ _ (-1) (-1) (-1) a1 b1 (.inl (Int.le_refl _)), fun d => ?_⟩
  unfold clipL
  rw [inter_cov _ _ (-1) (-1) d a1 b1, a2, b2, cov_cons]
  simp only [cov_nil, or_false]
  constructor
  · rintro ⟨⟨h1, h2⟩, h3, h4⟩; exact ⟨⟨h1, h3⟩, h2⟩
  · rintro ⟨⟨h1, h2⟩, h3⟩; exact ⟨⟨h1, h3⟩, h2, h3⟩
end Go.Ax
