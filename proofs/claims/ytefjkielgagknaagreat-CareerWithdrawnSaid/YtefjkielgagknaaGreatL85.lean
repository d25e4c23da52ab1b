import Derived.Test.YtefjkielgagknaaGreatL84
set_option linter.all false
/- Spans of kinds, children and residence by the program alone. -/
set_option maxRecDepth 100000
namespace Go.Ax
open Go.Proofs

theorem ref1_SameSpans_refl (a : List GSpan) (hn : a.length ≤ 1000000) : ref1_SameSpans a a = some true := by
  have key : ∀ (n i : Nat), a.length = i + n → fixL (ref1_SameSpans_l1 a a) (i : Int) = some (.inr ()) := by
    intro n
    induction n with
    | zero =>
      intro i h
      have : i = a.length := by omega
      subst this
      rw [fixL_eq]
      show (ref1_SameSpans_p0 a a ((a.length : Nat) : Int)).bind _ = _
      unfold ref1_SameSpans_p0
      rw [not_lt_len, cond_false]
      rfl
    | succ n ih =>
      intro i h
      have hi : i < a.length := by omega
      rw [fixL_eq]
      show (ref1_SameSpans_p0 a a (i : Int)).bind _ = _
      unfold ref1_SameSpans_p0
      rw [lt_len hi, cond_true, gd_pos (idx_ok hi), gd_pos (idx_ok hi), getD_nat a _ i hi, beq_self_eq_true, beq_self_eq_true, w64_succ (by omega)]
      exact ih (i + 1) (by omega)
  show ref1_SameSpans_p3 a a = _
  unfold ref1_SameSpans_p3
  have : ((((a.length : Nat) : Int) != ((a.length : Nat) : Int))) = false := by simp
  rw [this, cond_false]
  show (fixL (ref1_SameSpans_l1 a a) (0 : Int)).bind _ = _
  have := key a.length 0 (by omega)
  rw [show ((0 : Nat) : Int) = 0 from rfl] at this
  rw [this]
  rfl
theorem clipL_len (l : List GSpan) (s : GSpan) (hn : l.length ≤ 100000) : (clipL l s).length ≤ 1000000 := by
  have h1 := (makeS_ok l).2.2
  have h2 : (makeS [s]).length ≤ 1 := (makeS_ok [s]).2.2
  have key : ∀ (a b : List GSpan), (interL a b).length ≤ a.length + b.length := by
    intro a b
    induction a, b using interL.induct with
    | case1 b => rw [interL_nil]; simp
    | case2 s r => rw [interL_nil']; simp
    | case3 s r t u ih1 ih2 =>
      have := one_len s t
      rw [interL_cons, List.length_append]
      split
      · simp only [List.length_cons] at ih1 ⊢; omega
      · simp only [List.length_cons] at ih2 ⊢; omega
  have := key (makeS l) (makeS [s])
  unfold clipL
  omega
/-- Is the fact of the kind and state? -/
def kindStB (kind state : Int) (f : GFact) : Bool := (f.Kind == kind) && (f.State == state)
noncomputable def spansOf (l : List GFact) (kind state : Int) : List GSpan := ((l.filter curB).filter (kindStB kind state)).map GFact.Span
theorem spansOf_len (l : List GFact) (kind state : Int) : (spansOf l kind state).length ≤ l.length := by
  unfold spansOf
  have h1 := List.length_filter_le curB l
  have h2 := List.length_filter_le (kindStB kind state) (l.filter curB)
  simp only [List.length_map]
  omega
theorem spansOf_cons (f : GFact) (l : List GFact) (kind state : Int) : spansOf (f :: l) kind state = if (bif (bif curB f then (f.Kind == kind) else false) then (f.State == state) else false) = true then f.Span :: spansOf l kind state else spansOf l kind state := by
  unfold spansOf
  rw [List.filter_cons]
  cases h : curB f with
  | false => simp
  | true =>
    have e : kindStB kind state f = (bif (bif true then (f.Kind == kind) else false) then (f.State == state) else false) := by
      unfold kindStB
      cases (f.Kind == kind) <;> rfl
    rw [if_pos rfl, List.filter_cons, e]
    by_cases hc : (bif (bif true then (f.Kind == kind) else false) then (f.State == state) else false) = true
    · rw [if_pos hc, if_pos hc]; rfl
    · rw [if_neg hc, if_neg hc]
theorem career_Spans_eq (l : List GFact) (kind state : Int) (hn : l.length ≤ 100000) : career_Spans l kind state = some (clipL (spansOf l kind state) (lifeL l)) := by
  have key : ∀ (n i : Nat) (out : List GSpan), l.length = i + n → out.length ≤ i → fixL (career_Spans_l1 l kind state) (out, (i : Int)) = some (out ++ spansOf (l.drop i) kind state) := by
    intro n
    induction n with
    | zero =>
      intro i out h ho
      have : i = l.length := by omega
      subst this
      rw [fixL_eq]
      show (career_Spans_p0 l kind state out ((l.length : Nat) : Int)).bind _ = _
      unfold career_Spans_p0
      rw [not_lt_len, cond_false, List.drop_length]
      simp [spansOf]
    | succ n ih =>
      intro i out h ho
      have hi : i < l.length := by omega
      rw [fixL_eq]
      show (career_Spans_p0 l kind state out (i : Int)).bind _ = _
      unfold career_Spans_p0
      rw [lt_len hi, cond_true, gd_pos (idx_ok hi), getD_nat l _ i hi, career_current_eq, Option.bind_some, w64_succ (by omega), gd_pos (capS (by omega)), List.drop_eq_getElem_cons hi, spansOf_cons]
      cases hc : (bif (bif curB l[i] then (l[i].Kind == kind) else false) then (l[i].State == state) else false) with
      | true =>
        rw [cond_true, Option.bind_some, if_pos rfl]
        show fixL (career_Spans_l1 l kind state) (out ++ [l[i].Span], ((i + 1 : Nat) : Int)) = _
        rw [ih (i + 1) _ (by omega) (by simp; omega), List.append_assoc]
        rfl
      | false =>
        rw [cond_false, Option.bind_some, if_neg (by simp)]
        show fixL (career_Spans_l1 l kind state) (out, ((i + 1 : Nat) : Int)) = _
        rw [ih (i + 1) _ (by omega) (by omega)]
  have h1 := key l.length 0 [] (by omega) (by simp)
  rw [show ((0 : Nat) : Int) = 0 from rfl, List.drop_zero, List.nil_append] at h1
  have hs := spansOf_len l kind state
  show (fixL (career_Spans_l1 l kind state) (([] : List GSpan), (0 : Int))).bind _ = _
  rw [h1, Option.bind_some]
  show (career_Life l).bind _ = _
  rw [career_Life_eq l (by omega), Option.bind_some, spans_Clip_eq _ _ (by omega)]
  rfl
theorem capI {n : Nat} (h : n ≤ 4000000) : capB n 8 := ⟨by omega, by omega⟩
theorem sortI_spec (l : List Int) : (sortI l).Pairwise (fun a b => a ≤ b) ∧ (∀ x, x ∈ sortI l ↔ x ∈ l) ∧ (sortI l).length = l.length := by
  refine ⟨?_, fun x => (List.mergeSort_perm l _).mem_iff, List.length_mergeSort _⟩
  have := List.pairwise_mergeSort (le := fun x y : Int => decide (x ≤ y)) (fun a b c h1 h2 => by simp at *; omega) (fun a b => by simp; omega) l
  exact this.imp fun h => by simpa using h
/-- A child's fact that has begun. -/
def chB (day : Int) (f : GFact) : Bool := (f.Kind == 10) && decide (f.Span.From < day)
def kidsL (l : List GFact) (day : Int) : List Int := ((l.filter curB).filter (chB day)).map GFact.Ref
theorem kids_len (l : List GFact) (day : Int) : (kidsL l day).length ≤ l.length := by
  unfold kidsL
  have h1 := List.length_filter_le curB l
  have h2 := List.length_filter_le (chB day) (l.filter curB)
  simp only [List.length_map]
  omega
theorem kids_cons (f : GFact) (l : List GFact) (day : Int) : kidsL (f :: l) day = if (bif (bif curB f then (f.Kind == 10) else false) then decide (f.Span.From < day) else false) = true then f.Ref :: kidsL l day else kidsL l day := by
  unfold kidsL
  rw [List.filter_cons]
  cases h : curB f with
  | false => simp
  | true =>
    have e : chB day f = (bif (bif true then (f.Kind == 10) else false) then decide (f.Span.From < day) else false) := by
      unfold chB
      cases (f.Kind == 10) <;> rfl
    rw [if_pos rfl, List.filter_cons, e]
    by_cases hc : (bif (bif true then (f.Kind == 10) else false) then decide (f.Span.From < day) else false) = true
    · rw [if_pos hc, if_pos hc]; rfl
    · rw [if_neg hc, if_neg hc]
theorem subL_all (l : List Int) : subL (0 : Int) l 0 l.length = l := by
  have := sub_front (0 : Int) l []
  rwa [List.append_nil] at this
theorem career_Children_eq (l : List GFact) (day : Int) (hn : l.length ≤ 100000) : career_Children l day = some (Lib.compact (sortI (kidsL l day))) := by
  have key : ∀ (n i : Nat) (out : List Int), l.length = i + n → out.length ≤ i → fixL (career_Children_l1 day l) (out, (i : Int)) = some (out ++ kidsL (l.drop i) day) := by
    intro n
    induction n with
    | zero =>
      intro i out h ho
      have : i = l.length := by omega
      subst this
      rw [fixL_eq]
      show (career_Children_p0 day out l ((l.length : Nat) : Int)).bind _ = _
      unfold career_Children_p0
      rw [not_lt_len, cond_false, List.drop_length]
      simp [kidsL]
    | succ n ih =>
      intro i out h ho
      have hi : i < l.length := by omega
      rw [fixL_eq]
      show (career_Children_p0 day out l (i : Int)).bind _ = _
      unfold career_Children_p0
      rw [lt_len hi, cond_true, gd_pos (idx_ok hi), getD_nat l _ i hi, career_current_eq, Option.bind_some, w64_succ (by omega), gd_pos (capI (by omega)), List.drop_eq_getElem_cons hi, kids_cons]
      cases hc : (bif (bif curB l[i] then (l[i].Kind == 10) else false) then decide (l[i].Span.From < day) else false) with
      | true =>
        rw [cond_true, Option.bind_some, if_pos rfl]
        show fixL (career_Children_l1 day l) (out ++ [l[i].Ref], ((i + 1 : Nat) : Int)) = _
        rw [ih (i + 1) _ (by omega) (by simp; omega), List.append_assoc]
        rfl
      | false =>
        rw [cond_false, Option.bind_some, if_neg (by simp)]
        show fixL (career_Children_l1 day l) (out, ((i + 1 : Nat) : Int)) = _
        rw [ih (i + 1) _ (by omega) (by omega)]
  have h1 := key l.length 0 [] (by omega) (by simp)
  rw [show ((0 : Nat) : Int) = 0 from rfl, List.drop_zero, List.nil_append] at h1
  have hs := kids_len l day
  have hl := (sortI_spec (kidsL l day)).2.2
  show (fixL (career_Children_l1 day l) (([] : List Int), (0 : Int))).bind _ = _
  rw [h1, Option.bind_some]
  show career_Children_p1 (kidsL l day) = _
  unfold career_Children_p1 slices_Sort_int_int slices_Compact_int_int
  rw [gd_pos (by omega), Option.bind_some, gd_pos (by omega), ← hl, subL_all, gd_pos (by omega), Option.bind_some]
theorem ref1_SameInts_refl (a : List Int) (hn : a.length ≤ 1000000) : ref1_SameInts a a = some true := by
  have key : ∀ (n i : Nat), a.length = i + n → fixL (ref1_SameInts_l1 a a) (i : Int) = some (.inr ()) := by
    intro n
    induction n with
    | zero =>
      intro i h
      have : i = a.length := by omega
      subst this
      rw [fixL_eq]
      show (ref1_SameInts_p0 a a ((a.length : Nat) : Int)).bind _ = _
      unfold ref1_SameInts_p0
      rw [not_lt_len, cond_false]
      rfl
    | succ n ih =>
      intro i h
      have hi : i < a.length := by omega
      rw [fixL_eq]
      show (ref1_SameInts_p0 a a (i : Int)).bind _ = _
      unfold ref1_SameInts_p0
      rw [lt_len hi, cond_true, gd_pos (idx_ok hi), gd_pos (idx_ok hi), getD_nat a _ i hi, w64_succ (by omega), show (a[i] != a[i]) = false by simp]
      exact ih (i + 1) (by omega)
  show ref1_SameInts_p3 a a = _
  unfold ref1_SameInts_p3
  have : ((((a.length : Nat) : Int) != ((a.length : Nat) : Int))) = false := by simp
  rw [this, cond_false]
  show (fixL (ref1_SameInts_l1 a a) (0 : Int)).bind _ = _
  have := key a.length 0 (by omega)
  rw [show ((0 : Nat) : Int) = 0 from rfl] at this
  rw [this]
  rfl

/-- Does the fact say where the person resides on the day? -/
def hereB (day : Int) (f : GFact) : Bool := (f.Kind == 5) && (decide (f.Span.From ≤ day) && decide (day < f.Span.To))
def nearB (g f : GFact) : Bool := decide (g.Span.From < f.Span.From) || ((f.Span.From == g.Span.From) && decide (f.State < g.State))
def bestS (b : Option GFact) (f : GFact) : Option GFact := match b with
  | none => some f
  | some g => if nearB g f = true then some f else some g
def bestL (l : List GFact) (day : Int) : Option GFact := ((l.filter curB).filter (hereB day)).foldl bestS none
def restS (b : Option GFact) : Int × Bool := match b with
  | none => (0, false)
  | some g => (g.State, true)
theorem res_cond (c : Bool) (f : GFact) (day : Int) : (bif (bif (bif (!c) then true else (f.Kind != (5 : Int))) then true else (decide (day < f.Span.From))) then true else (decide (f.Span.To ≤ day))) = !(c && hereB day f) := by
  unfold hereB
  have e1 : decide (day < f.Span.From) = !decide (f.Span.From ≤ day) := by
    by_cases h : f.Span.From ≤ day
    · rw [decide_eq_true h, decide_eq_false (by omega)]; rfl
    · rw [decide_eq_false h, decide_eq_true (by omega)]; rfl
  have e2 : decide (f.Span.To ≤ day) = !decide (day < f.Span.To) := by
    by_cases h : day < f.Span.To
    · rw [decide_eq_true h, decide_eq_false (by omega)]; rfl
    · rw [decide_eq_false h, decide_eq_true (by omega)]; rfl
  rw [e1, e2]
  show (bif (bif (bif (!c) then true else (!(f.Kind == 5))) then true else _) then true else _) = _
  cases c <;> cases (f.Kind == (5 : Int)) <;> cases decide (f.Span.From ≤ day) <;> cases decide (day < f.Span.To) <;> rfl
/-- The program's state of the search. -/
def okOf (b : Option GFact) : Bool := b.isSome
def factOf (b : Option GFact) : GFact := b.getD (GFact.mk 0 0 0 false 0 0 0 (GSpan.mk 0 0) 0 0 0 0 0)
theorem res_step (day : Int) (b : Option GFact) (l : List GFact) (i : Nat) (hi : i < l.length) (hn : l.length ≤ 1000000) :
    career_Residence_p0 day (okOf b) l (i : Int) (factOf b) = some (.inl (okOf (if (curB l[i] && hereB day l[i]) = true then bestS b l[i] else b), ((i + 1 : Nat) : Int), factOf (if (curB l[i] && hereB day l[i]) = true then bestS b l[i] else b))) := by
  unfold career_Residence_p0
  rw [lt_len hi, cond_true, gd_pos (idx_ok hi), getD_nat l _ i hi, career_current_eq, Option.bind_some, res_cond, w64_succ (by omega)]
  cases hc : (curB l[i] && hereB day l[i]) with
  | false =>
    rw [show (!false) = true from rfl, cond_true, if_neg (by simp)]
  | true =>
    rw [show (!true) = false from rfl, cond_false, if_pos rfl]
    cases b with
    | none => rfl
    | some g =>
      show (bif (bif (bif (!true) then true else decide (g.Span.From < l[i].Span.From)) then true else (bif (l[i].Span.From == g.Span.From) then decide (l[i].State < g.State) else false)) then _ else _) = _
      have e : (bif (bif (!true) then true else decide (g.Span.From < l[i].Span.From)) then true else (bif (l[i].Span.From == g.Span.From) then decide (l[i].State < g.State) else false)) = nearB g l[i] := by
        unfold nearB
        cases decide (g.Span.From < l[i].Span.From) <;> cases (l[i].Span.From == g.Span.From) <;> rfl
      have hb : bestS (some g) l[i] = bif nearB g l[i] then some l[i] else some g := by
        unfold bestS
        show (if nearB g l[i] = true then some l[i] else some g) = _
        cases nearB g l[i] <;> rfl
      rw [e, hb]
      cases nearB g l[i] <;> rfl
theorem best_cons (f : GFact) (l : List GFact) (day : Int) (b : Option GFact) : (((f :: l).filter curB).filter (hereB day)).foldl bestS b = ((l.filter curB).filter (hereB day)).foldl bestS (if (curB f && hereB day f) = true then bestS b f else b) := by
  rw [List.filter_cons]
  cases h : curB f with
  | false => simp
  | true =>
    rw [if_pos rfl, List.filter_cons]
    cases h2 : hereB day f with
    | false => simp
    | true => rw [if_pos rfl, List.foldl_cons]; rfl
theorem res_loop (l : List GFact) (day : Int) (hn : l.length ≤ 1000000) : ∀ (n i : Nat) (b : Option GFact), l.length = i + n →
    fixL (career_Residence_l1 day l) (okOf b, (i : Int), factOf b) = some (okOf ((((l.drop i).filter curB).filter (hereB day)).foldl bestS b), factOf ((((l.drop i).filter curB).filter (hereB day)).foldl bestS b)) := by
  intro n
  induction n with
  | zero =>
    intro i b h
    have : i = l.length := by omega
    subst this
    rw [fixL_eq]
    show (career_Residence_p0 day (okOf b) l ((l.length : Nat) : Int) (factOf b)).bind _ = _
    unfold career_Residence_p0
    rw [not_lt_len, cond_false, List.drop_length]
    rfl
  | succ n ih =>
    intro i b h
    have hi : i < l.length := by omega
    rw [fixL_eq]
    show (career_Residence_p0 day (okOf b) l (i : Int) (factOf b)).bind _ = _
    rw [res_step day b l i hi hn, Option.bind_some, List.drop_eq_getElem_cons hi, best_cons]
    exact ih (i + 1) _ (by omega)
theorem rest_of (b : Option GFact) : ((factOf b).State, okOf b) = restS b := by cases b <;> rfl
def inLife (l : List GFact) (day : Int) : Bool := decide ((lifeL l).From ≤ day) && decide (day < (lifeL l).To)
theorem contains_one (s : GSpan) (day : Int) (h : 0 ≤ day ∧ day < 73049) : spans_Contains [s] day = some (decide (s.From ≤ day) && decide (day < s.To)) := by
  show spans_Contains_p0 [s] day = _
  unfold spans_Contains_p0
  rw [decide_eq_false (show ¬ day < 0 by omega), decide_eq_false (show ¬ (73049 : Int) ≤ day by omega), cond_false, cond_false]
  have hidx : slices_IndexFunc_api_Span_api_Span_Contains_1 [s] day = some (if (decide (s.From ≤ day) && decide (day < s.To)) = true then 0 else -1) := by
    show (fixL (slices_IndexFunc_api_Span_api_Span_Contains_1_l1 [s] day) (0 : Int)).bind _ = _
    rw [fixL_eq]
    have hc : spans_Contains_1 s day = some (decide (s.From ≤ day) && decide (day < s.To)) := by
      show some (bif decide (s.From ≤ day) then decide (day < s.To) else false) = _
      rw [cond_and]
    have hstep : slices_IndexFunc_api_Span_api_Span_Contains_1_l1 [s] day (0 : Int) = bif (decide (s.From ≤ day) && decide (day < s.To)) then some (.inr (.inl 0)) else some (.inl (((0 + 1 : Nat)) : Int)) := by
      show slices_IndexFunc_api_Span_api_Span_Contains_1_p0 [s] day ((0 : Nat) : Int) = _
      unfold slices_IndexFunc_api_Span_api_Span_Contains_1_p0
      rw [lt_len (show 0 < [s].length by simp), cond_true, gd_pos (idx_ok (show 0 < [s].length by simp)), getD_nat [s] _ 0 (by simp), w64_succ (by omega)]
      show (spans_Contains_1 s day).bind _ = _
      rw [hc, Option.bind_some]
      rfl
    rw [hstep]
    cases (decide (s.From ≤ day) && decide (day < s.To)) with
    | true => rfl
    | false =>
      rw [cond_false, Option.bind_some]
      show (fixL (slices_IndexFunc_api_Span_api_Span_Contains_1_l1 [s] day) (1 : Int)).bind _ = _
      rw [fixL_eq]
      rfl
  show ((slices_IndexFunc_api_Span_api_Span_Contains_1 [s] day).bind _).bind _ = _
  rw [hidx]
  cases (decide (s.From ≤ day) && decide (day < s.To)) <;> rfl
theorem career_Residence_eq (l : List GFact) (day : Int) (hn : l.length ≤ 1000000) : career_Residence l day = some (if (0 ≤ day ∧ day < 73049) ∧ inLife l day = true then restS (bestL l day) else (0, false)) := by
  show career_Residence_p4 l day = _
  unfold career_Residence_p4
  have hv : calendar_Valid day = some (bif (decide ((0 : Int) ≤ day)) then (decide (day ≤ (73048 : Int))) else false) := rfl
  rw [hv, Option.bind_some]
  by_cases hd : 0 ≤ day ∧ day < 73049
  · rw [decide_eq_true hd.1, decide_eq_true (show day ≤ 73048 by omega)]
    show (career_Life l).bind _ = _
    rw [career_Life_eq l hn, Option.bind_some, contains_one _ _ hd, Option.bind_some]
    show career_Residence_p3 l day (!inLife l day) = _
    unfold career_Residence_p3
    cases hl : inLife l day with
    | false => rw [if_neg (by simp)]; rfl
    | true =>
      rw [if_pos ⟨hd, rfl⟩]
      show (fixL (career_Residence_l1 day l) (okOf none, ((0 : Nat) : Int), factOf none)).bind _ = _
      rw [res_loop l day hn l.length 0 none (by omega), Option.bind_some, List.drop_zero]
      show some ((factOf (bestL l day)).State, okOf (bestL l day)) = _
      rw [rest_of]
  · rw [if_neg (fun h => hd h.1)]
    have : (bif (decide ((0 : Int) ≤ day)) then (decide (day ≤ (73048 : Int))) else false) = false := by
      by_cases h0 : 0 ≤ day
      · rw [decide_eq_true h0, decide_eq_false (show ¬ day ≤ 73048 by omega)]; rfl
      · rw [decide_eq_false h0]; rfl
    rw [this]
    rfl

end Go.Ax
