import Derived.Test.YtefjkielgagknaaL71
set_option linter.all false
/- Residence; the law of a person's family. -/
set_option maxRecDepth 100000
namespace Go.Ax
open Go.Proofs

/-- Does the fact say where the person resides on the day? -/
def hereB (day : Int) (f : GFact) : Bool := (f.Kind == 5) && (decide (f.Span.From ≤ day) && decide (day < f.Span.To))
def nearB (g f : GFact) : Bool := decide (g.Span.From < f.Span.From) || ((f.Span.From == g.Span.From) && decide (f.State < g.State))
def bestS (b : Option GFact) (f : GFact) : Option GFact := match b with
  | none => some f
  | some g => if nearB g f = true then some f else some g
def bestL (l : List GFact) (day : Int) : Option GFact := ((l.filter curB).filter (hereB day)).foldl bestS none
def restS (b : Option GFact) : Int × Bool := match b with
  | none => (0, false)
  | some g => (g.State, true)
theorem res_cond (c : Bool) (f : GFact) (day : Int) : (bif (bif (bif (!c) then true else (f.Kind != (5 : Int))) then true else (decide (day < f.Span.From))) then true else (decide (f.Span.To ≤ day))) = !(c && hereB day f) := by
  unfold hereB
  have e1 : decide (day < f.Span.From) = !decide (f.Span.From ≤ day) := by
    by_cases h : f.Span.From ≤ day
    · rw [decide_eq_true h, decide_eq_false (by omega)]; rfl
    · rw [decide_eq_false h, decide_eq_true (by omega)]; rfl
  have e2 : decide (f.Span.To ≤ day) = !decide (day < f.Span.To) := by
    by_cases h : day < f.Span.To
    · rw [decide_eq_true h, decide_eq_false (by omega)]; rfl
    · rw [decide_eq_false h, decide_eq_true (by omega)]; rfl
  rw [e1, e2]
  show (bif (bif (bif (!c) then true else (!(f.Kind == 5))) then true else _) then true else _) = _
  cases c <;> cases (f.Kind == (5 : Int)) <;> cases decide (f.Span.From ≤ day) <;> cases decide (day < f.Span.To) <;> rfl
/-- The program's state of the search. -/
def okOf (b : Option GFact) : Bool := b.isSome
def factOf (b : Option GFact) : GFact := b.getD (GFact.mk 0 0 0 false 0 0 0 (GSpan.mk 0 0) 0 0 0 0 0)
theorem res_step (day : Int) (b : Option GFact) (l : List GFact) (i : Nat) (hi : i < l.length) (hn : l.length ≤ 1000000) :
    career_Residence_p0 day (okOf b) l (i : Int) (factOf b) = some (.inl (okOf (if (curB l[i] && hereB day l[i]) = true then bestS b l[i] else b), ((i + 1 : Nat) : Int), factOf (if (curB l[i] && hereB day l[i]) = true then bestS b l[i] else b))) := by
  unfold career_Residence_p0
  rw [lt_len hi, cond_true, gd_pos (idx_ok hi), getD_nat l _ i hi, career_current_eq, Option.bind_some, res_cond, w64_succ (by omega)]
  cases hc : (curB l[i] && hereB day l[i]) with
  | false =>
    rw [show (!false) = true from rfl, cond_true, if_neg (by simp)]
  | true =>
    rw [show (!true) = false from rfl, cond_false, if_pos rfl]
    cases b with
    | none => rfl
    | some g =>
      show (bif (bif (bif (!true) then true else decide (g.Span.From < l[i].Span.From)) then true else (bif (l[i].Span.From == g.Span.From) then decide (l[i].State < g.State) else false)) then _ else _) = _
      have e : (bif (bif (!true) then true else decide (g.Span.From < l[i].Span.From)) then true else (bif (l[i].Span.From == g.Span.From) then decide (l[i].State < g.State) else false)) = nearB g l[i] := by
        unfold nearB
        cases decide (g.Span.From < l[i].Span.From) <;> cases (l[i].Span.From == g.Span.From) <;> rfl
      have hb : bestS (some g) l[i] = bif nearB g l[i] then some l[i] else some g := by
        unfold bestS
        show (if nearB g l[i] = true then some l[i] else some g) = _
        cases nearB g l[i] <;> rfl
      rw [e, hb]
      cases nearB g l[i] <;> rfl
theorem best_cons (f : GFact) (l : List GFact) (day : Int) (b : Option GFact) : (((f :: l).filter curB).filter (hereB day)).foldl bestS b = ((l.filter curB).filter (hereB day)).foldl bestS (if (curB f && hereB day f) = true then bestS b f else b) := by
  rw [List.filter_cons]
  cases h : curB f with
  | false => simp
  | true =>
    rw [if_pos rfl, List.filter_cons]
    cases h2 : hereB day f with
    | false => simp
    | true => rw [if_pos rfl, List.foldl_cons]; rfl
theorem res_loop (l : List GFact) (day : Int) (hn : l.length ≤ 1000000) : ∀ (n i : Nat) (b : Option GFact), l.length = i + n →
    fixL (career_Residence_l1 day l) (okOf b, (i : Int), factOf b) = some (okOf ((((l.drop i).filter curB).filter (hereB day)).foldl bestS b), factOf ((((l.drop i).filter curB).filter (hereB day)).foldl bestS b)) := by
  intro n
  induction n with
  | zero =>
    intro i b h
    have : i = l.length := by omega
    subst this
    rw [fixL_eq]
    show (career_Residence_p0 day (okOf b) l ((l.length : Nat) : Int) (factOf b)).bind _ = _
    unfold career_Residence_p0
    rw [not_lt_len, cond_false, List.drop_length]
    rfl
  | succ n ih =>
    intro i b h
    have hi : i < l.length := by omega
    rw [fixL_eq]
    show (career_Residence_p0 day (okOf b) l (i : Int) (factOf b)).bind _ = _
    rw [res_step day b l i hi hn, Option.bind_some, List.drop_eq_getElem_cons hi, best_cons]
    exact ih (i + 1) _ (by omega)
theorem rest_of (b : Option GFact) : ((factOf b).State, okOf b) = restS b := by cases b <;> rfl
def inLife (l : List GFact) (day : Int) : Bool := decide ((lifeL l).From ≤ day) && decide (day < (lifeL l).To)
theorem contains_one (s : GSpan) (day : Int) (h : 0 ≤ day ∧ day < 73049) : spans_Contains [s] day = some (decide (s.From ≤ day) && decide (day < s.To)) := by
  show spans_Contains_p0 [s] day = _
  unfold spans_Contains_p0
  rw [decide_eq_false (show ¬ day < 0 by omega), decide_eq_false (show ¬ (73049 : Int) ≤ day by omega), cond_false, cond_false]
  have hidx : slices_IndexFunc_api_Span_api_Span_Contains_1 [s] day = some (if (decide (s.From ≤ day) && decide (day < s.To)) = true then 0 else -1) := by
    show (fixL (slices_IndexFunc_api_Span_api_Span_Contains_1_l1 [s] day) (0 : Int)).bind _ = _
    rw [fixL_eq]
    have hc : spans_Contains_1 s day = some (decide (s.From ≤ day) && decide (day < s.To)) := by
      show some (bif decide (s.From ≤ day) then decide (day < s.To) else false) = _
      rw [cond_and]
    have hstep : slices_IndexFunc_api_Span_api_Span_Contains_1_l1 [s] day (0 : Int) = bif (decide (s.From ≤ day) && decide (day < s.To)) then some (.inr (.inl 0)) else some (.inl (((0 + 1 : Nat)) : Int)) := by
      show slices_IndexFunc_api_Span_api_Span_Contains_1_p0 [s] day ((0 : Nat) : Int) = _
      unfold slices_IndexFunc_api_Span_api_Span_Contains_1_p0
      rw [lt_len (show 0 < [s].length by simp), cond_true, gd_pos (idx_ok (show 0 < [s].length by simp)), getD_nat [s] _ 0 (by simp), w64_succ (by omega)]
      show (spans_Contains_1 s day).bind _ = _
      rw [hc, Option.bind_some]
      rfl
    rw [hstep]
    cases (decide (s.From ≤ day) && decide (day < s.To)) with
    | true => rfl
    | false =>
      rw [cond_false, Option.bind_some]
      show (fixL (slices_IndexFunc_api_Span_api_Span_Contains_1_l1 [s] day) (1 : Int)).bind _ = _
      rw [fixL_eq]
      rfl
  show ((slices_IndexFunc_api_Span_api_Span_Contains_1 [s] day).bind _).bind _ = _
  rw [hidx]
  cases (decide (s.From ≤ day) && decide (day < s.To)) <;> rfl
theorem career_Residence_eq (l : List GFact) (day : Int) (hn : l.length ≤ 1000000) : career_Residence l day = some (if (0 ≤ day ∧ day < 73049) ∧ inLife l day = true then restS (bestL l day) else (0, false)) := by
  show career_Residence_p4 l day = _
  unfold career_Residence_p4
  have hv : calendar_Valid day = some (bif (decide ((0 : Int) ≤ day)) then (decide (day ≤ (73048 : Int))) else false) := rfl
  rw [hv, Option.bind_some]
  by_cases hd : 0 ≤ day ∧ day < 73049
  · rw [decide_eq_true hd.1, decide_eq_true (show day ≤ 73048 by omega)]
    show (career_Life l).bind _ = _
    rw [career_Life_eq l hn, Option.bind_some, contains_one _ _ hd, Option.bind_some]
    show career_Residence_p3 l day (!inLife l day) = _
    unfold career_Residence_p3
    cases hl : inLife l day with
    | false => rw [if_neg (by simp)]; rfl
    | true =>
      rw [if_pos ⟨hd, rfl⟩]
      show (fixL (career_Residence_l1 day l) (okOf none, ((0 : Nat) : Int), factOf none)).bind _ = _
      rw [res_loop l day hn l.length 0 none (by omega), Option.bind_some, List.drop_zero]
      show some ((factOf (bestL l day)).State, okOf (bestL l day)) = _
      rw [rest_of]
  · rw [if_neg (fun h => hd h.1)]
    have : (bif (decide ((0 : Int) ≤ day)) then (decide (day ≤ (73048 : Int))) else false) = false := by
      by_cases h0 : 0 ≤ day
      · rw [decide_eq_true h0, decide_eq_false (show ¬ day ≤ 73048 by omega)]; rfl
      · rw [decide_eq_false h0]; rfl
    rw [this]
    rfl
end Go.Ax
