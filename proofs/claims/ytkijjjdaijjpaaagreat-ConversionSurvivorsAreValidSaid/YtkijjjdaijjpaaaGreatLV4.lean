import Derived.Test.YtkijjjdaijjpaaaGreatLV2
import Derived.Test.YtkijjjdaijjpaaaGreatLV3
set_option linter.all false
/- The survivors. -/
set_option maxRecDepth 100000
namespace Go.Ax
section
open Go.Proofs

def referB (kind ref : Int) (f : GFact) : Bool := bif f.Kind == kind then f.Ref == ref else false
def referL (l : List GFact) (kind ref : Int) : List GSpan := (l.filter (referB kind ref)).map fun f => f.Span
theorem refer_loop (l : List GFact) (kind ref : Int) (hl : l.length ≤ 100000) : ∀ (n i : Nat) (out : List GSpan), l.length = i + n → out.length ≤ i →
    fixL (conversion_refer_l1 kind ref l) (out, (i : Int)) = some (out ++ referL (l.drop i) kind ref) := by
  intro n
  induction n with
  | zero =>
    intro i out h ho
    have : i = l.length := by omega
    subst this
    rw [fixL_eq]
    show (conversion_refer_p0 kind ref out l ((l.length : Nat) : Int)).bind _ = _
    unfold conversion_refer_p0
    rw [not_lt_len, cond_false, List.drop_length]
    simp [referL]
  | succ n ih =>
    intro i out h ho
    have hi : i < l.length := by omega
    rw [fixL_eq]
    show (conversion_refer_p0 kind ref out l (i : Int)).bind _ = _
    unfold conversion_refer_p0
    have hc : ∀ x (r : List GFact), referL (x :: r) kind ref = bif referB kind ref x then x.Span :: referL r kind ref else referL r kind ref := by
      intro x r
      unfold referL
      rw [List.filter_cons]
      cases referB kind ref x <;> rfl
    rw [lt_len hi, cond_true, gd_pos (idx_ok hi), getD_nat l _ i hi, w64_succ (by omega), List.drop_eq_getElem_cons hi, hc]
    have e : (bif l[i].Kind == kind then l[i].Ref == ref else false) = referB kind ref l[i] := rfl
    rw [e]
    cases referB kind ref l[i] with
    | true =>
      rw [cond_true, gd_pos (capS (by omega)), Option.bind_some, cond_true]
      show fixL (conversion_refer_l1 kind ref l) (out ++ [l[i].Span], ((i + 1 : Nat) : Int)) = _
      rw [ih (i + 1) _ (by omega) (by simp; omega), List.append_assoc]
      rfl
    | false =>
      rw [cond_false, Option.bind_some, cond_false]
      show fixL (conversion_refer_l1 kind ref l) (out, ((i + 1 : Nat) : Int)) = _
      rw [ih (i + 1) _ (by omega) (by omega)]
theorem conversion_refer_eq (l : List GFact) (kind ref : Int) (hl : l.length ≤ 100000) : conversion_refer l kind ref = some (referL l kind ref) := by
  have := refer_loop l kind ref hl l.length 0 [] (by omega) (by simp)
  rw [show ((0 : Nat) : Int) = 0 from rfl, List.drop_zero, List.nil_append] at this
  show (fixL (conversion_refer_l1 kind ref l) (([] : List GSpan), (0 : Int))).bind _ = _
  rw [this]
  rfl
theorem referL_len (l : List GFact) (kind ref : Int) : (referL l kind ref).length ≤ l.length := by
  unfold referL
  rw [List.length_map]
  exact List.length_filter_le _ _
def ofL (l : List GFact) (p : Int) : List GFact := l.filter (ofB p)
theorem ofL_len (l : List GFact) (p : Int) : (ofL l p).length ≤ l.length := List.length_filter_le _ _
def aliveB (l : List GFact) (p day : Int) : Bool := bif !(firstL (ofL l p) 12).2 then true else decide (day ≤ (firstL (ofL l p) 12).1)
theorem conversion_alive_eq (l : List GFact) (p day : Int) (hl : l.length ≤ 100000) : conversion_alive l p day = some (aliveB l p day) := by
  show (career_Of l p).bind _ = _
  rw [career_Of_eq l p (by omega), Option.bind_some, career_Death_eq _ (by have := ofL_len l p; unfold ofL at this; omega), Option.bind_some]
  rfl
def onDayB (d : Int) (s : GSpan) : Bool := bif decide (s.From ≤ d) then decide (d < s.To) else false
def dayB (d : Int) : Bool := !(bif decide (d < 0) then true else decide (73049 ≤ d))
def holdsB (l : List GSpan) (d : Int) : Bool := dayB d && l.any (onDayB d)
theorem contains_find (l : List GSpan) (d : Int) (hl : l.length ≤ 100000) : ∀ (n i : Nat), l.length = i + n → ∃ r : Int ⊕ Unit, fixL (slices_IndexFunc_api_Span_api_Span_Contains_1_l1 l d) (i : Int) = some r ∧ (match r with | .inl k => 0 ≤ k ∧ (l.drop i).any (onDayB d) = true | .inr _ => (l.drop i).any (onDayB d) = false) := by
  intro n
  induction n with
  | zero =>
    intro i h
    have : i = l.length := by omega
    subst this
    refine ⟨.inr (), ?_, by rw [List.drop_length]; rfl⟩
    rw [fixL_eq]
    show (slices_IndexFunc_api_Span_api_Span_Contains_1_p0 l d ((l.length : Nat) : Int)).bind _ = _
    unfold slices_IndexFunc_api_Span_api_Span_Contains_1_p0
    rw [not_lt_len, cond_false]
    rfl
  | succ n ih =>
    intro i h
    have hi : i < l.length := by omega
    have hs : spans_Contains_1 l[i] d = some (onDayB d l[i]) := rfl
    rw [fixL_eq]
    show ∃ r, (slices_IndexFunc_api_Span_api_Span_Contains_1_p0 l d (i : Int)).bind _ = some r ∧ _
    unfold slices_IndexFunc_api_Span_api_Span_Contains_1_p0
    rw [lt_len hi, cond_true, gd_pos (idx_ok hi), getD_nat l _ i hi, hs, Option.bind_some, w64_succ (by omega), List.drop_eq_getElem_cons hi, List.any_cons]
    cases onDayB d l[i] with
    | true => exact ⟨.inl (i : Int), rfl, by omega, rfl⟩
    | false =>
      rw [cond_false, Option.bind_some, Bool.false_or]
      exact ih (i + 1) (by omega)
theorem spans_Contains_eq (l : List GSpan) (d : Int) (hl : l.length ≤ 100000) : spans_Contains l d = some (holdsB l d) := by
  show spans_Contains_p0 l d = _
  unfold spans_Contains_p0 holdsB dayB
  cases (bif decide (d < (0 : Int)) then true else decide ((73049 : Int) ≤ d)) with
  | true => rfl
  | false =>
    obtain ⟨r, h1, h2⟩ := contains_find l d hl l.length 0 (by omega)
    rw [show ((0 : Nat) : Int) = 0 from rfl, List.drop_zero] at *
    rw [cond_false, Bool.not_false, Bool.true_and]
    have : slices_ContainsFunc_api_Span_api_Span_Contains_1 l d = some (l.any (onDayB d)) := by
      show (slices_IndexFunc_api_Span_api_Span_Contains_1 l d).bind _ = _
      have e : slices_IndexFunc_api_Span_api_Span_Contains_1 l d = slices_IndexFunc_api_Span_api_Span_Contains_1_p2_g l d r := by
        show (fixL (slices_IndexFunc_api_Span_api_Span_Contains_1_l1 l d) (0 : Int)).bind _ = _
        rw [h1]; rfl
      rw [e]
      match r, h2 with
      | .inl k, h2 =>
        show some (decide ((0 : Int) ≤ k)) = _
        rw [h2.2, decide_eq_true h2.1]
      | .inr (), h2 =>
        rw [h2]; rfl
    rw [this]
    rfl
/-- Does another person that is alive raise the child? The persons from p on, n of them. -/
def raisedB (l : List GFact) (c day : Int) : Nat → Int → Bool
  | 0, _ => false
  | n + 1, p => bif (bif p != c then (bif aliveB l p day then holdsB (referL (ofL l p) 10 c) day else false) else false) then true else raisedB l c day n (p + 1)
theorem raised_loop (l : List GFact) (c day : Int) (hl : l.length ≤ 100000) : ∀ (n : Nat) (p : Int), p + n = 100 → 1 ≤ p → ∃ r : Unit ⊕ Unit, fixL (conversion_raised_l1 l c day) p = some r ∧ (r = .inl () ↔ raisedB l c day n p = true) := by
  intro n
  induction n with
  | zero =>
    intro p h h1
    refine ⟨.inr (), ?_, by simp [raisedB]⟩
    rw [fixL_eq]
    show (conversion_raised_p0 l c day p).bind _ = _
    unfold conversion_raised_p0
    rw [decide_eq_false (by omega), cond_false]
    rfl
  | succ n ih =>
    intro p h h1
    have ho := ofL_len l p
    have hr := referL_len (ofL l p) 10 c
    have hw : w64 (p + 1) = p + 1 := w64_in (by omega) (by omega)
    obtain ⟨r, i1, i2⟩ := ih (p + 1) (by omega) (by omega)
    have hof : career_Of l p = some (ofL l p) := career_Of_eq l p (by omega)
    rw [fixL_eq]
    show ∃ r, (conversion_raised_p0 l c day p).bind _ = some r ∧ _
    unfold conversion_raised_p0 raisedB
    rw [decide_eq_true (by omega), cond_true, conversion_alive_eq l p day hl, Option.bind_some, hof, Option.bind_some, conversion_refer_eq _ _ _ (by omega), Option.bind_some, spans_Contains_eq _ _ (by omega), Option.bind_some, hw]
    cases (p != c) with
    | false =>
      rw [cond_false, Option.bind_some, cond_false, cond_false]
      exact ⟨r, i1, i2⟩
    | true =>
      rw [cond_true, cond_true]
      cases aliveB l p day with
      | false =>
        rw [cond_false, Option.bind_some, cond_false, cond_false]
        exact ⟨r, i1, i2⟩
      | true =>
        rw [cond_true, cond_true]
        cases holdsB (referL (ofL l p) 10 c) day with
        | false =>
          rw [cond_false, Option.bind_some, cond_false]
          exact ⟨r, i1, i2⟩
        | true =>
          rw [cond_true, Option.bind_some, cond_true]
          exact ⟨.inl (), rfl, by simp⟩
theorem conversion_raised_eq (l : List GFact) (c day : Int) (hl : l.length ≤ 100000) : conversion_raised l c day = some (raisedB l c day 99 1) := by
  obtain ⟨r, h1, h2⟩ := raised_loop l c day hl 99 1 rfl (by omega)
  have e : conversion_raised l c day = conversion_raised_p2_g l c day r := by
    show (fixL (conversion_raised_l1 l c day) (1 : Int)).bind _ = _
    rw [h1]; rfl
  rw [e]
  match r, h2 with
  | .inl (), h2 => rw [h2.1 rfl]; rfl
  | .inr (), h2 =>
    have : raisedB l c day 99 1 = false := by
      cases hb : raisedB l c day 99 1 with
      | false => rfl
      | true => cases h2.2 hb
    rw [this]; rfl
/-- The days for which two persons were married, up to a day. -/
noncomputable def marriedN (own : List GFact) (q died : Int) : Int := daysN (makeS (clipL (referL own 14 q) ⟨0, died + 1⟩))
noncomputable def spouseB (l : List GFact) (person day : Int) (own : List GFact) (died q : Int) : Bool := bif (bif q != person then decide (0 < marriedN own q died) else false) then aliveB l q day else false
/-- The spouses from q on, n persons. -/
noncomputable def spousesL (l : List GFact) (person day : Int) (own : List GFact) (died : Int) : Nat → Int → List GHeir × List Bool → List GHeir × List Bool
  | 0, _, s => s
  | n + 1, q, s => spousesL l person day own died n (q + 1) (bif spouseB l person day own died q then (s.1 ++ [⟨q, 1, marriedN own q died⟩], s.2.set q.toNat true) else s)
theorem capH {n : Nat} (h : n ≤ 1000) : capB n 24 := ⟨by omega, by omega⟩
theorem inter_len : ∀ (a b : List GSpan), (interL a b).length ≤ a.length + b.length
  | [], b => by rw [interL_nil]; simp
  | s :: r, [] => by rw [interL_nil']; simp
  | s :: r, t :: u => by
    rw [interL_cons, List.length_append]
    have h1 := one_len s t
    by_cases hc : s.To < t.To
    · rw [if_pos hc]
      have := inter_len r (t :: u)
      simp only [List.length_cons] at this ⊢
      omega
    · rw [if_neg hc]
      have := inter_len (s :: r) u
      simp only [List.length_cons] at this ⊢
      omega
termination_by a b => a.length + b.length
theorem clipL_len (l : List GSpan) (s : GSpan) : (clipL l s).length ≤ l.length + 1 := by
  have h1 := (makeS_ok l).2.2
  have h2 : (makeS [s]).length ≤ 1 := (makeS_ok [s]).2.2
  have h3 := inter_len (makeS l) (makeS [s])
  unfold clipL
  omega
theorem spouses_loop (l : List GFact) (person day : Int) (own : List GFact) (died : Int) (hl : l.length ≤ 50000) (ho : own.length ≤ 50000) (hd : -1 ≤ died ∧ died ≤ 100000) : ∀ (n : Nat) (q : Int) (s : List GHeir × List Bool), q + n = 100 → 1 ≤ q → s.1.length ≤ q → s.2.length = 100 →
    fixL (conversion_Survivors_l1 l person day own died) (s.1, q, s.2) = some (spousesL l person day own died n q s) := by
  intro n
  induction n with
  | zero =>
    intro q s h h1 h2 h3
    rw [fixL_eq]
    show (conversion_Survivors_p0 l person day own died s.1 q s.2).bind _ = _
    unfold conversion_Survivors_p0
    rw [decide_eq_false (by omega), cond_false]
    rfl
  | succ n ih =>
    intro q s h h1 h2 h3
    have hr := referL_len own 14 q
    have hc := clipL_len (referL own 14 q) ⟨0, died + 1⟩
    have hw : w64 (q + 1) = q + 1 := w64_in (by omega) (by omega)
    have hw2 : w64 (died + 1) = died + 1 := w64_in (by omega) (by omega)
    rw [fixL_eq]
    show (conversion_Survivors_p0 l person day own died s.1 q s.2).bind _ = _
    unfold conversion_Survivors_p0 spousesL
    rw [decide_eq_true (by omega), cond_true, conversion_refer_eq own 14 q (by omega), Option.bind_some, hw2, spans_Clip_eq _ _ (by omega), Option.bind_some, spans_Days_eq _ (by omega), Option.bind_some, conversion_alive_eq l q day (by omega), gd_pos (fun _ => Option.isSome_some), Option.getD_some, hw, gd_pos h3, gd_pos (by omega), gd_pos (capH (by omega))]
    have e : (bif (bif q != person then decide (0 < daysN (makeS (clipL (referL own 14 q) ⟨0, died + 1⟩))) else false) then aliveB l q day else false) = spouseB l person day own died q := rfl
    rw [e]
    cases spouseB l person day own died q with
    | true =>
      rw [cond_true, Option.bind_some, cond_true]
      exact ih (q + 1) (s.1 ++ [⟨q, 1, marriedN own q died⟩], s.2.set q.toNat true) (by omega) (by omega) (by simp; omega) (by simp [h3])
    | false =>
      rw [cond_false, Option.bind_some, cond_false]
      exact ih (q + 1) s (by omega) (by omega) (by omega) h3
noncomputable def childB (l : List GFact) (person day : Int) (own : List GFact) (sp : List Bool) (c : Int) : Bool := !(bif c == person then true else sp.getD c.toNat false) && (holdsB (referL own 10 c) day && aliveB l c day)
noncomputable def childrenL (l : List GFact) (person day : Int) (own : List GFact) (sp : List Bool) : Nat → Int → List GHeir → List GHeir
  | 0, _, out => out
  | n + 1, c, out => childrenL l person day own sp n (c + 1) (bif childB l person day own sp c then out ++ [⟨c, bif raisedB l c day 99 1 then 2 else 3, 0⟩] else out)
theorem children_loop (l : List GFact) (person day : Int) (own : List GFact) (sp : List Bool) (out2 : List GHeir) (hl : l.length ≤ 50000) (ho : own.length ≤ 50000) (h3 : sp.length = 100) : ∀ (n : Nat) (c : Int) (out : List GHeir), c + n = 100 → 1 ≤ c → out.length ≤ 100 + c →
    fixL (conversion_Survivors_l2 l person day own out2 sp) (out, c) = some (childrenL l person day own sp n c out) := by
  intro n
  induction n with
  | zero =>
    intro c out h h1 h2
    rw [fixL_eq]
    show (conversion_Survivors_p2 l person day own out c sp).bind _ = _
    unfold conversion_Survivors_p2
    rw [decide_eq_false (by omega), cond_false]
    rfl
  | succ n ih =>
    intro c out h h1 h2
    have hr := referL_len own 10 c
    have hw : w64 (c + 1) = c + 1 := w64_in (by omega) (by omega)
    have hp1 : ∀ o, conversion_Survivors_p1 l person day own o c sp = some (.inl (o, c + 1)) := by
      intro o
      unfold conversion_Survivors_p1
      rw [hw]
    rw [fixL_eq]
    show (conversion_Survivors_p2 l person day own out c sp).bind _ = _
    unfold conversion_Survivors_p2 childrenL childB
    simp only [hp1]
    rw [decide_eq_true (by omega), cond_true, gd_pos h3, gd_pos (by omega), conversion_refer_eq own 10 c (by omega), Option.bind_some, spans_Contains_eq _ _ (by omega), Option.bind_some, conversion_alive_eq l c day (by omega), Option.bind_some, conversion_raised_eq l c day (by omega), Option.bind_some, gd_pos (capH (by omega)), gd_pos (capH (by omega))]
    cases (c == person) with
    | true => rw [cond_true, Option.bind_some]; exact ih (c + 1) out (by omega) (by omega) (by omega)
    | false =>
      rw [cond_false, cond_false]
      cases sp.getD c.toNat false with
      | true => rw [cond_true, Option.bind_some]; exact ih (c + 1) out (by omega) (by omega) (by omega)
      | false =>
        rw [cond_false]
        cases holdsB (referL own 10 c) day with
        | false => exact ih (c + 1) out (by omega) (by omega) (by omega)
        | true =>
          rw [Bool.not_true, cond_false]
          cases aliveB l c day with
          | false => exact ih (c + 1) out (by omega) (by omega) (by omega)
          | true =>
            rw [Bool.not_true, cond_false]
            cases raisedB l c day 99 1 with
            | true => exact ih (c + 1) (out ++ [⟨c, 2, 0⟩]) (by omega) (by omega) (by simp; omega)
            | false => exact ih (c + 1) (out ++ [⟨c, 3, 0⟩]) (by omega) (by omega) (by simp; omega)
def falses : List Bool := List.replicate 100 false
noncomputable def survS (l : List GFact) (person day died : Int) : List GHeir × List Bool := spousesL l person day (ofL l person) died 99 1 ([], falses)
noncomputable def survA (l : List GFact) (person day died : Int) : List GHeir := childrenL l person day (ofL l person) (survS l person day died).2 99 1 (survS l person day died).1
theorem spousesL_len (l : List GFact) (person day : Int) (own : List GFact) (died : Int) : ∀ (n : Nat) (q : Int) (s : List GHeir × List Bool), (spousesL l person day own died n q s).1.length ≤ s.1.length + n
  | 0, q, s => Nat.le_refl _
  | n + 1, q, s => by
    unfold spousesL
    cases spouseB l person day own died q with
    | true =>
      have := spousesL_len l person day own died n (q + 1) (s.1 ++ [⟨q, 1, marriedN own q died⟩], s.2.set q.toNat true)
      rw [cond_true]
      simp at this ⊢
      omega
    | false =>
      have := spousesL_len l person day own died n (q + 1) s
      rw [cond_false]
      omega
theorem spousesL_sp (l : List GFact) (person day : Int) (own : List GFact) (died : Int) : ∀ (n : Nat) (q : Int) (s : List GHeir × List Bool), (spousesL l person day own died n q s).2.length = s.2.length
  | 0, q, s => rfl
  | n + 1, q, s => by
    unfold spousesL
    rw [spousesL_sp l person day own died n (q + 1)]
    cases spouseB l person day own died q <;> simp
/-- The survivors, of current facts. -/
noncomputable def survL (l : List GFact) (person day : Int) : List GHeir :=
  bif (bif (bif (bif decide (person < 1) then true else decide (99 < person)) then true else decide (day < 0)) then true else decide (73048 < day)) then []
  else bif (bif !(firstL (ofL l person) 12).2 then true else decide (day ≤ (firstL (ofL l person) 12).1)) then []
  else (survA l person day (firstL (ofL l person) 12).1).take 12
theorem first_rng (l : List GFact) : -1 ≤ (firstL l 12).1 ∧ (firstL l 12).1 ≤ 100000 := by
  have key : ∀ (m : List GFact) (a : Int × Bool), (∀ f ∈ m, validB f = true) → -1 ≤ a.1 ∧ a.1 ≤ 100000 → -1 ≤ (m.foldl (fun a f => minG 12 f a) a).1 ∧ (m.foldl (fun a f => minG 12 f a) a).1 ≤ 100000 := by
    intro m
    induction m with
    | nil => intro a _ h; exact h
    | cons f m ih =>
      intro a hv h
      rw [List.foldl_cons]
      refine ih _ (fun g hg => hv g (by simp [hg])) ?_
      unfold minG
      split
      · next hc =>
        have := valid_amount (hv f (by simp))
        show -1 ≤ f.Span.From ∧ f.Span.From ≤ 100000
        omega
      · exact h
  exact key _ (0, false) (fun f hf => by
    have := (List.mem_filter.1 hf).2
    unfold curB at this
    rw [Bool.and_eq_true] at this
    exact this.1) (by simp)
theorem conversion_Survivors_eq (f : List GFact) (person day : Int) (hf : f.length ≤ 40000) : conversion_Survivors f person day = some (survL ((careerMerge f []).filter curB) person day) := by
  show conversion_Survivors_p7 f person day = _
  unfold conversion_Survivors_p7 survL
  have hm := careerMerge_length f []
  have hc := List.length_filter_le curB (careerMerge f [])
  rw [career_Merge_eq f [] (by omega) (by simp), Option.bind_some, career_Current_eq _ (by simp at hm; omega), Option.bind_some]
  have hlen : ((careerMerge f []).filter curB).length ≤ 40000 := by simp at hm; omega
  generalize (careerMerge f []).filter curB = l at hlen
  have ho := ofL_len l person
  have hof : career_Of l person = some (ofL l person) := career_Of_eq l person (by omega)
  rw [hof, Option.bind_some, career_Death_eq _ (by omega), Option.bind_some]
  cases (bif (bif (bif decide (person < (1 : Int)) then true else decide ((99 : Int) < person)) then true else decide (day < (0 : Int))) then true else decide ((73048 : Int) < day)) with
  | true => rfl
  | false =>
    rw [cond_false, cond_false]
    cases (bif !(firstL (ofL l person) 12).2 then true else decide (day ≤ (firstL (ofL l person) 12).1)) with
    | true => rfl
    | false =>
      rw [cond_false, cond_false]
      have hd := first_rng (ofL l person)
      generalize (firstL (ofL l person) 12).1 = died at hd
      show (fixL (conversion_Survivors_l1 l person day (ofL l person) died) (([] : List GHeir), (1 : Int), falses)).bind _ = _
      rw [show (([] : List GHeir), (1 : Int), falses) = ((([] : List GHeir), falses).1, (1 : Int), (([] : List GHeir), falses).2) from rfl, spouses_loop l person day (ofL l person) died (by omega) (by omega) hd 99 1 ([], falses) rfl (by omega) (by simp) (by simp [falses]), Option.bind_some]
      have hg : ∀ r : List GHeir × List Bool, conversion_Survivors_p6_g l person day (ofL l person) died r = (fixL (conversion_Survivors_l2 l person day (ofL l person) r.1 r.2) (r.1, (1 : Int))).bind (conversion_Survivors_p4_g l person day (ofL l person) r.1 r.2) := fun r => rfl
      have hS : spousesL l person day (ofL l person) died 99 1 ([], falses) = survS l person day died := by rw [survS]
      rw [hg, hS]
      have hsl : (survS l person day died).1.length ≤ 99 := by
        have := spousesL_len l person day (ofL l person) died 99 1 ([], falses)
        rw [hS] at this
        simpa using this
      have hsp : (survS l person day died).2.length = 100 := by
        have := spousesL_sp l person day (ofL l person) died 99 1 ([], falses)
        rw [hS] at this
        rw [this]
        simp [falses]
      rw [children_loop l person day (ofL l person) (survS l person day died).2 (survS l person day died).1 (by omega) (by omega) hsp 99 1 (survS l person day died).1 rfl (by omega) (by omega), Option.bind_some]
      have hA : childrenL l person day (ofL l person) (survS l person day died).2 99 1 (survS l person day died).1 = survA l person day died := by rw [survA]
      rw [hA]
      generalize survA l person day died = a
      show conversion_Survivors_p3 a = _
      unfold conversion_Survivors_p3
      have h12 : (if (12 : Int) < ((a.length : Nat) : Int) then (12 : Int) else ((a.length : Nat) : Int)) = ((min 12 a.length : Nat) : Int) := by
        split <;> omega
      rw [h12, gd_pos (by omega)]
      congr 1
      rw [show Int.toNat (((min 12 a.length : Nat) : Int) - 0) = min 12 a.length by omega, subL_take (by omega), List.drop_zero]
      rcases Nat.le_total 12 a.length with h | h
      · rw [Nat.min_eq_left h]
      · rw [Nat.min_eq_right h, List.take_of_length_le h, List.take_length]
end
section
open Go.Proofs

theorem Same_Heir_self (a : List GHeir) (hn : a.length ≤ 1000) : plain_Same_api_Heir a a = some true := by
  have key : ∀ n i : Nat, a.length = i + n → fixL (plain_Same_api_Heir_l1 a a) (i : Int) = some (.inr ()) := by
    intro n
    induction n with
    | zero =>
      intro i h
      have : i = a.length := by omega
      subst this
      rw [fixL_eq]
      show (plain_Same_api_Heir_p0 a a ((a.length : Nat) : Int)).bind _ = _
      unfold plain_Same_api_Heir_p0
      rw [not_lt_len, cond_false]
      rfl
    | succ n ih =>
      intro i h
      have hi : i < a.length := by omega
      rw [fixL_eq]
      show (plain_Same_api_Heir_p0 a a (i : Int)).bind _ = _
      unfold plain_Same_api_Heir_p0
      rw [lt_len hi, cond_true, gd_pos (idx_ok hi), gd_pos (idx_ok hi), beq_self_eq_true, beq_self_eq_true, beq_self_eq_true, w64_succ (by omega)]
      exact ih (i + 1) (by omega)
  have := key a.length 0 (by omega)
  show plain_Same_api_Heir_p3 a a = _
  unfold plain_Same_api_Heir_p3
  rw [bne_self_eq_false, cond_false]
  show (fixL (plain_Same_api_Heir_l1 a a) (0 : Int)).bind _ = _
  rw [show ((0 : Nat) : Int) = 0 from rfl] at this
  rw [this]
  rfl
theorem survL_len (l : List GFact) (person day : Int) : (survL l person day).length ≤ 12 := by
  unfold survL
  cases (bif (bif (bif decide (person < 1) then true else decide (99 < person)) then true else decide (day < 0)) then true else decide (73048 < day)) with
  | true => simp
  | false =>
    rw [cond_false]
    cases (bif !(firstL (ofL l person) 12).2 then true else decide (day ≤ (firstL (ofL l person) 12).1)) with
    | true => simp
    | false => rw [cond_false, List.length_take]; omega
theorem merge_members {f g : List GFact} (h : ∀ x, x ∈ f ↔ x ∈ g) : careerMerge f [] = careerMerge g [] :=
  (careerMerge_ok f []).uniq (careerMerge_ok g []) fun x => Top_congr (fun y => by simp only [List.append_nil]; exact h y) x
theorem law_ConversionSurvivorsIgnoreOrder (n : List Int) (l : List GHand) (person day by_ : Int) (hn : n.length ≤ maxLen) : law22_ConversionSurvivorsIgnoreOrder n l person day by_ = some true := by
  have hmax : maxLen ≤ 9223372036854775807 := by decide
  obtain ⟨a, a1, a2, _⟩ := hand_Lives_some n (Nat.le_trans hn hmax)
  obtain ⟨b, b1, b2, _⟩ := hand_Facts_some l
  show law22_ConversionSurvivorsIgnoreOrder_p1 n l person day by_ = _
  unfold law22_ConversionSurvivorsIgnoreOrder_p1
  have hm := Int.emod_nonneg by_ (show (((a.length + b.length : Nat)) : Int) ≠ 0 by omega)
  have hm2 := Int.emod_lt_of_pos by_ (show (0 : Int) < (((a.length + b.length : Nat)) : Int) by omega)
  rw [a1, Option.bind_some, b1, Option.bind_some, gd_pos (capF (by omega)), plain_Mod_eq by_ _ (by omega) (by omega), Option.bind_some]
  generalize hk : by_ % (((a.length + b.length : Nat)) : Int) = k at hm hm2
  have hf : (a ++ b).length = a.length + b.length := List.length_append
  rw [← hf] at hm2
  have hlen : (a ++ b).length ≤ 27 := by omega
  generalize a ++ b = f at hm2 hlen
  obtain ⟨j, rfl⟩ := Int.eq_ofNat_of_zero_le hm
  have hj : j < f.length := by omega
  unfold law22_ConversionSurvivorsIgnoreOrder_p0
  have e1 : Int.toNat (((f.length : Nat) : Int) - (j : Int)) = f.length - j := by omega
  have e2 : Int.toNat ((j : Int) - 0) = j := by omega
  have e3 : subL zGFact f j (f.length - j) = f.drop j := by rw [subL_take (by omega), List.take_of_length_le (by rw [List.length_drop]; omega)]
  have e4 : subL zGFact f 0 j = f.take j := by rw [subL_take (by omega), List.drop_zero]
  have e5 : f.getD j zGFact = f[j] := by rw [List.getD_eq_getElem?_getD, List.getElem?_eq_getElem hj]; rfl
  rw [e1, e2, Nat.zero_add, Int.toNat_natCast, e3, e4, e5, gd_pos (by omega), gd_pos (capF (by omega)), gd_pos (by omega), gd_pos (capF (by omega)), gd_pos (by omega), gd_pos (capF (by omega)), plain_Mod_eq person 4 (by omega) (by omega), Option.bind_some, plain_Mod_eq day 5000 (by omega) (by omega), Option.bind_some, law22_awake_eq, Option.bind_some, cond_true]
  have hg : ((f.drop j ++ f.take j) ++ [f[j]]).length ≤ 100 := by
    rw [List.length_append, List.length_append, List.length_drop, List.length_take]
    simp only [List.length_cons, List.length_nil]
    omega
  have hmem : ∀ x, x ∈ f ↔ x ∈ (f.drop j ++ f.take j) ++ [f[j]] := by
    intro x
    constructor
    · intro hx
      rw [← List.take_append_drop j f] at hx
      rcases List.mem_append.1 hx with hx | hx
      · exact List.mem_append.2 (.inl (List.mem_append.2 (.inr hx)))
      · exact List.mem_append.2 (.inl (List.mem_append.2 (.inl hx)))
    · intro hx
      rcases List.mem_append.1 hx with hx | hx
      · rcases List.mem_append.1 hx with hx | hx
        · exact List.mem_of_mem_drop hx
        · exact List.mem_of_mem_take hx
      · rw [List.mem_singleton.1 hx]; exact List.getElem_mem hj
  rw [conversion_Survivors_eq f _ _ (by omega), Option.bind_some, conversion_Survivors_eq _ _ _ (by omega), Option.bind_some, ← merge_members hmem, Same_Heir_self _ (by have := survL_len ((careerMerge f []).filter curB) (w64 (1 + person % 4)) (w64 (35000 + day % 5000)); omega)]
  rfl
end
section
open Go.Proofs

def PNe (a b : GHeir) : Prop := a.Person ≠ b.Person
theorem validE_of : ∀ (l pre : List GHeir), (∀ h ∈ l, heirB h = true) → l.Pairwise PNe → (∀ h ∈ l, ∀ x ∈ pre, x.Person ≠ h.Person) → runE validG (fun _ => Sum.inl ()) l pre = (Sum.inl () : Unit ⊕ Unit)
  | [], _, _, _, _ => rfl
  | x :: l, pre, hb, hp, hd => by
    obtain ⟨p1, p2⟩ := List.pairwise_cons.1 hp
    have hany : (pre.any fun y => y.Person == x.Person) = false := by
      rw [List.any_eq_false]
      intro y hy h
      exact hd x (by simp) y hy (beq_iff_eq.1 h)
    unfold runE validG
    rw [hb x (by simp), hany, Bool.not_false, Bool.and_true, if_pos rfl]
    refine validE_of l _ (fun h hh => hb h (by simp [hh])) p2 fun h hh y hy => ?_
    rcases List.mem_append.1 hy with hy | hy
    · exact hd h (by simp [hh]) y hy
    · rw [List.mem_singleton.1 hy]; exact p1 h hh
theorem validL_of {l : List GHeir} (hn : l.length ≤ 12) (hb : ∀ h ∈ l, heirB h = true) (hp : l.Pairwise PNe) : validL l = true := by
  unfold validL validE
  rw [if_neg (by omega), validE_of l [] hb hp (fun h _ x hx => by simp at hx)]
theorem daysN_max : ∀ {l : List GSpan}, NormL (-1) l → daysN l ≤ 73049
  | [], _ => by show (0 : Int) ≤ 73049; omega
  | s :: r, ⟨h1, h2, h3, h4⟩ => by
    have := (daysN_rng h4 h3).2
    unfold daysN
    omega
def InvS (person q : Int) (s : List GHeir × List Bool) : Prop :=
  s.2.length = 100 ∧ (∀ h ∈ s.1, 1 ≤ h.Person ∧ h.Person < q ∧ h.Person ≠ person ∧ heirB h = true ∧ s.2.getD h.Person.toNat false = true) ∧ s.1.Pairwise PNe
theorem spouses_inv (l : List GFact) (person day : Int) (own : List GFact) (died : Int) : ∀ (n : Nat) (q : Int) (s : List GHeir × List Bool), q + n = 100 → 1 ≤ q → InvS person q s → InvS person 100 (spousesL l person day own died n q s)
  | 0, q, s, h, _, hi => by
    have : q = 100 := by omega
    subst this
    exact hi
  | n + 1, q, s, h, h1, ⟨i1, i2, i3⟩ => by
    unfold spousesL
    refine spouses_inv l person day own died n (q + 1) _ (by omega) (by omega) ?_
    cases hs : spouseB l person day own died q with
    | false =>
      rw [cond_false]
      exact ⟨i1, fun x hx => by obtain ⟨a, b, c⟩ := i2 x hx; exact ⟨a, by omega, c⟩, i3⟩
    | true =>
      rw [cond_true]
      unfold spouseB at hs
      rw [cond_and, cond_and, Bool.and_eq_true, Bool.and_eq_true, bne_iff_ne, decide_eq_true_iff] at hs
      have hmax : marriedN own q died ≤ 73049 := daysN_max (makeS_ok _).1
      refine ⟨by simp [i1], fun x hx => ?_, ?_⟩
      · rcases List.mem_append.1 hx with hx | hx
        · obtain ⟨a, b, c, d, e⟩ := i2 x hx
          refine ⟨a, by omega, c, d, ?_⟩
          show (s.2.set q.toNat true).getD x.Person.toNat false = true
          rw [List.getD_eq_getElem?_getD, List.getElem?_set_ne (by omega), ← List.getD_eq_getElem?_getD]
          exact e
        · rw [List.mem_singleton.1 hx]
          refine ⟨h1, by show q < q + 1; omega, hs.1.1, ?_, ?_⟩
          · unfold heirB
            rw [decide_eq_true (show (1 : Int) ≤ q from h1), decide_eq_true (show q ≤ 99 by omega), if_pos rfl, decide_eq_true (show (1 : Int) ≤ marriedN own q died by omega), decide_eq_true hmax]; rfl
          · show (s.2.set q.toNat true).getD q.toNat false = true
            rw [List.getD_eq_getElem?_getD, List.getElem?_set_self (by omega)]; rfl
      · refine List.pairwise_append.2 ⟨i3, List.pairwise_singleton _ _, fun x hx y hy => ?_⟩
        rw [List.mem_singleton.1 hy]
        have := (i2 x hx).2.1
        show x.Person ≠ q
        omega
def InvC (person : Int) (sp : List Bool) (c : Int) (out : List GHeir) : Prop :=
  (∀ h ∈ out, h.Person ≠ person ∧ heirB h = true ∧ (sp.getD h.Person.toNat false = true ∨ h.Person < c)) ∧ out.Pairwise PNe
theorem children_inv (l : List GFact) (person day : Int) (own : List GFact) (sp : List Bool) : ∀ (n : Nat) (c : Int) (out : List GHeir), c + n = 100 → 1 ≤ c → InvC person sp c out → InvC person sp 100 (childrenL l person day own sp n c out)
  | 0, c, out, h, _, hi => by
    have : c = 100 := by omega
    subst this
    exact hi
  | n + 1, c, out, h, h1, ⟨i2, i3⟩ => by
    unfold childrenL
    refine children_inv l person day own sp n (c + 1) _ (by omega) (by omega) ?_
    cases hs : childB l person day own sp c with
    | false =>
      rw [cond_false]
      exact ⟨fun x hx => by obtain ⟨a, b, d⟩ := i2 x hx; exact ⟨a, b, d.imp id fun h => by omega⟩, i3⟩
    | true =>
      rw [cond_true]
      unfold childB at hs
      rw [cond_or, Bool.and_eq_true, Bool.not_eq_true', Bool.or_eq_false_iff, beq_eq_false_iff_ne] at hs
      obtain ⟨⟨s1, s2⟩, _⟩ := hs
      refine ⟨fun x hx => ?_, ?_⟩
      · rcases List.mem_append.1 hx with hx | hx
        · obtain ⟨a, b, d⟩ := i2 x hx
          exact ⟨a, b, d.imp id fun h => by omega⟩
        · rw [List.mem_singleton.1 hx]
          refine ⟨s1, ?_, .inr (by show c < c + 1; omega)⟩
          unfold heirB
          rw [decide_eq_true (show (1 : Int) ≤ c from h1), decide_eq_true (show c ≤ 99 by omega)]
          cases raisedB l c day 99 1 <;> rfl
      · refine List.pairwise_append.2 ⟨i3, List.pairwise_singleton _ _, fun x hx y hy => ?_⟩
        rw [List.mem_singleton.1 hy]
        show x.Person ≠ c
        intro e
        rcases (i2 x hx).2.2 with h | h
        · rw [e, s2] at h; cases h
        · omega
theorem survL_ok (l : List GFact) (person day : Int) : (∀ h ∈ survL l person day, h.Person ≠ person) ∧ validL (survL l person day) = true := by
  unfold survL
  cases (bif (bif (bif decide (person < 1) then true else decide (99 < person)) then true else decide (day < 0)) then true else decide (73048 < day)) with
  | true => exact ⟨fun h hh => by simp at hh, rfl⟩
  | false =>
    rw [cond_false]
    cases (bif !(firstL (ofL l person) 12).2 then true else decide (day ≤ (firstL (ofL l person) 12).1)) with
    | true => exact ⟨fun h hh => by simp at hh, rfl⟩
    | false =>
      rw [cond_false]
      generalize (firstL (ofL l person) 12).1 = died
      have hlen : ((survA l person day died).take 12).length ≤ 12 := by rw [List.length_take]; omega
      have h1 : InvS person 100 (survS l person day died) := by
        rw [survS]
        exact spouses_inv l person day (ofL l person) died 99 1 ([], falses) rfl (by omega) ⟨by simp [falses], fun h hh => by simp at hh, List.Pairwise.nil⟩
      have h2 : InvC person (survS l person day died).2 100 (survA l person day died) := by
        rw [survA]
        exact children_inv l person day (ofL l person) (survS l person day died).2 99 1 (survS l person day died).1 rfl (by omega) ⟨fun h hh => by obtain ⟨_, _, c, d, e⟩ := h1.2.1 h hh; exact ⟨c, d, .inl e⟩, h1.2.2⟩
      have hsub : List.Sublist ((survA l person day died).take 12) (survA l person day died) := List.take_sublist _ _
      exact ⟨fun h hh => (h2.1 h (hsub.subset hh)).1, validL_of hlen (fun h hh => (h2.1 h (hsub.subset hh)).2.1) (h2.2.sublist hsub)⟩
theorem first_late {l : List GFact} {d : Int} (h : ∀ f ∈ l, f.Kind = 12 → d ≤ f.Span.From) : (firstL l 12).2 = true → d ≤ (firstL l 12).1 := by
  have key : ∀ (m : List GFact) (a : Int × Bool), (∀ f ∈ m, f.Kind = 12 → d ≤ f.Span.From) → (a.2 = true → d ≤ a.1) → (m.foldl (fun a f => minG 12 f a) a).2 = true → d ≤ (m.foldl (fun a f => minG 12 f a) a).1 := by
    intro m
    induction m with
    | nil => intro a _ h; exact h
    | cons f m ih =>
      intro a hv h
      rw [List.foldl_cons]
      refine ih _ (fun g hg => hv g (by simp [hg])) ?_
      unfold minG
      split
      · next hc =>
        rw [Bool.and_eq_true, beq_iff_eq] at hc
        exact fun _ => hv f (by simp) hc.1
      · exact h
  exact key _ (0, false) (fun f hf => h f (List.mem_filter.1 hf).1) (fun h => by cases h)
theorem survL_none {l : List GFact} {person day : Int} (h : ∀ f ∈ l, f.Kind = 12 → day ≤ f.Span.From) : survL l person day = [] := by
  unfold survL
  cases (bif (bif (bif decide (person < 1) then true else decide (99 < person)) then true else decide (day < 0)) then true else decide (73048 < day)) with
  | true => rfl
  | false =>
    rw [cond_false]
    have := first_late (l := ofL l person) (d := day) (fun f hf => h f (List.mem_filter.1 hf).1)
    cases hb : (firstL (ofL l person) 12).2 with
    | false => rfl
    | true => rw [decide_eq_true (this hb)]; rfl
theorem made_death {r : GHand} (h : (makeL r).Kind = 12) : 30000 ≤ (makeL r).Span.From := by
  have hk : handKind r = 12 := by rw [← (make_valid r).2.1]; exact h
  have e : (makeL r).Span.From = handFrom r := by
    unfold makeL
    rw [hk]
    rfl
  rw [e]
  unfold handFrom
  rw [if_neg (by omega), if_pos hk]
  have := Int.emod_nonneg r.From (show (6000 : Int) ≠ 0 by omega)
  omega
theorem none_loop (f : List GFact) (p : Int) (s : List GHeir) (hs : ∀ h ∈ s, h.Person ≠ p) (hn : s.length ≤ 1000) : ∀ n i : Nat, s.length = i + n → fixL (law22_ConversionSurvivorsAreValid_l1 f p s) (i : Int) = some (.inr ()) := by
  intro n
  induction n with
  | zero =>
    intro i h
    have : i = s.length := by omega
    subst this
    rw [fixL_eq]
    show (law22_ConversionSurvivorsAreValid_p0 f p s ((s.length : Nat) : Int)).bind _ = _
    unfold law22_ConversionSurvivorsAreValid_p0
    rw [not_lt_len, cond_false]
    rfl
  | succ n ih =>
    intro i h
    have hi : i < s.length := by omega
    rw [fixL_eq]
    show (law22_ConversionSurvivorsAreValid_p0 f p s (i : Int)).bind _ = _
    unfold law22_ConversionSurvivorsAreValid_p0
    rw [lt_len hi, cond_true, gd_pos (idx_ok hi), getD_nat0 s _ i hi, beq_eq_false_iff_ne.2 (hs _ (List.getElem_mem hi)), cond_false, w64_succ (by omega), Option.bind_some]
    exact ih (i + 1) (by omega)
theorem law_ConversionSurvivorsAreValid (n : List Int) (l : List GHand) (person day : Int) (hn : n.length ≤ maxLen) : law22_ConversionSurvivorsAreValid n l person day = some true := by
  have hmax : maxLen ≤ 9223372036854775807 := by decide
  obtain ⟨a, a1, a2, a3⟩ := hand_Lives_some n (Nat.le_trans hn hmax)
  obtain ⟨b, b1, b2, b3⟩ := hand_Facts_some l
  show law22_ConversionSurvivorsAreValid_p3 n l person day = _
  unfold law22_ConversionSurvivorsAreValid_p3
  have hf : (a ++ b).length = a.length + b.length := List.length_append
  have hdead : ∀ f ∈ a ++ b, f.Kind = 12 → 30000 ≤ f.Span.From := by
    intro f hf h12
    rcases List.mem_append.1 hf with hf | hf
    · exact a3 f hf h12
    · obtain ⟨r, rfl⟩ := b3 f hf
      exact made_death h12
  rw [a1, Option.bind_some, b1, Option.bind_some, gd_pos (capF (by omega)), plain_Mod_eq person 4 (by omega) (by omega), Option.bind_some, plain_Mod_eq day 5000 (by omega) (by omega), Option.bind_some, conversion_Survivors_eq (a ++ b) _ _ (by omega), Option.bind_some, conversion_Shares_eq, Option.bind_some, law22_awake_eq, Option.bind_some]
  generalize w64 (1 + person % 4) = p
  generalize w64 (35000 + day % 5000) = d
  obtain ⟨s1, s2⟩ := survL_ok ((careerMerge (a ++ b) []).filter curB) p d
  have s3 := survL_len ((careerMerge (a ++ b) []).filter curB) p d
  rw [if_pos s2]
  generalize survL ((careerMerge (a ++ b) []).filter curB) p d = s at s1 s2 s3
  show law22_ConversionSurvivorsAreValid_p2 (a ++ b) p s = _
  have hloop := none_loop (a ++ b) p s s1 (by omega) s.length 0 (by omega)
  rw [show ((0 : Nat) : Int) = 0 from rfl] at hloop
  show (fixL (law22_ConversionSurvivorsAreValid_l1 (a ++ b) p s) (0 : Int)).bind _ = _
  rw [hloop, Option.bind_some]
  show law22_ConversionSurvivorsAreValid_p1 (a ++ b) p = _
  unfold law22_ConversionSurvivorsAreValid_p1
  rw [conversion_Survivors_eq (a ++ b) _ _ (by omega), Option.bind_some, survL_none]
  · rfl
  · intro f hf h12
    have h1 := (List.mem_filter.1 hf).1
    have h2 := ((careerMerge_ok (a ++ b) []).mem f).1 h1
    have h3 : f ∈ a ++ b := by
      have := h2.1
      rwa [List.append_nil] at this
    exact hdead f h3 h12
end
end Go.Ax
