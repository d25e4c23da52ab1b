import Derived.Test.YtkijjjdaijjpaaaGreatL9v
import Derived.Test.YtkijjjdaijjpaaaGreatL2v
set_option linter.all false
/- Facts of a person, current facts, the days of birth and death. -/
set_option maxRecDepth 100000
namespace Go.Ax

theorem foldl_filter (p : GFact → Bool) : ∀ (l out : List GFact), l.foldl (fun out f => if p f = true then out ++ [f] else out) out = out ++ l.filter p
  | [], out => by simp
  | f :: l, out => by
    rw [List.foldl_cons, foldl_filter p l, List.filter_cons]
    by_cases h : p f = true
    · rw [if_pos h, if_pos h]; simp
    · rw [if_neg h, if_neg h]
theorem filter_loop {F : List GFact × Int → Option ((List GFact × Int) ⊕ List GFact)} (l : List GFact) (p : GFact → Bool) (hn : l.length ≤ 1000000)
    (hs : ∀ i (hi : i < l.length) (out : List GFact), out.length ≤ i → F (out, (i : Int)) = some (.inl (if p l[i] = true then out ++ [l[i]] else out, ((i + 1 : Nat) : Int))))
    (he : ∀ out, F (out, (l.length : Int)) = some (.inr out)) : fixL F ([], (0 : Int)) = some (l.filter p) := by
  have := fixL_list0 (f := F) l (fun i out => (out, (i : Int))) (fun i out => out.length ≤ i) (fun f out => .inl (if p f = true then out ++ [f] else out)) id [] (by simp) (fun i hi out h => hs i hi out h)
    (fun i hi out out' h e => by
      cases e
      split
      · simp; omega
      · omega)
    (fun out _ => he out)
  rw [runE_fold, foldl_filter] at this
  simpa using this

def ofB (person : Int) (f : GFact) : Bool := f.Person == person
theorem career_Of_eq (l : List GFact) (person : Int) (hn : l.length ≤ 1000000) : career_Of l person = some (l.filter (ofB person)) := by
  show (career_filter_Of_1 l person).bind _ = _
  have : career_filter_Of_1 l person = some (l.filter (ofB person)) := by
    show (fixL (career_filter_Of_1_l1 person l) ([], (0 : Int))).bind _ = _
    rw [filter_loop l (ofB person) hn (fun i hi out ho => ?_) (fun out => ?_)]
    · rfl
    · show career_filter_Of_1_p0 person out l (i : Int) = _
      unfold career_filter_Of_1_p0
      rw [lt_len hi, cond_true, gd_pos (idx_ok hi), getD_nat l _ i hi]
      show (bif l[i].Person == person then _ else _) = _
      rw [gd_pos (capF (by omega)), w64_succ (by omega)]
      unfold ofB
      cases (l[i].Person == person) <;> rfl
    · show career_filter_Of_1_p0 person out l (l.length : Int) = _
      unfold career_filter_Of_1_p0
      rw [not_lt_len]
      rfl
  rw [this]
  rfl
def curB (f : GFact) : Bool := validB f && !f.Withdrawn
theorem career_current_eq (f : GFact) : career_current f = some (curB f) := by
  show career_current_p0 f = _
  unfold career_current_p0
  rw [fact_Valid_eq, Option.bind_some]
  unfold curB
  cases validB f <;> rfl
theorem career_Current_eq (l : List GFact) (hn : l.length ≤ 1000000) : career_Current l = some (l.filter curB) := by
  show (career_filter_current l).bind _ = _
  have : career_filter_current l = some (l.filter curB) := by
    show (fixL (career_filter_current_l1 l) ([], (0 : Int))).bind _ = _
    rw [filter_loop l curB hn (fun i hi out ho => ?_) (fun out => ?_)]
    · rfl
    · show career_filter_current_p0 out l (i : Int) = _
      unfold career_filter_current_p0
      rw [lt_len hi, cond_true, gd_pos (idx_ok hi), getD_nat l _ i hi, career_current_eq, Option.bind_some, gd_pos (capF (by omega)), w64_succ (by omega)]
      cases curB l[i] <;> rfl
    · show career_filter_current_p0 out l (l.length : Int) = _
      unfold career_filter_current_p0
      rw [not_lt_len]
      rfl
  rw [this]
  rfl
/-! ### The first day of a kind -/
def minG (kind : Int) (f : GFact) (a : Int × Bool) : Int × Bool := if (f.Kind == kind && (!a.2 || decide (f.Span.From < a.1))) = true then (f.Span.From, true) else a
def firstL (l : List GFact) (kind : Int) : Int × Bool := (l.filter curB).foldl (fun a f => minG kind f a) (0, false)
theorem foldl_filter2 {A : Type} (p : GFact → Bool) (g : A → GFact → A) : ∀ (l : List GFact) (a : A), (l.filter p).foldl g a = l.foldl (fun a f => if p f = true then g a f else a) a
  | [], _ => rfl
  | f :: l, a => by
    rw [List.filter_cons, List.foldl_cons]
    by_cases h : p f = true
    · rw [if_pos h, if_pos h, List.foldl_cons, foldl_filter2 p g l]
    · rw [if_neg h, if_neg h, foldl_filter2 p g l]
theorem career_first_eq (l : List GFact) (kind : Int) (hn : l.length ≤ 1000000) : career_first l kind = some (firstL l kind) := by
  show (fixL (career_first_l1 kind l) ((0 : Int), false, (0 : Int))).bind _ = _
  have := fixL_list0 (f := career_first_l1 kind l) l (fun i (a : Int × Bool) => (a.1, a.2, (i : Int))) (fun _ _ => True) (fun f a => .inl (if curB f = true then minG kind f a else a)) id (0, false) trivial (fun i hi a _ => ?_) (fun _ _ _ _ _ _ => trivial) (fun a _ => ?_)
  · rw [runE_fold] at this
    rw [show ((0 : Int), false, (0 : Int)) = (((0 : Int), false).1, ((0 : Int), false).2, ((0 : Nat) : Int)) from rfl, this, Option.bind_some]
    unfold firstL
    rw [foldl_filter2]
    rfl
  · show career_first_p0 kind a.1 a.2 l (i : Int) = _
    unfold career_first_p0
    rw [lt_len hi, cond_true, gd_pos (idx_ok hi), getD_nat l _ i hi, career_current_eq, Option.bind_some, w64_succ (by omega)]
    unfold minG
    cases curB l[i] with
    | false => rfl
    | true =>
      simp only [cond_true, if_true, cond_and, cond_or]
      cases (l[i].Kind == kind && (!a.2 || decide (l[i].Span.From < a.1))) <;> rfl
  · show career_first_p0 kind a.1 a.2 l (l.length : Int) = _
    unfold career_first_p0
    rw [not_lt_len]
    rfl
def lifeL (l : List GFact) : GSpan :=
  let d := if (firstL l 12).2 then (firstL l 12).1 else 73048
  if d < (firstL l 11).1 then ⟨0, 0⟩ else ⟨(firstL l 11).1, w64 (d + 1)⟩
theorem career_Death_eq (l : List GFact) (hn : l.length ≤ 1000000) : career_Death l = some (firstL l 12) := by
  show career_Death_p0 l = _
  unfold career_Death_p0
  rw [career_first_eq l 12 hn]; rfl
end Go.Ax
