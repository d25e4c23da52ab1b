import Derived.Test.YtchffdmfiffifaaL11
set_option linter.all false
/- Facts of a person, current facts, careers; the laws of them. -/
set_option maxRecDepth 100000
namespace Go.Ax
open Go.Proofs

theorem foldl_filter (p : GFact → Bool) : ∀ (l out : List GFact), l.foldl (fun out f => if p f = true then out ++ [f] else out) out = out ++ l.filter p
  | [], out => by simp
  | f :: l, out => by
    rw [List.foldl_cons, foldl_filter p l, List.filter_cons]
    by_cases h : p f = true
    · rw [if_pos h, if_pos h]; simp
    · rw [if_neg h, if_neg h]
theorem filter_loop {F : List GFact × Int → Option ((List GFact × Int) ⊕ List GFact)} (l : List GFact) (p : GFact → Bool) (hn : l.length ≤ 1000000)
    (hs : ∀ i (hi : i < l.length) (out : List GFact), out.length ≤ i → F (out, (i : Int)) = some (.inl (if p l[i] = true then out ++ [l[i]] else out, ((i + 1 : Nat) : Int))))
    (he : ∀ out, F (out, (l.length : Int)) = some (.inr out)) : fixL F ([], (0 : Int)) = some (l.filter p) := by
  have := fixL_list0 (f := F) l (fun i out => (out, (i : Int))) (fun i out => out.length ≤ i) (fun f out => .inl (if p f = true then out ++ [f] else out)) id [] (by simp) (fun i hi out h => hs i hi out h)
    (fun i hi out out' h e => by
      cases e
      split
      · simp; omega
      · omega)
    (fun out _ => he out)
  rw [runE_fold, foldl_filter] at this
  simpa using this

def ofB (person : Int) (f : GFact) : Bool := f.Person == person
theorem career_Of_eq (l : List GFact) (person : Int) (hn : l.length ≤ 1000000) : career_Of l person = some (l.filter (ofB person)) := by
  show (career_filter_Of_1 l person).bind _ = _
  have : career_filter_Of_1 l person = some (l.filter (ofB person)) := by
    show (fixL (career_filter_Of_1_l1 person l) ([], (0 : Int))).bind _ = _
    rw [filter_loop l (ofB person) hn (fun i hi out ho => ?_) (fun out => ?_)]
    · rfl
    · show career_filter_Of_1_p0 person out l (i : Int) = _
      unfold career_filter_Of_1_p0
      rw [lt_len hi, cond_true, gd_pos (idx_ok hi), getD_nat l _ i hi]
      show (bif l[i].Person == person then _ else _) = _
      rw [gd_pos (capF (by omega)), w64_succ (by omega)]
      unfold ofB
      cases (l[i].Person == person) <;> rfl
    · show career_filter_Of_1_p0 person out l (l.length : Int) = _
      unfold career_filter_Of_1_p0
      rw [not_lt_len]
      rfl
  rw [this]
  rfl
theorem ref12_Of_eq (l : List GFact) (person : Int) (hn : l.length ≤ 1000000) : ref12_Of l person = some (l.filter (ofB person)) := by
  show (fixL (ref12_Of_l1 l person) ([], (0 : Int))).bind _ = _
  rw [filter_loop l (ofB person) hn (fun i hi out ho => ?_) (fun out => ?_)]
  · rfl
  · show ref12_Of_p0 l person out (i : Int) = _
    unfold ref12_Of_p0
    rw [lt_len hi, cond_true, gd_pos (idx_ok hi), getD_nat l _ i hi, gd_pos (idx_ok hi), gd_pos (capF (by omega)), w64_succ (by omega)]
    unfold ofB
    cases (l[i].Person == person) <;> rfl
  · show ref12_Of_p0 l person out (l.length : Int) = _
    unfold ref12_Of_p0
    rw [not_lt_len]
    rfl

def curB (f : GFact) : Bool := validB f && !f.Withdrawn
theorem career_current_eq (f : GFact) : career_current f = some (curB f) := by
  show career_current_p0 f = _
  unfold career_current_p0
  rw [fact_Valid_eq, Option.bind_some]
  unfold curB
  cases validB f <;> rfl
theorem career_Current_eq (l : List GFact) (hn : l.length ≤ 1000000) : career_Current l = some (l.filter curB) := by
  show (career_filter_current l).bind _ = _
  have : career_filter_current l = some (l.filter curB) := by
    show (fixL (career_filter_current_l1 l) ([], (0 : Int))).bind _ = _
    rw [filter_loop l curB hn (fun i hi out ho => ?_) (fun out => ?_)]
    · rfl
    · show career_filter_current_p0 out l (i : Int) = _
      unfold career_filter_current_p0
      rw [lt_len hi, cond_true, gd_pos (idx_ok hi), getD_nat l _ i hi, career_current_eq, Option.bind_some, gd_pos (capF (by omega)), w64_succ (by omega)]
      cases curB l[i] <;> rfl
    · show career_filter_current_p0 out l (l.length : Int) = _
      unfold career_filter_current_p0
      rw [not_lt_len]
      rfl
  rw [this]
  rfl
theorem ref12_Current_eq (l : List GFact) (hn : l.length ≤ 1000000) : ref12_Current l = some (l.filter curB) := by
  show (fixL (ref12_Current_l1 l) ([], (0 : Int))).bind _ = _
  rw [filter_loop l curB hn (fun i hi out ho => ?_) (fun out => ?_)]
  · rfl
  · show ref12_Current_p0 l out (i : Int) = _
    unfold ref12_Current_p0
    rw [lt_len hi, cond_true, gd_pos (idx_ok hi), getD_nat l _ i hi, ref12_Valid_eq, Option.bind_some, gd_pos (by intro _; omega), gd_pos (by intro _; omega), gd_pos (idx_ok hi), gd_pos (capF (by omega)), w64_succ (by omega)]
    unfold curB
    cases validB l[i] <;> cases l[i].Withdrawn <;> rfl
  · show ref12_Current_p0 l out (l.length : Int) = _
    unfold ref12_Current_p0
    rw [not_lt_len]
    rfl

/-! ### The first day of a kind -/
def minG (kind : Int) (f : GFact) (a : Int × Bool) : Int × Bool := if (f.Kind == kind && (!a.2 || decide (f.Span.From < a.1))) = true then (f.Span.From, true) else a
def firstL (l : List GFact) (kind : Int) : Int × Bool := (l.filter curB).foldl (fun a f => minG kind f a) (0, false)
theorem foldl_filter2 {A : Type} (p : GFact → Bool) (g : A → GFact → A) : ∀ (l : List GFact) (a : A), (l.filter p).foldl g a = l.foldl (fun a f => if p f = true then g a f else a) a
  | [], _ => rfl
  | f :: l, a => by
    rw [List.filter_cons, List.foldl_cons]
    by_cases h : p f = true
    · rw [if_pos h, if_pos h, List.foldl_cons, foldl_filter2 p g l]
    · rw [if_neg h, if_neg h, foldl_filter2 p g l]
theorem career_first_eq (l : List GFact) (kind : Int) (hn : l.length ≤ 1000000) : career_first l kind = some (firstL l kind) := by
  show (fixL (career_first_l1 kind l) ((0 : Int), false, (0 : Int))).bind _ = _
  have := fixL_list0 (f := career_first_l1 kind l) l (fun i (a : Int × Bool) => (a.1, a.2, (i : Int))) (fun _ _ => True) (fun f a => .inl (if curB f = true then minG kind f a else a)) id (0, false) trivial (fun i hi a _ => ?_) (fun _ _ _ _ _ _ => trivial) (fun a _ => ?_)
  · rw [runE_fold] at this
    rw [show ((0 : Int), false, (0 : Int)) = (((0 : Int), false).1, ((0 : Int), false).2, ((0 : Nat) : Int)) from rfl, this, Option.bind_some]
    unfold firstL
    rw [foldl_filter2]
    rfl
  · show career_first_p0 kind a.1 a.2 l (i : Int) = _
    unfold career_first_p0
    rw [lt_len hi, cond_true, gd_pos (idx_ok hi), getD_nat l _ i hi, career_current_eq, Option.bind_some, w64_succ (by omega)]
    unfold minG
    cases curB l[i] with
    | false => rfl
    | true =>
      simp only [cond_true, if_true, cond_and, cond_or]
      cases (l[i].Kind == kind && (!a.2 || decide (l[i].Span.From < a.1))) <;> rfl
  · show career_first_p0 kind a.1 a.2 l (l.length : Int) = _
    unfold career_first_p0
    rw [not_lt_len]
    rfl
theorem ref12_least_eq (l : List GFact) (kind : Int) (hn : l.length ≤ 1000000) : ref12_least l kind = some (firstL l kind) := by
  show (ref12_Current l).bind _ = _
  rw [ref12_Current_eq l hn, Option.bind_some]
  have hc : (l.filter curB).length ≤ l.length := List.length_filter_le _ _
  unfold firstL
  generalize l.filter curB = c at hc
  show (fixL (ref12_least_l1 kind c) ((0 : Int), false, (0 : Int))).bind _ = _
  have := fixL_list0 (f := ref12_least_l1 kind c) c (fun i (a : Int × Bool) => (a.1, a.2, (i : Int))) (fun _ _ => True) (fun f a => .inl (minG kind f a)) id (0, false) trivial (fun i hi a _ => ?_) (fun _ _ _ _ _ _ => trivial) (fun a _ => ?_)
  · rw [runE_fold] at this
    rw [show ((0 : Int), false, (0 : Int)) = (((0 : Int), false).1, ((0 : Int), false).2, ((0 : Nat) : Int)) from rfl, this, Option.bind_some]
    rfl
  · show ref12_least_p0 kind c a.1 a.2 (i : Int) = _
    unfold ref12_least_p0
    rw [lt_len hi, cond_true, gd_pos (idx_ok hi), getD_nat0 c _ i hi, gd_pos (by intro _; omega), gd_pos (by intro _; omega), gd_pos (idx_ok hi), w64_succ (by omega)]
    unfold minG
    simp only [cond_and, cond_or]
    cases (c[i].Kind == kind && (!a.2 || decide (c[i].Span.From < a.1))) <;> rfl
  · show ref12_least_p0 kind c a.1 a.2 (c.length : Int) = _
    unfold ref12_least_p0
    rw [not_lt_len]
    rfl
def lifeL (l : List GFact) : GSpan :=
  let d := if (firstL l 12).2 then (firstL l 12).1 else 73048
  if d < (firstL l 11).1 then ⟨0, 0⟩ else ⟨(firstL l 11).1, w64 (d + 1)⟩
theorem career_Birth_eq (l : List GFact) (hn : l.length ≤ 1000000) : career_Birth l = some (firstL l 11) := by
  show career_Birth_p0 l = _
  unfold career_Birth_p0
  rw [career_first_eq l 11 hn]; rfl
theorem career_Death_eq (l : List GFact) (hn : l.length ≤ 1000000) : career_Death l = some (firstL l 12) := by
  show career_Death_p0 l = _
  unfold career_Death_p0
  rw [career_first_eq l 12 hn]; rfl
theorem ref12_Birth_eq (l : List GFact) (hn : l.length ≤ 1000000) : ref12_Birth l = some (firstL l 11) := by
  show ref12_Birth_p0 l = _
  unfold ref12_Birth_p0
  rw [ref12_least_eq l 11 hn]; rfl
theorem ref12_Death_eq (l : List GFact) (hn : l.length ≤ 1000000) : ref12_Death l = some (firstL l 12) := by
  show ref12_Death_p0 l = _
  unfold ref12_Death_p0
  rw [ref12_least_eq l 12 hn]; rfl
theorem career_Life_eq (l : List GFact) (hn : l.length ≤ 1000000) : career_Life l = some (lifeL l) := by
  show career_Life_p1 l = _
  unfold career_Life_p1 career_Life_p0 lifeL
  rw [career_Birth_eq l hn, Option.bind_some, career_Death_eq l hn, Option.bind_some]
  cases (firstL l 12).2 with
  | false =>
    simp only [Bool.not_false, cond_true]
    by_cases h : 73048 < (firstL l 11).1
    · simp [h]
    · simp [h]
  | true =>
    simp only [Bool.not_true, cond_false, if_true]
    by_cases h : (firstL l 12).1 < (firstL l 11).1
    · simp [h]
    · simp [h]
theorem ref12_Life_eq (l : List GFact) (hn : l.length ≤ 1000000) : ref12_Life l = some (lifeL l) := by
  show ref12_Life_p1 l = _
  unfold ref12_Life_p1 ref12_Life_p0 lifeL
  rw [ref12_Birth_eq l hn, Option.bind_some, ref12_Death_eq l hn, Option.bind_some]
  cases (firstL l 12).2 with
  | false =>
    simp only [Bool.not_false, cond_true]
    by_cases h : 73048 < (firstL l 11).1
    · simp [h]
    · simp [h]
  | true =>
    simp only [Bool.not_true, cond_false, if_true]
    by_cases h : (firstL l 12).1 < (firstL l 11).1
    · simp [h]
    · simp [h]
theorem law_CareerLife (l : List GHand) (near : Int) : law13_CareerLife l near = some true := by
  obtain ⟨a, ha, na⟩ := law13_facts_some l near
  show law13_CareerLife_p0 l near = _
  unfold law13_CareerLife_p0
  rw [ha, Option.bind_some, career_Birth_eq a (by omega), Option.bind_some, ref12_Birth_eq a (by omega), Option.bind_some, career_Death_eq a (by omega), Option.bind_some, ref12_Death_eq a (by omega), Option.bind_some, law13_awake_eq, Option.bind_some,
    career_Life_eq a (by omega), ref12_Life_eq a (by omega), gd_pos (by intro _; rfl), gd_pos (by intro _; rfl)]
  simp

/-! ### Careers -/
def careerB (l : List GFact) : Bool := l.all fun f => ofB (l.getD 0 zGFact).Person f
theorem filter_len_all {T : Type} (p : T → Bool) : ∀ l : List T, (((l.filter p).length : Nat) == l.length) = l.all p
  | [] => rfl
  | x :: l => by
    rw [List.filter_cons, List.all_cons, ← filter_len_all p l]
    have := List.length_filter_le p l
    cases hp : p x with
    | true => simp
    | false =>
      simp only [Bool.false_and, Bool.false_eq_true, if_false, List.length_cons]
      simp; omega
theorem career_Valid_eq (l : List GFact) (hn : l.length ≤ 1000000) : career_Valid l = some (mergedB none l && decide (l.length ≤ 40) && careerB l) := by
  show career_Valid_p1 l = _
  unfold career_Valid_p1
  rw [career_Merged_eq l hn, Option.bind_some]
  cases mergedB none l with
  | false => rfl
  | true =>
    rw [cond_true]
    by_cases h40 : l.length ≤ 40
    · have e : decide (((l.length : Nat) : Int) ≤ 40) = true := decide_eq_true (by omega)
      rw [e, cond_true, decide_eq_true h40]
      cases l with
      | nil => rfl
      | cons x l =>
        have e0 : ((((x :: l).length : Nat) : Int) == 0) = false := by simp; omega
        have hidx : (0 : Int) ≤ (0 : Int) ∧ (0 : Int) < (((x :: l).length : Nat) : Int) := by simp
        rw [e0, cond_false, gd_pos hidx, career_Of_eq _ _ hn, Option.bind_some]
        show some _ = _
        congr 1
        unfold careerB
        rw [Bool.true_and, Bool.true_and]
        have := filter_len_all (ofB ((x :: l).getD 0 zGFact).Person) (x :: l)
        rw [← this]
        rw [Bool.eq_iff_iff, beq_iff_eq, beq_iff_eq]
        omega
    · have e : decide (((l.length : Nat) : Int) ≤ 40) = false := decide_eq_false (by omega)
      rw [e, cond_false, decide_eq_false h40]
      rfl
theorem ref12_Career_eq (l : List GFact) (hn : l.length ≤ 1000000) : ref12_Career l = some (mergedB none l && decide (l.length ≤ 40) && careerB l) := by
  show (fixL (ref12_Career_l1 l) (1 : Int)).bind (ref12_Career_p2_g l) = _
  have fin : ref12_Career_p1 l = some (mergedB none l && decide (l.length ≤ 40)) := by
    unfold ref12_Career_p1
    rw [ref12_Merged_eq l hn, gd_pos (by intro _; rfl)]
    by_cases h40 : l.length ≤ 40
    · have e : decide (((l.length : Nat) : Int) ≤ 40) = true := decide_eq_true (by omega)
      rw [e, decide_eq_true h40]
      simp
    · have e : decide (((l.length : Nat) : Int) ≤ 40) = false := decide_eq_false (by omega)
      rw [e, decide_eq_false h40]
      simp
  have hend : ref12_Career_p0 l (l.length : Int) = some (.inr (.inr ())) := by
    unfold ref12_Career_p0
    rw [not_lt_len]
    rfl
  have key : ∀ (n i : Nat), 1 ≤ i → l.length = i + n → (fixL (ref12_Career_l1 l) (i : Int)).bind (ref12_Career_p2_g l) = some (mergedB none l && decide (l.length ≤ 40) && (l.drop i).all fun f => ofB (l.getD 0 zGFact).Person f) := by
    intro n
    induction n with
    | zero =>
      intro i _ h
      have : i = l.length := by omega
      subst this
      rw [fixL_eq]
      show ((ref12_Career_p0 l (l.length : Int)).bind _).bind _ = _
      rw [hend, List.drop_length]
      show ref12_Career_p1 l = _
      rw [fin]
      simp
    | succ n ih =>
      intro i h1 h
      have hi : i < l.length := by omega
      have step : ref12_Career_p0 l (i : Int) = some (bif ofB (l.getD 0 zGFact).Person l[i] then .inl ((i + 1 : Nat) : Int) else .inr (.inl ())) := by
        unfold ref12_Career_p0
        rw [lt_len hi, cond_true, gd_pos (idx_ok hi), gd_pos (by omega), getD_nat l _ i hi, w64_succ (by omega)]
        unfold ofB
        rw [show (l[i].Person != (l.getD 0 zGFact).Person) = !(l[i].Person == (l.getD 0 zGFact).Person) from rfl]
        cases (l[i].Person == (l.getD 0 zGFact).Person) <;> rfl
      rw [fixL_eq]
      show ((ref12_Career_p0 l (i : Int)).bind _).bind _ = _
      rw [step, List.drop_eq_getElem_cons hi, List.all_cons]
      cases ofB (l.getD 0 zGFact).Person l[i] with
      | false => rw [Bool.false_and, Bool.and_false]; rfl
      | true =>
        rw [cond_true, Bool.true_and, Option.bind_some]
        exact ih (i + 1) (by omega) (by omega)
  cases l with
  | nil =>
    rw [fixL_eq]
    show ((ref12_Career_p0 [] 1).bind _).bind _ = _
    show ref12_Career_p1 [] = _
    rw [fin]
    rfl
  | cons x l =>
    rw [show (1 : Int) = ((1 : Nat) : Int) from rfl, key l.length 1 (by omega) (by simp; omega)]
    congr 2
    unfold careerB
    rw [List.all_cons]
    show _ = ((x.Person == x.Person) && _)
    rw [show (x.Person == x.Person) = true by simp, Bool.true_and]
    rfl
end Go.Ax
