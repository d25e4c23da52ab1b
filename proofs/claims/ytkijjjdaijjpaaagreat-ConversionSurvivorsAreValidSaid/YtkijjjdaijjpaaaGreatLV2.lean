import Derived.Test.YtkijjjdaijjpaaaGreatLV1
set_option linter.all false
/- Careers, drawn facts, spans of days. -/
set_option maxRecDepth 100000
namespace Go.Ax
theorem foldl_filter (p : GFact → Bool) : ∀ (l out : List GFact), l.foldl (fun out f => if p f = true then out ++ [f] else out) out = out ++ l.filter p
  | [], out => by simp
  | f :: l, out => by
    rw [List.foldl_cons, foldl_filter p l, List.filter_cons]
    by_cases h : p f = true
    · rw [if_pos h, if_pos h]; simp
    · rw [if_neg h, if_neg h]
theorem filter_loop {F : List GFact × Int → Option ((List GFact × Int) ⊕ List GFact)} (l : List GFact) (p : GFact → Bool) (hn : l.length ≤ 1000000)
    (hs : ∀ i (hi : i < l.length) (out : List GFact), out.length ≤ i → F (out, (i : Int)) = some (.inl (if p l[i] = true then out ++ [l[i]] else out, ((i + 1 : Nat) : Int))))
    (he : ∀ out, F (out, (l.length : Int)) = some (.inr out)) : fixL F ([], (0 : Int)) = some (l.filter p) := by
  have := fixL_list0 (f := F) l (fun i out => (out, (i : Int))) (fun i out => out.length ≤ i) (fun f out => .inl (if p f = true then out ++ [f] else out)) id [] (by simp) (fun i hi out h => hs i hi out h)
    (fun i hi out out' h e => by
      cases e
      split
      · simp; omega
      · omega)
    (fun out _ => he out)
  rw [runE_fold, foldl_filter] at this
  simpa using this

def ofB (person : Int) (f : GFact) : Bool := f.Person == person
theorem career_Of_eq (l : List GFact) (person : Int) (hn : l.length ≤ 1000000) : career_Of l person = some (l.filter (ofB person)) := by
  show (career_filter_Of_1 l person).bind _ = _
  have : career_filter_Of_1 l person = some (l.filter (ofB person)) := by
    show (fixL (career_filter_Of_1_l1 person l) ([], (0 : Int))).bind _ = _
    rw [filter_loop l (ofB person) hn (fun i hi out ho => ?_) (fun out => ?_)]
    · rfl
    · show career_filter_Of_1_p0 person out l (i : Int) = _
      unfold career_filter_Of_1_p0
      rw [lt_len hi, cond_true, gd_pos (idx_ok hi), getD_nat l _ i hi]
      show (bif l[i].Person == person then _ else _) = _
      rw [gd_pos (capF (by omega)), w64_succ (by omega)]
      unfold ofB
      cases (l[i].Person == person) <;> rfl
    · show career_filter_Of_1_p0 person out l (l.length : Int) = _
      unfold career_filter_Of_1_p0
      rw [not_lt_len]
      rfl
  rw [this]
  rfl
def curB (f : GFact) : Bool := validB f && !f.Withdrawn
theorem career_current_eq (f : GFact) : career_current f = some (curB f) := by
  show career_current_p0 f = _
  unfold career_current_p0
  rw [fact_Valid_eq, Option.bind_some]
  unfold curB
  cases validB f <;> rfl
theorem career_Current_eq (l : List GFact) (hn : l.length ≤ 1000000) : career_Current l = some (l.filter curB) := by
  show (career_filter_current l).bind _ = _
  have : career_filter_current l = some (l.filter curB) := by
    show (fixL (career_filter_current_l1 l) ([], (0 : Int))).bind _ = _
    rw [filter_loop l curB hn (fun i hi out ho => ?_) (fun out => ?_)]
    · rfl
    · show career_filter_current_p0 out l (i : Int) = _
      unfold career_filter_current_p0
      rw [lt_len hi, cond_true, gd_pos (idx_ok hi), getD_nat l _ i hi, career_current_eq, Option.bind_some, gd_pos (capF (by omega)), w64_succ (by omega)]
      cases curB l[i] <;> rfl
    · show career_filter_current_p0 out l (l.length : Int) = _
      unfold career_filter_current_p0
      rw [not_lt_len]
      rfl
  rw [this]
  rfl
/-! ### The first day of a kind -/
def minG (kind : Int) (f : GFact) (a : Int × Bool) : Int × Bool := if (f.Kind == kind && (!a.2 || decide (f.Span.From < a.1))) = true then (f.Span.From, true) else a
def firstL (l : List GFact) (kind : Int) : Int × Bool := (l.filter curB).foldl (fun a f => minG kind f a) (0, false)
theorem foldl_filter2 {A : Type} (p : GFact → Bool) (g : A → GFact → A) : ∀ (l : List GFact) (a : A), (l.filter p).foldl g a = l.foldl (fun a f => if p f = true then g a f else a) a
  | [], _ => rfl
  | f :: l, a => by
    rw [List.filter_cons, List.foldl_cons]
    by_cases h : p f = true
    · rw [if_pos h, if_pos h, List.foldl_cons, foldl_filter2 p g l]
    · rw [if_neg h, if_neg h, foldl_filter2 p g l]
theorem career_first_eq (l : List GFact) (kind : Int) (hn : l.length ≤ 1000000) : career_first l kind = some (firstL l kind) := by
  show (fixL (career_first_l1 kind l) ((0 : Int), false, (0 : Int))).bind _ = _
  have := fixL_list0 (f := career_first_l1 kind l) l (fun i (a : Int × Bool) => (a.1, a.2, (i : Int))) (fun _ _ => True) (fun f a => .inl (if curB f = true then minG kind f a else a)) id (0, false) trivial (fun i hi a _ => ?_) (fun _ _ _ _ _ _ => trivial) (fun a _ => ?_)
  · rw [runE_fold] at this
    rw [show ((0 : Int), false, (0 : Int)) = (((0 : Int), false).1, ((0 : Int), false).2, ((0 : Nat) : Int)) from rfl, this, Option.bind_some]
    unfold firstL
    rw [foldl_filter2]
    rfl
  · show career_first_p0 kind a.1 a.2 l (i : Int) = _
    unfold career_first_p0
    rw [lt_len hi, cond_true, gd_pos (idx_ok hi), getD_nat l _ i hi, career_current_eq, Option.bind_some, w64_succ (by omega)]
    unfold minG
    cases curB l[i] with
    | false => rfl
    | true =>
      simp only [cond_true, if_true, cond_and, cond_or]
      cases (l[i].Kind == kind && (!a.2 || decide (l[i].Span.From < a.1))) <;> rfl
  · show career_first_p0 kind a.1 a.2 l (l.length : Int) = _
    unfold career_first_p0
    rw [not_lt_len]
    rfl
def lifeL (l : List GFact) : GSpan :=
  let d := if (firstL l 12).2 then (firstL l 12).1 else 73048
  if d < (firstL l 11).1 then ⟨0, 0⟩ else ⟨(firstL l 11).1, w64 (d + 1)⟩
theorem career_Death_eq (l : List GFact) (hn : l.length ≤ 1000000) : career_Death l = some (firstL l 12) := by
  show career_Death_p0 l = _
  unfold career_Death_p0
  rw [career_first_eq l 12 hn]; rfl
section
open Go.Proofs

/-- One of drawn numbers. -/
def pickL (n : List Int) (i : Int) : Int := if n.length = 0 then 0 else n.getD (i % (n.length : Int)).toNat 0
theorem hand_Pick_eq (n : List Int) (i : Int) (hn : n.length ≤ 9223372036854775807) : hand_Pick n i = some (pickL n i) := by
  show hand_Pick_p0 n i = _
  unfold hand_Pick_p0 pickL
  by_cases h : n.length = 0
  · have : (((n.length : Nat) : Int) == (0 : Int)) = true := by rw [h]; rfl
    rw [this, cond_true, if_pos h]
  · have : (((n.length : Nat) : Int) == (0 : Int)) = false := by
      rw [beq_eq_false_iff_ne]; omega
    have h1 := Int.emod_nonneg i (show ((n.length : Nat) : Int) ≠ 0 by omega)
    have h2 := Int.emod_lt_of_pos i (show (0 : Int) < ((n.length : Nat) : Int) by omega)
    rw [this, cond_false, if_neg h, plain_Mod_eq _ _ (by omega) (by omega), Option.bind_some, gd_pos ⟨h1, h2⟩]
theorem lives_step (n : List Int) (hn : n.length ≤ 9223372036854775807) (out : List GFact) (p : Int) (hp : 0 ≤ p ∧ p ≤ 2) (ho : out.length ≤ 100) : ∃ x : List GFact, x.length = 6 ∧ (∀ f ∈ x, f.Kind ≠ 12) ∧ hand_Lives_p1 n out p = some (.inl (out ++ x, p + 1)) := by
  unfold hand_Lives_p1 hand_Lives_p0
  simp only [hand_Pick_eq n _ hn, Option.bind_some, plain_Mod_eq _ 3 (by omega) (by omega), plain_Mod_eq _ 6000 (by omega) (by omega), plain_Mod_eq _ 3000 (by omega) (by omega), plain_Mod_eq _ 900000 (by omega) (by omega)]
  rw [gd_pos (capF (by omega)), gd_pos (capF (by omega)), gd_pos (capF (by omega)), gd_pos (capF (by omega)), gd_pos (capF (by omega)), gd_pos (capF (by omega)), w64_in (n := p + 1) (by omega) (by omega)]
  simp only [List.append_assoc]
  refine ⟨_, rfl, ?_, rfl⟩
  intro f hf
  simp only [List.cons_append, List.nil_append, List.mem_cons, List.not_mem_nil, or_false] at hf
  rcases hf with rfl | rfl | rfl | rfl | rfl | rfl <;> exact ne_of_beq_false rfl
theorem hand_Lives_some (n : List Int) (hn : n.length ≤ 9223372036854775807) : ∃ x, hand_Lives n = some x ∧ x.length = 15 ∧ ∀ f ∈ x, f.Kind = 12 → 30000 ≤ f.Span.From := by
  obtain ⟨a, ha, ha', h1⟩ := lives_step n hn [] 1 (by omega) (by simp)
  obtain ⟨b, hb, hb', h2⟩ := lives_step n hn ([] ++ a) (1 + 1) (by omega) (by simp [ha])
  have hl : fixL (hand_Lives_l1 n) (([] : List GFact), (1 : Int)) = some (([] ++ a) ++ b) := by
    rw [fixL_eq]
    have e1 : hand_Lives_l1 n (([] : List GFact), (1 : Int)) = some (.inl ([] ++ a, 1 + 1)) := h1
    rw [e1, Option.bind_some]
    show fixL (hand_Lives_l1 n) ([] ++ a, (1 + 1 : Int)) = _
    rw [fixL_eq]
    have e2 : hand_Lives_l1 n ([] ++ a, (1 + 1 : Int)) = some (.inl (([] ++ a) ++ b, 1 + 1 + 1)) := h2
    rw [e2, Option.bind_some]
    show fixL (hand_Lives_l1 n) (([] ++ a) ++ b, (1 + 1 + 1 : Int)) = _
    rw [fixL_eq]
    have e3 : hand_Lives_l1 n (([] ++ a) ++ b, (1 + 1 + 1 : Int)) = some (.inr (([] ++ a) ++ b)) := rfl
    rw [e3, Option.bind_some]
  have hlen : (([] ++ a) ++ b).length = 12 := by simp [ha, hb]
  have e : hand_Lives n = hand_Lives_p3 n (([] ++ a) ++ b) := by
    show (fixL (hand_Lives_l1 n) (([] : List GFact), (1 : Int))).bind (hand_Lives_p4_g n) = _
    rw [hl, Option.bind_some]
    rfl
  have hk : ∀ f ∈ ([] ++ a) ++ b, f.Kind ≠ 12 := by
    intro f hf
    rcases List.mem_append.1 hf with hf | hf
    · exact ha' f (by simpa using hf)
    · exact hb' f hf
  rw [e]
  generalize ([] ++ a) ++ b = out at hlen hk
  unfold hand_Lives_p3
  simp only [hand_Pick_eq n _ hn, Option.bind_some, plain_Mod_eq _ 2000 (by omega) (by omega), plain_Mod_eq _ 900 (by omega) (by omega), plain_Mod_eq _ 1200 (by omega) (by omega), plain_Mod_eq _ 300 (by omega) (by omega)]
  rw [gd_pos (capF (by omega)), gd_pos (capF (by omega)), gd_pos (capF (by omega))]
  refine ⟨_, rfl, by simp [hlen], fun f hf h12 => ?_⟩
  simp only [List.mem_append, List.mem_singleton] at hf
  rcases hf with ((hf | rfl) | rfl) | rfl
  · exact (hk f hf h12).elim
  · exact ((by decide : (13 : Int) ≠ 12) h12).elim
  · have := Int.emod_nonneg (pickL n 17) (show (900 : Int) ≠ 0 by omega)
    have h2 := Int.emod_lt_of_pos (pickL n 17) (show (0 : Int) < 900 by omega)
    show 30000 ≤ w64 (35600 + pickL n 17 % 900)
    rw [w64_in (by omega) (by omega)]
    omega
  · exact ((by decide : (8 : Int) ≠ 12) h12).elim
theorem hand_Facts_some (l : List GHand) : ∃ x, hand_Facts l = some x ∧ x.length ≤ 12 ∧ ∀ f ∈ x, ∃ r, f = makeL r := by
  have key : ∀ (k i : Nat) (out : List GFact), min l.length 12 = i + k → out.length = i → (∀ f ∈ out, ∃ r, f = makeL r) → ∃ a, fixL (hand_Facts_l1 l) (out, (i : Int)) = some a ∧ a.length ≤ 12 ∧ ∀ f ∈ a, ∃ r, f = makeL r := by
    intro k
    induction k with
    | zero =>
      intro i out h ho hm
      refine ⟨out, ?_, by omega, hm⟩
      rw [fixL_eq]
      show (hand_Facts_p0 l out (i : Int)).bind _ = _
      unfold hand_Facts_p0
      have : (bif decide ((i : Int) < ((l.length : Nat) : Int)) then decide ((i : Int) < (12 : Int)) else false) = false := by
        rw [cond_and, Bool.and_eq_false_iff]
        by_cases hc : l.length ≤ i
        · left; simp; omega
        · right; simp; omega
      rw [this]
      rfl
    | succ k ih =>
      intro i out h ho hm
      have hi : i < l.length := by omega
      have h12 : decide ((i : Int) < (12 : Int)) = true := by simp; omega
      obtain ⟨f, hf, hr⟩ : ∃ f, hand_Facts_p0 l out (i : Int) = some (.inl (out ++ [f], ((i + 1 : Nat) : Int))) ∧ ∃ r, f = makeL r := by
        unfold hand_Facts_p0
        rw [lt_len hi, cond_true, h12, cond_true, gd_pos (idx_ok hi), hand_Make_eq, Option.bind_some, gd_pos (capF (n := out.length + 1) (by omega)), w64_succ (by omega)]
        exact ⟨_, rfl, _, rfl⟩
      rw [fixL_eq]
      show ∃ a, (hand_Facts_p0 l out (i : Int)).bind _ = some a ∧ _
      rw [hf, Option.bind_some]
      exact ih (i + 1) _ (by omega) (by simp [ho]) (fun g hg => by
        rcases List.mem_append.1 hg with hg | hg
        · exact hm g hg
        · rw [List.mem_singleton.1 hg]; exact hr)
  obtain ⟨a, h1, h2, h3⟩ := key (min l.length 12) 0 [] (by omega) rfl (fun f hf => by simp at hf)
  rw [show ((0 : Nat) : Int) = 0 from rfl] at h1
  refine ⟨a, ?_, h2, h3⟩
  show (fixL (hand_Facts_l1 l) (([] : List GFact), (0 : Int))).bind _ = _
  rw [h1]
  rfl
end
section
open Go.Proofs

/-- A day of a list of spans. -/
def Cov (l : List GSpan) (d : Int) : Prop := ∃ s ∈ l, s.From ≤ d ∧ d < s.To
/-- A normal list behind a day. -/
def NormL (lo : Int) : List GSpan → Prop
  | [] => True
  | s :: r => lo < s.From ∧ s.From < s.To ∧ s.To ≤ 73049 ∧ NormL s.To r
def endT (lo : Int) : List GSpan → Int
  | [] => lo
  | s :: r => endT s.To r

theorem cov_cons {s : GSpan} {r : List GSpan} {d : Int} : Cov (s :: r) d ↔ (s.From ≤ d ∧ d < s.To) ∨ Cov r d := by simp [Cov]
theorem cov_nil {d : Int} : ¬ Cov [] d := by simp [Cov]
theorem cov_app {a b : List GSpan} {d : Int} : Cov (a ++ b) d ↔ Cov a d ∨ Cov b d := by
  unfold Cov
  constructor
  · rintro ⟨s, hs, h⟩
    rcases List.mem_append.1 hs with hs | hs
    · exact .inl ⟨s, hs, h⟩
    · exact .inr ⟨s, hs, h⟩
  · rintro (⟨s, hs, h⟩ | ⟨s, hs, h⟩)
    · exact ⟨s, List.mem_append.2 (.inl hs), h⟩
    · exact ⟨s, List.mem_append.2 (.inr hs), h⟩
theorem norm_mono {lo lo' : Int} (h : lo' ≤ lo) : ∀ {l : List GSpan}, NormL lo l → NormL lo' l
  | [], _ => trivial
  | s :: r, ⟨h1, h2⟩ => ⟨by omega, h2⟩
theorem norm_low : ∀ {l : List GSpan} {lo d : Int}, NormL lo l → Cov l d → lo < d ∧ d < 73049
  | [], _, _, _, hc => (cov_nil hc).elim
  | s :: r, lo, d, ⟨h1, h2, h3, h4⟩, hc => by
    rcases cov_cons.1 hc with h | h
    · omega
    · have := norm_low h4 h
      omega
theorem norm_uniq : ∀ {a b : List GSpan} {lo : Int}, NormL lo a → NormL lo b → (∀ d, Cov a d ↔ Cov b d) → a = b
  | [], [], _, _, _, _ => rfl
  | [], t :: u, _, _, hb, h => (cov_nil ((h t.From).2 (cov_cons.2 (.inl ⟨Int.le_refl _, hb.2.1⟩)))).elim
  | s :: r, [], _, ha, _, h => (cov_nil ((h s.From).1 (cov_cons.2 (.inl ⟨Int.le_refl _, ha.2.1⟩)))).elim
  | s :: r, t :: u, lo, ⟨a1, a2, a3, a4⟩, ⟨b1, b2, b3, b4⟩, h => by
    have hs := (h s.From).1 (cov_cons.2 (.inl ⟨Int.le_refl _, a2⟩))
    have ht := (h t.From).2 (cov_cons.2 (.inl ⟨Int.le_refl _, b2⟩))
    have e1 : s.From = t.From := by
      rcases cov_cons.1 hs with hs | hs
      · rcases cov_cons.1 ht with ht | ht
        · omega
        · have := norm_low a4 ht; omega
      · have := norm_low b4 hs
        rcases cov_cons.1 ht with ht | ht
        · omega
        · have := norm_low a4 ht; omega
    have e2 : s.To = t.To := by
      rcases Int.lt_trichotomy s.To t.To with hlt | he | hlt
      · have := (h s.To).2 (cov_cons.2 (.inl ⟨by omega, hlt⟩))
        rcases cov_cons.1 this with hc | hc
        · omega
        · have := norm_low a4 hc; omega
      · exact he
      · have := (h t.To).1 (cov_cons.2 (.inl ⟨by omega, hlt⟩))
        rcases cov_cons.1 this with hc | hc
        · omega
        · have := norm_low b4 hc; omega
    have e3 : s = t := by
      cases s; cases t
      simp only at e1 e2
      rw [e1, e2]
    subst e3
    rw [norm_uniq a4 b4 fun d => ?_]
    constructor
    · intro hc
      have h1 := norm_low a4 hc
      rcases cov_cons.1 ((h d).1 (cov_cons.2 (.inr hc))) with h2 | h2
      · omega
      · exact h2
    · intro hc
      have h1 := norm_low b4 hc
      rcases cov_cons.1 ((h d).2 (cov_cons.2 (.inr hc))) with h2 | h2
      · omega
      · exact h2
theorem endT_snoc (lo : Int) : ∀ (l : List GSpan) (s : GSpan), endT lo (l ++ [s]) = s.To
  | [], s => rfl
  | t :: r, s => endT_snoc t.To r s
theorem norm_snoc : ∀ {l : List GSpan} {s : GSpan} {lo : Int}, NormL lo (l ++ [s]) ↔ NormL lo l ∧ endT lo l < s.From ∧ s.From < s.To ∧ s.To ≤ 73049
  | [], s, lo => by simp [NormL, endT]
  | t :: r, s, lo => by
    rw [List.cons_append]
    unfold NormL endT
    rw [norm_snoc]
    constructor
    · rintro ⟨h1, h2, h3, h4, h5⟩; exact ⟨⟨h1, h2, h3, h4⟩, h5⟩
    · rintro ⟨⟨h1, h2, h3, h4⟩, h5⟩; exact ⟨h1, h2, h3, h4, h5⟩
theorem endT_ge : ∀ {l : List GSpan} {lo : Int}, NormL lo l → lo ≤ endT lo l ∧ (lo ≤ 73049 → endT lo l ≤ 73049)
  | [], lo, _ => ⟨Int.le_refl _, id⟩
  | s :: r, lo, ⟨h1, h2, h3, h4⟩ => by
    have := endT_ge h4
    unfold endT
    exact ⟨by omega, fun _ => this.2 h3⟩
theorem norm_high : ∀ {l : List GSpan} {lo d : Int}, NormL lo l → Cov l d → d < endT lo l
  | [], _, _, _, hc => (cov_nil hc).elim
  | s :: r, lo, d, ⟨h1, h2, h3, h4⟩, hc => by
    unfold endT
    rcases cov_cons.1 hc with h | h
    · have := (endT_ge h4).1; omega
    · exact norm_high h4 h
theorem snoc_cases {T : Type} (l : List T) : l = [] ∨ ∃ p x, l = p ++ [x] := by
  rcases List.eq_nil_or_concat l with h | ⟨p, x, h⟩
  · exact .inl h
  · exact .inr ⟨p, x, by rw [h]; simp⟩

/-- A span behind a list that is sorted. -/
noncomputable def joinS (out : List GSpan) (s : GSpan) : List GSpan := match out.getLast? with
  | none => [s]
  | some x => if s.From ≤ x.To then out.dropLast ++ [⟨x.From, if x.To < s.To then s.To else x.To⟩] else out ++ [s]
theorem joinS_nil (s : GSpan) : joinS [] s = [s] := rfl
theorem joinS_snoc (p : List GSpan) (x s : GSpan) : joinS (p ++ [x]) s = if s.From ≤ x.To then p ++ [⟨x.From, if x.To < s.To then s.To else x.To⟩] else (p ++ [x]) ++ [s] := by
  unfold joinS
  rw [List.getLast?_concat]
  simp
theorem join_step {out : List GSpan} {s : GSpan} (hn : NormL (-1) out) (hb : ∀ x ∈ out, x.From ≤ s.From) (h1 : 0 ≤ s.From) (h2 : s.From < s.To) (h3 : s.To ≤ 73049) :
    NormL (-1) (joinS out s) ∧ (∀ d, Cov (joinS out s) d ↔ Cov out d ∨ (s.From ≤ d ∧ d < s.To)) ∧ (∀ x ∈ joinS out s, x.From ≤ s.From) ∧ (joinS out s).length ≤ out.length + 1 := by
  rcases snoc_cases out with rfl | ⟨p, x, rfl⟩
  · rw [joinS_nil]
    refine ⟨⟨by omega, h2, h3, trivial⟩, fun d => ?_, fun x hx => ?_, by simp⟩
    · rw [cov_cons]; simp [cov_nil]
    · rw [List.mem_singleton.1 hx]; exact Int.le_refl _
  · obtain ⟨n1, n2, n3, n4⟩ := norm_snoc.1 hn
    have hx := hb x (by simp)
    rw [joinS_snoc]
    by_cases hc : s.From ≤ x.To
    · rw [if_pos hc]
      have hm : x.To ≤ (if x.To < s.To then s.To else x.To) ∧ s.To ≤ (if x.To < s.To then s.To else x.To) ∧ ((if x.To < s.To then s.To else x.To) = x.To ∨ (if x.To < s.To then s.To else x.To) = s.To) := by
        split <;> omega
      generalize (if x.To < s.To then s.To else x.To) = m at hm
      refine ⟨norm_snoc.2 ⟨n1, n2, by show x.From < m; omega, by show m ≤ 73049; omega⟩, fun d => ?_, fun y hy => ?_, by simp⟩
      · rw [cov_app, cov_app, cov_cons, cov_cons]
        simp only [cov_nil, or_false]
        constructor
        · rintro (h | ⟨h4, h5⟩)
          · exact .inl (.inl h)
          · by_cases hd : d < x.To
            · exact .inl (.inr ⟨h4, hd⟩)
            · exact .inr ⟨by omega, by omega⟩
        · rintro ((h | ⟨h4, h5⟩) | ⟨h4, h5⟩)
          · exact .inl h
          · exact .inr ⟨h4, by omega⟩
          · exact .inr ⟨by omega, by omega⟩
      · rcases List.mem_append.1 hy with hy | hy
        · exact hb y (by simp [hy])
        · rw [List.mem_singleton.1 hy]; exact hx
    · rw [if_neg hc]
      refine ⟨norm_snoc.2 ⟨hn, by rw [endT_snoc]; omega, h2, h3⟩, fun d => ?_, fun y hy => ?_, by simp⟩
      · rw [cov_app (b := [s]), cov_cons]; simp [cov_nil]
      · rcases List.mem_append.1 hy with hy | hy
        · exact hb y hy
        · rw [List.mem_singleton.1 hy]; exact Int.le_refl _
theorem join_fold : ∀ (l out : List GSpan), NormL (-1) out → (∀ x ∈ out, ∀ s ∈ l, x.From ≤ s.From) → l.Pairwise (fun a b => a.From ≤ b.From) → (∀ s ∈ l, 0 ≤ s.From ∧ s.From < s.To ∧ s.To ≤ 73049) →
    NormL (-1) (l.foldl joinS out) ∧ (∀ d, Cov (l.foldl joinS out) d ↔ Cov out d ∨ Cov l d) ∧ (l.foldl joinS out).length ≤ out.length + l.length
  | [], out, hn, _, _, _ => ⟨hn, fun d => by simp [cov_nil], by simp⟩
  | s :: l, out, hn, hb, hp, ho => by
    obtain ⟨o1, o2, o3⟩ := ho s (by simp)
    obtain ⟨j1, j2, j3, j4⟩ := join_step hn (fun x hx => hb x hx s (by simp)) o1 o2 o3
    obtain ⟨p1, p2⟩ := List.pairwise_cons.1 hp
    obtain ⟨f1, f2, f3⟩ := join_fold l (joinS out s) j1 (fun x hx t ht => by have := j3 x hx; have := p1 t ht; omega) p2 (fun t ht => ho t (by simp [ht]))
    rw [List.foldl_cons]
    refine ⟨f1, fun d => ?_, by rw [List.length_cons]; omega⟩
    rw [f2, j2, cov_cons, or_assoc]
end
section
open Go.Proofs

def clampS (s : GSpan) : GSpan := GSpan.mk (if s.From < (0 : Int) then (0 : Int) else s.From) (if (73049 : Int) < s.To then (73049 : Int) else s.To)
def keepS (s : GSpan) : Bool := decide (s.From < s.To)
def cutL (l : List GSpan) : List GSpan := (l.map clampS).filter keepS
theorem clamp_day (s : GSpan) (d : Int) : ((clampS s).From ≤ d ∧ d < (clampS s).To) ↔ (s.From ≤ d ∧ d < s.To) ∧ 0 ≤ d ∧ d < 73049 := by
  unfold clampS
  simp only
  split <;> split <;> omega
theorem cutL_cov (l : List GSpan) (d : Int) : Cov (cutL l) d ↔ Cov l d ∧ 0 ≤ d ∧ d < 73049 := by
  unfold Cov cutL
  constructor
  · rintro ⟨s, hs, h⟩
    obtain ⟨h1, _⟩ := List.mem_filter.1 hs
    obtain ⟨t, ht, rfl⟩ := List.mem_map.1 h1
    have := (clamp_day t d).1 h
    exact ⟨⟨t, ht, this.1⟩, this.2⟩
  · rintro ⟨⟨t, ht, h⟩, h2⟩
    have := (clamp_day t d).2 ⟨h, h2⟩
    refine ⟨clampS t, List.mem_filter.2 ⟨List.mem_map.2 ⟨t, ht, rfl⟩, ?_⟩, this⟩
    unfold keepS
    rw [decide_eq_true_iff]; omega
theorem cutL_ok (l : List GSpan) : ∀ s ∈ cutL l, 0 ≤ s.From ∧ s.From < s.To ∧ s.To ≤ 73049 := by
  intro s hs
  obtain ⟨h1, h2⟩ := List.mem_filter.1 hs
  obtain ⟨t, ht, rfl⟩ := List.mem_map.1 h1
  unfold keepS at h2
  rw [decide_eq_true_iff] at h2
  refine ⟨?_, h2, ?_⟩ <;> (unfold clampS; simp only; split <;> omega)
theorem cutL_len (l : List GSpan) : (cutL l).length ≤ l.length := by
  unfold cutL
  have := List.length_filter_le keepS (l.map clampS)
  simpa using this
theorem capS {n : Nat} (h : n ≤ 4000000) : capB n 16 := ⟨by omega, by omega⟩
theorem make_loop1 (l : List GSpan) (hn : l.length ≤ 1000000) : ∀ (n i : Nat) (out : List GSpan), l.length = i + n → out.length ≤ i → fixL (spans_Make_l1 l) ((i : Int), out) = some (out ++ cutL (l.drop i)) := by
  intro n
  induction n with
  | zero =>
    intro i out h ho
    rw [fixL_eq]
    show (spans_Make_p0 l (i : Int) out).bind _ = _
    unfold spans_Make_p0
    have : i = l.length := by omega
    subst this
    rw [not_lt_len, cond_false, List.drop_length]
    simp [cutL]
  | succ n ih =>
    intro i out h ho
    have hi : i < l.length := by omega
    rw [fixL_eq]
    show (spans_Make_p0 l (i : Int) out).bind _ = _
    unfold spans_Make_p0
    rw [lt_len hi, cond_true, gd_pos (idx_ok hi), getD_nat l _ i hi]
    have e1 : spans_clamp l[i] = some (clampS l[i]) := rfl
    rw [e1, Option.bind_some, w64_succ (by omega), List.drop_eq_getElem_cons hi]
    by_cases hk : (clampS l[i]).From < (clampS l[i]).To
    · have hk' : decide ((clampS l[i]).From < (clampS l[i]).To) = true := decide_eq_true hk
      have hc : cutL (l[i] :: l.drop (i + 1)) = clampS l[i] :: cutL (l.drop (i + 1)) := by
        unfold cutL
        rw [List.map_cons, List.filter_cons, if_pos (by unfold keepS; exact hk')]
      rw [hk', cond_true, gd_pos (capS (by omega)), Option.bind_some, hc]
      show fixL (spans_Make_l1 l) (((i + 1 : Nat) : Int), out ++ [clampS l[i]]) = _
      rw [ih (i + 1) _ (by omega) (by simp; omega), List.append_assoc]
      rfl
    · have hk' : decide ((clampS l[i]).From < (clampS l[i]).To) = false := decide_eq_false hk
      have hc : cutL (l[i] :: l.drop (i + 1)) = cutL (l.drop (i + 1)) := by
        unfold cutL
        rw [List.map_cons, List.filter_cons, if_neg (by unfold keepS; rw [hk']; simp)]
      rw [hk', cond_false, Option.bind_some, hc]
      show fixL (spans_Make_l1 l) (((i + 1 : Nat) : Int), out) = _
      rw [ih (i + 1) _ (by omega) (by omega)]
theorem last_ix (p : List GSpan) (x : GSpan) (h : p.length ≤ 1000000) : w64 ((((p ++ [x]).length : Nat) : Int) - 1) = ((p.length : Nat) : Int) := by
  have hl : (p ++ [x]).length = p.length + 1 := by simp
  rw [w64_in (by omega) (by omega)]
  omega
theorem set_last (p : List GSpan) (x y : GSpan) : (p ++ [x]).set p.length y = p ++ [y] := by
  rw [List.set_append_right _ _ (Nat.le_refl _)]
  simp
theorem make_step2 (t out : List GSpan) (i : Nat) (hi : i < t.length) (ho : out.length ≤ 1000000) (hn : t.length ≤ 1000000) :
    spans_Make_p1 out t ((t.length : Nat) : Int) (i : Int) = some (.inl (joinS out t[i], t, ((t.length : Nat) : Int), ((i + 1 : Nat) : Int))) := by
  unfold spans_Make_p1
  rw [lt_len hi, cond_true, gd_pos (idx_ok hi), getD_nat0 t _ i hi, w64_succ (by omega)]
  rcases snoc_cases out with rfl | ⟨p, x, rfl⟩
  · rw [show decide ((0 : Int) < ((([] : List GSpan).length : Nat) : Int)) = false from rfl]
    simp only [Bool.false_and, Bool.false_eq_true, false_implies, gd_true, cond_false]
    rw [gd_pos (capS (by simp)), joinS_nil]
    rfl
  · have hp : p.length ≤ 1000000 := by simp at ho; omega
    have hl : (p ++ [x]).length = p.length + 1 := by simp
    have h0 : decide ((0 : Int) < (((p ++ [x]).length : Nat) : Int)) = true := decide_eq_true (by omega)
    have hlt : ((p.length : Nat) : Int) < (((p ++ [x]).length : Nat) : Int) := by omega
    have hg : (p ++ [x]).getD (0 + Int.toNat ((p.length : Nat) : Int)) zGSpan = x := by
      rw [Nat.zero_add, Int.toNat_natCast]; exact getD_app_right p [] x zGSpan
    have hi0 : (0 : Int) ≤ ((p.length : Nat) : Int) := by omega
    rw [last_ix p x hp, h0, hg, gd_pos (fun _ => hi0), gd_pos (fun _ => hlt), cond_true, joinS_snoc, Nat.zero_add, Int.toNat_natCast, set_last]
    by_cases hc : t[i].From ≤ x.To
    · rw [decide_eq_true hc, cond_true, gd_pos ⟨hi0, hlt⟩, gd_pos ⟨hi0, hlt⟩, if_pos hc]
    · rw [decide_eq_false hc, cond_false, gd_pos (capS (by omega)), if_neg hc]
theorem joinS_len (out : List GSpan) (s : GSpan) : (joinS out s).length ≤ out.length + 1 := by
  rcases snoc_cases out with rfl | ⟨p, x, rfl⟩
  · rw [joinS_nil]; simp
  · rw [joinS_snoc]; split <;> simp
theorem make_loop2 (t : List GSpan) (hn : t.length ≤ 1000000) : ∀ (n i : Nat) (out : List GSpan), t.length = i + n → out.length ≤ i → fixL (spans_Make_l2 t ((t.length : Nat) : Int)) (out, t, ((t.length : Nat) : Int), (i : Int)) = some ((t.drop i).foldl joinS out) := by
  intro n
  induction n with
  | zero =>
    intro i out h ho
    rw [fixL_eq]
    show (spans_Make_p1 out t ((t.length : Nat) : Int) (i : Int)).bind _ = _
    unfold spans_Make_p1
    have : i = t.length := by omega
    subst this
    rw [not_lt_len, cond_false, List.drop_length]
    rfl
  | succ n ih =>
    intro i out h ho
    have hi : i < t.length := by omega
    have := joinS_len out t[i]
    rw [fixL_eq]
    show (spans_Make_p1 out t ((t.length : Nat) : Int) (i : Int)).bind _ = _
    rw [make_step2 t out i hi (by omega) hn, Option.bind_some, List.drop_eq_getElem_cons hi, List.foldl_cons]
    exact ih (i + 1) _ (by omega) (by omega)
noncomputable def makeS (l : List GSpan) : List GSpan := (sortL sort_Slice_lt (cutL l)).foldl joinS []
theorem sort_Slice_sw : Go.Sort.SWO sort_Slice_lt := ⟨fun x => by simp [sort_Slice_lt], fun x y z h1 h2 => by simp [sort_Slice_lt] at *; omega, fun x y z h1 h2 => by simp [sort_Slice_lt] at *; omega⟩
theorem spans_Make_eq (l : List GSpan) (hn : l.length ≤ 1000000) : spans_Make l = some (makeS l) := by
  have h1 := make_loop1 l hn l.length 0 [] (by omega) (by simp)
  have hc := cutL_len l
  have hs := sortL_length sort_Slice_sw (cutL l)
  show (fixL (spans_Make_l1 l) ((0 : Int), ([] : List GSpan))).bind (spans_Make_p5_g l) = _
  rw [show ((0 : Nat) : Int) = 0 from rfl, List.drop_zero, List.nil_append] at h1
  rw [h1, Option.bind_some]
  show (sort_Slice (cutL l)).bind _ = _
  unfold sort_Slice
  rw [gd_pos (by omega), Option.bind_some]
  have h2 := make_loop2 (sortL sort_Slice_lt (cutL l)) (by omega) (sortL sort_Slice_lt (cutL l)).length 0 [] (by omega) (by simp)
  show (fixL (spans_Make_l2 (sortL sort_Slice_lt (cutL l)) (((sortL sort_Slice_lt (cutL l)).length : Nat) : Int)) (([] : List GSpan), sortL sort_Slice_lt (cutL l), (((sortL sort_Slice_lt (cutL l)).length : Nat) : Int), (0 : Int))).bind _ = _
  rw [show ((0 : Nat) : Int) = 0 from rfl, List.drop_zero] at h2
  rw [h2, Option.bind_some]
  rfl
theorem makeS_ok (l : List GSpan) : NormL (-1) (makeS l) ∧ (∀ d, Cov (makeS l) d ↔ Cov l d ∧ 0 ≤ d ∧ d < 73049) ∧ (makeS l).length ≤ l.length := by
  obtain ⟨hp, hs⟩ := sortL_spec sort_Slice_sw (cutL l)
  have hc := cutL_len l
  obtain ⟨f1, f2, f3⟩ := join_fold (sortL sort_Slice_lt (cutL l)) [] trivial (fun x hx => by simp at hx) (hs.imp fun h => by simp [sort_Slice_lt] at h; omega) (fun s h => cutL_ok l s (hp.mem_iff.1 h))
  refine ⟨f1, fun d => ?_, ?_⟩
  · unfold makeS
    rw [f2, ← cutL_cov]
    constructor
    · rintro (h | ⟨s, h, h'⟩)
      · exact (cov_nil h).elim
      · exact ⟨s, hp.mem_iff.1 h, h'⟩
    · rintro ⟨s, h, h'⟩
      exact .inr ⟨s, hp.mem_iff.2 h, h'⟩
  · unfold makeS
    have := hp.length_eq
    simp at f3
    omega
end
section
open Go.Proofs

def meetS (s t : GSpan) : GSpan := GSpan.mk (if s.From < t.From then t.From else s.From) (if t.To < s.To then t.To else s.To)
def oneS (s t : GSpan) : List GSpan := if (meetS s t).From < (meetS s t).To then [meetS s t] else []
noncomputable def interL : List GSpan → List GSpan → List GSpan
  | [], _ => []
  | _ :: _, [] => []
  | s :: r, t :: u => oneS s t ++ (if s.To < t.To then interL r (t :: u) else interL (s :: r) u)
termination_by a b => a.length + b.length
theorem interL_nil (b : List GSpan) : interL [] b = [] := by rw [interL]
theorem interL_nil' (a : List GSpan) : interL a [] = [] := by cases a <;> rw [interL]
theorem interL_cons (s t : GSpan) (r u : List GSpan) : interL (s :: r) (t :: u) = oneS s t ++ (if s.To < t.To then interL r (t :: u) else interL (s :: r) u) := by rw [interL]
theorem one_len (s t : GSpan) : (oneS s t).length ≤ 1 := by unfold oneS; split <;> simp
theorem inter_step (a b out : List GSpan) (i j : Nat) (hi : i < a.length) (hj : j < b.length) (ha : a.length ≤ 1000000) (hb : b.length ≤ 1000000) (ho : out.length ≤ 2000000) :
    spans_Intersect_p0 a b out (i : Int) (j : Int) = some (.inl (if a[i].To < b[j].To then (out ++ oneS a[i] b[j], ((i + 1 : Nat) : Int), (j : Int)) else (out ++ oneS a[i] b[j], (i : Int), ((j + 1 : Nat) : Int)))) := by
  unfold spans_Intersect_p0
  rw [lt_len hi, lt_len hj, cond_true, cond_true, gd_pos (idx_ok hi), gd_pos (idx_ok hj), gd_pos (idx_ok hi), gd_pos (idx_ok hj), getD_nat0 a _ i hi, getD_nat0 b _ j hj, w64_succ (by omega), w64_succ (by omega)]
  generalize a[i] = s
  generalize b[j] = t
  have hm : oneS s t = if (if s.From < t.From then t.From else s.From) < (if t.To < s.To then t.To else s.To) then [GSpan.mk (if s.From < t.From then t.From else s.From) (if t.To < s.To then t.To else s.To)] else [] := rfl
  rw [hm]
  generalize (if s.From < t.From then t.From else s.From) = x
  generalize (if t.To < s.To then t.To else s.To) = y
  by_cases hk : x < y
  · rw [decide_eq_true hk, cond_true, gd_pos (capS (by omega)), gd_pos (idx_ok hi), gd_pos (idx_ok hj), if_pos hk]
    by_cases hc : s.To < t.To
    · rw [decide_eq_true hc, cond_true, if_pos hc]
    · rw [decide_eq_false hc, cond_false, if_neg hc]
  · rw [decide_eq_false hk, cond_false, gd_pos (idx_ok hi), gd_pos (idx_ok hj), if_neg hk, List.append_nil]
    by_cases hc : s.To < t.To
    · rw [decide_eq_true hc, cond_true, if_pos hc]
    · rw [decide_eq_false hc, cond_false, if_neg hc]
theorem inter_loop (a b : List GSpan) (ha : a.length ≤ 1000000) (hb : b.length ≤ 1000000) : ∀ (n i j : Nat) (out : List GSpan), (a.length - i) + (b.length - j) ≤ n → i ≤ a.length → j ≤ b.length → out.length ≤ i + j →
    fixL (spans_Intersect_l1 a b) (out, (i : Int), (j : Int)) = some (out ++ interL (a.drop i) (b.drop j)) := by
  intro n
  induction n with
  | zero =>
    intro i j out h hi hj ho
    have e : i = a.length := by omega
    subst e
    rw [fixL_eq]
    show (spans_Intersect_p0 a b out ((a.length : Nat) : Int) (j : Int)).bind _ = _
    unfold spans_Intersect_p0
    rw [not_lt_len, cond_false, cond_false, List.drop_length, interL_nil, List.append_nil]
    rfl
  | succ n ih =>
    intro i j out h hi hj ho
    rw [fixL_eq]
    show (spans_Intersect_p0 a b out (i : Int) (j : Int)).bind _ = _
    by_cases hi' : i < a.length
    · by_cases hj' : j < b.length
      · have h1 := one_len a[i] b[j]
        rw [inter_step a b out i j hi' hj' ha hb (by omega), Option.bind_some, List.drop_eq_getElem_cons hi', List.drop_eq_getElem_cons hj', interL_cons]
        by_cases hc : a[i].To < b[j].To
        · rw [if_pos hc, if_pos hc]
          show fixL (spans_Intersect_l1 a b) (out ++ oneS a[i] b[j], ((i + 1 : Nat) : Int), (j : Int)) = _
          rw [ih (i + 1) j _ (by omega) (by omega) hj (by rw [List.length_append]; omega), List.append_assoc, ← List.drop_eq_getElem_cons hj']
        · rw [if_neg hc, if_neg hc]
          show fixL (spans_Intersect_l1 a b) (out ++ oneS a[i] b[j], (i : Int), ((j + 1 : Nat) : Int)) = _
          rw [ih i (j + 1) _ (by omega) hi (by omega) (by rw [List.length_append]; omega), List.append_assoc, ← List.drop_eq_getElem_cons hi']
      · have e : j = b.length := by omega
        subst e
        unfold spans_Intersect_p0
        rw [lt_len hi', cond_true, not_lt_len, cond_false, List.drop_length (l := b), interL_nil', List.append_nil]
        rfl
    · have e : i = a.length := by omega
      subst e
      unfold spans_Intersect_p0
      rw [not_lt_len, cond_false, cond_false, List.drop_length, interL_nil, List.append_nil]
      rfl
theorem inter_norm : ∀ (a b : List GSpan) (lo lo' m : Int), NormL lo a → NormL lo' b → m ≤ lo ∨ m ≤ lo' → NormL m (interL a b)
  | [], b, lo, lo', m, _, _, _ => by rw [interL_nil]; trivial
  | _ :: _, [], lo, lo', m, _, _, _ => by rw [interL_nil']; trivial
  | s :: r, t :: u, lo, lo', m, ⟨a1, a2, a3, a4⟩, ⟨b1, b2, b3, b4⟩, hm => by
    have key : (meetS s t).From = max s.From t.From ∧ (meetS s t).To = min s.To t.To := by
      unfold meetS; simp only
      constructor <;> split <;> omega
    rw [interL_cons]
    by_cases hc : s.To < t.To
    · rw [if_pos hc]
      unfold oneS
      by_cases hk : (meetS s t).From < (meetS s t).To
      · rw [if_pos hk]
        exact ⟨by omega, hk, by omega, inter_norm r (t :: u) s.To lo' _ a4 ⟨b1, b2, b3, b4⟩ (.inl (by omega))⟩
      · rw [if_neg hk]
        exact inter_norm r (t :: u) s.To lo' _ a4 ⟨b1, b2, b3, b4⟩ (by omega)
    · rw [if_neg hc]
      unfold oneS
      by_cases hk : (meetS s t).From < (meetS s t).To
      · rw [if_pos hk]
        exact ⟨by omega, hk, by omega, inter_norm (s :: r) u lo t.To _ ⟨a1, a2, a3, a4⟩ b4 (.inr (by omega))⟩
      · rw [if_neg hk]
        exact inter_norm (s :: r) u lo t.To _ ⟨a1, a2, a3, a4⟩ b4 (by omega)
termination_by a b => a.length + b.length
theorem one_cov (s t : GSpan) (d : Int) : Cov (oneS s t) d ↔ (s.From ≤ d ∧ d < s.To) ∧ (t.From ≤ d ∧ d < t.To) := by
  have key : (meetS s t).From = max s.From t.From ∧ (meetS s t).To = min s.To t.To := by
    unfold meetS; simp only
    constructor <;> split <;> omega
  unfold oneS
  split
  · rw [cov_cons]; simp only [cov_nil, or_false]; omega
  · simp only [cov_nil, false_iff]; omega
theorem inter_cov : ∀ (a b : List GSpan) (lo lo' d : Int), NormL lo a → NormL lo' b → (Cov (interL a b) d ↔ Cov a d ∧ Cov b d)
  | [], b, lo, lo', d, _, _ => by rw [interL_nil]; simp [cov_nil]
  | _ :: _, [], lo, lo', d, _, _ => by rw [interL_nil']; simp [cov_nil]
  | s :: r, t :: u, lo, lo', d, ⟨a1, a2, a3, a4⟩, ⟨b1, b2, b3, b4⟩ => by
    rw [interL_cons, cov_app, one_cov]
    by_cases hc : s.To < t.To
    · rw [if_pos hc, inter_cov r (t :: u) s.To lo' d a4 ⟨b1, b2, b3, b4⟩, cov_cons (s := s), cov_cons (s := t)]
      constructor
      · rintro (⟨h1, h2⟩ | ⟨h1, h2⟩)
        · exact ⟨.inl h1, .inl h2⟩
        · exact ⟨.inr h1, h2⟩
      · rintro ⟨h1 | h1, h2⟩
        · rcases h2 with h2 | h2
          · exact .inl ⟨h1, h2⟩
          · have := norm_low b4 h2; omega
        · exact .inr ⟨h1, h2⟩
    · rw [if_neg hc, inter_cov (s :: r) u lo t.To d ⟨a1, a2, a3, a4⟩ b4, cov_cons (s := s), cov_cons (s := t)]
      constructor
      · rintro (⟨h1, h2⟩ | ⟨h1, h2⟩)
        · exact ⟨.inl h1, .inl h2⟩
        · exact ⟨h1, .inr h2⟩
      · rintro ⟨h1, h2 | h2⟩
        · rcases h1 with h1 | h1
          · exact .inl ⟨h1, h2⟩
          · have := norm_low a4 h1; omega
        · exact .inr ⟨h1, h2⟩
termination_by a b => a.length + b.length
noncomputable def clipL (l : List GSpan) (s : GSpan) : List GSpan := interL (makeS l) (makeS [s])
theorem spans_Clip_eq (l : List GSpan) (s : GSpan) (hn : l.length ≤ 1000000) : spans_Clip l s = some (clipL l s) := by
  have h1 := makeS_ok l
  have h2 := makeS_ok [s]
  have h2' : (makeS [s]).length ≤ 1 := h2.2.2
  show (spans_Intersect l [s]).bind _ = _
  have : spans_Intersect l [s] = some (clipL l s) := by
    show (spans_Make l).bind _ = _
    rw [spans_Make_eq l hn, Option.bind_some, spans_Make_eq [s] (by simp), Option.bind_some]
    show (fixL (spans_Intersect_l1 (makeS l) (makeS [s])) (([] : List GSpan), (0 : Int), (0 : Int))).bind _ = _
    have := inter_loop (makeS l) (makeS [s]) (by omega) (by omega) _ 0 0 [] (Nat.le_refl _) (by omega) (by omega) (by simp)
    rw [show ((0 : Nat) : Int) = 0 from rfl, List.drop_zero, List.drop_zero] at this
    rw [this, Option.bind_some]
    rfl
  rw [this]
  rfl
theorem clipL_ok (l : List GSpan) (s : GSpan) : NormL (-1) (clipL l s) ∧ ∀ d, Cov (clipL l s) d ↔ (Cov l d ∧ (s.From ≤ d ∧ d < s.To)) ∧ 0 ≤ d ∧ d < 73049 := by
  obtain ⟨a1, a2, _⟩ := makeS_ok l
  obtain ⟨b1, b2, _⟩ := makeS_ok [s]
  refine ⟨inter_norm _ _ (-1) (-1) (-1) a1 b1 (.inl (Int.le_refl _)), fun d => ?_⟩
  unfold clipL
  rw [inter_cov _ _ (-1) (-1) d a1 b1, a2, b2, cov_cons]
  simp only [cov_nil, or_false]
  constructor
  · rintro ⟨⟨h1, h2⟩, h3, h4⟩; exact ⟨⟨h1, h3⟩, h2⟩
  · rintro ⟨⟨h1, h2⟩, h3⟩; exact ⟨⟨h1, h3⟩, h2, h3⟩
end
section
open Go.Proofs

theorem capI {n : Nat} (h : n ≤ 4000000) : capB n 8 := ⟨by omega, by omega⟩
def Asc1 (l : List Int) : Prop := l.Pairwise (fun a b => a < b)
end
section
open Go.Proofs

/-- A beginning or an end of a list's spans. -/
def EdgeOf (l : List GSpan) (x : Int) : Prop := ∃ s ∈ cutL l, x = s.From ∨ x = s.To
theorem cutL_cons (s : GSpan) (l : List GSpan) : cutL (s :: l) = if (clampS s).From < (clampS s).To then clampS s :: cutL l else cutL l := by
  unfold cutL
  rw [List.map_cons, List.filter_cons]
  unfold keepS
  by_cases h : (clampS s).From < (clampS s).To
  · rw [if_pos (decide_eq_true h), if_pos h]
  · rw [if_neg (by rw [decide_eq_false h]; simp), if_neg h]
theorem edge_cons (s : GSpan) (l : List GSpan) (x : Int) : EdgeOf (s :: l) x ↔ ((clampS s).From < (clampS s).To ∧ (x = (clampS s).From ∨ x = (clampS s).To)) ∨ EdgeOf l x := by
  unfold EdgeOf
  rw [cutL_cons]
  by_cases h : (clampS s).From < (clampS s).To
  · rw [if_pos h]
    constructor
    · rintro ⟨t, ht, hx⟩
      rcases List.mem_cons.1 ht with rfl | ht
      · exact .inl ⟨h, hx⟩
      · exact .inr ⟨t, ht, hx⟩
    · rintro (⟨_, hx⟩ | ⟨t, ht, hx⟩)
      · exact ⟨_, List.mem_cons_self .., hx⟩
      · exact ⟨t, List.mem_cons_of_mem _ ht, hx⟩
  · rw [if_neg h]
    constructor
    · exact .inr
    · rintro (⟨h', _⟩ | h')
      · exact (h h').elim
      · exact h'
end
section
open Go.Proofs

noncomputable def addS (out : List GSpan) (s : GSpan) : List GSpan := match out.getLast? with
  | none => [s]
  | some x => if x.To = s.From then out.dropLast ++ [⟨x.From, s.To⟩] else out ++ [s]
theorem addS_snoc (p : List GSpan) (x s : GSpan) : addS (p ++ [x]) s = if x.To = s.From then p ++ [⟨x.From, s.To⟩] else (p ++ [x]) ++ [s] := by
  unfold addS
  rw [List.getLast?_concat]
  simp
theorem add_step {out : List GSpan} {s : GSpan} (hn : NormL (-1) out) (hb : endT (-1) out ≤ s.From) (h1 : 0 ≤ s.From) (h2 : s.From < s.To) (h3 : s.To ≤ 73049) :
    NormL (-1) (addS out s) ∧ (∀ d, Cov (addS out s) d ↔ Cov out d ∨ (s.From ≤ d ∧ d < s.To)) ∧ endT (-1) (addS out s) ≤ s.To ∧ (addS out s).length ≤ out.length + 1 := by
  rcases snoc_cases out with rfl | ⟨p, x, rfl⟩
  · refine ⟨⟨by omega, h2, h3, trivial⟩, fun d => ?_, Int.le_refl _, by simp [addS]⟩
    show Cov [s] d ↔ _
    rw [cov_cons]; simp [cov_nil]
  · obtain ⟨n1, n2, n3, n4⟩ := norm_snoc.1 hn
    rw [endT_snoc] at hb
    rw [addS_snoc]
    by_cases hc : x.To = s.From
    · rw [if_pos hc]
      refine ⟨norm_snoc.2 ⟨n1, n2, by show x.From < s.To; omega, h3⟩, fun d => ?_, by rw [endT_snoc]; exact Int.le_refl _, by simp⟩
      rw [cov_app, cov_app, cov_cons, cov_cons]
      simp only [cov_nil, or_false]
      constructor
      · rintro (h | ⟨h4, h5⟩)
        · exact .inl (.inl h)
        · by_cases hd : d < x.To
          · exact .inl (.inr ⟨h4, hd⟩)
          · exact .inr ⟨by omega, h5⟩
      · rintro ((h | ⟨h4, h5⟩) | ⟨h4, h5⟩)
        · exact .inl h
        · exact .inr ⟨h4, by omega⟩
        · exact .inr ⟨by omega, h5⟩
    · rw [if_neg hc]
      refine ⟨norm_snoc.2 ⟨hn, by rw [endT_snoc]; omega, h2, h3⟩, fun d => ?_, by rw [endT_snoc]; exact Int.le_refl _, by simp⟩
      rw [cov_app (b := [s]), cov_cons]; simp [cov_nil]
/-- Does a list hold a day? -/
def covB (l : List GSpan) (d : Int) : Bool := l.any fun s => decide (s.From ≤ d) && decide (d < s.To)
theorem covB_iff {l : List GSpan} {d : Int} : covB l d = true ↔ Cov l d := by
  unfold covB Cov
  rw [List.any_eq_true]
  constructor
  · rintro ⟨s, hs, h⟩
    rw [Bool.and_eq_true, decide_eq_true_iff, decide_eq_true_iff] at h
    exact ⟨s, hs, h⟩
  · rintro ⟨s, hs, h⟩
    exact ⟨s, hs, by rw [Bool.and_eq_true, decide_eq_true_iff, decide_eq_true_iff]; exact h⟩
/-- A day that exists, of what two lists hold together. -/
def InF (f : Bool → Bool → Bool) (a b : List GSpan) (d : Int) : Prop := f (covB a d) (covB b d) = true ∧ 0 ≤ d ∧ d < 73049
theorem edge_rng {l : List GSpan} {x : Int} (h : EdgeOf l x) : 0 ≤ x ∧ x ≤ 73049 := by
  obtain ⟨s, hs, hx⟩ := h
  have := cutL_ok l s hs
  omega
/-- Between two neighbours no span begins or ends. -/
theorem between {e : List Int} {a : List GSpan} {i : Nat} (he : Asc1 e) (hi : i + 1 < e.length) (hE : ∀ x, EdgeOf a x → x ∈ e) {d : Int} (h1 : e[i]'(by omega) ≤ d) (h2 : d < e[i + 1]) :
    (Cov a d ∧ 0 ≤ d ∧ d < 73049) ↔ (Cov a (e[i]'(by omega)) ∧ 0 ≤ e[i]'(by omega) ∧ e[i]'(by omega) < 73049) := by
  have hasc : ∀ j k (hj : j < e.length) (hk : k < e.length), j < k → e[j] < e[k] := fun j k hj hk h => List.pairwise_iff_getElem.1 he j k hj hk h
  have hlo : ∀ x ∈ e, x < e[i + 1] → x ≤ e[i]'(by omega) := by
    intro x hx hlt
    obtain ⟨j, hj, rfl⟩ := List.getElem_of_mem hx
    rcases Nat.lt_trichotomy j i with h | h | h
    · have := hasc j i hj (by omega) h; omega
    · subst h; exact Int.le_refl _
    · by_cases h' : j = i + 1
      · subst h'; omega
      · have := hasc (i + 1) j hi hj (by omega); omega
  have hhi : ∀ x ∈ e, e[i]'(by omega) < x → e[i + 1] ≤ x := by
    intro x hx hlt
    obtain ⟨j, hj, rfl⟩ := List.getElem_of_mem hx
    rcases Nat.lt_trichotomy j (i + 1) with h | h | h
    · by_cases h' : j = i
      · subst h'; omega
      · have := hasc j i hj (by omega) (by omega); omega
    · subst h; exact Int.le_refl _
    · have := hasc (i + 1) j hi hj h; omega
  rw [← cutL_cov, ← cutL_cov]
  constructor
  · rintro ⟨s, hs, h3, h4⟩
    have e1 := hE _ ⟨s, hs, .inl rfl⟩
    have := hlo _ e1 (by omega)
    exact ⟨s, hs, this, by omega⟩
  · rintro ⟨s, hs, h3, h4⟩
    have e2 := hE _ ⟨s, hs, .inr rfl⟩
    have := hhi _ e2 h4
    exact ⟨s, hs, by omega, by omega⟩
end
section
open Go.Proofs

def daysN : List GSpan → Int
  | [] => 0
  | s :: r => (s.To - s.From) + daysN r
theorem norm_mem : ∀ {l : List GSpan} {lo : Int}, NormL lo l → ∀ s ∈ l, lo < s.From ∧ s.From < s.To ∧ s.To ≤ 73049
  | [], _, _, s, hs => by simp at hs
  | t :: r, lo, ⟨h1, h2, h3, h4⟩, s, hs => by
    rcases List.mem_cons.1 hs with rfl | hs
    · exact ⟨h1, h2, h3⟩
    · have := norm_mem h4 s hs
      exact ⟨by omega, this.2⟩
theorem daysN_rng : ∀ {l : List GSpan} {lo : Int}, NormL lo l → lo ≤ 73049 → 0 ≤ daysN l ∧ daysN l ≤ 73049 - lo
  | [], _, _, h => by unfold daysN; omega
  | s :: r, lo, ⟨h1, h2, h3, h4⟩, _ => by
    have := daysN_rng h4 h3
    unfold daysN
    omega
theorem daysN_pos {s : GSpan} {r : List GSpan} {lo : Int} (h : NormL lo (s :: r)) : 0 < daysN (s :: r) := by
  obtain ⟨h1, h2, h3, h4⟩ := h
  have := daysN_rng h4 h3
  unfold daysN
  omega
theorem makeS_idem {l : List GSpan} (h : NormL (-1) l) : makeS l = l := by
  obtain ⟨c1, c2, _⟩ := makeS_ok l
  refine norm_uniq c1 h fun d => ?_
  rw [c2]
  exact ⟨And.left, fun hc => ⟨hc, by have := norm_low h hc; omega⟩⟩
theorem before_loop (t : List GSpan) (ht : ∀ s ∈ t, 0 ≤ s.From ∧ s.From < s.To ∧ s.To ≤ 73049) (hl : t.length ≤ 1000000) : ∀ (n i : Nat) (acc : Int), t.length = i + n → 0 ≤ acc → acc + daysN (t.drop i) ≤ 100000 →
    fixL (spans_Before_l1 73049 t ((t.length : Nat) : Int)) (acc, (i : Int)) = some (acc + daysN (t.drop i)) := by
  intro n
  induction n with
  | zero =>
    intro i acc h h0 hb
    have : i = t.length := by omega
    subst this
    rw [fixL_eq]
    show (spans_Before_p0 73049 acc t ((t.length : Nat) : Int) ((t.length : Nat) : Int)).bind _ = _
    unfold spans_Before_p0
    rw [not_lt_len, cond_false, List.drop_length]
    simp [daysN]
  | succ n ih =>
    intro i acc h h0 hb
    have hi : i < t.length := by omega
    have hm := ht t[i] (List.getElem_mem hi)
    have hpos : 0 ≤ daysN (t.drop (i + 1)) := by
      have : ∀ l : List GSpan, (∀ s ∈ l, s ∈ t) → 0 ≤ daysN l := by
        intro l
        induction l with
        | nil => intro _; exact Int.le_refl _
        | cons s r ih =>
          intro hs
          have h1 := ht s (hs s (by simp))
          have h2 := ih fun x hx => hs x (by simp [hx])
          unfold daysN; omega
      exact this _ fun s hs => List.mem_of_mem_drop hs
    rw [List.drop_eq_getElem_cons hi] at hb ⊢
    unfold daysN at hb ⊢
    rw [fixL_eq]
    show (spans_Before_p0 73049 acc t ((t.length : Nat) : Int) (i : Int)).bind _ = _
    unfold spans_Before_p0
    rw [lt_len hi, cond_true, gd_pos (idx_ok hi), getD_nat0 t _ i hi, w64_succ (by omega), decide_eq_true (by omega), cond_true, if_neg (by omega), w64_in (n := t[i].To - t[i].From) (by omega) (by omega), w64_in (by omega) (by omega), Option.bind_some]
    show fixL (spans_Before_l1 73049 t ((t.length : Nat) : Int)) (acc + (t[i].To - t[i].From), ((i + 1 : Nat) : Int)) = _
    rw [ih (i + 1) _ (by omega) (by omega) (by omega)]
    congr 1
    omega
theorem spans_Days_eq (l : List GSpan) (hn : l.length ≤ 100000) : spans_Days l = some (daysN (makeS l)) := by
  obtain ⟨c1, _, c3⟩ := makeS_ok l
  have hr := daysN_rng c1 (by omega)
  show (spans_Before l 73049).bind _ = _
  have : spans_Before l 73049 = some (daysN (makeS l)) := by
    show (spans_Make l).bind _ = _
    rw [spans_Make_eq l (by omega), Option.bind_some]
    show (fixL (spans_Before_l1 73049 (makeS l) (((makeS l).length : Nat) : Int)) ((0 : Int), (0 : Int))).bind _ = _
    have := before_loop (makeS l) (fun s hs => by have := norm_mem c1 s hs; omega) (by omega) (makeS l).length 0 0 (by omega) (by omega) (by rw [List.drop_zero]; omega)
    rw [show ((0 : Nat) : Int) = 0 from rfl, List.drop_zero, Int.zero_add] at this
    rw [this, Option.bind_some]
    rfl
  rw [this]
  rfl
/-- The last day of a normal list. -/
def lastS (l : List GSpan) : Int × Bool := match l.getLast? with
  | none => (0, false)
  | some x => (x.To - 1, true)
theorem last_of (m : List GSpan) (hm : NormL (-1) m) (hl : m.length ≤ 100000) :
    (bif (((m.length : Nat) : Int) == (0 : Int)) then (some ((0 : Int), false)) else gd ((0 : Int) ≤ (w64 (((m.length : Nat) : Int) - (1 : Int))) ∧ (w64 (((m.length : Nat) : Int) - (1 : Int))) < ((m.length : Nat) : Int)) ((some ((w64 ((m.getD (0 + (Int.toNat (w64 (((m.length : Nat) : Int) - (1 : Int))))) zGSpan).To - (1 : Int))), true)))) = some (lastS m) := by
  rcases snoc_cases m with rfl | ⟨p, x, rfl⟩
  · rfl
  · have hp : p.length ≤ 1000000 := by simp at hl; omega
    have hx := norm_mem hm x (by simp)
    have hlen : (p ++ [x]).length = p.length + 1 := by simp
    rw [beq_eq_false_iff_ne.2 (by rw [hlen]; omega), cond_false, last_ix p x hp, gd_pos ⟨by omega, by rw [hlen]; omega⟩, Nat.zero_add, Int.toNat_natCast, getD_app_right, w64_in (by omega) (by omega)]
    unfold lastS
    rw [List.getLast?_concat]
end
end Go.Ax
