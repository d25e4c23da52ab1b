import Derived.Test.YtkcekbabhmdnhaaL95
set_option linter.all false
/- Days and last days of lists of spans; the days of a state. -/
set_option maxRecDepth 100000
namespace Go.Ax
open Go.Proofs

def daysN : List GSpan → Int
  | [] => 0
  | s :: r => (s.To - s.From) + daysN r
theorem norm_mem : ∀ {l : List GSpan} {lo : Int}, NormL lo l → ∀ s ∈ l, lo < s.From ∧ s.From < s.To ∧ s.To ≤ 73049
  | [], _, _, s, hs => by simp at hs
  | t :: r, lo, ⟨h1, h2, h3, h4⟩, s, hs => by
    rcases List.mem_cons.1 hs with rfl | hs
    · exact ⟨h1, h2, h3⟩
    · have := norm_mem h4 s hs
      exact ⟨by omega, this.2⟩
theorem daysN_rng : ∀ {l : List GSpan} {lo : Int}, NormL lo l → lo ≤ 73049 → 0 ≤ daysN l ∧ daysN l ≤ 73049 - lo
  | [], _, _, h => by unfold daysN; omega
  | s :: r, lo, ⟨h1, h2, h3, h4⟩, _ => by
    have := daysN_rng h4 h3
    unfold daysN
    omega
theorem daysN_pos {s : GSpan} {r : List GSpan} {lo : Int} (h : NormL lo (s :: r)) : 0 < daysN (s :: r) := by
  obtain ⟨h1, h2, h3, h4⟩ := h
  have := daysN_rng h4 h3
  unfold daysN
  omega
theorem makeS_idem {l : List GSpan} (h : NormL (-1) l) : makeS l = l := by
  obtain ⟨c1, c2, _⟩ := makeS_ok l
  refine norm_uniq c1 h fun d => ?_
  rw [c2]
  exact ⟨And.left, fun hc => ⟨hc, by have := norm_low h hc; omega⟩⟩
theorem before_loop (t : List GSpan) (ht : ∀ s ∈ t, 0 ≤ s.From ∧ s.From < s.To ∧ s.To ≤ 73049) (hl : t.length ≤ 1000000) : ∀ (n i : Nat) (acc : Int), t.length = i + n → 0 ≤ acc → acc + daysN (t.drop i) ≤ 100000 →
    fixL (spans_Before_l1 73049 t ((t.length : Nat) : Int)) (acc, (i : Int)) = some (acc + daysN (t.drop i)) := by
  intro n
  induction n with
  | zero =>
    intro i acc h h0 hb
    have : i = t.length := by omega
    subst this
    rw [fixL_eq]
    show (spans_Before_p0 73049 acc t ((t.length : Nat) : Int) ((t.length : Nat) : Int)).bind _ = _
    unfold spans_Before_p0
    rw [not_lt_len, cond_false, List.drop_length]
    simp [daysN]
  | succ n ih =>
    intro i acc h h0 hb
    have hi : i < t.length := by omega
    have hm := ht t[i] (List.getElem_mem hi)
    have hpos : 0 ≤ daysN (t.drop (i + 1)) := by
      have : ∀ l : List GSpan, (∀ s ∈ l, s ∈ t) → 0 ≤ daysN l := by
        intro l
        induction l with
        | nil => intro _; exact Int.le_refl _
        | cons s r ih =>
          intro hs
          have h1 := ht s (hs s (by simp))
          have h2 := ih fun x hx => hs x (by simp [hx])
          unfold daysN; omega
      exact this _ fun s hs => List.mem_of_mem_drop hs
    rw [List.drop_eq_getElem_cons hi] at hb ⊢
    unfold daysN at hb ⊢
    rw [fixL_eq]
    show (spans_Before_p0 73049 acc t ((t.length : Nat) : Int) (i : Int)).bind _ = _
    unfold spans_Before_p0
    rw [lt_len hi, cond_true, gd_pos (idx_ok hi), getD_nat0 t _ i hi, w64_succ (by omega), decide_eq_true (by omega), cond_true, if_neg (by omega), w64_in (n := t[i].To - t[i].From) (by omega) (by omega), w64_in (by omega) (by omega), Option.bind_some]
    show fixL (spans_Before_l1 73049 t ((t.length : Nat) : Int)) (acc + (t[i].To - t[i].From), ((i + 1 : Nat) : Int)) = _
    rw [ih (i + 1) _ (by omega) (by omega) (by omega)]
    congr 1
    omega
theorem spans_Days_eq (l : List GSpan) (hn : l.length ≤ 100000) : spans_Days l = some (daysN (makeS l)) := by
  obtain ⟨c1, _, c3⟩ := makeS_ok l
  have hr := daysN_rng c1 (by omega)
  show (spans_Before l 73049).bind _ = _
  have : spans_Before l 73049 = some (daysN (makeS l)) := by
    show (spans_Make l).bind _ = _
    rw [spans_Make_eq l (by omega), Option.bind_some]
    show (fixL (spans_Before_l1 73049 (makeS l) (((makeS l).length : Nat) : Int)) ((0 : Int), (0 : Int))).bind _ = _
    have := before_loop (makeS l) (fun s hs => by have := norm_mem c1 s hs; omega) (by omega) (makeS l).length 0 0 (by omega) (by omega) (by rw [List.drop_zero]; omega)
    rw [show ((0 : Nat) : Int) = 0 from rfl, List.drop_zero, Int.zero_add] at this
    rw [this, Option.bind_some]
    rfl
  rw [this]
  rfl
theorem rdays_loop (t : List GSpan) (ht : ∀ s ∈ t, 0 ≤ s.From ∧ s.From < s.To ∧ s.To ≤ 73049) (hl : t.length ≤ 1000000) : ∀ (n i : Nat) (acc : Int), t.length = i + n → 0 ≤ acc → acc + daysN (t.drop i) ≤ 100000 →
    fixL (ref1_Days_l1 t) (acc, (i : Int)) = some (acc + daysN (t.drop i)) := by
  intro n
  induction n with
  | zero =>
    intro i acc h h0 hb
    have : i = t.length := by omega
    subst this
    rw [fixL_eq]
    show (ref1_Days_p0 acc t ((t.length : Nat) : Int)).bind _ = _
    unfold ref1_Days_p0
    rw [not_lt_len, cond_false, List.drop_length]
    simp [daysN]
  | succ n ih =>
    intro i acc h h0 hb
    have hi : i < t.length := by omega
    have hm := ht t[i] (List.getElem_mem hi)
    have hpos : 0 ≤ daysN (t.drop (i + 1)) := by
      have : ∀ l : List GSpan, (∀ s ∈ l, s ∈ t) → 0 ≤ daysN l := by
        intro l
        induction l with
        | nil => intro _; exact Int.le_refl _
        | cons s r ih =>
          intro hs
          have h1 := ht s (hs s (by simp))
          have h2 := ih fun x hx => hs x (by simp [hx])
          unfold daysN; omega
      exact this _ fun s hs => List.mem_of_mem_drop hs
    rw [List.drop_eq_getElem_cons hi] at hb ⊢
    unfold daysN at hb ⊢
    rw [fixL_eq]
    show (ref1_Days_p0 acc t (i : Int)).bind _ = _
    unfold ref1_Days_p0
    rw [lt_len hi, cond_true, gd_pos (idx_ok hi), gd_pos (idx_ok hi), getD_nat0 t _ i hi, w64_succ (by omega), w64_in (n := t[i].To - t[i].From) (by omega) (by omega), w64_in (by omega) (by omega), Option.bind_some]
    show fixL (ref1_Days_l1 t) (acc + (t[i].To - t[i].From), ((i + 1 : Nat) : Int)) = _
    rw [ih (i + 1) _ (by omega) (by omega) (by omega)]
    congr 1
    omega
theorem ref1_Days_eq (l : List GSpan) (hn : l.length ≤ 100000) : ref1_Days l = some (daysN (makeS l)) := by
  obtain ⟨c1, _, c3⟩ := makeS_ok l
  have hr := daysN_rng c1 (by omega)
  show (ref1_MakeSpans l).bind _ = _
  rw [ref1_MakeSpans_eq l hn, Option.bind_some]
  show (fixL (ref1_Days_l1 (makeS l)) ((0 : Int), (0 : Int))).bind _ = _
  have := rdays_loop (makeS l) (fun s hs => by have := norm_mem c1 s hs; omega) (by omega) (makeS l).length 0 0 (by omega) (by omega) (by rw [List.drop_zero]; omega)
  rw [show ((0 : Nat) : Int) = 0 from rfl, List.drop_zero, Int.zero_add] at this
  rw [this, Option.bind_some]
  rfl
/-- The last day of a normal list. -/
def lastS (l : List GSpan) : Int × Bool := match l.getLast? with
  | none => (0, false)
  | some x => (x.To - 1, true)
theorem last_of (m : List GSpan) (hm : NormL (-1) m) (hl : m.length ≤ 100000) :
    (bif (((m.length : Nat) : Int) == (0 : Int)) then (some ((0 : Int), false)) else gd ((0 : Int) ≤ (w64 (((m.length : Nat) : Int) - (1 : Int))) ∧ (w64 (((m.length : Nat) : Int) - (1 : Int))) < ((m.length : Nat) : Int)) ((some ((w64 ((m.getD (0 + (Int.toNat (w64 (((m.length : Nat) : Int) - (1 : Int))))) zGSpan).To - (1 : Int))), true)))) = some (lastS m) := by
  rcases snoc_cases m with rfl | ⟨p, x, rfl⟩
  · rfl
  · have hp : p.length ≤ 1000000 := by simp at hl; omega
    have hx := norm_mem hm x (by simp)
    have hlen : (p ++ [x]).length = p.length + 1 := by simp
    rw [beq_eq_false_iff_ne.2 (by rw [hlen]; omega), cond_false, last_ix p x hp, gd_pos ⟨by omega, by rw [hlen]; omega⟩, Nat.zero_add, Int.toNat_natCast, getD_app_right, w64_in (by omega) (by omega)]
    unfold lastS
    rw [List.getLast?_concat]
theorem spans_Last_eq (l : List GSpan) (hn : l.length ≤ 100000) : spans_Last l = some (lastS (makeS l)) := by
  obtain ⟨c1, _, c3⟩ := makeS_ok l
  show (spans_Make l).bind _ = _
  rw [spans_Make_eq l (by omega), Option.bind_some]
  exact last_of (makeS l) c1 (by omega)
theorem ref1_Last_eq (l : List GSpan) (hn : l.length ≤ 100000) : ref1_Last l = some (lastS (makeS l)) := by
  obtain ⟨c1, _, c3⟩ := makeS_ok l
  show (ref1_MakeSpans l).bind _ = _
  rw [ref1_MakeSpans_eq l hn, Option.bind_some]
  exact last_of (makeS l) c1 (by omega)
/-- The spans of a state. -/
def stOf (l : List GCounted) (s : Int) : List GSpan := (l.filter fun x => x.State == s).map fun x => x.Span
theorem stOf_cons (x : GCounted) (l : List GCounted) (s : Int) : stOf (x :: l) s = bif x.State == s then x.Span :: stOf l s else stOf l s := by
  unfold stOf
  rw [List.filter_cons]
  cases x.State == s <;> rfl
theorem stOf_len (l : List GCounted) (s : Int) : (stOf l s).length ≤ l.length := by
  unfold stOf
  rw [List.length_map]
  exact List.length_filter_le _ _
theorem of_loop (l : List GCounted) (s : Int) (hl : l.length ≤ 100000) : ∀ (n i : Nat) (out : List GSpan), l.length = i + n → out.length ≤ i →
    fixL (overlap_Of_l1 s 0 l) (out, (i : Int)) = some (out ++ stOf (l.drop i) s) := by
  intro n
  induction n with
  | zero =>
    intro i out h ho
    have : i = l.length := by omega
    subst this
    rw [fixL_eq]
    show (overlap_Of_p0 s 0 out l ((l.length : Nat) : Int)).bind _ = _
    unfold overlap_Of_p0
    rw [not_lt_len, cond_false, List.drop_length]
    simp [stOf]
  | succ n ih =>
    intro i out h ho
    have hi : i < l.length := by omega
    rw [fixL_eq]
    show (overlap_Of_p0 s 0 out l (i : Int)).bind _ = _
    unfold overlap_Of_p0
    rw [lt_len hi, cond_true, gd_pos (idx_ok hi), getD_nat l _ i hi, w64_succ (by omega), List.drop_eq_getElem_cons hi, stOf_cons, show ((0 : Int) == 0) = true from rfl, cond_true]
    cases hs : (l[i].State == s) with
    | true =>
      rw [cond_true, cond_true, gd_pos (capS (by omega)), Option.bind_some, cond_true]
      show fixL (overlap_Of_l1 s 0 l) (out ++ [l[i].Span], ((i + 1 : Nat) : Int)) = _
      rw [ih (i + 1) _ (by omega) (by simp; omega), List.append_assoc]
      rfl
    | false =>
      rw [cond_false, cond_false, Option.bind_some, cond_false]
      show fixL (overlap_Of_l1 s 0 l) (out, ((i + 1 : Nat) : Int)) = _
      rw [ih (i + 1) _ (by omega) (by omega)]
theorem overlap_Of_eq (l : List GCounted) (s : Int) (hl : l.length ≤ 100000) : overlap_Of l s 0 = some (makeS (stOf l s)) := by
  have := of_loop l s hl l.length 0 [] (by omega) (by simp)
  rw [show ((0 : Nat) : Int) = 0 from rfl, List.drop_zero, List.nil_append] at this
  show (fixL (overlap_Of_l1 s 0 l) (([] : List GSpan), (0 : Int))).bind _ = _
  rw [this, Option.bind_some]
  show (spans_Make (stOf l s)).bind _ = _
  rw [spans_Make_eq _ (by have := stOf_len l s; omega)]
  rfl
theorem rof_loop (l : List GCounted) (s : Int) (hl : l.length ≤ 100000) : ∀ (n i : Nat) (out : List GSpan), l.length = i + n → out.length ≤ i →
    fixL (ref16_CountedOf_l1 l s 0) (out, (i : Int)) = some (out ++ stOf (l.drop i) s) := by
  intro n
  induction n with
  | zero =>
    intro i out h ho
    have : i = l.length := by omega
    subst this
    rw [fixL_eq]
    show (ref16_CountedOf_p0 l s 0 out ((l.length : Nat) : Int)).bind _ = _
    unfold ref16_CountedOf_p0
    rw [not_lt_len, cond_false, List.drop_length]
    simp [stOf]
  | succ n ih =>
    intro i out h ho
    have hi : i < l.length := by omega
    rw [fixL_eq]
    show (ref16_CountedOf_p0 l s 0 out (i : Int)).bind _ = _
    unfold ref16_CountedOf_p0
    rw [lt_len hi, cond_true, gd_pos (idx_ok hi), getD_nat l _ i hi, gd_pos (fun _ => (idx_ok hi).1), gd_pos (fun _ => (idx_ok hi).2), w64_succ (by omega), List.drop_eq_getElem_cons hi, stOf_cons, show ((0 : Int) == 0) = true from rfl, cond_true]
    cases hs : (l[i].State == s) with
    | true =>
      rw [cond_true, cond_true, gd_pos (idx_ok hi), gd_pos (capS (by omega)), Option.bind_some, cond_true]
      show fixL (ref16_CountedOf_l1 l s 0) (out ++ [l[i].Span], ((i + 1 : Nat) : Int)) = _
      rw [ih (i + 1) _ (by omega) (by simp; omega), List.append_assoc]
      rfl
    | false =>
      rw [cond_false, cond_false, Option.bind_some, cond_false]
      show fixL (ref16_CountedOf_l1 l s 0) (out, ((i + 1 : Nat) : Int)) = _
      rw [ih (i + 1) _ (by omega) (by omega)]
theorem ref16_CountedOf_eq (l : List GCounted) (s : Int) (hl : l.length ≤ 100000) : ref16_CountedOf l s 0 = some (makeS (stOf l s)) := by
  have := rof_loop l s hl l.length 0 [] (by omega) (by simp)
  rw [show ((0 : Nat) : Int) = 0 from rfl, List.drop_zero, List.nil_append] at this
  show (fixL (ref16_CountedOf_l1 l s 0) (([] : List GSpan), (0 : Int))).bind _ = _
  rw [this, Option.bind_some]
  show (ref1_MakeSpans (stOf l s)).bind _ = _
  rw [ref1_MakeSpans_eq _ (by have := stOf_len l s; omega)]
  rfl
/-- How many days count for a state, and the last of them. -/
noncomputable def ownS (l : List GCounted) (s : Int) : Int := daysN (makeS (stOf l s))
noncomputable def lastC (l : List GCounted) (s : Int) : Int × Bool := lastS (makeS (stOf l s))
theorem ownS_rng (l : List GCounted) (s : Int) : 0 ≤ ownS l s ∧ ownS l s ≤ 73050 := by
  have := daysN_rng (makeS_ok (stOf l s)).1 (by omega)
  unfold ownS
  omega
theorem makeS_len' (l : List GCounted) (s : Int) (hl : l.length ≤ 100000) : (makeS (stOf l s)).length ≤ 100000 := by
  have h1 := (makeS_ok (stOf l s)).2.2
  have h2 := stOf_len l s
  omega
theorem overlap_Days_eq (l : List GCounted) (s : Int) (hl : l.length ≤ 100000) : overlap_Days l s 0 = some (ownS l s) := by
  show (overlap_Of l s 0).bind _ = _
  rw [overlap_Of_eq l s hl, Option.bind_some]
  show (spans_Days (makeS (stOf l s))).bind _ = _
  rw [spans_Days_eq _ (makeS_len' l s hl), makeS_idem (makeS_ok _).1]
  rfl
theorem ref16_CountedDays_eq (l : List GCounted) (s : Int) (hl : l.length ≤ 100000) : ref16_CountedDays l s 0 = some (ownS l s) := by
  show (ref16_CountedOf l s 0).bind _ = _
  rw [ref16_CountedOf_eq l s hl, Option.bind_some]
  show (ref1_Days (makeS (stOf l s))).bind _ = _
  rw [ref1_Days_eq _ (makeS_len' l s hl), makeS_idem (makeS_ok _).1]
  rfl
theorem last_own (l : List GCounted) (s : Int) : ((lastC l s).2 = true ↔ 0 < ownS l s) ∧ ((lastC l s).2 = true → 0 ≤ (lastC l s).1) := by
  have c1 := (makeS_ok (stOf l s)).1
  unfold lastC ownS lastS
  generalize makeS (stOf l s) = m at c1
  cases m with
  | nil => simp [daysN]
  | cons t r =>
    have hp := daysN_pos c1
    cases hg : (t :: r).getLast? with
    | none => simp at hg
    | some x =>
      have := norm_mem c1 x (List.mem_of_getLast? hg)
      simp only [true_iff]
      exact ⟨hp, fun _ => by omega⟩
end Go.Ax
