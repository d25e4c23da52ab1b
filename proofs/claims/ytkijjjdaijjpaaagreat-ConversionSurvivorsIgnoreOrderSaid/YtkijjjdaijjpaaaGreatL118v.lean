import Derived.Test.YtkijjjdaijjpaaaGreatL117v
set_option linter.all false
/- Days and last days of lists of spans; the days of a state. -/
set_option maxRecDepth 100000
namespace Go.Ax
open Go.Proofs

def daysN : List GSpan → Int
  | [] => 0
  | s :: r => (s.To - s.From) + daysN r
theorem norm_mem : ∀ {l : List GSpan} {lo : Int}, NormL lo l → ∀ s ∈ l, lo < s.From ∧ s.From < s.To ∧ s.To ≤ 73049
  | [], _, _, s, hs => by simp at hs
  | t :: r, lo, ⟨h1, h2, h3, h4⟩, s, hs => by
    rcases List.mem_cons.1 hs with rfl | hs
    · exact ⟨h1, h2, h3⟩
    · have := norm_mem h4 s hs
      exact ⟨by omega, this.2⟩
theorem daysN_rng : ∀ {l : List GSpan} {lo : Int}, NormL lo l → lo ≤ 73049 → 0 ≤ daysN l ∧ daysN l ≤ 73049 - lo
  | [], _, _, h => by unfold daysN; omega
  | s :: r, lo, ⟨h1, h2, h3, h4⟩, _ => by
    have := daysN_rng h4 h3
    unfold daysN
    omega
theorem daysN_pos {s : GSpan} {r : List GSpan} {lo : Int} (h : NormL lo (s :: r)) : 0 < daysN (s :: r) := by
  obtain ⟨h1, h2, h3, h4⟩ := h
  have := daysN_rng h4 h3
  unfold daysN
  omega
theorem makeS_idem {l : List GSpan} (h : NormL (-1) l) : makeS l = l := by
  obtain ⟨c1, c2, _⟩ := makeS_ok l
  refine norm_uniq c1 h fun d => ?_
  rw [c2]
  exact ⟨And.left, fun hc => ⟨hc, by have := norm_low h hc; omega⟩⟩
theorem before_loop (t : List GSpan) (ht : ∀ s ∈ t, 0 ≤ s.From ∧ s.From < s.To ∧ s.To ≤ 73049) (hl : t.length ≤ 1000000) : ∀ (n i : Nat) (acc : Int), t.length = i + n → 0 ≤ acc → acc + daysN (t.drop i) ≤ 100000 →
    fixL (spans_Before_l1 73049 t ((t.length : Nat) : Int)) (acc, (i : Int)) = some (acc + daysN (t.drop i)) := by
  intro n
  induction n with
  | zero =>
    intro i acc h h0 hb
    have : i = t.length := by omega
    subst this
    rw [fixL_eq]
    show (spans_Before_p0 73049 acc t ((t.length : Nat) : Int) ((t.length : Nat) : Int)).bind _ = _
    unfold spans_Before_p0
    rw [not_lt_len, cond_false, List.drop_length]
    simp [daysN]
  | succ n ih =>
    intro i acc h h0 hb
    have hi : i < t.length := by omega
    have hm := ht t[i] (List.getElem_mem hi)
    have hpos : 0 ≤ daysN (t.drop (i + 1)) := by
      have : ∀ l : List GSpan, (∀ s ∈ l, s ∈ t) → 0 ≤ daysN l := by
        intro l
        induction l with
        | nil => intro _; exact Int.le_refl _
        | cons s r ih =>
          intro hs
          have h1 := ht s (hs s (by simp))
          have h2 := ih fun x hx => hs x (by simp [hx])
          unfold daysN; omega
      exact this _ fun s hs => List.mem_of_mem_drop hs
    rw [List.drop_eq_getElem_cons hi] at hb ⊢
    unfold daysN at hb ⊢
    rw [fixL_eq]
    show (spans_Before_p0 73049 acc t ((t.length : Nat) : Int) (i : Int)).bind _ = _
    unfold spans_Before_p0
    rw [lt_len hi, cond_true, gd_pos (idx_ok hi), getD_nat0 t _ i hi, w64_succ (by omega), decide_eq_true (by omega), cond_true, if_neg (by omega), w64_in (n := t[i].To - t[i].From) (by omega) (by omega), w64_in (by omega) (by omega), Option.bind_some]
    show fixL (spans_Before_l1 73049 t ((t.length : Nat) : Int)) (acc + (t[i].To - t[i].From), ((i + 1 : Nat) : Int)) = _
    rw [ih (i + 1) _ (by omega) (by omega) (by omega)]
    congr 1
    omega
theorem spans_Days_eq (l : List GSpan) (hn : l.length ≤ 100000) : spans_Days l = some (daysN (makeS l)) := by
  obtain ⟨c1, _, c3⟩ := makeS_ok l
  have hr := daysN_rng c1 (by omega)
  show (spans_Before l 73049).bind _ = _
  have : spans_Before l 73049 = some (daysN (makeS l)) := by
    show (spans_Make l).bind _ = _
    rw [spans_Make_eq l (by omega), Option.bind_some]
    show (fixL (spans_Before_l1 73049 (makeS l) (((makeS l).length : Nat) : Int)) ((0 : Int), (0 : Int))).bind _ = _
    have := before_loop (makeS l) (fun s hs => by have := norm_mem c1 s hs; omega) (by omega) (makeS l).length 0 0 (by omega) (by omega) (by rw [List.drop_zero]; omega)
    rw [show ((0 : Nat) : Int) = 0 from rfl, List.drop_zero, Int.zero_add] at this
    rw [this, Option.bind_some]
    rfl
  rw [this]
  rfl
/-- The last day of a normal list. -/
def lastS (l : List GSpan) : Int × Bool := match l.getLast? with
  | none => (0, false)
  | some x => (x.To - 1, true)
theorem last_of (m : List GSpan) (hm : NormL (-1) m) (hl : m.length ≤ 100000) :
    (bif (((m.length : Nat) : Int) == (0 : Int)) then (some ((0 : Int), false)) else gd ((0 : Int) ≤ (w64 (((m.length : Nat) : Int) - (1 : Int))) ∧ (w64 (((m.length : Nat) : Int) - (1 : Int))) < ((m.length : Nat) : Int)) ((some ((w64 ((m.getD (0 + (Int.toNat (w64 (((m.length : Nat) : Int) - (1 : Int))))) zGSpan).To - (1 : Int))), true)))) = some (lastS m) := by
  rcases snoc_cases m with rfl | ⟨p, x, rfl⟩
  · rfl
  · have hp : p.length ≤ 1000000 := by simp at hl; omega
    have hx := norm_mem hm x (by simp)
    have hlen : (p ++ [x]).length = p.length + 1 := by simp
    rw [beq_eq_false_iff_ne.2 (by rw [hlen]; omega), cond_false, last_ix p x hp, gd_pos ⟨by omega, by rw [hlen]; omega⟩, Nat.zero_add, Int.toNat_natCast, getD_app_right, w64_in (by omega) (by omega)]
    unfold lastS
    rw [List.getLast?_concat]
end Go.Ax
