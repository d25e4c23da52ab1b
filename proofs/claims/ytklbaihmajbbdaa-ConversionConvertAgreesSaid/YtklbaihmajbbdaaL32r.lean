import Derived.Test.YtklbaihmajbbdaaL32
set_option linter.all false
/- The document's valid survivors. -/
set_option maxRecDepth 100000
namespace Go.Ax

theorem ref_inner (l : List GHeir) (q0 : Int) (h : GHeir) (i : Nat) (hi : i ≤ l.length) (hl : l.length ≤ 1000) : ∀ (m k : Nat), i = k + m →
    fixL (ref21_ValidHeirs_l2 l q0 h) ((i : Int), (k : Int)) = some (if ((l.take i).drop k).any (fun x => x.Person == h.Person) then .inr () else .inl (i : Int))
  | 0, k, e => by
    have : k = i := by omega
    subst this
    rw [fixL_eq]
    show (ref21_ValidHeirs_p0 l k k h).bind _ = _
    unfold ref21_ValidHeirs_p0
    rw [not_lt_len, cond_false, List.drop_of_length_le (by simp; omega)]
    rfl
  | m + 1, k, e => by
    have hk : k < l.length := by omega
    rw [fixL_eq]
    show (ref21_ValidHeirs_p0 l i k h).bind _ = _
    unfold ref21_ValidHeirs_p0
    have hd : (l.take i).drop k = l[k] :: (l.take i).drop (k + 1) := by
      rw [List.drop_eq_getElem_cons (show k < (l.take i).length by simp; omega), List.getElem_take]
    rw [lt_len (show k < i by omega), cond_true, gd_pos (idx_ok hk), getD_nat l zGHeir k hk, w64_succ (by omega), hd, List.any_cons]
    cases hp : (l[k].Person == h.Person) with
    | true => rfl
    | false =>
      rw [Bool.false_or]
      exact ref_inner l q0 h i hi hl m (k + 1) (by omega)
theorem ref_step (l : List GHeir) (i : Nat) (hi : i < l.length) (hl : l.length ≤ 1000) : ref21_ValidHeirs_p5 l i = some (match validG l[i] (l.take i) with | .inl _ => .inl ((i + 1 : Nat) : Int) | .inr r => .inr r) := by
  unfold ref21_ValidHeirs_p5
  rw [lt_len hi, cond_true]
  show ref21_ValidHeirs_p3 l i = _
  unfold ref21_ValidHeirs_p3
  rw [gd_pos (idx_ok hi), getD_nat l zGHeir i hi]
  have key : ref21_ValidHeirs_p2 l i l[i] = some (if (l.take i).any (fun x => x.Person == l[i].Person) then .inr (.inr ()) else .inl ((i + 1 : Nat) : Int)) := by
    show (fixL (ref21_ValidHeirs_l2 l i l[i]) ((i : Int), ((0 : Nat) : Int))).bind _ = _
    rw [ref_inner l i l[i] i (by omega) hl i 0 (by omega), Option.bind_some, List.drop_zero]
    split
    · rfl
    · show ref21_ValidHeirs_p1 l i = _
      unfold ref21_ValidHeirs_p1
      rw [w64_succ (by omega)]
  rw [key]
  generalize l[i] = h
  unfold validG heirB
  generalize (l.take i).any (fun x => x.Person == h.Person) = b
  simp only [cond_or, cond_and]
  have hp : (decide (h.Person < 1) || decide (99 < h.Person)) = !(decide (1 ≤ h.Person) && decide (h.Person ≤ 99)) := by
    by_cases p1 : h.Person < 1
    · simp [p1, show ¬ 1 ≤ h.Person by omega]
    · by_cases p2 : 99 < h.Person
      · simp [p2, show ¬ h.Person ≤ 99 by omega]
      · simp [p1, p2, show 1 ≤ h.Person by omega, show h.Person ≤ 99 by omega]
  have hd : (decide (h.Days < 1) || decide (73049 < h.Days)) = !(decide (1 ≤ h.Days) && decide (h.Days ≤ 73049)) := by
    by_cases p1 : h.Days < 1
    · simp [p1, show ¬ 1 ≤ h.Days by omega]
    · by_cases p2 : 73049 < h.Days
      · simp [p2, show ¬ h.Days ≤ 73049 by omega]
      · simp [p1, p2, show 1 ≤ h.Days by omega, show h.Days ≤ 73049 by omega]
  rw [hp, hd]
  generalize (decide (1 ≤ h.Person) && decide (h.Person ≤ 99)) = x
  generalize (decide (1 ≤ h.Days) && decide (h.Days ≤ 73049)) = y
  by_cases k1 : h.Kind = 1
  · rw [if_pos k1, k1]
    cases x <;> cases y <;> cases b <;> rfl
  rw [if_neg k1, show (h.Kind == 1) = false from beq_eq_false_iff_ne.2 k1, show (h.Kind != 1) = true from by simpa using k1]
  by_cases k2 : h.Kind = 2
  · rw [k2]
    cases hz : (h.Days == 0) with
    | true => rw [show (h.Days != 0) = false from by unfold bne; rw [hz]; rfl]; cases x <;> cases b <;> rfl
    | false => rw [show (h.Days != 0) = true from by unfold bne; rw [hz]; rfl]; cases x <;> cases b <;> rfl
  by_cases k3 : h.Kind = 3
  · rw [k3]
    cases hz : (h.Days == 0) with
    | true => rw [show (h.Days != 0) = false from by unfold bne; rw [hz]; rfl]; cases x <;> cases b <;> rfl
    | false => rw [show (h.Days != 0) = true from by unfold bne; rw [hz]; rfl]; cases x <;> cases b <;> rfl
  · have : (decide (h.Kind < 1) || decide (3 < h.Kind)) = true := by simp; omega
    rw [Bool.or_assoc, this, show (h.Kind == 2) = false from beq_eq_false_iff_ne.2 k2, show (h.Kind == 3) = false from beq_eq_false_iff_ne.2 k3]
    cases x <;> rfl
theorem ref21_ValidHeirs_eq (l : List GHeir) : ref21_ValidHeirs l = some (validL l) := by
  show ref21_ValidHeirs_p8 l = _
  unfold ref21_ValidHeirs_p8 validL
  by_cases h : 12 < l.length
  · rw [if_pos h, decide_eq_true (by omega)]; rfl
  · rw [if_neg h, decide_eq_false (by omega), cond_false]
    show (fixL (ref21_ValidHeirs_l1 l) 0).bind _ = _
    rw [valid_loop (f := ref21_ValidHeirs_l1 l) l (fun i hi => ref_step l i hi (by omega)) ?_, Option.bind_some]
    · cases validE l <;> rfl
    · show ref21_ValidHeirs_p5 l l.length = _
      unfold ref21_ValidHeirs_p5
      rw [not_lt_len, cond_false]
end Go.Ax
