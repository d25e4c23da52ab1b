import Derived.Test.YtkijjjdaijjpaaaGreatL31av
set_option linter.all false
/- Survivors: which lists are valid. -/
set_option maxRecDepth 100000
namespace Go.Ax

def heirB (h : GHeir) : Bool := (decide (1 ≤ h.Person) && decide (h.Person ≤ 99)) && (if h.Kind = 1 then decide (1 ≤ h.Days) && decide (h.Days ≤ 73049) else (h.Kind == 2 || h.Kind == 3) && h.Days == 0)
def validG (h : GHeir) (pre : List GHeir) : List GHeir ⊕ (Unit ⊕ Unit) := if heirB h && !(pre.any fun x => x.Person == h.Person) then .inl (pre ++ [h]) else .inr (.inr ())
def validE (l : List GHeir) : Unit ⊕ Unit := runE validG (fun _ => .inl ()) l []
def validL (l : List GHeir) : Bool := if 12 < l.length then false else match validE l with | .inl _ => true | .inr _ => false
theorem valid_inner (l : List GHeir) (q0 : Int) (t : List GHeir) (a0 : Int) (h : GHeir) (q : Int) (ht : t.length ≤ 1000) : ∀ (m k : Nat), t.length = k + m →
    fixL (conversion_valid_l2 l q0 t a0 h) (q, (t.length : Int), (k : Int)) = some (if (t.drop k).any (fun x => x.Person == h.Person) then .inr () else .inl q)
  | 0, k, e => by
    have : k = t.length := by omega
    subst this
    rw [fixL_eq]
    show (conversion_valid_p0 l q t t.length t.length h).bind _ = _
    unfold conversion_valid_p0
    rw [not_lt_len, cond_false, List.drop_length]
    rfl
  | m + 1, k, e => by
    have hk : k < t.length := by omega
    rw [fixL_eq]
    show (conversion_valid_p0 l q t t.length k h).bind _ = _
    unfold conversion_valid_p0
    rw [lt_len hk, cond_true, gd_pos (idx_ok hk), getD_nat t zGHeir k hk, w64_succ (by omega), List.drop_eq_getElem_cons hk, List.any_cons]
    cases hp : (t[k].Person == h.Person) with
    | true => rfl
    | false =>
      rw [Bool.false_or]
      exact valid_inner l q0 t a0 h q ht m (k + 1) (by omega)
theorem valid_step (l : List GHeir) (i : Nat) (hi : i < l.length) (hl : l.length ≤ 1000) : conversion_valid_p6 l i = some (match validG l[i] (l.take i) with | .inl _ => .inl ((i + 1 : Nat) : Int) | .inr r => .inr r) := by
  unfold conversion_valid_p6
  rw [lt_len hi, cond_true]
  show conversion_valid_p4 l i = _
  unfold conversion_valid_p4
  rw [gd_pos (idx_ok hi), getD_nat l zGHeir i hi]
  have key : conversion_valid_p3 l i i l[i] = some (if (l.take i).any (fun x => x.Person == l[i].Person) then .inr (.inr ()) else .inl ((i + 1 : Nat) : Int)) := by
    unfold conversion_valid_p3
    rw [gd_pos (by omega), show Int.toNat ((i : Int) - 0) = i by omega, subL_take (by omega), List.drop_zero]
    have ht : (l.take i).length = i := by simp; omega
    show (fixL (conversion_valid_l2 l i (l.take i) i l[i]) ((i : Int), ((i : Nat) : Int), ((0 : Nat) : Int))).bind _ = _
    have := valid_inner l i (l.take i) i l[i] i (by omega) i 0 (by omega)
    rw [ht] at this
    rw [this, Option.bind_some, List.drop_zero]
    split
    · rfl
    · show conversion_valid_p1 l i = _
      unfold conversion_valid_p1
      rw [w64_succ (by omega)]
  rw [key]
  generalize l[i] = h
  unfold validG heirB
  generalize (l.take i).any (fun x => x.Person == h.Person) = b
  simp only [cond_or]
  by_cases p1 : h.Person < 1
  · simp [p1, show ¬ 1 ≤ h.Person by omega]
  by_cases p2 : 99 < h.Person
  · simp [p1, p2, show ¬ h.Person ≤ 99 by omega]
  have e1 : decide (1 ≤ h.Person) = true := by simp; omega
  have e2 : decide (h.Person ≤ 99) = true := by simp; omega
  rw [decide_eq_false p1, decide_eq_false p2, e1, e2]
  simp only [Bool.or_false, cond_false, Bool.true_and, Bool.and_true]
  by_cases k1 : h.Kind = 1
  · rw [if_pos k1, show (h.Kind == 1) = true from beq_iff_eq.2 k1, cond_true]
    by_cases d1 : h.Days < 1
    · simp [d1, show ¬ 1 ≤ h.Days by omega]
    by_cases d2 : 73049 < h.Days
    · simp [d1, d2, show ¬ h.Days ≤ 73049 by omega]
    have f1 : decide (1 ≤ h.Days) = true := by simp; omega
    have f2 : decide (h.Days ≤ 73049) = true := by simp; omega
    rw [decide_eq_false d1, decide_eq_false d2, f1, f2]
    cases b <;> rfl
  rw [if_neg k1, show (h.Kind == 1) = false from beq_eq_false_iff_ne.2 k1, cond_false]
  by_cases k2 : h.Kind = 2
  · rw [show (h.Kind == 2) = true from beq_iff_eq.2 k2]
    simp only [cond_true, Bool.true_or, Bool.true_and]
    cases hd : (h.Days == 0) with
    | true => rw [show (h.Days != 0) = false from by unfold bne; rw [hd]; rfl]; cases b <;> rfl
    | false => rw [show (h.Days != 0) = true from by unfold bne; rw [hd]; rfl]; cases b <;> rfl
  rw [show (h.Kind == 2) = false from beq_eq_false_iff_ne.2 k2, cond_false]
  by_cases k3 : h.Kind = 3
  · rw [show (h.Kind == 3) = true from beq_iff_eq.2 k3]
    simp only [cond_true, Bool.false_or, Bool.true_and]
    cases hd : (h.Days == 0) with
    | true => rw [show (h.Days != 0) = false from by unfold bne; rw [hd]; rfl]; cases b <;> rfl
    | false => rw [show (h.Days != 0) = true from by unfold bne; rw [hd]; rfl]; cases b <;> rfl
  · rw [show (h.Kind == 3) = false from beq_eq_false_iff_ne.2 k3]
    rfl
theorem valid_loop {f : Int → Option (Int ⊕ (Unit ⊕ Unit))} (l : List GHeir) (hf : ∀ (i : Nat) (hi : i < l.length), f (i : Int) = some (match validG l[i] (l.take i) with | .inl _ => .inl ((i + 1 : Nat) : Int) | .inr r => .inr r)) (he : f (l.length : Int) = some (.inr (.inl ()))) : fixL f 0 = some (validE l) := by
  refine fixL_list0 (f := f) l (fun i (_ : List GHeir) => (i : Int)) (fun i a => a = l.take i) validG (fun _ => .inl ()) [] (by simp) ?_ ?_ ?_
  · rintro i hi a rfl
    rw [hf i hi]
    cases validG l[i] (l.take i) <;> rfl
  · rintro i hi a a' rfl hg
    unfold validG at hg
    split at hg
    · cases hg; simp
    · cases hg
  · rintro a _
    exact he
theorem conversion_valid_eq (l : List GHeir) : conversion_valid l = some (validL l) := by
  show conversion_valid_p9 l = _
  unfold conversion_valid_p9 validL
  by_cases h : 12 < l.length
  · rw [if_pos h, decide_eq_true (by omega)]; rfl
  · rw [if_neg h, decide_eq_false (by omega), cond_false]
    show (fixL (conversion_valid_l1 l) 0).bind _ = _
    rw [valid_loop (f := conversion_valid_l1 l) l (fun i hi => valid_step l i hi (by omega)) ?_, Option.bind_some]
    · cases validE l <;> rfl
    · show conversion_valid_p6 l l.length = _
      unfold conversion_valid_p6
      rw [not_lt_len, cond_false]
theorem validE_all : ∀ (l pre : List GHeir), runE validG (fun _ => Sum.inl ()) l pre = (Sum.inl () : Unit ⊕ Unit) → ∀ h ∈ l, heirB h = true
  | [], _, _, _, hm => by simp at hm
  | x :: l, pre, e, h, hm => by
    unfold runE validG at e
    cases hb : (heirB x && !(pre.any fun y => y.Person == x.Person)) with
    | false => rw [hb] at e; simp at e
    | true =>
      rw [hb, if_pos rfl] at e
      rw [Bool.and_eq_true] at hb
      rcases List.mem_cons.1 hm with rfl | hm
      · exact hb.1
      · exact validE_all l _ e h hm
theorem validL_facts {l : List GHeir} (h : validL l = true) : l.length ≤ 12 ∧ ∀ x ∈ l, heirB x = true := by
  unfold validL at h
  split at h
  · cases h
  · next hn =>
    refine ⟨by omega, ?_⟩
    split at h
    · next u hu => exact validE_all l [] hu
    · cases h
end Go.Ax
