import Derived.Test.YtchffdmfiffifaaL20
set_option linter.all false
/- The average of all years. -/
set_option maxRecDepth 100000
namespace Go.Ax
open Go.Proofs

/-- A yearly amount that is allowed. -/
def amountB (x : Int) : Bool := decide (0 ≤ x) && decide (x ≤ 1000000000000)
def baseStep (x : Int) (s : Int) : Int ⊕ (Unit ⊕ Int) := if amountB x then .inl (s + x) else .inr (.inl ())
def sumE (l : List Int) : Unit ⊕ Int := runE baseStep .inr l 0
theorem sumE_inr : ∀ (l : List Int) (s r : Int), runE baseStep Sum.inr l s = .inr r → 0 ≤ s → r = s + l.sum ∧ 0 ≤ r ∧ (∀ x ∈ l, amountB x = true) ∧ r ≤ s + 1000000000000 * l.length
  | [], s, r, h, h0 => by
    cases h; simp; omega
  | x :: l, s, r, h, h0 => by
    unfold runE baseStep at h
    by_cases hx : amountB x = true
    · rw [if_pos hx] at h
      have hb : 0 ≤ x ∧ x ≤ 1000000000000 := by simpa [amountB] using hx
      have := sumE_inr l (s + x) r h (by omega)
      refine ⟨?_, this.2.1, ?_, ?_⟩
      · rw [List.sum_cons]; omega
      · intro y hy
        rcases List.mem_cons.1 hy with rfl | hy
        · exact hx
        · exact this.2.2.1 y hy
      · rw [List.length_cons]; omega
    · rw [if_neg hx] at h; cases h
theorem base_loop {f : Int × Int → Option ((Int × Int) ⊕ (Unit ⊕ Int))} (l : List Int) (hl : l.length ≤ 200)
    (hf : ∀ (i : Nat) (s : Int), (hi : i < l.length) → f (s, (i : Int)) = some (if amountB l[i] then .inl (w64 (s + l[i]), ((i + 1 : Nat) : Int)) else .inr (.inl ())))
    (he : ∀ s : Int, f (s, (l.length : Int)) = some (.inr (.inr s))) : fixL f (0, 0) = some (sumE l) := by
  refine fixL_list0 (f := f) l (fun i s => (s, (i : Int))) (fun i s => 0 ≤ s ∧ s ≤ 1000000000000 * i) baseStep .inr 0 (by simp) ?_ ?_ ?_
  · intro i hi s hs
    rw [hf i s hi]
    unfold baseStep
    by_cases hx : amountB l[i] = true
    · have hb : 0 ≤ l[i] ∧ l[i] ≤ 1000000000000 := by simpa [amountB] using hx
      rw [if_pos hx, if_pos hx, w64_in (by omega) (by omega)]
    · rw [if_neg hx, if_neg hx]
  · intro i hi s s' hs hg
    unfold baseStep at hg
    by_cases hx : amountB l[i] = true
    · have hb : 0 ≤ l[i] ∧ l[i] ≤ 1000000000000 := by simpa [amountB] using hx
      rw [if_pos hx] at hg
      cases hg
      omega
    · rw [if_neg hx] at hg; cases hg
  · intro s hs
    exact he s
theorem amount_bools (x : Int) : (bif (decide (x < (0 : Int))) then true else (decide ((1000000000000 : Int) < x))) = !amountB x := by
  unfold amountB
  by_cases h1 : x < 0
  · simp [h1]
  · by_cases h2 : 1000000000000 < x
    · simp [h1, h2]
    · have : 0 ≤ x := by omega
      have h3 : x ≤ 1000000000000 := by omega
      simp [h1, h2, this, h3]
theorem gdT {α : Type} {p : Prop} {o : Option α} (hp : p) : gd p o = o := gd_pos hp
theorem earnings_Base_loop (l : List Int) (hl : l.length ≤ 200) : fixL (earnings_Base_l1 l) (0, 0) = some (sumE l) := by
  refine base_loop l hl (fun i s hi => ?_) (fun s => ?_)
  · show earnings_Base_p0 l s i = _
    unfold earnings_Base_p0
    rw [lt_len hi, cond_true, gd_pos (idx_ok hi), getD_nat l 0 i hi, amount_bools, w64_succ (by omega)]
    cases amountB l[i] <;> rfl
  · show earnings_Base_p0 l s l.length = _
    unfold earnings_Base_p0
    rw [not_lt_len, cond_false]
theorem ref16_Base_loop (l : List Int) (hl : l.length ≤ 200) : fixL (ref16_Base_l1 l) (0, 0) = some (sumE l) := by
  refine base_loop l hl (fun i s hi => ?_) (fun s => ?_)
  · show ref16_Base_p0 l s i = _
    unfold ref16_Base_p0
    rw [lt_len hi, cond_true, gd_pos (idx_ok hi), gd_pos (fun _ => (idx_ok hi).1), gd_pos (fun _ => (idx_ok hi).2), gd_pos (idx_ok hi), getD_nat l 0 i hi, amount_bools, w64_succ (by omega)]
    cases amountB l[i] <;> rfl
  · show ref16_Base_p0 l s l.length = _
    unfold ref16_Base_p0
    rw [not_lt_len, cond_false]

/-- The average of yearly amounts. -/
def baseL (l : List Int) : GFraction × Int :=
  if 200 < l.length then (⟨0, 0⟩, 1) else match sumE l with | .inl _ => (⟨0, 0⟩, 1) | .inr s => fracN s.toNat (max l.length 1)
theorem earnings_Base_eq (l : List Int) : earnings_Base l = some (baseL l) := by
  show earnings_Base_p3 l = _
  unfold earnings_Base_p3 baseL
  by_cases h : 200 < l.length
  · rw [if_pos h, decide_eq_true (by omega)]; rfl
  · rw [if_neg h, decide_eq_false (by omega), cond_false]
    show (fixL (earnings_Base_l1 l) (0, 0)).bind _ = _
    rw [earnings_Base_loop l (by omega), Option.bind_some]
    cases hs : sumE l with
    | inl u => rfl
    | inr s =>
      show earnings_Base_p1 l s = _
      have hr := sumE_inr l 0 s hs (by omega)
      unfold earnings_Base_p1
      by_cases h0 : l.length = 0
      · have : l = [] := List.length_eq_zero_iff.1 h0
        subst this
        have hs0 : s = 0 := by simpa using hr.1
        subst hs0
        rfl
      · have e0 : ((l.length : Int) == 0) = false := beq_eq_false_iff_ne.2 (by omega)
        rw [e0, cond_false]
        obtain ⟨k, rfl⟩ : ∃ k : Nat, s = (k : Int) := ⟨s.toNat, by omega⟩
        rw [rational_Make_nat k l.length (by omega) (by omega) (by omega), Option.bind_some]
        show some (fracN k l.length) = some (fracN (k : Int).toNat (max l.length 1))
        rw [Int.toNat_natCast, show max l.length 1 = l.length by omega]
theorem ref16_Base_eq (l : List Int) : ref16_Base l = some (baseL l) := by
  show ref16_Base_p3 l = _
  unfold ref16_Base_p3 baseL
  by_cases h : 200 < l.length
  · rw [if_pos h, decide_eq_true (by omega)]; rfl
  · rw [if_neg h, decide_eq_false (by omega), cond_false]
    show (fixL (ref16_Base_l1 l) (0, 0)).bind _ = _
    rw [ref16_Base_loop l (by omega), Option.bind_some]
    cases hs : sumE l with
    | inl u => rfl
    | inr s =>
      show ref16_Base_p1 l s = _
      have hr := sumE_inr l 0 s hs (by omega)
      unfold ref16_Base_p1
      obtain ⟨k, rfl⟩ : ∃ k : Nat, s = (k : Int) := ⟨s.toNat, by omega⟩
      rw [show (if ((l.length : Nat) : Int) < (1 : Int) then (1 : Int) else ((l.length : Nat) : Int)) = ((max l.length 1 : Nat) : Int) by split <;> omega]
      rw [ref1_Make_nat k (max l.length 1) (by omega) (by omega) (by omega), Option.bind_some]
      rfl

theorem pickList_loop {R : Type} {f : List Int × Int → Option ((List Int × Int) ⊕ R)} (fin : List Int → R) (l : List Int) (hl : l.length ≤ 1000) (g : Int → Int)
    (hf : ∀ (i : Nat) (m : List Int), (hi : i < l.length) → m.length = i → f (m, (i : Int)) = some (.inl (m ++ [g l[i]], ((i + 1 : Nat) : Int))))
    (he : ∀ m : List Int, f (m, (l.length : Int)) = some (.inr (fin m))) : fixL f ([], 0) = some (fin (l.map g)) := by
  have := fixL_list0 (f := f) l (fun i m => (m, (i : Int))) (fun i m => m.length = i) (fun x m => .inl (m ++ [g x])) fin [] rfl
    (fun i hi m hm => by rw [hf i m hi hm]) (fun i hi m m' hm hg => by cases hg; simp [hm]) (fun m hm => he m)
  rw [show (([] : List Int), (0 : Int)) = (([] : List Int), ((0 : Nat) : Int)) from rfl, this, runE_fold]
  congr 2
  have : ∀ (l a : List Int), l.foldl (fun a x => a ++ [g x]) a = a ++ l.map g := by
    intro l
    induction l with
    | nil => intro a; simp
    | cons x l ih => intro a; rw [List.foldl_cons, ih]; simp
  rw [this, List.nil_append]

theorem law_EarningsBase (l : List Int) (raw : Bool) : law19_EarningsBase l raw = some true := by
  show law19_EarningsBase_p3 l raw = _
  unfold law19_EarningsBase_p3
  by_cases h : 260 < l.length
  · rw [decide_eq_true (by omega)]; rfl
  · rw [decide_eq_false (by omega), cond_false]
    show (fixL (law19_EarningsBase_l1 l raw) ([], 0)).bind _ = _
    rw [pickList_loop (f := law19_EarningsBase_l1 l raw) id l (by omega) (fun x => if raw then x else x % 100000000) ?_ ?_, Option.bind_some]
    · show law19_EarningsBase_p1 _ = _
      unfold law19_EarningsBase_p1
      rw [earnings_Base_eq, Option.bind_some, ref16_Base_eq, Option.bind_some, law19_awake_eq, Option.bind_some]
      simp
    · intro i m hi hm
      show law19_EarningsBase_p0 l raw m i = _
      unfold law19_EarningsBase_p0
      rw [lt_len hi, cond_true, gd_pos (idx_ok hi), getD_nat l 0 i hi, w64_succ (by omega)]
      cases raw with
      | true =>
        rw [show (!true) = false from rfl, cond_false, gd_pos (capB_ok (by omega) (by omega))]
        rfl
      | false =>
        rw [show (!false) = true from rfl, cond_true, made_Pick_eq _ _ (by omega), Option.bind_some, gd_pos (capB_ok (by omega) (by omega)), if_neg (by omega)]
        rfl
    · intro m
      show law19_EarningsBase_p0 l raw m l.length = _
      unfold law19_EarningsBase_p0
      rw [not_lt_len, cond_false]
      rfl
end Go.Ax
