import Derived.Test.YtkijjjdaijjpaaaGreatL0
import Derived.Test.YtkijjjdaijjpaaaGreatFs
import Derived.Test.YtkijjjdaijjpaaaGreatLV1
set_option linter.all false
/- Conversion: benefits, shares, parts. -/
set_option maxRecDepth 100000
namespace Go.Ax
theorem find_loop {T : Type} {f : Int → Option (Int ⊕ (Int ⊕ Unit))} (l : List T) (p : T → Bool) (hl : l.length ≤ 9223372036854775807)
    (hf : ∀ (i : Nat) (hi : i < l.length), f (i : Int) = some (if p l[i] then .inr (.inl (i : Int)) else .inl (w64 ((i : Int) + 1))))
    (he : f (l.length : Int) = some (.inr (.inr ()))) : ∀ (n i : Nat), l.length = i + n → fixL f (i : Int) = some (match (l.drop i).findIdx? p with | some k => .inl (((i + k : Nat)) : Int) | none => .inr ())
  | 0, i, h => by
    have : i = l.length := by omega
    subst this
    rw [fixL_eq, he, List.drop_length]
    rfl
  | n + 1, i, h => by
    have hi : i < l.length := by omega
    rw [fixL_eq, hf i hi, List.drop_eq_getElem_cons hi, List.findIdx?_cons]
    cases hp : p l[i] with
    | true => simp
    | false =>
      rw [if_neg (by simp), w64_succ (by omega)]
      show fixL f ((i + 1 : Nat) : Int) = _
      rw [find_loop l p hl hf he n (i + 1) (by omega)]
      cases hq : (l.drop (i + 1)).findIdx? p with
      | none => rfl
      | some k => simp; omega
/-- The index of the first element that p takes; -1 if there is none. -/
def ixL {T : Type} (p : T → Bool) (l : List T) : Int := match l.findIdx? p with | some k => (k : Int) | none => -1
theorem find_loop0 {T : Type} {f : Int → Option (Int ⊕ (Int ⊕ Unit))} (l : List T) (p : T → Bool) (hl : l.length ≤ 9223372036854775807)
    (hf : ∀ (i : Nat) (hi : i < l.length), f (i : Int) = some (if p l[i] then .inr (.inl (i : Int)) else .inl (w64 ((i : Int) + 1))))
    (he : f (l.length : Int) = some (.inr (.inr ()))) : fixL f 0 = some (match l.findIdx? p with | some k => .inl (k : Int) | none => .inr ()) := by
  have := find_loop l p hl hf he l.length 0 (by omega)
  simpa using this
def cntB (old n : GNet) : Bool := (n.State == old.State && n.Benefit == 1) && decide (0 < n.Amount)
def disB (old n : GNet) : Bool := (n.State == old.State && n.Benefit == 2) && n.Currency == old.Currency
theorem IndexFunc1_eq (l : List GNet) (x : GNet) (hl : l.length ≤ 2513169434843) : slices_IndexFunc_api_Net_api_Net_Convert_1 l x = some (ixL (cntB x) l) := by
  show (fixL (slices_IndexFunc_api_Net_api_Net_Convert_1_l1 l x) 0).bind _ = _
  rw [find_loop0 l (cntB x) (by omega) ?_ ?_, Option.bind_some]
  · unfold ixL
    cases l.findIdx? (cntB x) <;> rfl
  · intro i hi
    show slices_IndexFunc_api_Net_api_Net_Convert_1_p0 l x i = _
    unfold slices_IndexFunc_api_Net_api_Net_Convert_1_p0
    rw [lt_len hi, cond_true, gd_pos (idx_ok hi), getD_nat l zGNet i hi]
    show (conversion_Convert_1_p0 l[i] x).bind _ = _
    unfold conversion_Convert_1_p0
    rw [Option.bind_some, cond_and, cond_and]
    show (bif cntB x l[i] then _ else _) = _
    cases cntB x l[i] <;> rfl
  · show slices_IndexFunc_api_Net_api_Net_Convert_1_p0 l x l.length = _
    unfold slices_IndexFunc_api_Net_api_Net_Convert_1_p0
    rw [not_lt_len, cond_false]
theorem IndexFunc2_eq (l : List GNet) (x : GNet) (hl : l.length ≤ 2513169434843) : slices_IndexFunc_api_Net_api_Net_Convert_2 l x = some (ixL (disB x) l) := by
  show (fixL (slices_IndexFunc_api_Net_api_Net_Convert_2_l1 l x) 0).bind _ = _
  rw [find_loop0 l (disB x) (by omega) ?_ ?_, Option.bind_some]
  · unfold ixL
    cases l.findIdx? (disB x) <;> rfl
  · intro i hi
    show slices_IndexFunc_api_Net_api_Net_Convert_2_p0 l x i = _
    unfold slices_IndexFunc_api_Net_api_Net_Convert_2_p0
    rw [lt_len hi, cond_true, gd_pos (idx_ok hi), getD_nat l zGNet i hi]
    show (conversion_Convert_2_p0 l[i] x).bind _ = _
    unfold conversion_Convert_2_p0
    rw [Option.bind_some, cond_and, cond_and]
    show (bif disB x l[i] then _ else _) = _
    cases disB x l[i] <;> rfl
  · show slices_IndexFunc_api_Net_api_Net_Convert_2_p0 l x l.length = _
    unfold slices_IndexFunc_api_Net_api_Net_Convert_2_p0
    rw [not_lt_len, cond_false]
theorem ixL_cases {T : Type} (p : T → Bool) (l : List T) : (ixL p l = -1 ∧ l.findIdx? p = none) ∨ ∃ k, ∃ h : k < l.length, ixL p l = (k : Int) ∧ l.findIdx? p = some k ∧ p l[k] = true := by
  unfold ixL
  cases h : l.findIdx? p with
  | none => exact .inl ⟨rfl, rfl⟩
  | some k =>
    obtain ⟨h1, h2, _⟩ := List.findIdx?_eq_some_iff_getElem.1 h
    exact .inr ⟨k, h1, rfl, rfl, h2⟩

/-- One benefit's effect on the amounts, and on those that disappear. -/
def stepC (l : List GNet) (x : GNet) (i : Nat) (s : List Int × List Bool) : List Int × List Bool :=
  if ixL (cntB x) l = (i : Int) then (match l.findIdx? (disB x) with | some k => (s.1.set i (max x.Amount (l.getD k zGNet).Amount), s.2.set k true) | none => s) else s
def keepL : List GNet → List Int → List Bool → List GNet
  | x :: l, a :: am, b :: lf => if b then keepL l am lf else ⟨x.State, x.Benefit, x.Currency, x.Independent, x.ProRata, x.Deducted, a⟩ :: keepL l am lf
  | _, _, _ => []
def convG {R : Type} (l : List GNet) (x : GNet) (a : (List Int × List Bool) × Nat) : ((List Int × List Bool) × Nat) ⊕ R := .inl (stepC l x a.2 a.1, a.2 + 1)
def convS (l : List GNet) : List Int × List Bool := runE (convG l) (·.1) l ((l.map (·.Amount), List.replicate l.length false), 0)
def convL (l : List GNet) : List GNet := keepL l (convS l).1 (convS l).2
def setA (x : GNet) (a : Int) : GNet := ⟨x.State, x.Benefit, x.Currency, x.Independent, x.ProRata, x.Deducted, a⟩
theorem stepC_len {l : List GNet} {x : GNet} {i : Nat} {s : List Int × List Bool} : (stepC l x i s).1.length = s.1.length ∧ (stepC l x i s).2.length = s.2.length := by
  unfold stepC
  split
  · split <;> simp
  · simp
theorem runE_convG (l : List GNet) : ∀ (r : List GNet) (a : (List Int × List Bool) × Nat), (runE (convG l) (·.1) r a).1.length = a.1.1.length ∧ (runE (convG l) (·.1) r a).2.length = a.1.2.length
  | [], a => ⟨rfl, rfl⟩
  | x :: r, a => by
    show (runE (convG l) (·.1) r (stepC l x a.2 a.1, a.2 + 1)).1.length = _ ∧ (runE (convG l) (·.1) r (stepC l x a.2 a.1, a.2 + 1)).2.length = _
    have := runE_convG l r (stepC l x a.2 a.1, a.2 + 1)
    have h2 := @stepC_len l x a.2 a.1
    exact ⟨this.1.trans h2.1, this.2.trans h2.2⟩
theorem convS_len (l : List GNet) : (convS l).1.length = l.length ∧ (convS l).2.length = l.length := by
  have := runE_convG l l ((l.map (·.Amount), List.replicate l.length false), 0)
  simpa [convS] using this
theorem max_eq (a b : Int) : (if a < b then b else a) = max a b := by omega
theorem conv_loop2 (l : List GNet) (am0 : List Int) (lf0 : List Bool) (hl : l.length ≤ 2513169434843) : fixL (conversion_Convert_l2 l am0 lf0) (l.map (·.Amount), List.replicate l.length false, 0) = some (convS l) := by
  have := fixL_list0 (f := conversion_Convert_l2 l am0 lf0) l (fun i (a : (List Int × List Bool) × Nat) => (a.1.1, a.1.2, (i : Int))) (fun i a => a.2 = i ∧ a.1.1.length = l.length ∧ a.1.2.length = l.length) (convG l) (·.1) ((l.map (·.Amount), List.replicate l.length false), 0) ⟨rfl, by simp, by simp⟩ ?_ ?_ ?_
  · exact this
  · rintro i hi ⟨⟨am, lf⟩, j⟩ ⟨rfl, h1, h2⟩
    show conversion_Convert_p1 l am lf j = some (.inl ((stepC l l[j] j (am, lf)).1, (stepC l l[j] j (am, lf)).2, ((j + 1 : Nat) : Int)))
    have h1 : am.length = l.length := h1
    have h2 : lf.length = l.length := h2
    have hi : j < l.length := hi
    unfold conversion_Convert_p1
    rw [lt_len hi, cond_true, gd_pos (idx_ok hi), getD_nat l zGNet j hi, IndexFunc1_eq l _ hl, Option.bind_some, w64_succ (by omega)]
    unfold stepC
    by_cases hc : ixL (cntB l[j]) l = (j : Int)
    · rw [show (ixL (cntB l[j]) l != (j : Int)) = false from by rw [hc]; simp, cond_false, if_pos hc, IndexFunc2_eq l _ hl, Option.bind_some]
      rcases ixL_cases (disB l[j]) l with ⟨e1, e2⟩ | ⟨k, hk, e1, e2, e3⟩
      · rw [e1, e2, decide_eq_false (by omega), cond_false]
      · rw [e1, e2, decide_eq_true (by omega), cond_true, gd_pos (idx_ok hk), gd_pos (by omega), gd_pos (by omega), Nat.zero_add, Nat.zero_add, Int.toNat_natCast, Int.toNat_natCast, max_eq]
    · rw [show (ixL (cntB l[j]) l != (j : Int)) = true from by simpa using hc, cond_true, if_neg hc]
  · rintro i hi ⟨⟨am, lf⟩, j⟩ a' ⟨rfl, h1, h2⟩ hg
    cases hg
    have := @stepC_len l l[j] j (am, lf)
    exact ⟨rfl, this.1.trans h1, this.2.trans h2⟩
  · rintro ⟨⟨am, lf⟩, j⟩ ⟨h0, h1, h2⟩
    show conversion_Convert_p1 l am lf l.length = _
    unfold conversion_Convert_p1
    rw [not_lt_len, cond_false]
theorem take_set_succ {T : Type} (v : T) : ∀ (l : List T) (i : Nat), i < l.length → (l.set i v).take (i + 1) = l.take i ++ [v]
  | [], i, h => by simp at h
  | x :: l, 0, h => by simp
  | x :: l, i + 1, h => by
    have := take_set_succ v l i (by simpa using h)
    simp [this]
theorem conv_loop1 (l : List GNet) (lf : List Bool) (am0 : List Int) (hl : l.length ≤ 2513169434843) : ∀ (n i : Nat) (am : List Int), l.length = i + n → am.length = l.length → fixL (conversion_Convert_l1 l am0 lf) (am, (i : Int)) = some (am.take i ++ (l.drop i).map (·.Amount))
  | 0, i, am, h, ha => by
    have : i = l.length := by omega
    subst this
    rw [fixL_eq]
    show (conversion_Convert_p0 l am lf l.length).bind _ = _
    unfold conversion_Convert_p0
    rw [not_lt_len, cond_false, List.drop_length, List.take_of_length_le (by omega)]
    simp
  | n + 1, i, am, h, ha => by
    have hi : i < l.length := by omega
    rw [fixL_eq]
    show (conversion_Convert_p0 l am lf i).bind _ = _
    unfold conversion_Convert_p0
    rw [lt_len hi, cond_true, gd_pos (idx_ok hi), gd_pos (by omega), getD_nat l zGNet i hi, w64_succ (by omega), Nat.zero_add, Int.toNat_natCast]
    show fixL (conversion_Convert_l1 l am0 lf) (am.set i l[i].Amount, ((i + 1 : Nat) : Int)) = _
    rw [conv_loop1 l lf am0 hl n (i + 1) _ (by omega) (by simpa using ha), List.drop_eq_getElem_cons hi, List.map_cons]
    rw [take_set_succ _ _ _ (by omega), List.append_assoc]
    rfl
theorem conv_loop3 (l : List GNet) (am : List Int) (lf : List Bool) (a0 : List Int) (b0 : List Bool) (hl : l.length ≤ 2513169434843) (h1 : am.length = l.length) (h2 : lf.length = l.length) : ∀ (n i : Nat) (out : List GNet), l.length = i + n → out.length ≤ i →
    fixL (conversion_Convert_l3 a0 b0 l) (am, lf, out, (i : Int)) = some (out ++ keepL (l.drop i) (am.drop i) (lf.drop i))
  | 0, i, out, h, ho => by
    have : i = l.length := by omega
    subst this
    rw [fixL_eq]
    show (conversion_Convert_p2 am lf out l l.length).bind _ = _
    unfold conversion_Convert_p2
    rw [not_lt_len, cond_false, List.drop_length]
    simp [keepL]
  | n + 1, i, out, h, ho => by
    have hi : i < l.length := by omega
    rw [fixL_eq]
    show (conversion_Convert_p2 am lf out l i).bind _ = _
    unfold conversion_Convert_p2
    rw [lt_len hi, cond_true, gd_pos (idx_ok hi), gd_pos (by omega), getD_nat0 lf false i (by omega), w64_succ (by omega), List.drop_eq_getElem_cons hi, List.drop_eq_getElem_cons (l := am) (by omega), List.drop_eq_getElem_cons (l := lf) (by omega)]
    unfold keepL
    cases hb : lf[i]'(by omega) with
    | true =>
      rw [if_pos rfl]
      show fixL (conversion_Convert_l3 a0 b0 l) (am, lf, out, ((i + 1 : Nat) : Int)) = _
      exact conv_loop3 l am lf a0 b0 hl h1 h2 n (i + 1) out (by omega) (by omega)
    | false =>
      rw [if_neg (by simp), show (!false) = true from rfl, cond_true, gd_pos (by omega), gd_pos (capB_ok (by omega) (by omega)), getD_nat l zGNet i hi, getD_nat0 am 0 i (by omega)]
      show fixL (conversion_Convert_l3 a0 b0 l) (am, lf, out ++ [_], ((i + 1 : Nat) : Int)) = _
      rw [conv_loop3 l am lf a0 b0 hl h1 h2 n (i + 1) _ (by omega) (by simp; omega), List.append_assoc]
      rfl
theorem conversion_Convert_eq (l : List GNet) (hl : l.length ≤ 2513169434843) : conversion_Convert l = some (convL l) := by
  show conversion_Convert_p9 l = _
  unfold conversion_Convert_p9
  rw [gd_pos (by omega), gd_pos (by omega)]
  show (fixL (conversion_Convert_l1 l (List.replicate l.length 0) (List.replicate l.length false)) (List.replicate l.length 0, ((0 : Nat) : Int))).bind _ = _
  rw [conv_loop1 l _ _ hl l.length 0 _ (by omega) (by simp), Option.bind_some, List.take_zero, List.drop_zero, List.nil_append]
  show (fixL (conversion_Convert_l2 l (l.map (·.Amount)) (List.replicate l.length false)) (l.map (·.Amount), List.replicate l.length false, 0)).bind _ = _
  rw [conv_loop2 l _ _ hl, Option.bind_some]
  have hs := convS_len l
  show (fixL (conversion_Convert_l3 (convS l).1 (convS l).2 l) ((convS l).1, (convS l).2, [], ((0 : Nat) : Int))).bind _ = _
  rw [conv_loop3 l _ _ _ _ hl hs.1 hs.2 l.length 0 [] (by omega) (by simp), Option.bind_some]
  rfl
theorem emod_rng (x : Int) {m : Int} (h : 0 < m) : 0 ≤ x % m ∧ x % m < m := ⟨Int.emod_nonneg _ (by omega), Int.emod_lt_of_pos _ h⟩
def amountL (n : Int) : Int :=
  if n % 8 = 0 then 0 else if n % 8 = 1 then 1000000000000 - w64 (Int.tdiv n 8) % 1000 else if n % 8 = 2 then w64 (Int.tdiv n 8) % 1000000000001 else w64 (Int.tdiv n 8) % 5000
theorem amountL_range (n : Int) : 0 ≤ amountL n ∧ amountL n ≤ 1000000000000 := by
  unfold amountL
  have h1 := emod_rng (w64 (Int.tdiv n 8)) (m := 1000) (by omega)
  have h2 := emod_rng (w64 (Int.tdiv n 8)) (m := 1000000000001) (by omega)
  have h3 := emod_rng (w64 (Int.tdiv n 8)) (m := 5000) (by omega)
  split
  · omega
  split
  · omega
  split
  · omega
  · omega
def heirB (h : GHeir) : Bool := (decide (1 ≤ h.Person) && decide (h.Person ≤ 99)) && (if h.Kind = 1 then decide (1 ≤ h.Days) && decide (h.Days ≤ 73049) else (h.Kind == 2 || h.Kind == 3) && h.Days == 0)
def validG (h : GHeir) (pre : List GHeir) : List GHeir ⊕ (Unit ⊕ Unit) := if heirB h && !(pre.any fun x => x.Person == h.Person) then .inl (pre ++ [h]) else .inr (.inr ())
def validE (l : List GHeir) : Unit ⊕ Unit := runE validG (fun _ => .inl ()) l []
def validL (l : List GHeir) : Bool := if 12 < l.length then false else match validE l with | .inl _ => true | .inr _ => false
theorem valid_inner (l : List GHeir) (q0 : Int) (t : List GHeir) (a0 : Int) (h : GHeir) (q : Int) (ht : t.length ≤ 1000) : ∀ (m k : Nat), t.length = k + m →
    fixL (conversion_valid_l2 l q0 t a0 h) (q, (t.length : Int), (k : Int)) = some (if (t.drop k).any (fun x => x.Person == h.Person) then .inr () else .inl q)
  | 0, k, e => by
    have : k = t.length := by omega
    subst this
    rw [fixL_eq]
    show (conversion_valid_p0 l q t t.length t.length h).bind _ = _
    unfold conversion_valid_p0
    rw [not_lt_len, cond_false, List.drop_length]
    rfl
  | m + 1, k, e => by
    have hk : k < t.length := by omega
    rw [fixL_eq]
    show (conversion_valid_p0 l q t t.length k h).bind _ = _
    unfold conversion_valid_p0
    rw [lt_len hk, cond_true, gd_pos (idx_ok hk), getD_nat t zGHeir k hk, w64_succ (by omega), List.drop_eq_getElem_cons hk, List.any_cons]
    cases hp : (t[k].Person == h.Person) with
    | true => rfl
    | false =>
      rw [Bool.false_or]
      exact valid_inner l q0 t a0 h q ht m (k + 1) (by omega)
theorem valid_step (l : List GHeir) (i : Nat) (hi : i < l.length) (hl : l.length ≤ 1000) : conversion_valid_p6 l i = some (match validG l[i] (l.take i) with | .inl _ => .inl ((i + 1 : Nat) : Int) | .inr r => .inr r) := by
  unfold conversion_valid_p6
  rw [lt_len hi, cond_true]
  show conversion_valid_p4 l i = _
  unfold conversion_valid_p4
  rw [gd_pos (idx_ok hi), getD_nat l zGHeir i hi]
  have key : conversion_valid_p3 l i i l[i] = some (if (l.take i).any (fun x => x.Person == l[i].Person) then .inr (.inr ()) else .inl ((i + 1 : Nat) : Int)) := by
    unfold conversion_valid_p3
    rw [gd_pos (by omega), show Int.toNat ((i : Int) - 0) = i by omega, subL_take (by omega), List.drop_zero]
    have ht : (l.take i).length = i := by simp; omega
    show (fixL (conversion_valid_l2 l i (l.take i) i l[i]) ((i : Int), ((i : Nat) : Int), ((0 : Nat) : Int))).bind _ = _
    have := valid_inner l i (l.take i) i l[i] i (by omega) i 0 (by omega)
    rw [ht] at this
    rw [this, Option.bind_some, List.drop_zero]
    split
    · rfl
    · show conversion_valid_p1 l i = _
      unfold conversion_valid_p1
      rw [w64_succ (by omega)]
  rw [key]
  generalize l[i] = h
  unfold validG heirB
  generalize (l.take i).any (fun x => x.Person == h.Person) = b
  simp only [cond_or]
  by_cases p1 : h.Person < 1
  · simp [p1, show ¬ 1 ≤ h.Person by omega]
  by_cases p2 : 99 < h.Person
  · simp [p1, p2, show ¬ h.Person ≤ 99 by omega]
  have e1 : decide (1 ≤ h.Person) = true := by simp; omega
  have e2 : decide (h.Person ≤ 99) = true := by simp; omega
  rw [decide_eq_false p1, decide_eq_false p2, e1, e2]
  simp only [Bool.or_false, cond_false, Bool.true_and, Bool.and_true]
  by_cases k1 : h.Kind = 1
  · rw [if_pos k1, show (h.Kind == 1) = true from beq_iff_eq.2 k1, cond_true]
    by_cases d1 : h.Days < 1
    · simp [d1, show ¬ 1 ≤ h.Days by omega]
    by_cases d2 : 73049 < h.Days
    · simp [d1, d2, show ¬ h.Days ≤ 73049 by omega]
    have f1 : decide (1 ≤ h.Days) = true := by simp; omega
    have f2 : decide (h.Days ≤ 73049) = true := by simp; omega
    rw [decide_eq_false d1, decide_eq_false d2, f1, f2]
    cases b <;> rfl
  rw [if_neg k1, show (h.Kind == 1) = false from beq_eq_false_iff_ne.2 k1, cond_false]
  by_cases k2 : h.Kind = 2
  · rw [show (h.Kind == 2) = true from beq_iff_eq.2 k2]
    simp only [cond_true, Bool.true_or, Bool.true_and]
    cases hd : (h.Days == 0) with
    | true => rw [show (h.Days != 0) = false from by unfold bne; rw [hd]; rfl]; cases b <;> rfl
    | false => rw [show (h.Days != 0) = true from by unfold bne; rw [hd]; rfl]; cases b <;> rfl
  rw [show (h.Kind == 2) = false from beq_eq_false_iff_ne.2 k2, cond_false]
  by_cases k3 : h.Kind = 3
  · rw [show (h.Kind == 3) = true from beq_iff_eq.2 k3]
    simp only [cond_true, Bool.false_or, Bool.true_and]
    cases hd : (h.Days == 0) with
    | true => rw [show (h.Days != 0) = false from by unfold bne; rw [hd]; rfl]; cases b <;> rfl
    | false => rw [show (h.Days != 0) = true from by unfold bne; rw [hd]; rfl]; cases b <;> rfl
  · rw [show (h.Kind == 3) = false from beq_eq_false_iff_ne.2 k3]
    rfl
theorem valid_loop {f : Int → Option (Int ⊕ (Unit ⊕ Unit))} (l : List GHeir) (hf : ∀ (i : Nat) (hi : i < l.length), f (i : Int) = some (match validG l[i] (l.take i) with | .inl _ => .inl ((i + 1 : Nat) : Int) | .inr r => .inr r)) (he : f (l.length : Int) = some (.inr (.inl ()))) : fixL f 0 = some (validE l) := by
  refine fixL_list0 (f := f) l (fun i (_ : List GHeir) => (i : Int)) (fun i a => a = l.take i) validG (fun _ => .inl ()) [] (by simp) ?_ ?_ ?_
  · rintro i hi a rfl
    rw [hf i hi]
    cases validG l[i] (l.take i) <;> rfl
  · rintro i hi a a' rfl hg
    unfold validG at hg
    split at hg
    · cases hg; simp
    · cases hg
  · rintro a _
    exact he
theorem conversion_valid_eq (l : List GHeir) : conversion_valid l = some (validL l) := by
  show conversion_valid_p9 l = _
  unfold conversion_valid_p9 validL
  by_cases h : 12 < l.length
  · rw [if_pos h, decide_eq_true (by omega)]; rfl
  · rw [if_neg h, decide_eq_false (by omega), cond_false]
    show (fixL (conversion_valid_l1 l) 0).bind _ = _
    rw [valid_loop (f := conversion_valid_l1 l) l (fun i hi => valid_step l i hi (by omega)) ?_, Option.bind_some]
    · cases validE l <;> rfl
    · show conversion_valid_p6 l l.length = _
      unfold conversion_valid_p6
      rw [not_lt_len, cond_false]
theorem validE_all : ∀ (l pre : List GHeir), runE validG (fun _ => Sum.inl ()) l pre = (Sum.inl () : Unit ⊕ Unit) → ∀ h ∈ l, heirB h = true
  | [], _, _, _, hm => by simp at hm
  | x :: l, pre, e, h, hm => by
    unfold runE validG at e
    cases hb : (heirB x && !(pre.any fun y => y.Person == x.Person)) with
    | false => rw [hb] at e; simp at e
    | true =>
      rw [hb, if_pos rfl] at e
      rw [Bool.and_eq_true] at hb
      rcases List.mem_cons.1 hm with rfl | hm
      · exact hb.1
      · exact validE_all l _ e h hm
theorem validL_facts {l : List GHeir} (h : validL l = true) : l.length ≤ 12 ∧ ∀ x ∈ l, heirB x = true := by
  unfold validL at h
  split at h
  · cases h
  · next hn =>
    refine ⟨by omega, ?_⟩
    split at h
    · next u hu => exact validE_all l [] hu
    · cases h
theorem u64_in {n : Int} (h : 0 ≤ n) (h' : n < 18446744073709551616) : IntKind.u64.wrap n = n := by rw [IntKind.wrap_u64]; omega
theorem u64_nat (k : Nat) (h : k < 18446744073709551616) : IntKind.u64.wrap (k : Int) = k := u64_in (Int.natCast_nonneg k) (by omega)
theorem rational_size_nat (n : Int) (h : 0 ≤ n) (h' : n ≤ 9223372036854775807) : rational_size n = some n := by
  show rational_size_p0 n = _
  unfold rational_size_p0
  rw [decide_eq_false (by omega), cond_false, u64_in h (by omega)]
theorem gcd_loop {f : Int × Int → Option ((Int × Int) ⊕ Int)} (hf : ∀ a b, f (a, b) = (bif (b != (0 : Int)) then gd (b ≠ (0 : Int)) (some (Sum.inl (b, Int.tmod a b))) else some (Sum.inr a))) : ∀ (k a b : Nat), b ≤ k → fixL f ((a : Int), (b : Int)) = some (Nat.gcd a b : Int)
  | 0, a, b, h => by
    have : b = 0 := by omega
    subst this
    rw [fixL_eq, hf]
    simp
  | k + 1, a, b, h => by
    rw [fixL_eq, hf]
    by_cases hb : b = 0
    · subst hb; simp
    · have e : ((b : Int) != 0) = true := by simp; omega
      rw [e, cond_true, gd_pos (by omega)]
      show fixL f ((b : Int), Int.tmod (a : Int) (b : Int)) = _
      have : Int.tmod (a : Int) (b : Int) = ((a % b : Nat) : Int) := by
        rw [Int.tmod_eq_emod_of_nonneg (by omega)]; omega
      rw [this, gcd_loop hf k b (a % b) (by have := Nat.mod_lt a (show b > 0 by omega); omega)]
      rw [Nat.gcd_comm b, ← Nat.gcd_rec, Nat.gcd_comm]
theorem rational_gcd_eq (a b : Nat) : rational_gcd a b = some (Nat.gcd a b : Int) := by
  show (fixL (rational_gcd_l1 a b) ((a : Int), (b : Int))).bind (rational_gcd_p2_g a b) = _
  rw [gcd_loop (f := rational_gcd_l1 a b) (fun _ _ => rfl) b a b (Nat.le_refl _)]
  rfl
/-- A fraction of naturals in lowest terms, or ErrRange. -/
def fracN (n d : Nat) : GFraction × Int :=
  if 1000000000000000 < n / Nat.gcd n d ∨ 1000000000 < d / Nat.gcd n d then (⟨0, 0⟩, 2) else (⟨((n / Nat.gcd n d : Nat) : Int), ((d / Nat.gcd n d : Nat) : Int)⟩, 0)
theorem tdivN (a b : Nat) : Int.tdiv (a : Int) (b : Int) = ((a / b : Nat) : Int) := by
  rw [Int.tdiv_eq_ediv_of_nonneg (by omega)]; omega
theorem tmodN (a b : Nat) : Int.tmod (a : Int) (b : Int) = ((a % b : Nat) : Int) := by
  rw [Int.tmod_eq_emod_of_nonneg (by omega)]; omega
theorem rational_Make_nat (n d : Nat) (hn : n ≤ 9223372036854775807) (hd : d ≤ 9223372036854775807) (h0 : 0 < d) : rational_Make n d = some (fracN n d) := by
  show rational_Make_p0 n d = _
  unfold rational_Make_p0
  have e0 : ((d : Int) == 0) = false := by simp; omega
  have g0 : 0 < Nat.gcd n d := Nat.gcd_pos_of_pos_right _ h0
  have q1 : n / Nat.gcd n d ≤ n := Nat.div_le_self _ _
  have q2 : d / Nat.gcd n d ≤ d := Nat.div_le_self _ _
  rw [e0, cond_false, rational_size_nat _ (by omega) (by omega), Option.bind_some, rational_size_nat _ (by omega) (by omega), Option.bind_some, rational_gcd_eq, Option.bind_some, gd_pos (by omega), gd_pos (by omega), tdivN, tdivN, u64_nat _ (by omega), u64_nat _ (by omega), decide_eq_false (show ¬ (n : Int) < 0 by omega), decide_eq_false (show ¬ (d : Int) < 0 by omega)]
  show (rational_within_p0 false ⟨0, ((n / Nat.gcd n d : Nat) : Int)⟩ ⟨0, ((d / Nat.gcd n d : Nat) : Int)⟩).bind _ = _
  unfold rational_within_p0 fracN
  generalize n / Nat.gcd n d = a at q1 ⊢
  generalize d / Nat.gcd n d = b at q2 ⊢
  simp only [cond_or, bne_self_eq_false, Bool.false_or, cond_false]
  by_cases h : 1000000000000000 < a ∨ 1000000000 < b
  · have : (decide ((1000000000000000 : Int) < (a : Int)) || false || decide ((1000000000 : Int) < (b : Int))) = true := by simp; omega
    rw [if_pos h]
    simp only [Bool.or_false] at this ⊢
    rw [this]; rfl
  · have : (decide ((1000000000000000 : Int) < (a : Int)) || false || decide ((1000000000 : Int) < (b : Int))) = false := by simp; omega
    rw [if_neg h]
    simp only [Bool.or_false] at this ⊢
    rw [this, w64_in (by omega) (by omega), w64_in (by omega) (by omega)]; rfl
theorem fracN_facts (n d : Nat) (hd : 0 < d) (h1 : n ≤ 1000000000000000) (h2 : d ≤ 1000000000) : fracN n d = (⟨((n / Nat.gcd n d : Nat) : Int), ((d / Nat.gcd n d : Nat) : Int)⟩, 0) ∧ n / Nat.gcd n d ≤ n ∧ d / Nat.gcd n d ≤ d ∧ 0 < d / Nat.gcd n d ∧ Nat.gcd (n / Nat.gcd n d) (d / Nat.gcd n d) = 1 := by
  have g0 : 0 < Nat.gcd n d := Nat.gcd_pos_of_pos_right _ hd
  have q1 : n / Nat.gcd n d ≤ n := Nat.div_le_self _ _
  have q2 : d / Nat.gcd n d ≤ d := Nat.div_le_self _ _
  refine ⟨?_, q1, q2, Nat.div_pos (Nat.le_of_dvd hd (Nat.gcd_dvd_right n d)) g0, Nat.coprime_div_gcd_div_gcd g0⟩
  unfold fracN
  rw [if_neg (by omega)]
def daysOf (h : GHeir) : Int := if h.Kind = 1 then h.Days else 0
def ptsOf (h : GHeir) : Int := if h.Kind = 1 then 0 else if h.Kind = 2 then 20 else 30
def daysL (l : List GHeir) : Int := (l.map daysOf).sum
def ptsL (l : List GHeir) : Int := (l.map ptsOf).sum
theorem heirB_facts {h : GHeir} (e : heirB h = true) : (1 ≤ h.Person ∧ h.Person ≤ 99) ∧ ((h.Kind = 1 ∧ 1 ≤ h.Days ∧ h.Days ≤ 73049) ∨ (h.Kind = 2 ∧ h.Days = 0) ∨ (h.Kind = 3 ∧ h.Days = 0)) := by
  unfold heirB at e
  rw [Bool.and_eq_true] at e
  refine ⟨by simpa using e.1, ?_⟩
  have e2 := e.2
  by_cases k : h.Kind = 1
  · rw [if_pos k] at e2
    simp only [Bool.and_eq_true, decide_eq_true_eq] at e2
    exact .inl ⟨k, e2⟩
  · rw [if_neg k] at e2
    simp only [Bool.and_eq_true, Bool.or_eq_true, beq_iff_eq] at e2
    rcases e2 with ⟨h1 | h1, h2⟩
    · exact .inr (.inl ⟨h1, h2⟩)
    · exact .inr (.inr ⟨h1, h2⟩)
theorem daysOf_rng {h : GHeir} (e : heirB h = true) : 0 ≤ daysOf h ∧ daysOf h ≤ 73049 := by
  have := (heirB_facts e).2
  unfold daysOf
  split <;> omega
theorem ptsOf_rng (h : GHeir) : 0 ≤ ptsOf h ∧ ptsOf h ≤ 30 := by
  unfold ptsOf
  split
  · omega
  · split <;> omega
theorem sum_rng (f : GHeir → Int) (m : Int) (hm : 0 ≤ m) : ∀ (l : List GHeir), (∀ x ∈ l, 0 ≤ f x ∧ f x ≤ m) → 0 ≤ (l.map f).sum ∧ (l.map f).sum ≤ m * l.length
  | [], _ => by simp
  | x :: l, h => by
    have := sum_rng f m hm l (fun y hy => h y (List.mem_cons_of_mem _ hy))
    have hx := h x List.mem_cons_self
    rw [List.map_cons, List.sum_cons, List.length_cons, Int.natCast_add, Int.mul_add]
    omega
def ptG (h : GHeir) (a : Int × Int) : (Int × Int) ⊕ (Int × Int) := .inl (a.1 + ptsOf h, a.2 + daysOf h)
theorem points_fold : ∀ (l : List GHeir) (a : Int × Int), runE ptG id l a = (a.1 + ptsL l, a.2 + daysL l)
  | [], a => by simp [runE, ptsL, daysL]
  | x :: l, a => by
    show runE ptG id l (a.1 + ptsOf x, a.2 + daysOf x) = _
    rw [points_fold l]
    simp only [ptsL, daysL, List.map_cons, List.sum_cons]
    rw [Int.add_assoc, Int.add_assoc]
theorem heirs_rng {l : List GHeir} (h : validL l = true) : (0 ≤ daysL l ∧ daysL l ≤ 876588) ∧ (0 ≤ ptsL l ∧ ptsL l ≤ 360) := by
  obtain ⟨h1, h2⟩ := validL_facts h
  have a := sum_rng daysOf 73049 (by omega) l fun x hx => daysOf_rng (h2 x hx)
  have b := sum_rng ptsOf 30 (by omega) l fun x _ => ptsOf_rng x
  unfold daysL ptsL
  omega
/-- All points. -/
def allPts (l : List GHeir) : Int := if 0 < daysL l then ptsL l + 60 else ptsL l
theorem conversion_points_eq (l : List GHeir) (hv : validL l = true) : conversion_points l = some (allPts l, daysL l) := by
  obtain ⟨h1, h2⟩ := validL_facts hv
  have hr := heirs_rng hv
  show (fixL (conversion_points_l1 l) ((0 : Int), (0 : Int), ((0 : Nat) : Int))).bind _ = _
  have := fixL_list0 (f := conversion_points_l1 l) l (fun i (a : Int × Int) => (a.1, a.2, (i : Int))) (fun i a => (0 ≤ a.1 ∧ a.1 ≤ 30 * i) ∧ (0 ≤ a.2 ∧ a.2 ≤ 73049 * i)) ptG id (0, 0) (by simp) ?_ ?_ ?_
  · rw [this, points_fold, Option.bind_some]
    show conversion_points_p2 (0 + ptsL l) (0 + daysL l) = _
    unfold conversion_points_p2 allPts
    rw [Int.zero_add, Int.zero_add]
    by_cases h : 0 < daysL l
    · rw [decide_eq_true h, cond_true, if_pos h, w64_in (by omega) (by omega)]
    · rw [decide_eq_false h, cond_false, if_neg h]
  · rintro i hi ⟨p, d⟩ ⟨b1, b2⟩
    show conversion_points_p1 p d l i = some (.inl (p + ptsOf l[i], d + daysOf l[i], ((i + 1 : Nat) : Int)))
    have b1 : 0 ≤ p ∧ p ≤ 30 * (i : Int) := b1
    have b2 : 0 ≤ d ∧ d ≤ 73049 * (i : Int) := b2
    unfold conversion_points_p1
    rw [lt_len hi, cond_true, gd_pos (idx_ok hi), getD_nat l zGHeir i hi]
    have hx := (heirB_facts (h2 l[i] (List.getElem_mem hi))).2
    unfold conversion_points_p0 ptsOf daysOf
    rw [w64_succ (by omega)]
    rcases hx with ⟨k, d1, d2⟩ | ⟨k, d1⟩ | ⟨k, d1⟩
    · rw [k, if_pos rfl, if_pos rfl, show ((1 : Int) == 1) = true from rfl, cond_true, w64_in (by omega) (by omega), Int.add_zero]
    · rw [k, if_neg (by omega), if_pos rfl, if_neg (by omega), show ((2 : Int) == 1) = false from rfl, cond_false, show ((2 : Int) == 2) = true from rfl, cond_true, w64_in (by omega) (by omega), Int.add_zero]
    · rw [k, if_neg (by omega), if_neg (by omega), if_neg (by omega), show ((3 : Int) == 1) = false from rfl, cond_false, show ((3 : Int) == 2) = false from rfl, cond_false, show ((3 : Int) == 3) = true from rfl, cond_true, w64_in (by omega) (by omega), Int.add_zero]
  · rintro i hi ⟨p, d⟩ a' ⟨b1, b2⟩ hg
    cases hg
    have c1 := ptsOf_rng l[i]
    have c2 := daysOf_rng (h2 l[i] (List.getElem_mem hi))
    have b1 : 0 ≤ p ∧ p ≤ 30 * (i : Int) := b1
    have b2 : 0 ≤ d ∧ d ≤ 73049 * (i : Int) := b2
    show (0 ≤ p + ptsOf l[i] ∧ p + ptsOf l[i] ≤ 30 * ((i + 1 : Nat) : Int)) ∧ (0 ≤ d + daysOf l[i] ∧ d + daysOf l[i] ≤ 73049 * ((i + 1 : Nat) : Int))
    omega
  · rintro ⟨p, d⟩ _
    show conversion_points_p1 p d l l.length = _
    unfold conversion_points_p1
    rw [not_lt_len, cond_false]
    rfl
/-- 100 points, or all if there are more. -/
def wholeL (l : List GHeir) : Int := max 100 (allPts l)
/-- A survivor's share. -/
def shareL (l : List GHeir) (h : GHeir) : GFraction :=
  if h.Kind = 1 then (fracN (60 * h.Days).toNat (daysL l * wholeL l).toNat).1 else if h.Kind = 3 then (fracN 30 (wholeL l).toNat).1 else (fracN 20 (wholeL l).toNat).1
theorem allPts_rng {l : List GHeir} (h : validL l = true) : 0 ≤ allPts l ∧ allPts l ≤ 420 := by
  have := heirs_rng h
  unfold allPts
  split <;> omega
theorem daysL_pos : ∀ (l : List GHeir), (∀ x ∈ l, heirB x = true) → ∀ h ∈ l, h.Kind = 1 → 0 < daysL l
  | [], _, h, hm, _ => by simp at hm
  | x :: l, hb, h, hm, hk => by
    have h0 := (sum_rng daysOf 73049 (by omega) l fun y hy => daysOf_rng (hb y (List.mem_cons_of_mem _ hy))).1
    have hx := daysOf_rng (hb x List.mem_cons_self)
    show 0 < ((x :: l).map daysOf).sum
    rw [List.map_cons, List.sum_cons]
    rcases List.mem_cons.1 hm with rfl | hm
    · have := (heirB_facts (hb h List.mem_cons_self)).2
      have : daysOf h = h.Days := by unfold daysOf; rw [if_pos hk]
      omega
    · have := daysL_pos l (fun y hy => hb y (List.mem_cons_of_mem _ hy)) h hm hk
      unfold daysL at this
      omega
theorem map_fold {T : Type} (g : GHeir → T) : ∀ (l : List GHeir) (a : List T), l.foldl (fun a x => a ++ [g x]) a = a ++ l.map g
  | [], a => by simp
  | x :: l, a => by rw [List.foldl_cons, map_fold g l]; simp
theorem conversion_Shares_eq (l : List GHeir) : conversion_Shares l = some (if validL l then (l.map (shareL l), 0) else ([], 1)) := by
  show conversion_Shares_p3 l = _
  unfold conversion_Shares_p3
  rw [conversion_valid_eq, Option.bind_some]
  cases hv : validL l with
  | false => rfl
  | true =>
    obtain ⟨h1, h2⟩ := validL_facts hv
    have hr := heirs_rng hv
    have ha := allPts_rng hv
    have hw : (if (100 : Int) < allPts l then allPts l else 100) = wholeL l := by unfold wholeL; omega
    have hwr : 100 ≤ wholeL l ∧ wholeL l ≤ 420 := by unfold wholeL; omega
    rw [show (!true) = false from rfl, cond_false, conversion_points_eq l hv, Option.bind_some, if_pos rfl]
    show conversion_Shares_p2 (daysL l) (if (100 : Int) < allPts l then allPts l else 100) l = _
    rw [hw]
    show (fixL (conversion_Shares_l1 (daysL l) (wholeL l) l) ([], ((0 : Nat) : Int))).bind _ = _
    have := fixL_list0 (f := conversion_Shares_l1 (daysL l) (wholeL l) l) l (fun i (o : List GFraction) => (o, (i : Int))) (fun i o => o.length = i) (fun h o => .inl (o ++ [shareL l h])) id [] rfl ?_ ?_ ?_
    · rw [this, runE_fold, map_fold, Option.bind_some]
      rfl
    · intro i hi o ho
      show conversion_Shares_p0 (daysL l) (wholeL l) o l i = _
      unfold conversion_Shares_p0
      have hx := (heirB_facts (h2 l[i] (List.getElem_mem hi))).2
      have hd := daysL_pos l h2 l[i] (List.getElem_mem hi)
      obtain ⟨w, hw2⟩ : ∃ w : Nat, wholeL l = (w : Int) := ⟨(wholeL l).toNat, by omega⟩
      rw [lt_len hi, cond_true, gd_pos (idx_ok hi), getD_nat l zGHeir i hi, w64_succ (by omega)]
      have hcap : capB (o.length + 1) 16 := capB_ok (by omega) (by omega)
      simp only [gd_pos hcap]
      unfold shareL
      rw [hw2] at hwr ⊢
      rcases hx with ⟨k, d1, d2⟩ | ⟨k, d1⟩ | ⟨k, d1⟩
      · have hdp := hd k
        obtain ⟨x, hx⟩ : ∃ x : Nat, l[i].Days = (x : Int) := ⟨l[i].Days.toNat, by omega⟩
        obtain ⟨d, hdd⟩ : ∃ d : Nat, daysL l = (d : Int) := ⟨(daysL l).toNat, by omega⟩
        rw [hx] at d1 d2 ⊢
        rw [hdd] at hr hdp ⊢
        have hm : d * w ≤ 876588 * 420 := Nat.mul_le_mul (by omega) (by omega)
        have hm0 : 0 < d * w := Nat.mul_pos (by omega) (by omega)
        rw [k, show ((1 : Int) == 1) = true from rfl, cond_true, if_pos rfl, w64_in (n := 60 * (x : Int)) (by omega) (by omega), show (d : Int) * (w : Int) = ((d * w : Nat) : Int) from by rw [Int.natCast_mul], w64_in (n := ((d * w : Nat) : Int)) (by omega) (by omega), show (60 : Int) * (x : Int) = ((60 * x : Nat) : Int) by omega, rational_Make_nat (60 * x) (d * w) (by omega) (by omega) hm0, Option.bind_some, Int.toNat_natCast, Int.toNat_natCast]
      · rw [k, show ((2 : Int) == 1) = false from rfl, cond_false, show ((2 : Int) == 3) = false from rfl, cond_false, if_neg (by omega), if_neg (by omega), show (20 : Int) = ((20 : Nat) : Int) from rfl, rational_Make_nat 20 w (by omega) (by omega) (by omega), Option.bind_some, Int.toNat_natCast]
      · rw [k, show ((3 : Int) == 1) = false from rfl, cond_false, show ((3 : Int) == 3) = true from rfl, cond_true, if_neg (by omega), if_pos rfl, show (30 : Int) = ((30 : Nat) : Int) from rfl, rational_Make_nat 30 w (by omega) (by omega) (by omega), Option.bind_some, Int.toNat_natCast]
    · intro i hi o o' ho hg
      cases hg
      simp [ho]
    · intro o ho
      show conversion_Shares_p0 (daysL l) (wholeL l) o l l.length = _
      unfold conversion_Shares_p0
      rw [not_lt_len, cond_false]
      rfl
theorem fracN_scale (k n d : Nat) (hk : 0 < k) : fracN (k * n) (k * d) = fracN n d := by
  unfold fracN
  rw [Nat.gcd_mul_left, Nat.mul_div_mul_left _ _ hk, Nat.mul_div_mul_left _ _ hk]
/-- The days of all spouses; at least 1. -/
def baseD (l : List GHeir) : Int := max (daysL l) 1
def numL (l : List GHeir) (h : GHeir) : Int := if h.Kind = 1 then 60 * h.Days else if h.Kind = 2 then 20 * baseD l else 30 * baseD l
theorem wholeL_rng {l : List GHeir} (hv : validL l = true) : 100 ≤ wholeL l ∧ wholeL l ≤ 420 := by
  have := allPts_rng hv
  unfold wholeL; omega
theorem baseD_rng {l : List GHeir} (hv : validL l = true) : 1 ≤ baseD l ∧ baseD l ≤ 876588 := by
  have := heirs_rng hv
  unfold baseD; omega
theorem ref_frac (l : List GHeir) (hv : validL l = true) (h : GHeir) (hm : h ∈ l) : ∃ n d : Nat, numL l h = (n : Int) ∧ baseD l * wholeL l = (d : Int) ∧ n ≤ 1000000000000 ∧ d ≤ 1000000000000 ∧ 0 < d ∧ (fracN n d).1 = shareL l h := by
  obtain ⟨h1, h2⟩ := validL_facts hv
  have hr := heirs_rng hv
  have hb := baseD_rng hv
  have hw := wholeL_rng hv
  have hx := (heirB_facts (h2 h hm)).2
  obtain ⟨b, hbb⟩ : ∃ b : Nat, baseD l = (b : Int) := ⟨(baseD l).toNat, by omega⟩
  obtain ⟨w, hww⟩ : ∃ w : Nat, wholeL l = (w : Int) := ⟨(wholeL l).toNat, by omega⟩
  rw [hbb] at hb
  rw [hww] at hw
  have hmul : b * w ≤ 876588 * 420 := Nat.mul_le_mul (by omega) (by omega)
  have hmul0 : 0 < b * w := Nat.mul_pos (by omega) (by omega)
  have e : baseD l * wholeL l = ((b * w : Nat) : Int) := by rw [hbb, hww, Int.natCast_mul]
  rcases hx with ⟨k, d1, d2⟩ | ⟨k, d1⟩ | ⟨k, d1⟩
  · obtain ⟨x, hx⟩ : ∃ x : Nat, h.Days = (x : Int) := ⟨h.Days.toNat, by omega⟩
    have hd := daysL_pos l h2 h hm k
    refine ⟨60 * x, b * w, by unfold numL; rw [if_pos k, hx]; omega, e, by omega, by omega, hmul0, ?_⟩
    unfold shareL
    rw [if_pos k, hx, show daysL l = (b : Int) by rw [← hbb]; unfold baseD; omega, hww, ← Int.natCast_mul, Int.toNat_natCast, show ((60 : Int) * (x : Int)).toNat = 60 * x by omega]
  · refine ⟨b * 20, b * w, by unfold numL; rw [if_neg (by omega), if_pos k, hbb]; omega, e, by omega, by omega, hmul0, ?_⟩
    unfold shareL
    rw [if_neg (by omega), if_neg (by omega), hww, Int.toNat_natCast, fracN_scale b 20 w (by omega)]
  · refine ⟨b * 30, b * w, by unfold numL; rw [if_neg (by omega), if_neg (by omega), hbb]; omega, e, by omega, by omega, hmul0, ?_⟩
    unfold shareL
    rw [if_neg (by omega), if_pos k, hww, Int.toNat_natCast, fracN_scale b 30 w (by omega)]

def smallR (x : GConversion_remainder) : Prop := (0 ≤ x.num ∧ x.num ≤ 1000000000) ∧ (0 ≤ x.den ∧ x.den ≤ 1000000000)
theorem prod_rng {a b : Int} (ha : 0 ≤ a ∧ a ≤ 1000000000) (hb : 0 ≤ b ∧ b ≤ 1000000000) : 0 ≤ a * b ∧ a * b ≤ 1000000000000000000 := by
  refine ⟨Int.mul_nonneg ha.1 hb.1, ?_⟩
  have := Int.mul_le_mul ha.2 hb.2 hb.1 (by omega)
  omega
def insAtR (l : List GConversion_remainder) (r : GConversion_remainder) : Nat → Nat
  | 0 => 0
  | k + 1 => if (l.getD k zGConversion_remainder).num * r.den < r.num * (l.getD k zGConversion_remainder).den then insAtR l r k else k + 1
theorem insAtR_le (l : List GConversion_remainder) (r : GConversion_remainder) : ∀ k, insAtR l r k ≤ k
  | 0 => Nat.le_refl _
  | k + 1 => by
    have := insAtR_le l r k
    unfold insAtR
    split <;> omega
def insR (r : GConversion_remainder) (l : List GConversion_remainder) : List GConversion_remainder := l.take (insAtR l r l.length) ++ [r] ++ l.drop (insAtR l r l.length)
theorem insR_length (r : GConversion_remainder) (l : List GConversion_remainder) : (insR r l).length = l.length + 1 := by
  have := insAtR_le l r l.length
  unfold insR
  simp
  omega
theorem insR_mem (r y : GConversion_remainder) (l : List GConversion_remainder) (h : y ∈ insR r l) : y = r ∨ y ∈ l := by
  unfold insR at h
  rw [List.mem_append, List.mem_append, List.mem_singleton] at h
  rcases h with (h | h) | h
  · exact .inr (List.mem_of_mem_take h)
  · exact .inl h
  · exact .inr (List.mem_of_mem_drop h)
theorem insert_loop (l : List GConversion_remainder) (r : GConversion_remainder) (hl : l.length ≤ 1000) (hs : ∀ x ∈ l, smallR x) (hr : smallR r) : ∀ k, k ≤ l.length → fixL (conversion_insert_l1 l r) (k : Int) = some ((insAtR l r k : Nat) : Int)
  | 0, _ => by
    rw [fixL_eq]
    show (conversion_insert_p0 l ((0 : Nat) : Int) r).bind _ = _
    unfold conversion_insert_p0
    rw [gd_pos (by intro h; simp at h), gd_pos (by intro h; simp at h), gd_pos (by intro h; simp at h), gd_pos (by intro h; simp at h)]
    rfl
  | k + 1, hk => by
    rw [fixL_eq]
    show (conversion_insert_p0 l ((k + 1 : Nat) : Int) r).bind _ = _
    unfold conversion_insert_p0
    have e1 : w64 (((k + 1 : Nat) : Int) - 1) = (k : Int) := by rw [w64_in (by omega) (by omega)]; omega
    have hx : smallR (l.getD k zGConversion_remainder) := by
      rw [List.getD_eq_getElem?_getD, List.getElem?_eq_getElem (show k < l.length by omega)]
      exact hs _ (List.getElem_mem _)
    have p1 := prod_rng hx.1 hr.2
    have p2 := prod_rng hr.1 hx.2
    rw [e1, gd_pos (fun _ => by omega), gd_pos (fun _ => by omega), gd_pos (fun _ => by omega), gd_pos (fun _ => by omega), decide_eq_true (show (0 : Int) < ((k + 1 : Nat) : Int) by omega), cond_true, Nat.zero_add, Int.toNat_natCast, w64_in (n := (l.getD k zGConversion_remainder).num * r.den) (by omega) (by omega), w64_in (n := r.num * (l.getD k zGConversion_remainder).den) (by omega) (by omega)]
    unfold insAtR
    by_cases h : (l.getD k zGConversion_remainder).num * r.den < r.num * (l.getD k zGConversion_remainder).den
    · rw [decide_eq_true h, cond_true, if_pos h]
      exact insert_loop l r hl hs hr k (by omega)
    · rw [decide_eq_false h, cond_false, if_neg h]
      rfl
theorem conversion_insert_eq (l : List GConversion_remainder) (r : GConversion_remainder) (hl : l.length ≤ 1000) (hs : ∀ x ∈ l, smallR x) (hr : smallR r) : conversion_insert l r = some (insR r l) := by
  show (fixL (conversion_insert_l1 l r) ((l.length : Nat) : Int)).bind _ = _
  rw [insert_loop l r hl hs hr l.length (Nat.le_refl _), Option.bind_some]
  have := insAtR_le l r l.length
  show conversion_insert_p1 l ((insAtR l r l.length : Nat) : Int) r = _
  unfold conversion_insert_p1 slices_Insert_conversion_remainder_conversion_remainder insR
  rw [gd_pos ⟨by omega, by omega, capB_ok (by simp; omega) (by simp; omega)⟩, Int.toNat_natCast]
  rfl
theorem shareL_facts {l : List GHeir} (hv : validL l = true) {h : GHeir} (hm : h ∈ l) : (0 ≤ (shareL l h).Num ∧ (shareL l h).Num ≤ 4382940) ∧ (1 ≤ (shareL l h).Den ∧ (shareL l h).Den ≤ 1000000000) := by
  obtain ⟨h1, h2⟩ := validL_facts hv
  have hr := heirs_rng hv
  have hw := wholeL_rng hv
  have hx := (heirB_facts (h2 h hm)).2
  obtain ⟨w, hww⟩ : ∃ w : Nat, wholeL l = (w : Int) := ⟨(wholeL l).toNat, by omega⟩
  rw [hww] at hw
  have key : ∀ n d : Nat, 0 < d → n ≤ 4382940 → d ≤ 1000000000 → (0 ≤ (fracN n d).1.Num ∧ (fracN n d).1.Num ≤ 4382940) ∧ (1 ≤ (fracN n d).1.Den ∧ (fracN n d).1.Den ≤ 1000000000) := by
    intro n d h0 hn hd
    obtain ⟨e, a, b, c, _⟩ := fracN_facts n d h0 (by omega) (by omega)
    rw [e]
    generalize n / Nat.gcd n d = x at *
    generalize d / Nat.gcd n d = y at *
    show (0 ≤ (x : Int) ∧ (x : Int) ≤ 4382940) ∧ (1 ≤ (y : Int) ∧ (y : Int) ≤ 1000000000)
    omega
  unfold shareL
  rcases hx with ⟨k, d1, d2⟩ | ⟨k, d1⟩ | ⟨k, d1⟩
  · obtain ⟨x, hx⟩ : ∃ x : Nat, h.Days = (x : Int) := ⟨h.Days.toNat, by omega⟩
    have hd := daysL_pos l h2 h hm k
    obtain ⟨d, hdd⟩ : ∃ d : Nat, daysL l = (d : Int) := ⟨(daysL l).toNat, by omega⟩
    rw [hdd] at hr hd
    have hmul : d * w ≤ 876588 * 420 := Nat.mul_le_mul (by omega) (by omega)
    have hmul0 : 0 < d * w := Nat.mul_pos (by omega) (by omega)
    rw [if_pos k, hx, hdd, hww, ← Int.natCast_mul, Int.toNat_natCast, show ((60 : Int) * (x : Int)).toNat = 60 * x by omega]
    exact key _ _ hmul0 (by omega) (by omega)
  · rw [if_neg (by omega), if_neg (by omega), hww, Int.toNat_natCast]
    exact key _ _ (by omega) (by omega) (by omega)
  · rw [if_neg (by omega), if_pos k, hww, Int.toNat_natCast]
    exact key _ _ (by omega) (by omega) (by omega)
def partL (total : Int) (f : GFraction) : Int := total * f.Num / f.Den
def remL (total : Int) (i : Nat) (f : GFraction) : GConversion_remainder := ⟨(i : Int), total * f.Num % f.Den, f.Den⟩
def divG (total : Int) (l : List GHeir) (h : GHeir) (a : Int × List GPart × List GConversion_remainder) : (Int × List GPart × List GConversion_remainder) ⊕ (Int × List GPart × List GConversion_remainder) :=
  .inl (a.1 - partL total (shareL l h), a.2.1 ++ [⟨h.Person, partL total (shareL l h)⟩], insR (remL total a.2.1.length (shareL l h)) a.2.2)
theorem part_rng {total : Int} (ht : 0 ≤ total ∧ total ≤ 1000000000000) {f : GFraction} (hf : (0 ≤ f.Num ∧ f.Num ≤ 4382940) ∧ (1 ≤ f.Den ∧ f.Den ≤ 1000000000)) : (0 ≤ total * f.Num ∧ total * f.Num ≤ 4382940000000000000) ∧ (0 ≤ partL total f ∧ partL total f ≤ 4382940000000000000) ∧ (0 ≤ total * f.Num % f.Den ∧ total * f.Num % f.Den ≤ 1000000000) := by
  have h0 : 0 ≤ total * f.Num := Int.mul_nonneg ht.1 hf.1.1
  have h1 : total * f.Num ≤ 1000000000000 * 4382940 := Int.mul_le_mul ht.2 hf.1.2 hf.1.1 (by omega)
  have h2 := emod_rng (total * f.Num) (m := f.Den) (by omega)
  have h3 : 0 ≤ total * f.Num / f.Den := Int.ediv_nonneg h0 (by omega)
  have h4 : total * f.Num / f.Den ≤ total * f.Num := Int.ediv_le_self _ h0
  unfold partL
  omega
theorem days_le : ∀ (l : List GHeir), (∀ x ∈ l, heirB x = true) → ∀ h ∈ l, daysOf h ≤ daysL l
  | [], _, h, hm => by simp at hm
  | x :: l, hb, h, hm => by
    have h0 := (sum_rng daysOf 73049 (by omega) l fun y hy => daysOf_rng (hb y (List.mem_cons_of_mem _ hy))).1
    have hx := daysOf_rng (hb x List.mem_cons_self)
    show daysOf h ≤ ((x :: l).map daysOf).sum
    rw [List.map_cons, List.sum_cons]
    rcases List.mem_cons.1 hm with rfl | hm
    · omega
    · have := days_le l (fun y hy => hb y (List.mem_cons_of_mem _ hy)) h hm
      unfold daysL at this
      omega
/-- A share is at most 1. -/
theorem share_le {l : List GHeir} (hv : validL l = true) {h : GHeir} (hm : h ∈ l) : (shareL l h).Num ≤ (shareL l h).Den := by
  obtain ⟨h1, h2⟩ := validL_facts hv
  have hr := heirs_rng hv
  have hw := wholeL_rng hv
  have hx := (heirB_facts (h2 h hm)).2
  obtain ⟨w, hww⟩ : ∃ w : Nat, wholeL l = (w : Int) := ⟨(wholeL l).toNat, by omega⟩
  rw [hww] at hw
  have key : ∀ n d : Nat, 0 < d → n ≤ d → d ≤ 1000000000 → (fracN n d).1.Num ≤ (fracN n d).1.Den := by
    intro n d h0 hn hd
    obtain ⟨e, _⟩ := fracN_facts n d h0 (by omega) (by omega)
    rw [e]
    have : n / Nat.gcd n d ≤ d / Nat.gcd n d := Nat.div_le_div_right hn
    show ((n / Nat.gcd n d : Nat) : Int) ≤ ((d / Nat.gcd n d : Nat) : Int)
    exact Int.ofNat_le.2 this
  unfold shareL
  rcases hx with ⟨k, d1, d2⟩ | ⟨k, d1⟩ | ⟨k, d1⟩
  · obtain ⟨x, hx⟩ : ∃ x : Nat, h.Days = (x : Int) := ⟨h.Days.toNat, by omega⟩
    have hd := days_le l h2 h hm
    have hdo : daysOf h = h.Days := by unfold daysOf; rw [if_pos k]
    obtain ⟨d, hdd⟩ : ∃ d : Nat, daysL l = (d : Int) := ⟨(daysL l).toNat, by omega⟩
    rw [hdd] at hr hd
    have hmul : d * w ≤ 876588 * 420 := Nat.mul_le_mul (by omega) (by omega)
    have hmul0 : 0 < d * w := Nat.mul_pos (by omega) (by omega)
    have hle : x * 60 ≤ d * w := Nat.mul_le_mul (by omega) (by omega)
    rw [if_pos k, hx, hdd, hww, ← Int.natCast_mul, Int.toNat_natCast, show ((60 : Int) * (x : Int)).toNat = 60 * x by omega]
    exact key _ _ hmul0 (by omega) (by omega)
  · rw [if_neg (by omega), if_neg (by omega), hww, Int.toNat_natCast]
    exact key _ _ (by omega) (by omega) (by omega)
  · rw [if_neg (by omega), if_pos k, hww, Int.toNat_natCast]
    exact key _ _ (by omega) (by omega) (by omega)
theorem part_le {total : Int} (ht : 0 ≤ total) {l : List GHeir} (hv : validL l = true) {h : GHeir} (hm : h ∈ l) : partL total (shareL l h) ≤ total := by
  have h1 := share_le hv hm
  have h2 := (shareL_facts hv hm).2
  unfold partL
  refine Int.ediv_le_of_le_mul (by omega) ?_
  exact Int.mul_le_mul_of_nonneg_left h1 ht
/-- Missing, parts, remainders behind the first loop. -/
def divS (total : Int) (l : List GHeir) (m : Int) : Int × List GPart × List GConversion_remainder := runE (divG total l) id l (m, [], [])
def divP (i : Nat) (a : Int × List GPart × List GConversion_remainder) : Prop :=
  (-1000000000000 * (i : Int) ≤ a.1 ∧ a.1 ≤ 1000000000000) ∧ a.2.1.length = i ∧ a.2.2.length = i ∧ (∀ x ∈ a.2.2, smallR x ∧ 0 ≤ x.at_ ∧ x.at_ < (i : Int)) ∧ ∀ x ∈ a.2.1, 0 ≤ x.Amount ∧ x.Amount ≤ 1000000000000
theorem divG_keeps {total : Int} (ht : 0 ≤ total ∧ total ≤ 1000000000000) {l : List GHeir} (hv : validL l = true) (i : Nat) (hi : i < l.length) (a a' : Int × List GPart × List GConversion_remainder) (h : divP i a) (hg : divG total l l[i] a = .inl a') : divP (i + 1) a' := by
  obtain ⟨⟨h1, h2⟩, h3, h4, h5, h6⟩ := h
  have hm : l[i] ∈ l := List.getElem_mem hi
  have hf := shareL_facts hv hm
  have hp := part_rng ht hf
  have hle := part_le ht.1 hv hm
  cases hg
  refine ⟨?_, by simp [h3], by rw [insR_length]; omega, fun x hx => ?_, fun x hx => ?_⟩
  · show -1000000000000 * ((i + 1 : Nat) : Int) ≤ a.1 - partL total (shareL l l[i]) ∧ a.1 - partL total (shareL l l[i]) ≤ 1000000000000
    omega
  · rcases insR_mem _ _ _ hx with rfl | hx
    · refine ⟨⟨hp.2.2, by show 0 ≤ (shareL l l[i]).Den ∧ (shareL l l[i]).Den ≤ 1000000000; omega⟩, ?_⟩
      show 0 ≤ ((a.2.1.length : Nat) : Int) ∧ ((a.2.1.length : Nat) : Int) < ((i + 1 : Nat) : Int)
      omega
    · have := h5 x hx
      exact ⟨this.1, this.2.1, by omega⟩
  · rcases List.mem_append.1 hx with hx | hx
    · exact h6 x hx
    · rw [List.mem_singleton] at hx
      subst hx
      show 0 ≤ partL total (shareL l l[i]) ∧ partL total (shareL l l[i]) ≤ 1000000000000
      omega
theorem Divide_loop1 {total : Int} (ht : 0 ≤ total ∧ total ≤ 1000000000000) {l : List GHeir} (hv : validL l = true) (m m0 : Int) (hm : 0 ≤ m ∧ m ≤ 1000000000000) :
    fixL (conversion_Divide_l1 total l m0 (l.map (shareL l)) ((l.length : Nat) : Int)) (m, [], [], 0) = some (divS total l m) := by
  obtain ⟨h1, h2⟩ := validL_facts hv
  have := fixL_list0 (f := conversion_Divide_l1 total l m0 (l.map (shareL l)) ((l.length : Nat) : Int)) l (fun i (a : Int × List GPart × List GConversion_remainder) => (a.1, a.2.1, a.2.2, (i : Int))) divP (divG total l) id (m, [], [])
    ⟨⟨by show -1000000000000 * ((0 : Nat) : Int) ≤ m; omega, hm.2⟩, rfl, rfl, fun x hx => by simp at hx, fun x hx => by simp at hx⟩ ?_ ?_ ?_
  · exact this
  · rintro i hi ⟨mi, out, cut⟩ ⟨⟨b1, b2⟩, b3, b4, b5, b6⟩
    have b1 : -1000000000000 * (i : Int) ≤ mi := b1
    have b2 : mi ≤ 1000000000000 := b2
    have b3 : out.length = i := b3
    have b4 : cut.length = i := b4
    have hmem : l[i] ∈ l := List.getElem_mem hi
    have hf := shareL_facts hv hmem
    have hp := part_rng ht hf
    have hle := part_le ht.1 hv hmem
    have hlen : (l.map (shareL l)).length = l.length := List.length_map _
    show conversion_Divide_p0 total l mi out cut (l.map (shareL l)) ((l.length : Nat) : Int) i = _
    unfold conversion_Divide_p0
    rw [lt_len hi, cond_true, gd_pos (idx_ok (by omega)), getD_nat (l.map (shareL l)) zGFraction i (by omega), List.getElem_map, gd_pos (by omega), gd_pos (idx_ok hi), gd_pos (capB_ok (by omega) (by omega)), gd_pos (by omega), getD_nat l zGHeir i hi, w64_in (n := total * (shareL l l[i]).Num) (by omega) (by omega), Int.tmod_eq_emod_of_nonneg hp.1.1, Int.tdiv_eq_ediv_of_nonneg hp.1.1]
    have er : conversion_insert cut ⟨(i : Int), total * (shareL l l[i]).Num % (shareL l l[i]).Den, (shareL l l[i]).Den⟩ = some (insR (remL total out.length (shareL l l[i])) cut) := by
      rw [b3]
      exact conversion_insert_eq cut (remL total i (shareL l l[i])) (by omega) (fun x hx => (b5 x hx).1) ⟨hp.2.2, by show 0 ≤ (shareL l l[i]).Den ∧ (shareL l l[i]).Den ≤ 1000000000; omega⟩
    rw [er, Option.bind_some, w64_succ (by omega)]
    have ep : total * (shareL l l[i]).Num / (shareL l l[i]).Den = partL total (shareL l l[i]) := rfl
    rw [ep, w64_in (n := partL total (shareL l l[i])) (by omega) (by omega), w64_in (by omega) (by omega)]
    rfl
  · intro i hi a a' h hg
    exact divG_keeps ht hv i hi a a' h hg
  · rintro ⟨mi, out, cut⟩ _
    show conversion_Divide_p0 total l mi out cut (l.map (shareL l)) ((l.length : Nat) : Int) l.length = _
    unfold conversion_Divide_p0
    rw [not_lt_len, cond_false]
    rfl
def bump (out : List GPart) (k : Nat) : List GPart := out.set k ⟨(out.getD k zGPart).Person, (out.getD k zGPart).Amount + 1⟩
def giveG (r : GConversion_remainder) (a : Int × List GPart) : (Int × List GPart) ⊕ List GPart := .inl (if 0 < a.1 then (a.1 - 1, bump a.2 r.at_.toNat) else a)
def giveL (cut : List GConversion_remainder) (m : Int) (out : List GPart) : List GPart := runE giveG (·.2) cut (m, out)
theorem bump_length (out : List GPart) (k : Nat) : (bump out k).length = out.length := by simp [bump]
theorem bump_mem {out : List GPart} {k : Nat} (hk : k < out.length) {x : GPart} (h : x ∈ bump out k) : x ∈ out ∨ ∃ y ∈ out, x.Amount = y.Amount + 1 := by
  unfold bump at h
  rcases List.mem_or_eq_of_mem_set h with h | rfl
  · exact .inl h
  · refine .inr ⟨out[k], List.getElem_mem hk, ?_⟩
    rw [List.getD_eq_getElem?_getD, List.getElem?_eq_getElem hk]
    rfl
theorem Divide_loop2 (cut : List GConversion_remainder) (out : List GPart) (m m0 q0 : Int) (o0 : List GPart) (c0 : List GConversion_remainder) (hl : cut.length ≤ 1000) (hm : -13000000000000 ≤ m ∧ m ≤ 1000000000000)
    (hat : ∀ x ∈ cut, 0 ≤ x.at_ ∧ x.at_ < (out.length : Int)) (ho : ∀ x ∈ out, 0 ≤ x.Amount ∧ x.Amount ≤ 1000000000000) :
    fixL (conversion_Divide_l2 m0 o0 c0 q0) (m, out, cut, ((cut.length : Nat) : Int), 0) = some (giveL cut m out) := by
  have := fixL_list0 (f := conversion_Divide_l2 m0 o0 c0 q0) cut (fun i (a : Int × List GPart) => (a.1, a.2, cut, ((cut.length : Nat) : Int), (i : Int)))
    (fun i a => (-13000000000000 - (i : Int) ≤ a.1 ∧ a.1 ≤ 1000000000000) ∧ a.2.length = out.length ∧ ∀ x ∈ a.2, 0 ≤ x.Amount ∧ x.Amount ≤ 1000000000000 + (i : Int)) giveG (·.2) (m, out) ⟨⟨by show -13000000000000 - ((0 : Nat) : Int) ≤ m; omega, hm.2⟩, rfl, fun x hx => by have := ho x hx; omega⟩ ?_ ?_ ?_
  · exact this
  · rintro i hi ⟨mi, oi⟩ ⟨⟨b1, b2⟩, b3, b4⟩
    have b1 : -13000000000000 - (i : Int) ≤ mi := b1
    have b2 : mi ≤ 1000000000000 := b2
    have b3 : oi.length = out.length := b3
    have ha := hat cut[i] (List.getElem_mem hi)
    show conversion_Divide_p1 mi oi cut ((cut.length : Nat) : Int) i = _
    unfold conversion_Divide_p1
    rw [lt_len hi, cond_true, gd_pos (idx_ok hi), getD_nat0 cut zGConversion_remainder i hi, w64_succ (by omega)]
    obtain ⟨k, hk⟩ : ∃ k : Nat, cut[i].at_ = (k : Int) := ⟨cut[i].at_.toNat, by omega⟩
    rw [hk] at ha
    by_cases h : 0 < mi
    · have e : giveG cut[i] (mi, oi) = .inl (mi - 1, bump oi k) := by
        unfold giveG
        rw [hk]
        show Sum.inl (if 0 < mi then (mi - 1, bump oi ((k : Int)).toNat) else (mi, oi)) = _
        rw [if_pos h, Int.toNat_natCast]
      rw [e, hk]
      have hx := b4 (oi.getD k zGPart) (by
        rw [List.getD_eq_getElem?_getD, List.getElem?_eq_getElem (show k < oi.length by omega)]
        exact List.getElem_mem _)
      have hx1 : 0 ≤ (oi.getD k zGPart).Amount := hx.1
      have hx2 : (oi.getD k zGPart).Amount ≤ 1000000000000 + (i : Int) := hx.2
      rw [decide_eq_true h, cond_true, gd_pos (by omega), gd_pos (by omega), Nat.zero_add, Int.toNat_natCast, w64_in (n := mi - 1) (by omega) (by omega), w64_in (n := (oi.getD k zGPart).Amount + 1) (by omega) (by omega)]
      rfl
    · have e : giveG cut[i] (mi, oi) = .inl (mi, oi) := by
        unfold giveG
        show Sum.inl (if 0 < mi then (mi - 1, bump oi cut[i].at_.toNat) else (mi, oi)) = _
        rw [if_neg h]
      rw [e, decide_eq_false h, cond_false]
  · rintro i hi ⟨mi, oi⟩ a' ⟨⟨b1, b2⟩, b3, b4⟩ hg
    have b1 : -13000000000000 - (i : Int) ≤ mi := b1
    have b2 : mi ≤ 1000000000000 := b2
    have b3 : oi.length = out.length := b3
    have ha := hat cut[i] (List.getElem_mem hi)
    unfold giveG at hg
    cases hg
    show (-13000000000000 - ((i + 1 : Nat) : Int) ≤ (if 0 < mi then (mi - 1, bump oi cut[i].at_.toNat) else (mi, oi)).1 ∧ (if 0 < mi then (mi - 1, bump oi cut[i].at_.toNat) else (mi, oi)).1 ≤ 1000000000000) ∧ (if 0 < mi then (mi - 1, bump oi cut[i].at_.toNat) else (mi, oi)).2.length = out.length ∧ ∀ x ∈ (if 0 < mi then (mi - 1, bump oi cut[i].at_.toNat) else (mi, oi)).2, 0 ≤ x.Amount ∧ x.Amount ≤ 1000000000000 + ((i + 1 : Nat) : Int)
    by_cases h : 0 < mi
    · rw [if_pos h]
      refine ⟨by show _ ≤ mi - 1 ∧ mi - 1 ≤ _; omega, by rw [bump_length]; exact b3, fun x hx => ?_⟩
      rcases bump_mem (by omega) hx with hx | ⟨y, hy, e⟩
      · have := b4 x hx
        have c1 : 0 ≤ x.Amount := this.1
        have c2 : x.Amount ≤ 1000000000000 + (i : Int) := this.2
        omega
      · have := b4 y hy
        have c1 : 0 ≤ y.Amount := this.1
        have c2 : y.Amount ≤ 1000000000000 + (i : Int) := this.2
        omega
    · rw [if_neg h]
      refine ⟨by show _ ≤ mi ∧ mi ≤ _; omega, b3, fun x hx => ?_⟩
      have := b4 x hx
      have c1 : 0 ≤ x.Amount := this.1
      have c2 : x.Amount ≤ 1000000000000 + (i : Int) := this.2
      omega
  · rintro ⟨mi, oi⟩ _
    show conversion_Divide_p1 mi oi cut ((cut.length : Nat) : Int) cut.length = _
    unfold conversion_Divide_p1
    rw [not_lt_len, cond_false]
theorem divS_keeps {total : Int} (ht : 0 ≤ total ∧ total ≤ 1000000000000) {l : List GHeir} (hv : validL l = true) : ∀ (n i : Nat) (a : Int × List GPart × List GConversion_remainder), l.length = i + n → divP i a → divP l.length (runE (divG total l) id (l.drop i) a)
  | 0, i, a, h, hp => by
    have : i = l.length := by omega
    subst this
    rw [List.drop_length]
    exact hp
  | n + 1, i, a, h, hp => by
    have hi : i < l.length := by omega
    rw [List.drop_eq_getElem_cons hi]
    exact divS_keeps ht hv n (i + 1) _ (by omega) (divG_keeps ht hv i hi a _ hp rfl)
/-- What is missing at first. -/
def sumL (total : Int) (l : List GHeir) : Int := total * min 100 (allPts l) / 100
def divideL (total : Int) (l : List GHeir) : List GPart :=
  giveL (divS total l (sumL total l)).2.2 (divS total l (sumL total l)).1 (divS total l (sumL total l)).2.1
theorem conversion_Divide_eq (total : Int) (l : List GHeir) : conversion_Divide total l = some (if 0 ≤ total ∧ total ≤ 1000000000000 then (if validL l then (divideL total l, 0) else ([], 1)) else ([], 1)) := by
  show conversion_Divide_p6 total l = _
  unfold conversion_Divide_p6
  rw [cond_or]
  by_cases ht : 0 ≤ total ∧ total ≤ 1000000000000
  · rw [if_pos ht, decide_eq_false (show ¬ total < 0 by omega), decide_eq_false (show ¬ 1000000000000 < total by omega), show (false || false) = false from rfl, cond_false, conversion_Shares_eq, Option.bind_some]
    cases hv : validL l with
    | false => rfl
    | true =>
      obtain ⟨h1, h2⟩ := validL_facts hv
      have ha := allPts_rng hv
      rw [if_pos rfl, if_pos rfl]
      show (conversion_points l).bind _ = _
      rw [conversion_points_eq l hv, Option.bind_some]
      have hmin : (if (100 : Int) < allPts l then (100 : Int) else allPts l) = min 100 (allPts l) := by omega
      have hs0 : 0 ≤ total * min 100 (allPts l) := Int.mul_nonneg ht.1 (by omega)
      have hs1 : total * min 100 (allPts l) ≤ 1000000000000 * 100 := Int.mul_le_mul ht.2 (by omega) (by omega) (by omega)
      have hs2 : 0 ≤ total * min 100 (allPts l) / 100 := Int.ediv_nonneg hs0 (by omega)
      have hs3 : total * min 100 (allPts l) / 100 ≤ 1000000000000 := by omega
      show conversion_Divide_p5 total l (w64 (Int.tdiv (w64 (total * (if (100 : Int) < allPts l then (100 : Int) else allPts l))) (100 : Int))) (l.map (shareL l)) (((l.map (shareL l)).length : Nat) : Int) = _
      rw [hmin, w64_in (n := total * min 100 (allPts l)) (by omega) (by omega), Int.tdiv_eq_ediv_of_nonneg hs0, w64_in (by omega) (by omega), show (l.map (shareL l)).length = l.length from List.length_map _]
      show (fixL (conversion_Divide_l1 total l (sumL total l) (l.map (shareL l)) ((l.length : Nat) : Int)) (sumL total l, [], [], 0)).bind _ = _
      rw [Divide_loop1 ht hv (sumL total l) (sumL total l) ⟨hs2, hs3⟩, Option.bind_some]
      have hP : divP l.length (divS total l (sumL total l)) := divS_keeps ht hv l.length 0 _ (by omega) ⟨⟨by show -1000000000000 * ((0 : Nat) : Int) ≤ sumL total l; unfold sumL; omega, hs3⟩, rfl, rfl, fun x hx => by simp at hx, fun x hx => by simp at hx⟩
      unfold divideL
      generalize divS total l (sumL total l) = s at hP ⊢
      obtain ⟨m, out, cut⟩ := s
      obtain ⟨⟨b1, b2⟩, b3, b4, b5, b6⟩ := hP
      have b1 : -1000000000000 * (l.length : Int) ≤ m := b1
      have b2 : m ≤ 1000000000000 := b2
      have b3 : out.length = l.length := b3
      have b4 : cut.length = l.length := b4
      show (fixL (conversion_Divide_l2 m out cut ((cut.length : Nat) : Int)) (m, out, cut, ((cut.length : Nat) : Int), 0)).bind _ = _
      rw [Divide_loop2 cut out m _ _ _ _ (by omega) (by omega) (fun x hx => by have := b5 x hx; exact ⟨this.2.1, by omega⟩) b6, Option.bind_some]
      rfl
  · rw [if_neg ht]
    have : (decide (total < 0) || decide (1000000000000 < total)) = true := by
      by_cases h : total < 0
      · rw [decide_eq_true h]; rfl
      · rw [decide_eq_true (show 1000000000000 < total by omega), Bool.or_true]
    rw [this]
    rfl
theorem law22_awake_eq : law22_awake = some true := by
  have e1 : (if validL [⟨1, 1, 100⟩, ⟨2, 2, 0⟩, ⟨3, 2, 0⟩] = true then (([⟨1, 1, 100⟩, ⟨2, 2, 0⟩, ⟨3, 2, 0⟩] : List GHeir).map (shareL [⟨1, 1, 100⟩, ⟨2, 2, 0⟩, ⟨3, 2, 0⟩]), (0 : Int)) else ([], 1)) = ([⟨3, 5⟩, ⟨1, 5⟩, ⟨1, 5⟩], 0) := by kernel_rfl
  have e2 : (if (0 : Int) ≤ 11 ∧ (11 : Int) ≤ 1000000000000 then (if validL [⟨1, 1, 100⟩, ⟨2, 2, 0⟩, ⟨3, 2, 0⟩] = true then (divideL 11 [⟨1, 1, 100⟩, ⟨2, 2, 0⟩, ⟨3, 2, 0⟩], (0 : Int)) else ([], 1)) else ([], 1)) = ([⟨1, 7⟩, ⟨2, 2⟩, ⟨3, 2⟩], 0) := by kernel_rfl
  have e3 : convL [⟨1, 2, 1, 0, 0, 0, 50⟩, ⟨1, 1, 1, 0, 0, 0, 40⟩] = [⟨1, 1, 1, 0, 0, 0, 50⟩] := by kernel_rfl
  show law22_awake_p0 = _
  unfold law22_awake_p0
  rw [conversion_Shares_eq, Option.bind_some, conversion_Divide_eq, Option.bind_some, conversion_Convert_eq _ (by decide), Option.bind_some]
  rw [e1, e2, e3]
  simp [gd_true]
  decide
end Go.Ax
