import Derived.Test.YtkijjjdaijjpaaaGreatL0
import Derived.Test.YtkijjjdaijjpaaaGreatFs
set_option linter.all false
/- Conversion of benefits: what Convert computes. -/
set_option maxRecDepth 100000
namespace Go.Ax

theorem find_loop {T : Type} {f : Int → Option (Int ⊕ (Int ⊕ Unit))} (l : List T) (p : T → Bool) (hl : l.length ≤ 9223372036854775807)
    (hf : ∀ (i : Nat) (hi : i < l.length), f (i : Int) = some (if p l[i] then .inr (.inl (i : Int)) else .inl (w64 ((i : Int) + 1))))
    (he : f (l.length : Int) = some (.inr (.inr ()))) : ∀ (n i : Nat), l.length = i + n → fixL f (i : Int) = some (match (l.drop i).findIdx? p with | some k => .inl (((i + k : Nat)) : Int) | none => .inr ())
  | 0, i, h => by
    have : i = l.length := by omega
    subst this
    rw [fixL_eq, he, List.drop_length]
    rfl
  | n + 1, i, h => by
    have hi : i < l.length := by omega
    rw [fixL_eq, hf i hi, List.drop_eq_getElem_cons hi, List.findIdx?_cons]
    cases hp : p l[i] with
    | true => simp
    | false =>
      rw [if_neg (by simp), w64_succ (by omega)]
      show fixL f ((i + 1 : Nat) : Int) = _
      rw [find_loop l p hl hf he n (i + 1) (by omega)]
      cases hq : (l.drop (i + 1)).findIdx? p with
      | none => rfl
      | some k => simp; omega
/-- The index of the first element that p takes; -1 if there is none. -/
def ixL {T : Type} (p : T → Bool) (l : List T) : Int := match l.findIdx? p with | some k => (k : Int) | none => -1
theorem find_loop0 {T : Type} {f : Int → Option (Int ⊕ (Int ⊕ Unit))} (l : List T) (p : T → Bool) (hl : l.length ≤ 9223372036854775807)
    (hf : ∀ (i : Nat) (hi : i < l.length), f (i : Int) = some (if p l[i] then .inr (.inl (i : Int)) else .inl (w64 ((i : Int) + 1))))
    (he : f (l.length : Int) = some (.inr (.inr ()))) : fixL f 0 = some (match l.findIdx? p with | some k => .inl (k : Int) | none => .inr ()) := by
  have := find_loop l p hl hf he l.length 0 (by omega)
  simpa using this
def cntB (old n : GNet) : Bool := (n.State == old.State && n.Benefit == 1) && decide (0 < n.Amount)
def disB (old n : GNet) : Bool := (n.State == old.State && n.Benefit == 2) && n.Currency == old.Currency
theorem IndexFunc1_eq (l : List GNet) (x : GNet) (hl : l.length ≤ 2513169434843) : slices_IndexFunc_api_Net_api_Net_Convert_1 l x = some (ixL (cntB x) l) := by
  show (fixL (slices_IndexFunc_api_Net_api_Net_Convert_1_l1 l x) 0).bind _ = _
  rw [find_loop0 l (cntB x) (by omega) ?_ ?_, Option.bind_some]
  · unfold ixL
    cases l.findIdx? (cntB x) <;> rfl
  · intro i hi
    show slices_IndexFunc_api_Net_api_Net_Convert_1_p0 l x i = _
    unfold slices_IndexFunc_api_Net_api_Net_Convert_1_p0
    rw [lt_len hi, cond_true, gd_pos (idx_ok hi), getD_nat l zGNet i hi]
    show (conversion_Convert_1_p0 l[i] x).bind _ = _
    unfold conversion_Convert_1_p0
    rw [Option.bind_some, cond_and, cond_and]
    show (bif cntB x l[i] then _ else _) = _
    cases cntB x l[i] <;> rfl
  · show slices_IndexFunc_api_Net_api_Net_Convert_1_p0 l x l.length = _
    unfold slices_IndexFunc_api_Net_api_Net_Convert_1_p0
    rw [not_lt_len, cond_false]
theorem IndexFunc2_eq (l : List GNet) (x : GNet) (hl : l.length ≤ 2513169434843) : slices_IndexFunc_api_Net_api_Net_Convert_2 l x = some (ixL (disB x) l) := by
  show (fixL (slices_IndexFunc_api_Net_api_Net_Convert_2_l1 l x) 0).bind _ = _
  rw [find_loop0 l (disB x) (by omega) ?_ ?_, Option.bind_some]
  · unfold ixL
    cases l.findIdx? (disB x) <;> rfl
  · intro i hi
    show slices_IndexFunc_api_Net_api_Net_Convert_2_p0 l x i = _
    unfold slices_IndexFunc_api_Net_api_Net_Convert_2_p0
    rw [lt_len hi, cond_true, gd_pos (idx_ok hi), getD_nat l zGNet i hi]
    show (conversion_Convert_2_p0 l[i] x).bind _ = _
    unfold conversion_Convert_2_p0
    rw [Option.bind_some, cond_and, cond_and]
    show (bif disB x l[i] then _ else _) = _
    cases disB x l[i] <;> rfl
  · show slices_IndexFunc_api_Net_api_Net_Convert_2_p0 l x l.length = _
    unfold slices_IndexFunc_api_Net_api_Net_Convert_2_p0
    rw [not_lt_len, cond_false]
theorem ixL_cases {T : Type} (p : T → Bool) (l : List T) : (ixL p l = -1 ∧ l.findIdx? p = none) ∨ ∃ k, ∃ h : k < l.length, ixL p l = (k : Int) ∧ l.findIdx? p = some k ∧ p l[k] = true := by
  unfold ixL
  cases h : l.findIdx? p with
  | none => exact .inl ⟨rfl, rfl⟩
  | some k =>
    obtain ⟨h1, h2, _⟩ := List.findIdx?_eq_some_iff_getElem.1 h
    exact .inr ⟨k, h1, rfl, rfl, h2⟩

/-- One benefit's effect on the amounts, and on those that disappear. -/
def stepC (l : List GNet) (x : GNet) (i : Nat) (s : List Int × List Bool) : List Int × List Bool :=
  if ixL (cntB x) l = (i : Int) then (match l.findIdx? (disB x) with | some k => (s.1.set i (max x.Amount (l.getD k zGNet).Amount), s.2.set k true) | none => s) else s
def keepL : List GNet → List Int → List Bool → List GNet
  | x :: l, a :: am, b :: lf => if b then keepL l am lf else ⟨x.State, x.Benefit, x.Currency, x.Independent, x.ProRata, x.Deducted, a⟩ :: keepL l am lf
  | _, _, _ => []
def convG {R : Type} (l : List GNet) (x : GNet) (a : (List Int × List Bool) × Nat) : ((List Int × List Bool) × Nat) ⊕ R := .inl (stepC l x a.2 a.1, a.2 + 1)
def convS (l : List GNet) : List Int × List Bool := runE (convG l) (·.1) l ((l.map (·.Amount), List.replicate l.length false), 0)
def convL (l : List GNet) : List GNet := keepL l (convS l).1 (convS l).2
def setA (x : GNet) (a : Int) : GNet := ⟨x.State, x.Benefit, x.Currency, x.Independent, x.ProRata, x.Deducted, a⟩
theorem stepC_len {l : List GNet} {x : GNet} {i : Nat} {s : List Int × List Bool} : (stepC l x i s).1.length = s.1.length ∧ (stepC l x i s).2.length = s.2.length := by
  unfold stepC
  split
  · split <;> simp
  · simp
theorem runE_convG (l : List GNet) : ∀ (r : List GNet) (a : (List Int × List Bool) × Nat), (runE (convG l) (·.1) r a).1.length = a.1.1.length ∧ (runE (convG l) (·.1) r a).2.length = a.1.2.length
  | [], a => ⟨rfl, rfl⟩
  | x :: r, a => by
    show (runE (convG l) (·.1) r (stepC l x a.2 a.1, a.2 + 1)).1.length = _ ∧ (runE (convG l) (·.1) r (stepC l x a.2 a.1, a.2 + 1)).2.length = _
    have := runE_convG l r (stepC l x a.2 a.1, a.2 + 1)
    have h2 := @stepC_len l x a.2 a.1
    exact ⟨this.1.trans h2.1, this.2.trans h2.2⟩
theorem convS_len (l : List GNet) : (convS l).1.length = l.length ∧ (convS l).2.length = l.length := by
  have := runE_convG l l ((l.map (·.Amount), List.replicate l.length false), 0)
  simpa [convS] using this
theorem max_eq (a b : Int) : (if a < b then b else a) = max a b := by omega
theorem conv_loop2 (l : List GNet) (am0 : List Int) (lf0 : List Bool) (hl : l.length ≤ 2513169434843) : fixL (conversion_Convert_l2 l am0 lf0) (l.map (·.Amount), List.replicate l.length false, 0) = some (convS l) := by
  have := fixL_list0 (f := conversion_Convert_l2 l am0 lf0) l (fun i (a : (List Int × List Bool) × Nat) => (a.1.1, a.1.2, (i : Int))) (fun i a => a.2 = i ∧ a.1.1.length = l.length ∧ a.1.2.length = l.length) (convG l) (·.1) ((l.map (·.Amount), List.replicate l.length false), 0) ⟨rfl, by simp, by simp⟩ ?_ ?_ ?_
  · exact this
  · rintro i hi ⟨⟨am, lf⟩, j⟩ ⟨rfl, h1, h2⟩
    show conversion_Convert_p1 l am lf j = some (.inl ((stepC l l[j] j (am, lf)).1, (stepC l l[j] j (am, lf)).2, ((j + 1 : Nat) : Int)))
    have h1 : am.length = l.length := h1
    have h2 : lf.length = l.length := h2
    have hi : j < l.length := hi
    unfold conversion_Convert_p1
    rw [lt_len hi, cond_true, gd_pos (idx_ok hi), getD_nat l zGNet j hi, IndexFunc1_eq l _ hl, Option.bind_some, w64_succ (by omega)]
    unfold stepC
    by_cases hc : ixL (cntB l[j]) l = (j : Int)
    · rw [show (ixL (cntB l[j]) l != (j : Int)) = false from by rw [hc]; simp, cond_false, if_pos hc, IndexFunc2_eq l _ hl, Option.bind_some]
      rcases ixL_cases (disB l[j]) l with ⟨e1, e2⟩ | ⟨k, hk, e1, e2, e3⟩
      · rw [e1, e2, decide_eq_false (by omega), cond_false]
      · rw [e1, e2, decide_eq_true (by omega), cond_true, gd_pos (idx_ok hk), gd_pos (by omega), gd_pos (by omega), Nat.zero_add, Nat.zero_add, Int.toNat_natCast, Int.toNat_natCast, max_eq]
    · rw [show (ixL (cntB l[j]) l != (j : Int)) = true from by simpa using hc, cond_true, if_neg hc]
  · rintro i hi ⟨⟨am, lf⟩, j⟩ a' ⟨rfl, h1, h2⟩ hg
    cases hg
    have := @stepC_len l l[j] j (am, lf)
    exact ⟨rfl, this.1.trans h1, this.2.trans h2⟩
  · rintro ⟨⟨am, lf⟩, j⟩ ⟨h0, h1, h2⟩
    show conversion_Convert_p1 l am lf l.length = _
    unfold conversion_Convert_p1
    rw [not_lt_len, cond_false]
theorem take_set_succ {T : Type} (v : T) : ∀ (l : List T) (i : Nat), i < l.length → (l.set i v).take (i + 1) = l.take i ++ [v]
  | [], i, h => by simp at h
  | x :: l, 0, h => by simp
  | x :: l, i + 1, h => by
    have := take_set_succ v l i (by simpa using h)
    simp [this]
theorem conv_loop1 (l : List GNet) (lf : List Bool) (am0 : List Int) (hl : l.length ≤ 2513169434843) : ∀ (n i : Nat) (am : List Int), l.length = i + n → am.length = l.length → fixL (conversion_Convert_l1 l am0 lf) (am, (i : Int)) = some (am.take i ++ (l.drop i).map (·.Amount))
  | 0, i, am, h, ha => by
    have : i = l.length := by omega
    subst this
    rw [fixL_eq]
    show (conversion_Convert_p0 l am lf l.length).bind _ = _
    unfold conversion_Convert_p0
    rw [not_lt_len, cond_false, List.drop_length, List.take_of_length_le (by omega)]
    simp
  | n + 1, i, am, h, ha => by
    have hi : i < l.length := by omega
    rw [fixL_eq]
    show (conversion_Convert_p0 l am lf i).bind _ = _
    unfold conversion_Convert_p0
    rw [lt_len hi, cond_true, gd_pos (idx_ok hi), gd_pos (by omega), getD_nat l zGNet i hi, w64_succ (by omega), Nat.zero_add, Int.toNat_natCast]
    show fixL (conversion_Convert_l1 l am0 lf) (am.set i l[i].Amount, ((i + 1 : Nat) : Int)) = _
    rw [conv_loop1 l lf am0 hl n (i + 1) _ (by omega) (by simpa using ha), List.drop_eq_getElem_cons hi, List.map_cons]
    rw [take_set_succ _ _ _ (by omega), List.append_assoc]
    rfl
theorem conv_loop3 (l : List GNet) (am : List Int) (lf : List Bool) (a0 : List Int) (b0 : List Bool) (hl : l.length ≤ 2513169434843) (h1 : am.length = l.length) (h2 : lf.length = l.length) : ∀ (n i : Nat) (out : List GNet), l.length = i + n → out.length ≤ i →
    fixL (conversion_Convert_l3 a0 b0 l) (am, lf, out, (i : Int)) = some (out ++ keepL (l.drop i) (am.drop i) (lf.drop i))
  | 0, i, out, h, ho => by
    have : i = l.length := by omega
    subst this
    rw [fixL_eq]
    show (conversion_Convert_p2 am lf out l l.length).bind _ = _
    unfold conversion_Convert_p2
    rw [not_lt_len, cond_false, List.drop_length]
    simp [keepL]
  | n + 1, i, out, h, ho => by
    have hi : i < l.length := by omega
    rw [fixL_eq]
    show (conversion_Convert_p2 am lf out l i).bind _ = _
    unfold conversion_Convert_p2
    rw [lt_len hi, cond_true, gd_pos (idx_ok hi), gd_pos (by omega), getD_nat0 lf false i (by omega), w64_succ (by omega), List.drop_eq_getElem_cons hi, List.drop_eq_getElem_cons (l := am) (by omega), List.drop_eq_getElem_cons (l := lf) (by omega)]
    unfold keepL
    cases hb : lf[i]'(by omega) with
    | true =>
      rw [if_pos rfl]
      show fixL (conversion_Convert_l3 a0 b0 l) (am, lf, out, ((i + 1 : Nat) : Int)) = _
      exact conv_loop3 l am lf a0 b0 hl h1 h2 n (i + 1) out (by omega) (by omega)
    | false =>
      rw [if_neg (by simp), show (!false) = true from rfl, cond_true, gd_pos (by omega), gd_pos (capB_ok (by omega) (by omega)), getD_nat l zGNet i hi, getD_nat0 am 0 i (by omega)]
      show fixL (conversion_Convert_l3 a0 b0 l) (am, lf, out ++ [_], ((i + 1 : Nat) : Int)) = _
      rw [conv_loop3 l am lf a0 b0 hl h1 h2 n (i + 1) _ (by omega) (by simp; omega), List.append_assoc]
      rfl
theorem conversion_Convert_eq (l : List GNet) (hl : l.length ≤ 2513169434843) : conversion_Convert l = some (convL l) := by
  show conversion_Convert_p9 l = _
  unfold conversion_Convert_p9
  rw [gd_pos (by omega), gd_pos (by omega)]
  show (fixL (conversion_Convert_l1 l (List.replicate l.length 0) (List.replicate l.length false)) (List.replicate l.length 0, ((0 : Nat) : Int))).bind _ = _
  rw [conv_loop1 l _ _ hl l.length 0 _ (by omega) (by simp), Option.bind_some, List.take_zero, List.drop_zero, List.nil_append]
  show (fixL (conversion_Convert_l2 l (l.map (·.Amount)) (List.replicate l.length false)) (l.map (·.Amount), List.replicate l.length false, 0)).bind _ = _
  rw [conv_loop2 l _ _ hl, Option.bind_some]
  have hs := convS_len l
  show (fixL (conversion_Convert_l3 (convS l).1 (convS l).2 l) ((convS l).1, (convS l).2, [], ((0 : Nat) : Int))).bind _ = _
  rw [conv_loop3 l _ _ _ _ hl hs.1 hs.2 l.length 0 [] (by omega) (by simp), Option.bind_some]
  rfl
end Go.Ax
