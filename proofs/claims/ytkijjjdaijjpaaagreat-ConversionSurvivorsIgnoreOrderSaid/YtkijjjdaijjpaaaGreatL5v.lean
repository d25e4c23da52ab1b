import Derived.Test.YtkijjjdaijjpaaaGreatL4v
set_option linter.all false
/- Both texts' bytes of a fact; their order. -/
set_option maxRecDepth 100000
namespace Go.Ax
open Go.Proofs

theorem fact_Bytes_step (f : GFact) (l : List Nat) (hl : ∀ c ∈ l, c < 128) (hn : l.length ≤ 50) (i : Nat) (hi : i < l.length) (b : List Int) (hb : b.length ≤ 8 + i * 6) :
    fact_Bytes_p0 b f (bstr l) i = some (.inl (b ++ letterF f l[i], i + 1)) := by
  obtain ⟨r1, r2⟩ := rune_ascii l hl i hi
  unfold fact_Bytes_p0
  have hlt : Nat.blt i (bstr l).size = true := by rw [bstr_size]; simpa using hi
  rw [hlt, cond_true, gd_pos rfl, r1, r2]
  have k83 := key_beq l[i] 83; have k80 := key_beq l[i] 80; have k84 := key_beq l[i] 84; have k72 := key_beq l[i] 72; have k67 := key_beq l[i] 67; have k65 := key_beq l[i] 65; have k82 := key_beq l[i] 82
  simp only [Int.cast_ofNat_Int] at k83 k80 k84 k72 k67 k65 k82
  rw [k83, k80, k84, k72, k67, k65, k82]
  have a1 := fun x => appendNumbers_eq b 1 [x] (by omega) (by simp) (by omega)
  have a2 := fun x => appendNumbers_eq b 2 [x] (by omega) (by simp) (by omega)
  have a4 := fun x => appendNumbers_eq b 4 [x] (by omega) (by simp) (by omega)
  have a3 := fun x y => appendNumbers_eq b 3 [x, y] (by omega) (by simp) (by omega)
  simp only [Int.cast_ofNat_Int] at a1 a2 a3 a4
  have a1' : ∀ x, fact_appendNumbers b 1 [x] = some (b ++ bigs 1 [x]) := a1
  rw [a1', a1', a1', a1', a2, a3, a4]
  simp only [Option.bind_some, cond_true, bigs, List.append_nil]
  unfold letterF
  generalize l[i] = c
  by_cases h1 : c = 83
  · simp [h1]
  by_cases h2 : c = 80
  · simp [h2]
  by_cases h3 : c = 84
  · simp [h3]
  by_cases h4 : c = 72
  · simp [h4]
  by_cases h5 : c = 67
  · simp [h5]
  by_cases h6 : c = 65
  · simp [h6]
  by_cases h7 : c = 82
  · simp [h7]
  · simp [h1, h2, h3, h4, h5, h6, h7]

theorem fact_Bytes_loop (f : GFact) (l : List Nat) (hl : ∀ c ∈ l, c < 128) (hn : l.length ≤ 50) (b0 : List Int) : ∀ (n i : Nat) (b : List Int), l.length = i + n → b.length ≤ 8 + i * 6 →
    fixL (fact_Bytes_l1 b0 f (bstr l)) (b, i) = some (b ++ (l.drop i).flatMap (letterF f))
  | 0, i, b, h, hb => by
    have : i = l.length := by omega
    subst this
    rw [fixL_eq]
    show (fact_Bytes_p0 b f (bstr l) l.length).bind _ = _
    unfold fact_Bytes_p0
    have hlt : Nat.blt l.length (bstr l).size = false := by
      rw [bstr_size]
      cases hc : Nat.blt l.length l.length with
      | false => rfl
      | true => rw [Nat.blt_eq] at hc; omega
    rw [hlt, cond_false, List.drop_length]
    simp
  | n + 1, i, b, h, hb => by
    have hi : i < l.length := by omega
    rw [fixL_eq]
    show (fact_Bytes_p0 b f (bstr l) i).bind _ = _
    rw [fact_Bytes_step f l hl hn i hi b hb, Option.bind_some]
    simp only
    have := letterF_length f l[i]
    rw [fact_Bytes_loop f l hl hn b0 n (i + 1) _ (by omega) (by simp; omega), List.drop_eq_getElem_cons hi, List.flatMap_cons, List.append_assoc]

theorem fact_Bytes_eq (f : GFact) : fact_Bytes f = some (bytesF f) := by
  show fact_Bytes_p4 f = _
  unfold fact_Bytes_p4
  rw [fact_Valid_eq, Option.bind_some]
  unfold bytesF
  cases hv : validB f with
  | false => rfl
  | true =>
    simp only [Bool.not_true, cond_false, if_true]
    have core : ∀ w : Int, fact_Bytes_p3 w f = some (bigL f.Issuer 1 ++ bigL f.Number 2 ++ bigL f.Version 1 ++ bigL w 1 ++ bigL f.Person 1 ++ bigL f.Kind 1 ++ (usesN f.Kind).flatMap (letterF f)) := by
      intro w
      unfold fact_Bytes_p3
      have e1 := appendNumbers_eq [] 1 [f.Issuer] (by omega) (by simp) (by simp)
      have e2 := appendNumbers_eq (bigL f.Issuer 1) 2 [f.Number] (by omega) (by simp) (by simp [bigL_length])
      have e3 := appendNumbers_eq (bigL f.Issuer 1 ++ bigL f.Number 2) 1 [f.Version, w, f.Person, f.Kind] (by omega) (by simp) (by simp [bigL_length])
      simp only [bigs, List.append_nil, List.nil_append] at e1 e2 e3
      have e1' : fact_appendNumbers [] 1 [f.Issuer] = some (bigL f.Issuer 1) := e1
      have e2' : fact_appendNumbers (bigL f.Issuer 1) 2 [f.Number] = some (bigL f.Issuer 1 ++ bigL f.Number 2) := e2
      have e3' : fact_appendNumbers (bigL f.Issuer 1 ++ bigL f.Number 2) 1 [f.Version, w, f.Person, f.Kind] = some (bigL f.Issuer 1 ++ bigL f.Number 2 ++ (bigL f.Version 1 ++ (bigL w 1 ++ (bigL f.Person 1 ++ bigL f.Kind 1)))) := e3
      rw [e1', Option.bind_some, e2', Option.bind_some, e3', Option.bind_some, fact_Uses_eq, Option.bind_some]
      show (fixL _ _).bind _ = _
      have hn := usesN_length f.Kind
      rw [fact_Bytes_loop f (usesN f.Kind) (usesN_ascii _) (by omega) _ (usesN f.Kind).length 0 _ (by omega) (by simp [bigL_length])]
      simp [fact_Bytes_p2_g, fact_Bytes_p1]
    unfold headF
    cases f.Withdrawn with
    | true => simp only [cond_true, if_true]; exact core 1
    | false => simp only [cond_false]; exact core 0

/-! ### The order -/
/-- Bytes, in the dictionary's order. -/
def ltB : List Int → List Int → Prop
  | _, [] => False
  | [], _ :: _ => True
  | x :: xs, y :: ys => x < y ∨ (x = y ∧ ltB xs ys)
theorem ltB_irrefl : ∀ l : List Int, ¬ ltB l l
  | [] => fun h => h
  | x :: l => by
    rintro (h | ⟨_, h⟩)
    · omega
    · exact ltB_irrefl l h
theorem ltB_trans : ∀ {a b c : List Int}, ltB a b → ltB b c → ltB a c
  | [], _ :: _, _ :: _, _, _ => trivial
  | _ :: _, _ :: _, _ :: _, h, h' => by
    rcases h with h | ⟨rfl, h⟩ <;> rcases h' with h' | ⟨rfl, h'⟩
    · exact .inl (by omega)
    · exact .inl h
    · exact .inl h'
    · exact .inr ⟨rfl, ltB_trans h h'⟩
  | [], _ :: _, [], _, h' => h'.elim
  | _ :: _, _ :: _, [], _, h' => h'.elim
  | [], [], _, h, _ => h.elim
  | _ :: _, [], _, h, _ => h.elim
theorem ltB_total : ∀ (a b : List Int), ltB a b ∨ a = b ∨ ltB b a
  | [], [] => .inr (.inl rfl)
  | [], _ :: _ => .inl trivial
  | _ :: _, [] => .inr (.inr trivial)
  | x :: a, y :: b => by
    rcases Int.lt_trichotomy x y with h | rfl | h
    · exact .inl (.inl h)
    · rcases ltB_total a b with h | rfl | h
      · exact .inl (.inr ⟨rfl, h⟩)
      · exact .inr (.inl rfl)
      · exact .inr (.inr (.inr ⟨rfl, h⟩))
    · exact .inr (.inr (.inl h))
noncomputable instance (a b : List Int) : Decidable (ltB a b) := Classical.propDecidable _

def inByte (l : List Int) : Prop := ∀ x ∈ l, 0 ≤ x ∧ x < 256
theorem u8_of {x : Int} (h : 0 ≤ x ∧ x < 256) : (UInt8.ofNat x.toNat).toNat = x.toNat := by
  simp [Nat.mod_eq_of_lt (show x.toNat < 256 by omega)]
theorem u8_lt {x y : Int} (hx : 0 ≤ x ∧ x < 256) (hy : 0 ≤ y ∧ y < 256) : UInt8.ofNat x.toNat < UInt8.ofNat y.toNat ↔ x < y := by
  rw [UInt8.lt_iff_toNat_lt, u8_of hx, u8_of hy]
  omega
theorem u8_eq {x y : Int} (hx : 0 ≤ x ∧ x < 256) (hy : 0 ≤ y ∧ y < 256) : (UInt8.ofNat x.toNat = UInt8.ofNat y.toNat) ↔ x = y := by
  constructor
  · intro h
    have := congrArg UInt8.toNat h
    rw [u8_of hx, u8_of hy] at this
    omega
  · rintro rfl; rfl
theorem compare_lt : ∀ (a b : List Int), inByte a → inByte b → (compareL a b < 0 ↔ ltB a b)
  | [], [], _, _ => by simp [compareL, Lib.compareBytes, ltB]
  | [], _ :: _, _, _ => by simp [compareL, Lib.compareBytes, ltB]
  | _ :: _, [], _, _ => by simp [compareL, Lib.compareBytes, ltB]
  | x :: a, y :: b, ha, hb => by
    have hx := ha x (by simp)
    have hy := hb y (by simp)
    have ih := compare_lt a b (fun z hz => ha z (by simp [hz])) (fun z hz => hb z (by simp [hz]))
    unfold compareL at ih ⊢
    simp only [List.map_cons, Lib.compareBytes, ltB]
    by_cases h : x < y
    · rw [if_pos ((u8_lt hx hy).2 h)]
      simp [h]
    · rw [if_neg (fun e => h ((u8_lt hx hy).1 e))]
      by_cases h' : y < x
      · rw [if_pos ((u8_lt hy hx).2 h')]
        constructor
        · intro e; omega
        · rintro (e | ⟨e, _⟩) <;> omega
      · rw [if_neg (fun e => h' ((u8_lt hy hx).1 e))]
        have : x = y := by omega
        rw [ih]
        constructor
        · intro e; exact .inr ⟨this, e⟩
        · rintro (e | ⟨_, e⟩)
          · omega
          · exact e
theorem bytesLess_lt : ∀ (a b : List Int), inByte a → inByte b → (Op.bytesLess (a.map fun x => UInt8.ofNat x.toNat) (b.map fun x => UInt8.ofNat x.toNat) = true ↔ ltB a b)
  | [], [], _, _ => by simp [Op.bytesLess, ltB]
  | [], _ :: _, _, _ => by simp [Op.bytesLess, ltB]
  | _ :: _, [], _, _ => by simp [Op.bytesLess, ltB]
  | x :: a, y :: b, ha, hb => by
    have hx := ha x (by simp)
    have hy := hb y (by simp)
    have ih := bytesLess_lt a b (fun z hz => ha z (by simp [hz])) (fun z hz => hb z (by simp [hz]))
    simp only [List.map_cons, Op.bytesLess, ltB, Bool.or_eq_true, Bool.and_eq_true, decide_eq_true_eq, beq_iff_eq]
    rw [u8_lt hx hy, u8_eq hx hy, ih]

theorem bigL_byte (x : Int) : ∀ k, inByte (bigL x k)
  | 0 => fun y hy => by simp [bigL] at hy
  | k + 1 => fun y hy => by
    rcases List.mem_cons.1 hy with rfl | hy
    · unfold byteK
      exact ⟨Int.emod_nonneg _ (by decide), Int.emod_lt_of_pos _ (by decide)⟩
    · exact bigL_byte x k y hy
theorem inByte_app {a b : List Int} (ha : inByte a) (hb : inByte b) : inByte (a ++ b) := fun x hx => (List.mem_append.1 hx).elim (ha x) (hb x)
theorem inByte_nil : inByte [] := fun x hx => by simp at hx
theorem letterF_byte (f : GFact) (c : Nat) : inByte (letterF f c) := by
  unfold letterF
  repeat' split
  all_goals first | exact bigL_byte _ _ | exact inByte_app (bigL_byte _ _) (bigL_byte _ _) | exact inByte_nil
theorem bytesF_byte (f : GFact) : inByte (bytesF f) := by
  unfold bytesF
  split
  · refine inByte_app ?_ ?_
    · unfold headF
      exact inByte_app (inByte_app (inByte_app (inByte_app (inByte_app (bigL_byte _ _) (bigL_byte _ _)) (bigL_byte _ _)) (bigL_byte _ _)) (bigL_byte _ _)) (bigL_byte _ _)
    · intro x hx
      obtain ⟨c, _, hc⟩ := List.mem_flatMap.1 hx
      exact letterF_byte f c x hc
  · exact inByte_nil

/-! ### Bytes tell facts apart -/
theorem big1_inj {x y : Int} (hx : 0 ≤ x ∧ x < 256) (hy : 0 ≤ y ∧ y < 256) (h : bigL x 1 = bigL y 1) : x = y := by
  simp only [bigL, byteK, List.cons.injEq, and_true] at h
  omega
theorem big2_inj {x y : Int} (hx : 0 ≤ x ∧ x < 65536) (hy : 0 ≤ y ∧ y < 65536) (h : bigL x 2 = bigL y 2) : x = y := by
  simp only [bigL, byteK, List.cons.injEq, and_true] at h
  obtain ⟨h1, h0⟩ := h
  simp only [Int.pow_succ, Int.pow_zero, Int.one_mul] at h1 h0
  omega
theorem big3_inj {x y : Int} (hx : 0 ≤ x ∧ x < 16777216) (hy : 0 ≤ y ∧ y < 16777216) (h : bigL x 3 = bigL y 3) : x = y := by
  simp only [bigL, byteK, List.cons.injEq, and_true] at h
  obtain ⟨h2, h1, h0⟩ := h
  simp only [Int.pow_succ, Int.pow_zero, Int.one_mul] at h2 h1 h0
  omega
theorem big4_inj {x y : Int} (hx : 0 ≤ x ∧ x < 4294967296) (hy : 0 ≤ y ∧ y < 4294967296) (h : bigL x 4 = bigL y 4) : x = y := by
  simp only [bigL, byteK, List.cons.injEq, and_true] at h
  obtain ⟨h3, h2, h1, h0⟩ := h
  simp only [Int.pow_succ, Int.pow_zero, Int.one_mul] at h3 h2 h1 h0
  omega
theorem fieldB_range {u : Bool} {x l h : Int} (hf : fieldB u x l h = true) (h0 : l ≤ 1) (hl : 0 ≤ l) (hh : 0 ≤ h) : 0 ≤ x ∧ x ≤ h ∧ (u = false → x = 0) := by
  unfold fieldB at hf
  cases u with
  | true =>
    simp only [if_true] at hf
    have := withinB_iff.1 hf
    exact ⟨by omega, by omega, fun e => by cases e⟩
  | false =>
    have : x = 0 := by simpa using hf
    omega
end Go.Ax
