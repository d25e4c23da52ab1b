import Derived.Test.YtkijjjdaijjpaaaGreatLp
set_option linter.all false
/- What functions over facts compute. -/
set_option maxRecDepth 100000
namespace Go.Ax
open Go.Proofs

def lengthL (n : Int) : Int :=
  if n % 4 = 0 then 1 + w64 (n.tdiv 4) % 9000 else if n % 4 = 1 then 1 + w64 (n.tdiv 4) % 1200 else if n % 4 = 2 then 1 + w64 (n.tdiv 4) % 120 else 1 + w64 (n.tdiv 4) % 12
theorem mod1 (x m : Int) (h1 : 0 < m) (h2 : m ≤ 9000) : w64 (1 + x % m) = 1 + x % m := by
  have := Int.emod_nonneg x (show m ≠ 0 by omega)
  have := Int.emod_lt_of_pos x h1
  exact w64_in (by omega) (by omega)
theorem hand_length_eq (n : Int) : hand_length n = some (lengthL n) := by
  show hand_length_p0 n = _
  unfold hand_length_p0 lengthL
  rw [plain_Mod_eq n 4 (by omega) (by omega)]
  simp only [Option.bind_some]
  rw [plain_Mod_eq _ 9000 (by omega) (by omega), plain_Mod_eq _ 1200 (by omega) (by omega), plain_Mod_eq _ 120 (by omega) (by omega), plain_Mod_eq _ 12 (by omega) (by omega)]
  simp only [Option.bind_some]
  rw [mod1 _ 9000 (by omega) (by omega), mod1 _ 1200 (by omega) (by omega), mod1 _ 120 (by omega) (by omega), mod1 _ 12 (by omega) (by omega)]
  by_cases h0 : n % 4 = 0
  · simp [h0]
  by_cases h1 : n % 4 = 1
  · simp [h1]
  by_cases h2 : n % 4 = 2
  · simp [h2]
  · have e0 : (n % 4 == 0) = false := by simpa using h0
    have e1 : (n % 4 == 1) = false := by simpa using h1
    have e2 : (n % 4 == 2) = false := by simpa using h2
    simp [e0, e1, e2, h0, h1, h2]
theorem lengthL_range (n : Int) : 1 ≤ lengthL n ∧ lengthL n ≤ 9000 := by
  unfold lengthL
  have key : ∀ x m : Int, 0 < m → m ≤ 9000 → 1 ≤ 1 + x % m ∧ 1 + x % m ≤ 9000 := by
    intro x m h1 h2
    have := Int.emod_nonneg x (show m ≠ 0 by omega)
    have := Int.emod_lt_of_pos x h1
    omega
  split
  · exact key _ _ (by omega) (by omega)
  · split
    · exact key _ _ (by omega) (by omega)
    · split
      · exact key _ _ (by omega) (by omega)
      · exact key _ _ (by omega) (by omega)

/-! ### Letters -/
def usesN (k : Int) : List Nat :=
  if k = 1 then [83, 80, 84, 72, 67, 65] else if k = 2 then [83, 80, 72, 67, 65] else if k = 3 then [83, 80, 72, 67, 65] else if k = 4 then [83, 80, 84] else
  if k = 5 then [83, 80] else if k = 6 then [83, 80, 67, 65] else if k = 7 then [83, 80] else if k = 8 then [83, 80] else if k = 9 then [83, 80] else
  if k = 10 then [83, 80, 82] else if k = 11 then [80] else if k = 12 then [80] else if k = 13 then [80] else if k = 14 then [80, 82] else []
theorem kinds {k : Int} (h1 : 1 ≤ k) (h2 : k ≤ 14) : k = 1 ∨ k = 2 ∨ k = 3 ∨ k = 4 ∨ k = 5 ∨ k = 6 ∨ k = 7 ∨ k = 8 ∨ k = 9 ∨ k = 10 ∨ k = 11 ∨ k = 12 ∨ k = 13 ∨ k = 14 := by omega
theorem usesN_out {k : Int} (h : ¬ (1 ≤ k ∧ k ≤ 14)) : usesN k = [] := by
  unfold usesN
  have e : ∀ n : Int, 1 ≤ n → n ≤ 14 → k ≠ n := fun n a b c => h (by omega)
  rw [if_neg (e 1 (by omega) (by omega)), if_neg (e 2 (by omega) (by omega)), if_neg (e 3 (by omega) (by omega)), if_neg (e 4 (by omega) (by omega)), if_neg (e 5 (by omega) (by omega)), if_neg (e 6 (by omega) (by omega)), if_neg (e 7 (by omega) (by omega)),
    if_neg (e 8 (by omega) (by omega)), if_neg (e 9 (by omega) (by omega)), if_neg (e 10 (by omega) (by omega)), if_neg (e 11 (by omega) (by omega)), if_neg (e 12 (by omega) (by omega)), if_neg (e 13 (by omega) (by omega)), if_neg (e 14 (by omega) (by omega))]
theorem fact_Uses_eq (k : Int) : fact_Uses k = some (bstr (usesN k)) := by
  show fact_Uses_p1 k = _
  by_cases h : 1 ≤ k ∧ k ≤ 14
  · obtain rfl | rfl | rfl | rfl | rfl | rfl | rfl | rfl | rfl | rfl | rfl | rfl | rfl | rfl := kinds h.1 h.2 <;> rfl
  · rw [usesN_out h]
    have e : ∀ n : Int, 1 ≤ n → n ≤ 14 → (k == n) = false := fun n a b => by
      have : k ≠ n := fun c => h (by omega)
      simpa using this
    unfold fact_Uses_p1
    simp only [e 1 (by omega) (by omega), e 2 (by omega) (by omega), e 3 (by omega) (by omega), e 4 (by omega) (by omega), e 5 (by omega) (by omega), e 6 (by omega) (by omega), e 7 (by omega) (by omega), e 8 (by omega) (by omega), e 9 (by omega) (by omega), e 10 (by omega) (by omega), e 11 (by omega) (by omega), e 12 (by omega) (by omega), e 13 (by omega) (by omega), e 14 (by omega) (by omega), cond_false]
    rfl
theorem ref12_Uses_eq (k : Int) : ref12_Uses k = some (bstr (usesN k)) := by
  show ref12_Uses_p0 k = _
  unfold ref12_Uses_p0
  by_cases h : 1 ≤ k ∧ k ≤ 14
  · have h1 : decide (k < 1) = false := by simpa using h.1
    have h2 : decide (15 ≤ k) = false := by simp; omega
    rw [h1, h2, cond_false, cond_false, gd_pos (by omega)]
    obtain rfl | rfl | rfl | rfl | rfl | rfl | rfl | rfl | rfl | rfl | rfl | rfl | rfl | rfl := kinds h.1 h.2 <;> rfl
  · rw [usesN_out h]
    have : (bif decide (k < 1) then true else decide (15 ≤ k)) = true := by
      rw [cond_or, Bool.or_eq_true, decide_eq_true_iff, decide_eq_true_iff]; omega
    rw [this]; rfl

def hasB (k : Int) (c : Nat) : Bool := (usesN k).contains c
theorem usesN_small (k : Int) : ∀ c ∈ usesN k, c < 256 := by
  by_cases h : 1 ≤ k ∧ k ≤ 14
  · obtain rfl | rfl | rfl | rfl | rfl | rfl | rfl | rfl | rfl | rfl | rfl | rfl | rfl | rfl := kinds h.1 h.2 <;> decide
  · rw [usesN_out h]; intro c hc; simp at hc
theorem bstr_toList (l : List Nat) : (bstr l).toList = l.map UInt8.ofNat := by
  rw [ByteArray.toList_eq]
  rfl
theorem bstr_size (l : List Nat) : (bstr l).size = l.length := by
  show ((l.map UInt8.ofNat).toArray).size = l.length
  simp
theorem bang (s : ByteArray) (i : Nat) (h : i < s.size) : s[i]! = s.data.toList[i]'(by simpa using h) := by
  rw [getElem!_pos s i h]
  rfl
theorem firstIdx_nonneg (s : ByteArray) (b : UInt8) : 0 ≤ firstIdx s b ↔ b ∈ s.data.toList := by
  unfold firstIdx
  constructor
  · intro h
    split at h
    · next i hi =>
      have h1 := List.find?_some hi
      have h2 := List.mem_range.1 (List.mem_of_find?_eq_some hi)
      rw [bang s i h2] at h1
      have h3 : s.data.toList[i]'(by simpa using h2) = b := by simpa using h1
      rw [← h3]
      exact List.getElem_mem _
    · simp at h
  · intro h
    obtain ⟨i, hi, e⟩ := List.getElem_of_mem h
    have h2 : i < s.size := by simpa using hi
    split
    · exact Int.natCast_nonneg _
    · next hn =>
      have := List.find?_eq_none.1 hn i (List.mem_range.2 h2)
      rw [bang s i h2, e] at this
      simp at this
theorem u8_mem {l : List Nat} (hl : ∀ c ∈ l, c < 256) {c : Nat} (hc : c < 256) : UInt8.ofNat c ∈ (bstr l).data.toList ↔ c ∈ l := by
  show UInt8.ofNat c ∈ l.map UInt8.ofNat ↔ _
  constructor
  · intro h
    obtain ⟨d, hd, e⟩ := List.mem_map.1 h
    have h1 := congrArg UInt8.toNat e
    have h2 : (UInt8.ofNat d).toNat = d := by simp [Nat.mod_eq_of_lt (hl d hd)]
    have h3 : (UInt8.ofNat c).toNat = c := by simp [Nat.mod_eq_of_lt hc]
    rw [h2, h3] at h1
    subst h1; exact hd
  · exact fun h => List.mem_map_of_mem h
theorem fact_has_eq (k : Int) (c : Nat) (hc : c < 256) : fact_Valid_1 (bstr [c]) (bstr (usesN k)) = some (hasB k c) := by
  show fact_Valid_1_p0 _ _ = _
  unfold fact_Valid_1_p0 strings_Contains strings_Contains_p0 strings_Index strings_Index_p0 internal_stringslite_Index internal_stringslite_Index_p0 internal_stringslite_IndexByte internal_stringslite_IndexByte_p0 bytealg_IndexByteString
  have h1 : (bstr [c]).size = 1 := rfl
  have h2 : ((((bstr [c]).data.getD 0 0).toNat : Int)).toNat.toUInt8 = UInt8.ofNat c := by
    show (((UInt8.ofNat c).toNat : Int)).toNat.toUInt8 = UInt8.ofNat c
    rw [Int.toNat_natCast]
    simp [Nat.mod_eq_of_lt hc]
  rw [h1, h2]
  have hz : (((1 : Nat) : Int) == 0) = false := rfl
  have ho : (((1 : Nat) : Int) == 1) = true := rfl
  rw [hz, ho, cond_or, Bool.false_or]
  unfold hasB
  have hcon : (usesN k).contains c = decide (c ∈ usesN k) := by simp
  rw [hcon]
  cases he : ((bstr [c]).toList == (bstr (usesN k)).toList) with
  | true =>
    have e : [UInt8.ofNat c] = (usesN k).map UInt8.ofNat := by
      have : (bstr [c]).toList = (bstr (usesN k)).toList := by simpa using he
      rwa [bstr_toList, bstr_toList] at this
    have hm : c ∈ usesN k := (u8_mem (usesN_small k) hc).1 (by show _ ∈ (usesN k).map UInt8.ofNat; rw [← e]; simp)
    simp [hm]
  | false =>
    simp only [cond_false, cond_true]
    rw [gd_pos (by decide)]
    simp only [Option.bind_some, Option.some.injEq]
    rw [decide_eq_decide, firstIdx_nonneg, u8_mem (usesN_small k) hc]

/-! ### Fields, validity -/
def withinB (x l h : Int) : Bool := decide (l ≤ x) && decide (x ≤ h)
theorem fact_within_eq (x l h : Int) : fact_within x l h = some (withinB x l h) := by
  show fact_within_p0 x l h = _
  unfold fact_within_p0 withinB
  rw [cond_and]
def fieldB (u : Bool) (x l h : Int) : Bool := if u then withinB x l h else x == 0
theorem fact_field_eq (u : Bool) (x l h : Int) : fact_field u x l h = some (fieldB u x l h) := by
  show fact_field_p0 u x l h = _
  unfold fact_field_p0 fieldB
  rw [fact_within_eq]
  rw [gd_pos (by intro _; rfl)]
  cases u <;> simp
def spanB (s : GSpan) : Bool := decide (0 ≤ s.From) && decide (s.From < s.To) && decide (s.To ≤ 73049)
theorem fact_validSpan_eq (s : GSpan) : fact_validSpan s = some (spanB s) := by
  show fact_validSpan_p0 s = _
  unfold fact_validSpan_p0 spanB
  rw [cond_and, cond_and]
def kindB (f : GFact) : Bool := if f.Kind = 4 then f.State != f.Seat else if f.Kind = 11 ∨ f.Kind = 12 then f.Span.To == f.Span.From + 1 else if f.Kind = 10 ∨ f.Kind = 14 then f.Ref != f.Person else true
/-- When a fact is valid. -/
def validB (f : GFact) : Bool :=
  !(usesN f.Kind).isEmpty && withinB f.Issuer 0 5 && withinB f.Number 1 999 && withinB f.Version 1 99 && withinB f.Person 1 99 &&
  fieldB (hasB f.Kind 83) f.State 0 5 && fieldB (hasB f.Kind 84) f.Seat 0 5 && spanB f.Span &&
  fieldB (hasB f.Kind 72) f.Share 1 100 && fieldB (hasB f.Kind 67) f.Currency 1 999 && fieldB (hasB f.Kind 65) f.Amount 0 1000000000 && fieldB (hasB f.Kind 82) f.Ref 1 99 && kindB f
theorem withinB_iff {x l h : Int} : withinB x l h = true ↔ l ≤ x ∧ x ≤ h := by
  unfold withinB
  simp only [Bool.and_eq_true, decide_eq_true_eq]
theorem spanB_iff {s : GSpan} : spanB s = true ↔ 0 ≤ s.From ∧ s.From < s.To ∧ s.To ≤ 73049 := by
  unfold spanB
  simp only [Bool.and_eq_true, decide_eq_true_eq, and_assoc]
theorem validB_iff (f : GFact) : validB f = true ↔ (usesN f.Kind).isEmpty = false ∧ (0 ≤ f.Issuer ∧ f.Issuer ≤ 5) ∧ (1 ≤ f.Number ∧ f.Number ≤ 999) ∧ (1 ≤ f.Version ∧ f.Version ≤ 99) ∧ (1 ≤ f.Person ∧ f.Person ≤ 99) ∧
    fieldB (hasB f.Kind 83) f.State 0 5 = true ∧ fieldB (hasB f.Kind 84) f.Seat 0 5 = true ∧ (0 ≤ f.Span.From ∧ f.Span.From < f.Span.To ∧ f.Span.To ≤ 73049) ∧ fieldB (hasB f.Kind 72) f.Share 1 100 = true ∧ fieldB (hasB f.Kind 67) f.Currency 1 999 = true ∧
    fieldB (hasB f.Kind 65) f.Amount 0 1000000000 = true ∧ fieldB (hasB f.Kind 82) f.Ref 1 99 = true ∧ kindB f = true := by
  unfold validB
  simp only [Bool.and_eq_true, withinB_iff, spanB_iff, Bool.not_eq_true', and_assoc]
theorem nil_uses (k : Int) : ((bstr (usesN k)).toList == (bstr []).toList) = (usesN k).isEmpty := by
  rw [bstr_toList, bstr_toList]
  cases usesN k <;> rfl

theorem fact_kind_eq (f : GFact) (h : spanB f.Span = true) : fact_Valid_p1 f = some (kindB f) := by
  have hs := spanB_iff.1 h
  unfold fact_Valid_p1 kindB fact_Valid_p0
  rw [w64_in (by omega) (by omega)]
  by_cases k4 : f.Kind = 4
  · simp [k4]
  by_cases k11 : f.Kind = 11
  · simp [k11]
  by_cases k12 : f.Kind = 12
  · simp [k12]
  by_cases k10 : f.Kind = 10
  · simp [k10]
  by_cases k14 : f.Kind = 14
  · simp [k14]
  have e : ∀ n : Int, f.Kind ≠ n → (f.Kind == n) = false := fun n h => by simpa using h
  simp [e 4 k4, e 11 k11, e 12 k12, e 10 k10, e 14 k14, k4, k11, k12, k10, k14]
theorem fact_Valid_eq (f : GFact) : fact_Valid f = some (validB f) := by
  show fact_Valid_p3 f = _
  unfold fact_Valid_p3
  rw [fact_Uses_eq, Option.bind_some]
  unfold fact_Valid_p2
  simp only [fact_within_eq, fact_has_eq f.Kind 83 (by decide), fact_has_eq f.Kind 84 (by decide), fact_has_eq f.Kind 72 (by decide), fact_has_eq f.Kind 67 (by decide), fact_has_eq f.Kind 65 (by decide), fact_has_eq f.Kind 82 (by decide), fact_field_eq, fact_validSpan_eq, getD_some', isSome_some', implies_true, gd_true, Option.bind_some, nil_uses, cond_or]
  unfold validB
  cases hA : (usesN f.Kind).isEmpty <;> cases hB : withinB f.Issuer 0 5 <;> cases hC : withinB f.Number 1 999 <;> cases hD : withinB f.Version 1 99 <;> cases hE : withinB f.Person 1 99 <;> simp only [Bool.not_true, Bool.not_false, Bool.or_true, Bool.or_false, Bool.true_or, Bool.false_or, cond_true, cond_false, Bool.false_and, Bool.true_and, Bool.and_false]
  cases hF : fieldB (hasB f.Kind 83) f.State 0 5 <;> cases hG : fieldB (hasB f.Kind 84) f.Seat 0 5 <;> cases hH : spanB f.Span <;> simp only [Bool.not_true, Bool.not_false, Bool.or_true, Bool.or_false, Bool.true_or, Bool.false_or, cond_true, cond_false, Bool.false_and, Bool.true_and, Bool.and_false]
  rw [fact_kind_eq f hH]
  cases hI : fieldB (hasB f.Kind 72) f.Share 1 100 <;> cases hJ : fieldB (hasB f.Kind 67) f.Currency 1 999 <;> cases hK : fieldB (hasB f.Kind 65) f.Amount 0 1000000000 <;> cases hL : fieldB (hasB f.Kind 82) f.Ref 1 99 <;> simp only [Bool.not_true, Bool.not_false, Bool.or_true, Bool.or_false, Bool.true_or, Bool.false_or, cond_true, cond_false, Bool.false_and, Bool.true_and, Bool.and_false]

/-! ### The document's answer -/
theorem bytes_getD (l : List Nat) (i : Nat) (h : i < l.length) : (bstr l).data.getD i 0 = UInt8.ofNat l[i] := by
  show ((l.map UInt8.ofNat).toArray).getD i 0 = _
  rw [Array.getD_eq_getD_getElem?]
  simp [h]
theorem usesN_length (k : Int) : (usesN k).length ≤ 6 := by
  by_cases h : 1 ≤ k ∧ k ≤ 14
  · obtain rfl | rfl | rfl | rfl | rfl | rfl | rfl | rfl | rfl | rfl | rfl | rfl | rfl | rfl := kinds h.1 h.2 <;> decide
  · rw [usesN_out h]; decide
theorem no_valid {f : GFact} (h : validB f = true → False) : some false = some (validB f) := by
  cases hv : validB f with
  | false => rfl
  | true => exact (h hv).elim
/-! ### The part of an amount -/
theorem valid_amount {f : GFact} (h : validB f = true) : 0 ≤ f.Amount ∧ f.Amount ≤ 1000000000 ∧ 0 ≤ f.Span.From ∧ f.Span.From < f.Span.To ∧ f.Span.To ≤ 73049 := by
  obtain ⟨_, _, _, _, _, _, _, g5, _, _, ga, _⟩ := (validB_iff f).1 h
  unfold fieldB at ga
  split at ga
  · have := withinB_iff.1 ga; omega
  · have : f.Amount = 0 := by simpa using ga
    omega
end Go.Ax
