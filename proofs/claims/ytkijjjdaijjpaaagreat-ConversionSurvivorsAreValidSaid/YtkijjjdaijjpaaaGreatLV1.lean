import Derived.Test.YtkijjjdaijjpaaaGreatL0
import Derived.Test.YtkijjjdaijjpaaaGreatFs
set_option linter.all false
/- Facts: valid, ordered, merged, made. -/
set_option maxRecDepth 100000
namespace Go.Ax
theorem plain_Mod_eq (n m : Int) (h : 0 < m) (h' : m ≤ 9223372036854775807) : plain_Mod n m = some (n % m) := by
  show plain_Mod_p0 n m = _
  unfold plain_Mod_p0
  rw [gd_pos (by omega)]
  have h1 := Int.emod_nonneg n (show m ≠ 0 by omega)
  have h2 := Int.emod_lt_of_pos n h
  rcases tmod_cases n h with hc | ⟨hc, hz⟩
  · rw [hc]
    simp [show ¬ n % m < 0 by omega]
  · rw [hc]
    have : n % m - m < 0 := by omega
    simp only [this, decide_true, cond_true]
    rw [w64_in (by omega) (by omega)]
    congr 1; omega
section
open Go.Proofs

def lengthL (n : Int) : Int :=
  if n % 4 = 0 then 1 + w64 (n.tdiv 4) % 9000 else if n % 4 = 1 then 1 + w64 (n.tdiv 4) % 1200 else if n % 4 = 2 then 1 + w64 (n.tdiv 4) % 120 else 1 + w64 (n.tdiv 4) % 12
theorem mod1 (x m : Int) (h1 : 0 < m) (h2 : m ≤ 9000) : w64 (1 + x % m) = 1 + x % m := by
  have := Int.emod_nonneg x (show m ≠ 0 by omega)
  have := Int.emod_lt_of_pos x h1
  exact w64_in (by omega) (by omega)
theorem hand_length_eq (n : Int) : hand_length n = some (lengthL n) := by
  show hand_length_p0 n = _
  unfold hand_length_p0 lengthL
  rw [plain_Mod_eq n 4 (by omega) (by omega)]
  simp only [Option.bind_some]
  rw [plain_Mod_eq _ 9000 (by omega) (by omega), plain_Mod_eq _ 1200 (by omega) (by omega), plain_Mod_eq _ 120 (by omega) (by omega), plain_Mod_eq _ 12 (by omega) (by omega)]
  simp only [Option.bind_some]
  rw [mod1 _ 9000 (by omega) (by omega), mod1 _ 1200 (by omega) (by omega), mod1 _ 120 (by omega) (by omega), mod1 _ 12 (by omega) (by omega)]
  by_cases h0 : n % 4 = 0
  · simp [h0]
  by_cases h1 : n % 4 = 1
  · simp [h1]
  by_cases h2 : n % 4 = 2
  · simp [h2]
  · have e0 : (n % 4 == 0) = false := by simpa using h0
    have e1 : (n % 4 == 1) = false := by simpa using h1
    have e2 : (n % 4 == 2) = false := by simpa using h2
    simp [e0, e1, e2, h0, h1, h2]
theorem lengthL_range (n : Int) : 1 ≤ lengthL n ∧ lengthL n ≤ 9000 := by
  unfold lengthL
  have key : ∀ x m : Int, 0 < m → m ≤ 9000 → 1 ≤ 1 + x % m ∧ 1 + x % m ≤ 9000 := by
    intro x m h1 h2
    have := Int.emod_nonneg x (show m ≠ 0 by omega)
    have := Int.emod_lt_of_pos x h1
    omega
  split
  · exact key _ _ (by omega) (by omega)
  · split
    · exact key _ _ (by omega) (by omega)
    · split
      · exact key _ _ (by omega) (by omega)
      · exact key _ _ (by omega) (by omega)

/-! ### Letters -/
def usesN (k : Int) : List Nat :=
  if k = 1 then [83, 80, 84, 72, 67, 65] else if k = 2 then [83, 80, 72, 67, 65] else if k = 3 then [83, 80, 72, 67, 65] else if k = 4 then [83, 80, 84] else
  if k = 5 then [83, 80] else if k = 6 then [83, 80, 67, 65] else if k = 7 then [83, 80] else if k = 8 then [83, 80] else if k = 9 then [83, 80] else
  if k = 10 then [83, 80, 82] else if k = 11 then [80] else if k = 12 then [80] else if k = 13 then [80] else if k = 14 then [80, 82] else []
theorem kinds {k : Int} (h1 : 1 ≤ k) (h2 : k ≤ 14) : k = 1 ∨ k = 2 ∨ k = 3 ∨ k = 4 ∨ k = 5 ∨ k = 6 ∨ k = 7 ∨ k = 8 ∨ k = 9 ∨ k = 10 ∨ k = 11 ∨ k = 12 ∨ k = 13 ∨ k = 14 := by omega
theorem usesN_out {k : Int} (h : ¬ (1 ≤ k ∧ k ≤ 14)) : usesN k = [] := by
  unfold usesN
  have e : ∀ n : Int, 1 ≤ n → n ≤ 14 → k ≠ n := fun n a b c => h (by omega)
  rw [if_neg (e 1 (by omega) (by omega)), if_neg (e 2 (by omega) (by omega)), if_neg (e 3 (by omega) (by omega)), if_neg (e 4 (by omega) (by omega)), if_neg (e 5 (by omega) (by omega)), if_neg (e 6 (by omega) (by omega)), if_neg (e 7 (by omega) (by omega)),
    if_neg (e 8 (by omega) (by omega)), if_neg (e 9 (by omega) (by omega)), if_neg (e 10 (by omega) (by omega)), if_neg (e 11 (by omega) (by omega)), if_neg (e 12 (by omega) (by omega)), if_neg (e 13 (by omega) (by omega)), if_neg (e 14 (by omega) (by omega))]
theorem fact_Uses_eq (k : Int) : fact_Uses k = some (bstr (usesN k)) := by
  show fact_Uses_p1 k = _
  by_cases h : 1 ≤ k ∧ k ≤ 14
  · obtain rfl | rfl | rfl | rfl | rfl | rfl | rfl | rfl | rfl | rfl | rfl | rfl | rfl | rfl := kinds h.1 h.2 <;> rfl
  · rw [usesN_out h]
    have e : ∀ n : Int, 1 ≤ n → n ≤ 14 → (k == n) = false := fun n a b => by
      have : k ≠ n := fun c => h (by omega)
      simpa using this
    unfold fact_Uses_p1
    simp only [e 1 (by omega) (by omega), e 2 (by omega) (by omega), e 3 (by omega) (by omega), e 4 (by omega) (by omega), e 5 (by omega) (by omega), e 6 (by omega) (by omega), e 7 (by omega) (by omega), e 8 (by omega) (by omega), e 9 (by omega) (by omega), e 10 (by omega) (by omega), e 11 (by omega) (by omega), e 12 (by omega) (by omega), e 13 (by omega) (by omega), e 14 (by omega) (by omega), cond_false]
    rfl
theorem ref12_Uses_eq (k : Int) : ref12_Uses k = some (bstr (usesN k)) := by
  show ref12_Uses_p0 k = _
  unfold ref12_Uses_p0
  by_cases h : 1 ≤ k ∧ k ≤ 14
  · have h1 : decide (k < 1) = false := by simpa using h.1
    have h2 : decide (15 ≤ k) = false := by simp; omega
    rw [h1, h2, cond_false, cond_false, gd_pos (by omega)]
    obtain rfl | rfl | rfl | rfl | rfl | rfl | rfl | rfl | rfl | rfl | rfl | rfl | rfl | rfl := kinds h.1 h.2 <;> rfl
  · rw [usesN_out h]
    have : (bif decide (k < 1) then true else decide (15 ≤ k)) = true := by
      rw [cond_or, Bool.or_eq_true, decide_eq_true_iff, decide_eq_true_iff]; omega
    rw [this]; rfl

def hasB (k : Int) (c : Nat) : Bool := (usesN k).contains c
theorem usesN_small (k : Int) : ∀ c ∈ usesN k, c < 256 := by
  by_cases h : 1 ≤ k ∧ k ≤ 14
  · obtain rfl | rfl | rfl | rfl | rfl | rfl | rfl | rfl | rfl | rfl | rfl | rfl | rfl | rfl := kinds h.1 h.2 <;> decide
  · rw [usesN_out h]; intro c hc; simp at hc
theorem bstr_toList (l : List Nat) : (bstr l).toList = l.map UInt8.ofNat := by
  rw [ByteArray.toList_eq]
  rfl
theorem bstr_size (l : List Nat) : (bstr l).size = l.length := by
  show ((l.map UInt8.ofNat).toArray).size = l.length
  simp
theorem bang (s : ByteArray) (i : Nat) (h : i < s.size) : s[i]! = s.data.toList[i]'(by simpa using h) := by
  rw [getElem!_pos s i h]
  rfl
theorem firstIdx_nonneg (s : ByteArray) (b : UInt8) : 0 ≤ firstIdx s b ↔ b ∈ s.data.toList := by
  unfold firstIdx
  constructor
  · intro h
    split at h
    · next i hi =>
      have h1 := List.find?_some hi
      have h2 := List.mem_range.1 (List.mem_of_find?_eq_some hi)
      rw [bang s i h2] at h1
      have h3 : s.data.toList[i]'(by simpa using h2) = b := by simpa using h1
      rw [← h3]
      exact List.getElem_mem _
    · simp at h
  · intro h
    obtain ⟨i, hi, e⟩ := List.getElem_of_mem h
    have h2 : i < s.size := by simpa using hi
    split
    · exact Int.natCast_nonneg _
    · next hn =>
      have := List.find?_eq_none.1 hn i (List.mem_range.2 h2)
      rw [bang s i h2, e] at this
      simp at this
theorem u8_mem {l : List Nat} (hl : ∀ c ∈ l, c < 256) {c : Nat} (hc : c < 256) : UInt8.ofNat c ∈ (bstr l).data.toList ↔ c ∈ l := by
  show UInt8.ofNat c ∈ l.map UInt8.ofNat ↔ _
  constructor
  · intro h
    obtain ⟨d, hd, e⟩ := List.mem_map.1 h
    have h1 := congrArg UInt8.toNat e
    have h2 : (UInt8.ofNat d).toNat = d := by simp [Nat.mod_eq_of_lt (hl d hd)]
    have h3 : (UInt8.ofNat c).toNat = c := by simp [Nat.mod_eq_of_lt hc]
    rw [h2, h3] at h1
    subst h1; exact hd
  · exact fun h => List.mem_map_of_mem h
theorem fact_has_eq (k : Int) (c : Nat) (hc : c < 256) : fact_Valid_1 (bstr [c]) (bstr (usesN k)) = some (hasB k c) := by
  show fact_Valid_1_p0 _ _ = _
  unfold fact_Valid_1_p0 strings_Contains strings_Contains_p0 strings_Index strings_Index_p0 internal_stringslite_Index internal_stringslite_Index_p0 internal_stringslite_IndexByte internal_stringslite_IndexByte_p0 bytealg_IndexByteString
  have h1 : (bstr [c]).size = 1 := rfl
  have h2 : ((((bstr [c]).data.getD 0 0).toNat : Int)).toNat.toUInt8 = UInt8.ofNat c := by
    show (((UInt8.ofNat c).toNat : Int)).toNat.toUInt8 = UInt8.ofNat c
    rw [Int.toNat_natCast]
    simp [Nat.mod_eq_of_lt hc]
  rw [h1, h2]
  have hz : (((1 : Nat) : Int) == 0) = false := rfl
  have ho : (((1 : Nat) : Int) == 1) = true := rfl
  rw [hz, ho, cond_or, Bool.false_or]
  unfold hasB
  have hcon : (usesN k).contains c = decide (c ∈ usesN k) := by simp
  rw [hcon]
  cases he : ((bstr [c]).toList == (bstr (usesN k)).toList) with
  | true =>
    have e : [UInt8.ofNat c] = (usesN k).map UInt8.ofNat := by
      have : (bstr [c]).toList = (bstr (usesN k)).toList := by simpa using he
      rwa [bstr_toList, bstr_toList] at this
    have hm : c ∈ usesN k := (u8_mem (usesN_small k) hc).1 (by show _ ∈ (usesN k).map UInt8.ofNat; rw [← e]; simp)
    simp [hm]
  | false =>
    simp only [cond_false, cond_true]
    rw [gd_pos (by decide)]
    simp only [Option.bind_some, Option.some.injEq]
    rw [decide_eq_decide, firstIdx_nonneg, u8_mem (usesN_small k) hc]

/-! ### Fields, validity -/
def withinB (x l h : Int) : Bool := decide (l ≤ x) && decide (x ≤ h)
theorem fact_within_eq (x l h : Int) : fact_within x l h = some (withinB x l h) := by
  show fact_within_p0 x l h = _
  unfold fact_within_p0 withinB
  rw [cond_and]
def fieldB (u : Bool) (x l h : Int) : Bool := if u then withinB x l h else x == 0
theorem fact_field_eq (u : Bool) (x l h : Int) : fact_field u x l h = some (fieldB u x l h) := by
  show fact_field_p0 u x l h = _
  unfold fact_field_p0 fieldB
  rw [fact_within_eq]
  rw [gd_pos (by intro _; rfl)]
  cases u <;> simp
def spanB (s : GSpan) : Bool := decide (0 ≤ s.From) && decide (s.From < s.To) && decide (s.To ≤ 73049)
theorem fact_validSpan_eq (s : GSpan) : fact_validSpan s = some (spanB s) := by
  show fact_validSpan_p0 s = _
  unfold fact_validSpan_p0 spanB
  rw [cond_and, cond_and]
def kindB (f : GFact) : Bool := if f.Kind = 4 then f.State != f.Seat else if f.Kind = 11 ∨ f.Kind = 12 then f.Span.To == f.Span.From + 1 else if f.Kind = 10 ∨ f.Kind = 14 then f.Ref != f.Person else true
/-- When a fact is valid. -/
def validB (f : GFact) : Bool :=
  !(usesN f.Kind).isEmpty && withinB f.Issuer 0 5 && withinB f.Number 1 999 && withinB f.Version 1 99 && withinB f.Person 1 99 &&
  fieldB (hasB f.Kind 83) f.State 0 5 && fieldB (hasB f.Kind 84) f.Seat 0 5 && spanB f.Span &&
  fieldB (hasB f.Kind 72) f.Share 1 100 && fieldB (hasB f.Kind 67) f.Currency 1 999 && fieldB (hasB f.Kind 65) f.Amount 0 1000000000 && fieldB (hasB f.Kind 82) f.Ref 1 99 && kindB f
theorem withinB_iff {x l h : Int} : withinB x l h = true ↔ l ≤ x ∧ x ≤ h := by
  unfold withinB
  simp only [Bool.and_eq_true, decide_eq_true_eq]
theorem spanB_iff {s : GSpan} : spanB s = true ↔ 0 ≤ s.From ∧ s.From < s.To ∧ s.To ≤ 73049 := by
  unfold spanB
  simp only [Bool.and_eq_true, decide_eq_true_eq, and_assoc]
theorem validB_iff (f : GFact) : validB f = true ↔ (usesN f.Kind).isEmpty = false ∧ (0 ≤ f.Issuer ∧ f.Issuer ≤ 5) ∧ (1 ≤ f.Number ∧ f.Number ≤ 999) ∧ (1 ≤ f.Version ∧ f.Version ≤ 99) ∧ (1 ≤ f.Person ∧ f.Person ≤ 99) ∧
    fieldB (hasB f.Kind 83) f.State 0 5 = true ∧ fieldB (hasB f.Kind 84) f.Seat 0 5 = true ∧ (0 ≤ f.Span.From ∧ f.Span.From < f.Span.To ∧ f.Span.To ≤ 73049) ∧ fieldB (hasB f.Kind 72) f.Share 1 100 = true ∧ fieldB (hasB f.Kind 67) f.Currency 1 999 = true ∧
    fieldB (hasB f.Kind 65) f.Amount 0 1000000000 = true ∧ fieldB (hasB f.Kind 82) f.Ref 1 99 = true ∧ kindB f = true := by
  unfold validB
  simp only [Bool.and_eq_true, withinB_iff, spanB_iff, Bool.not_eq_true', and_assoc]
theorem nil_uses (k : Int) : ((bstr (usesN k)).toList == (bstr []).toList) = (usesN k).isEmpty := by
  rw [bstr_toList, bstr_toList]
  cases usesN k <;> rfl

theorem fact_kind_eq (f : GFact) (h : spanB f.Span = true) : fact_Valid_p1 f = some (kindB f) := by
  have hs := spanB_iff.1 h
  unfold fact_Valid_p1 kindB fact_Valid_p0
  rw [w64_in (by omega) (by omega)]
  by_cases k4 : f.Kind = 4
  · simp [k4]
  by_cases k11 : f.Kind = 11
  · simp [k11]
  by_cases k12 : f.Kind = 12
  · simp [k12]
  by_cases k10 : f.Kind = 10
  · simp [k10]
  by_cases k14 : f.Kind = 14
  · simp [k14]
  have e : ∀ n : Int, f.Kind ≠ n → (f.Kind == n) = false := fun n h => by simpa using h
  simp [e 4 k4, e 11 k11, e 12 k12, e 10 k10, e 14 k14, k4, k11, k12, k10, k14]
theorem fact_Valid_eq (f : GFact) : fact_Valid f = some (validB f) := by
  show fact_Valid_p3 f = _
  unfold fact_Valid_p3
  rw [fact_Uses_eq, Option.bind_some]
  unfold fact_Valid_p2
  simp only [fact_within_eq, fact_has_eq f.Kind 83 (by decide), fact_has_eq f.Kind 84 (by decide), fact_has_eq f.Kind 72 (by decide), fact_has_eq f.Kind 67 (by decide), fact_has_eq f.Kind 65 (by decide), fact_has_eq f.Kind 82 (by decide), fact_field_eq, fact_validSpan_eq, getD_some', isSome_some', implies_true, gd_true, Option.bind_some, nil_uses, cond_or]
  unfold validB
  cases hA : (usesN f.Kind).isEmpty <;> cases hB : withinB f.Issuer 0 5 <;> cases hC : withinB f.Number 1 999 <;> cases hD : withinB f.Version 1 99 <;> cases hE : withinB f.Person 1 99 <;> simp only [Bool.not_true, Bool.not_false, Bool.or_true, Bool.or_false, Bool.true_or, Bool.false_or, cond_true, cond_false, Bool.false_and, Bool.true_and, Bool.and_false]
  cases hF : fieldB (hasB f.Kind 83) f.State 0 5 <;> cases hG : fieldB (hasB f.Kind 84) f.Seat 0 5 <;> cases hH : spanB f.Span <;> simp only [Bool.not_true, Bool.not_false, Bool.or_true, Bool.or_false, Bool.true_or, Bool.false_or, cond_true, cond_false, Bool.false_and, Bool.true_and, Bool.and_false]
  rw [fact_kind_eq f hH]
  cases hI : fieldB (hasB f.Kind 72) f.Share 1 100 <;> cases hJ : fieldB (hasB f.Kind 67) f.Currency 1 999 <;> cases hK : fieldB (hasB f.Kind 65) f.Amount 0 1000000000 <;> cases hL : fieldB (hasB f.Kind 82) f.Ref 1 99 <;> simp only [Bool.not_true, Bool.not_false, Bool.or_true, Bool.or_false, Bool.true_or, Bool.false_or, cond_true, cond_false, Bool.false_and, Bool.true_and, Bool.and_false]

/-! ### The document's answer -/
theorem bytes_getD (l : List Nat) (i : Nat) (h : i < l.length) : (bstr l).data.getD i 0 = UInt8.ofNat l[i] := by
  show ((l.map UInt8.ofNat).toArray).getD i 0 = _
  rw [Array.getD_eq_getD_getElem?]
  simp [h]
theorem usesN_length (k : Int) : (usesN k).length ≤ 6 := by
  by_cases h : 1 ≤ k ∧ k ≤ 14
  · obtain rfl | rfl | rfl | rfl | rfl | rfl | rfl | rfl | rfl | rfl | rfl | rfl | rfl | rfl := kinds h.1 h.2 <;> decide
  · rw [usesN_out h]; decide
theorem no_valid {f : GFact} (h : validB f = true → False) : some false = some (validB f) := by
  cases hv : validB f with
  | false => rfl
  | true => exact (h hv).elim
/-! ### The part of an amount -/
theorem valid_amount {f : GFact} (h : validB f = true) : 0 ≤ f.Amount ∧ f.Amount ≤ 1000000000 ∧ 0 ≤ f.Span.From ∧ f.Span.From < f.Span.To ∧ f.Span.To ≤ 73049 := by
  obtain ⟨_, _, _, _, _, _, _, g5, _, _, ga, _⟩ := (validB_iff f).1 h
  unfold fieldB at ga
  split at ga
  · have := withinB_iff.1 ga; omega
  · have : f.Amount = 0 := by simpa using ga
    omega
end
section
open Go.Proofs

abbrev GHand := GPensionhand_Fact
def handKind (r : GHand) : Int := 1 + r.Kind % 14
def handFrom (r : GHand) : Int :=
  if handKind r = 11 then 12000 + r.From % 5000 else if handKind r = 12 then 34000 + r.From % 6000 else if handKind r = 8 then 34000 + r.From % 4000 else 21900 + r.From % 16000
def handTo (r : GHand) : Int :=
  if handKind r = 11 then handFrom r + 1 else if handKind r = 12 then handFrom r + 1 else if handKind r = 8 then handFrom r + 1 + r.Length % 700 else handFrom r + lengthL r.Length
def handSet (r : GHand) (a b : Int) (f : GFact) (c : Nat) : GFact :=
  if c = 83 then { f with State := r.State % 3 }
  else if c = 80 then { f with Span := ⟨a, b⟩ }
  else if c = 84 then { f with Seat := if f.Kind = 4 ∧ r.Seat % 3 = f.State then w64 (f.State + 1) % 3 else r.Seat % 3 }
  else if c = 72 then { f with Share := w64 (1 + r.Share % 100) }
  else if c = 67 then { f with Currency := w64 (1 + w64 (r.Seat + r.State.tmod 3) % 3) }
  else if c = 65 then { f with Amount := r.Amount % 3000000 }
  else { f with Ref := if w64 (1 + r.Ref % 4) = f.Person then w64 (1 + f.Person % 4) else w64 (1 + r.Ref % 4) }
def hand0 (r : GHand) : GFact :=
  { Issuer := r.Issuer % 3, Number := 1 + r.Number % 20, Version := 1 + r.Version % 3, Withdrawn := r.Withdrawn, Person := 1 + r.Person % 4, Kind := handKind r, State := 0, Span := ⟨0, 0⟩, Seat := 0, Share := 0, Currency := 0, Amount := 0, Ref := 0 }
def makeL (r : GHand) : GFact := (usesN (handKind r)).foldl (handSet r (handFrom r) (handTo r)) (hand0 r)

theorem hm (x : Int) {m : Int} (h : 0 < m) : 0 ≤ x % m ∧ x % m < m := ⟨Int.emod_nonneg _ (by omega), Int.emod_lt_of_pos _ h⟩

theorem hand_Make_step (r : GHand) (a b : Int) (l : List Nat) (hl : ∀ c ∈ l, c < 256) (hn : l.length < 1000) (i : Nat) (hi : i < l.length) (f : GFact) :
    hand_Make_p1 a b (bstr l) (i : Int) r f = some (.inl (((i + 1 : Nat) : Int), handSet r a b f l[i])) := by
  unfold hand_Make_p1
  rw [bstr_size, gd_pos (by omega), Int.toNat_natCast, bytes_getD l i hi]
  have hv : ((UInt8.ofNat l[i]).toNat : Int) = (l[i] : Int) := by
    have := hl _ (List.getElem_mem hi)
    simp [Nat.mod_eq_of_lt this]
  rw [hv]
  generalize l[i] = c
  have hw : w64 ((i : Int) + 1) = ((i + 1 : Nat) : Int) := by rw [w64_in (by omega) (by omega)]; omega
  have m3 := fun x => plain_Mod_eq x 3 (by omega) (by omega)
  have m4 := fun x => plain_Mod_eq x 4 (by omega) (by omega)
  have m100 := fun x => plain_Mod_eq x 100 (by omega) (by omega)
  have mA := fun x => plain_Mod_eq x 3000000 (by omega) (by omega)
  simp only [m3, m4, m100, mA, Option.bind_some]
  unfold hand_Make_p0
  rw [hw]
  have key : ∀ n : Nat, ((c : Int) == (n : Int)) = decide (c = n) := by
    intro n
    by_cases h : c = n
    · subst h; simp
    · have h2 : ((c : Int) == (n : Int)) = false := by simp; omega
      rw [h2]; simp [h]
  have k83 := key 83; have k80 := key 80; have k84 := key 84; have k72 := key 72; have k67 := key 67; have k65 := key 65
  simp only [Int.cast_ofNat_Int] at k83 k80 k84 k72 k67 k65
  rw [k83, k80, k84, k72, k67, k65]
  unfold handSet
  by_cases h1 : c = 83
  · simp [h1]
  by_cases h2 : c = 80
  · simp [h2]
  by_cases h3 : c = 84
  · subst h3
    by_cases h4 : f.Kind = 4 ∧ r.Seat % 3 = f.State
    · simp [h4]
    · have : (bif f.Kind == 4 then r.Seat % 3 == f.State else false) = false := by
        rw [cond_and, Bool.and_eq_false_iff]
        by_cases h5 : f.Kind = 4
        · right; simpa using fun e => h4 ⟨h5, e⟩
        · left; simpa using h5
      simp [this, h4]
  by_cases h4 : c = 72
  · simp [h4]
  by_cases h5 : c = 67
  · simp [h5]
  by_cases h6 : c = 65
  · simp [h6]
  simp only [h1, h2, h3, h4, h5, h6, decide_false, cond_false, if_false]
  by_cases h7 : w64 (1 + r.Ref % 4) = f.Person
  · simp [h7]
  · have : (w64 (1 + r.Ref % 4) == f.Person) = false := by simpa using h7
    simp [this, h7]

theorem hand_Make_loop (r : GHand) (a b : Int) (l : List Nat) (hl : ∀ c ∈ l, c < 256) (hn : l.length < 1000) (f0 : GFact) : ∀ (n i : Nat) (f : GFact), l.length = i + n →
    fixL (hand_Make_l1 a b (bstr l) r f0) ((i : Int), f) = some ((l.drop i).foldl (handSet r a b) f) := by
  intro n
  induction n with
  | zero =>
    intro i f hi
    rw [fixL_eq]
    show (hand_Make_p2 a b (bstr l) (i : Int) r f).bind _ = _
    unfold hand_Make_p2
    rw [bstr_size]
    have : decide ((i : Int) < (l.length : Int)) = false := by simp; omega
    rw [this, List.drop_of_length_le (by omega)]
    rfl
  | succ n ih =>
    intro i f hi
    have hlt : i < l.length := by omega
    rw [fixL_eq]
    show (hand_Make_p2 a b (bstr l) (i : Int) r f).bind _ = _
    unfold hand_Make_p2
    rw [bstr_size]
    have : decide ((i : Int) < (l.length : Int)) = true := by simp; omega
    rw [this, cond_true, hand_Make_step r a b l hl hn i hlt f, Option.bind_some]
    simp only
    rw [ih (i + 1) _ (by omega), List.drop_eq_getElem_cons hlt, List.foldl_cons]

theorem hand_Make_eq (r : GHand) : hand_Make r = some (makeL r) := by
  show hand_Make_p6 r = _
  unfold hand_Make_p6
  have m3 := fun x => plain_Mod_eq x 3 (by omega) (by omega)
  have m4 := fun x => plain_Mod_eq x 4 (by omega) (by omega)
  have m20 := fun x => plain_Mod_eq x 20 (by omega) (by omega)
  have m14 := fun x => plain_Mod_eq x 14 (by omega) (by omega)
  have m16 := fun x => plain_Mod_eq x 16000 (by omega) (by omega)
  have m5 := fun x => plain_Mod_eq x 5000 (by omega) (by omega)
  have m6 := fun x => plain_Mod_eq x 6000 (by omega) (by omega)
  have m40 := fun x => plain_Mod_eq x 4000 (by omega) (by omega)
  have m7 := fun x => plain_Mod_eq x 700 (by omega) (by omega)
  simp only [m3, m4, m20, m14, m16, m5, m6, m40, m7, hand_length_eq, Option.bind_some]
  have a1 := hm r.Number (m := 20) (by decide)
  have a2 := hm r.Version (m := 3) (by decide)
  have a3 := hm r.Person (m := 4) (by decide)
  have a4 := hm r.Kind (m := 14) (by decide)
  have a5 := hm r.From (m := 5000) (by decide)
  have a6 := hm r.From (m := 6000) (by decide)
  have a7 := hm r.From (m := 4000) (by decide)
  have a8 := hm r.From (m := 16000) (by decide)
  have a9 := hm r.Length (m := 700) (by decide)
  have b1 := lengthL_range r.Length
  rw [w64_in (n := 1 + r.Number % 20) (by omega) (by omega), w64_in (n := 1 + r.Version % 3) (by omega) (by omega), w64_in (n := 1 + r.Person % 4) (by omega) (by omega), w64_in (n := 1 + r.Kind % 14) (by omega) (by omega),
    w64_in (n := 12000 + r.From % 5000) (by omega) (by omega), w64_in (n := 12000 + r.From % 5000 + 1) (by omega) (by omega), w64_in (n := 34000 + r.From % 6000) (by omega) (by omega), w64_in (n := 34000 + r.From % 6000 + 1) (by omega) (by omega),
    w64_in (n := 34000 + r.From % 4000) (by omega) (by omega), w64_in (n := 34000 + r.From % 4000 + 1) (by omega) (by omega), w64_in (n := 34000 + r.From % 4000 + 1 + r.Length % 700) (by omega) (by omega),
    w64_in (n := 21900 + r.From % 16000) (by omega) (by omega), w64_in (n := 21900 + r.From % 16000 + lengthL r.Length) (by omega) (by omega)]
  have core : ∀ a b : Int, hand_Make_p5 a b r (hand0 r) = some ((usesN (handKind r)).foldl (handSet r a b) (hand0 r)) := by
    intro a b
    unfold hand_Make_p5
    rw [ref12_Uses_eq, Option.bind_some]
    unfold hand_Make_p4
    have h6 := usesN_length (handKind r)
    have := hand_Make_loop r a b (usesN (handKind r)) (usesN_small _) (by omega) (hand0 r) (usesN (handKind r)).length 0 (hand0 r) (by omega)
    rw [show ((0 : Nat) : Int) = 0 from rfl] at this
    rw [show (hand0 r).Kind = handKind r from rfl, this]
    rfl
  have hk : handKind r = 1 + r.Kind % 14 := rfl
  unfold makeL handTo handFrom
  by_cases k11 : 1 + r.Kind % 14 = 11
  · have : (1 + r.Kind % 14 == 11) = true := by simpa using k11
    rw [this, cond_true, hk, if_pos k11, if_pos k11]
    exact core _ _
  have e11 : (1 + r.Kind % 14 == 11) = false := by simpa using k11
  rw [e11, cond_false]
  by_cases k12 : 1 + r.Kind % 14 = 12
  · have : (1 + r.Kind % 14 == 12) = true := by simpa using k12
    rw [this, cond_true, hk, if_neg k11, if_pos k12, if_neg k11, if_pos k12]
    exact core _ _
  have e12 : (1 + r.Kind % 14 == 12) = false := by simpa using k12
  rw [e12, cond_false]
  by_cases k8 : 1 + r.Kind % 14 = 8
  · have : (1 + r.Kind % 14 == 8) = true := by simpa using k8
    rw [this, cond_true, hk, if_neg k11, if_neg k12, if_pos k8, if_neg k11, if_neg k12, if_pos k8]
    exact core _ _
  have e8 : (1 + r.Kind % 14 == 8) = false := by simpa using k8
  rw [e8, cond_false, hk, if_neg k11, if_neg k12, if_neg k8, if_neg k11, if_neg k12, if_neg k8]
  exact core _ _

theorem hasB_iff (k : Int) (b : Nat) : hasB k b = decide (b ∈ usesN k) := by
  unfold hasB; simp
theorem field_used {x l h : Int} (hx : l ≤ x ∧ x ≤ h) : fieldB true x l h = true := by
  unfold fieldB
  rw [if_pos rfl, withinB_iff]; exact hx
theorem field_zero {l h : Int} : fieldB false 0 l h = true := rfl
theorem hand_span (r : GHand) : 0 ≤ handFrom r ∧ handFrom r < handTo r ∧ handTo r ≤ 73049 ∧ (handKind r = 11 ∨ handKind r = 12 → handTo r = handFrom r + 1) := by
  have h4 := hm r.From (m := 16000) (by decide)
  have h5 := hm r.From (m := 5000) (by decide)
  have h6 := hm r.From (m := 6000) (by decide)
  have h7 := hm r.From (m := 4000) (by decide)
  have h8 := hm r.Length (m := 700) (by decide)
  have h9 := lengthL_range r.Length
  by_cases k11 : handKind r = 11
  · have e1 : handFrom r = 12000 + r.From % 5000 := by unfold handFrom; rw [if_pos k11]
    have e2 : handTo r = handFrom r + 1 := by unfold handTo; rw [if_pos k11]
    omega
  by_cases k12 : handKind r = 12
  · have e1 : handFrom r = 34000 + r.From % 6000 := by unfold handFrom; rw [if_neg k11, if_pos k12]
    have e2 : handTo r = handFrom r + 1 := by unfold handTo; rw [if_neg k11, if_pos k12]
    omega
  by_cases k8 : handKind r = 8
  · have e1 : handFrom r = 34000 + r.From % 4000 := by unfold handFrom; rw [if_neg k11, if_neg k12, if_pos k8]
    have e2 : handTo r = handFrom r + 1 + r.Length % 700 := by unfold handTo; rw [if_neg k11, if_neg k12, if_pos k8]
    omega
  · have e1 : handFrom r = 21900 + r.From % 16000 := by unfold handFrom; rw [if_neg k11, if_neg k12, if_neg k8]
    have e2 : handTo r = handFrom r + lengthL r.Length := by unfold handTo; rw [if_neg k11, if_neg k12, if_neg k8]
    omega

/-- What a made fact is, whatever its kind. -/
theorem make_valid (r : GHand) : validB (makeL r) = true ∧ (makeL r).Kind = handKind r ∧ (makeL r).Amount < 3000000 ∧ (makeL r).Person = 1 + r.Person % 4 ∧ (makeL r).Version = 1 + r.Version % 3 := by
  have hs := hand_span r
  have a1 := hm r.Issuer (m := 3) (by decide)
  have a2 := hm r.Number (m := 20) (by decide)
  have a3 := hm r.Version (m := 3) (by decide)
  have a4 := hm r.Person (m := 4) (by decide)
  have a5 := hm r.Kind (m := 14) (by decide)
  have a6 := hm r.State (m := 3) (by decide)
  have a7 := hm r.Seat (m := 3) (by decide)
  have a8 := hm r.Share (m := 100) (by decide)
  have a9 := hm (w64 (r.Seat + r.State.tmod 3)) (m := 3) (by decide)
  have b1 := hm r.Amount (m := 3000000) (by decide)
  have b2 := hm r.Ref (m := 4) (by decide)
  have b3 := hm (1 + r.Person % 4) (m := 4) (by decide)
  have b4 := hm (r.State % 3 + 1) (m := 3) (by decide)
  have w1 : w64 (1 + r.Share % 100) = 1 + r.Share % 100 := w64_in (by omega) (by omega)
  have w2 : w64 (1 + w64 (r.Seat + r.State.tmod 3) % 3) = 1 + w64 (r.Seat + r.State.tmod 3) % 3 := w64_in (by omega) (by omega)
  have w3 : w64 (1 + r.Ref % 4) = 1 + r.Ref % 4 := w64_in (by omega) (by omega)
  have w4 : w64 (1 + (1 + r.Person % 4) % 4) = 1 + (1 + r.Person % 4) % 4 := w64_in (by omega) (by omega)
  have w5 : w64 (r.State % 3 + 1) = r.State % 3 + 1 := w64_in (by omega) (by omega)
  have hk : handKind r = 1 + r.Kind % 14 := rfl
  generalize handFrom r = a at hs
  obtain e | e | e | e | e | e | e | e | e | e | e | e | e | e := kinds (k := handKind r) (by omega) (by omega)
  all_goals
    have hmk : makeL r = (usesN (handKind r)).foldl (handSet r (handFrom r) (handTo r)) (hand0 r) := rfl
    have hs := hand_span r
    rw [e] at hmk hs
    have hu : usesN 1 = [83, 80, 84, 72, 67, 65] ∧ usesN 2 = [83, 80, 72, 67, 65] ∧ usesN 3 = [83, 80, 72, 67, 65] ∧ usesN 4 = [83, 80, 84] ∧ usesN 5 = [83, 80] ∧ usesN 6 = [83, 80, 67, 65] ∧ usesN 7 = [83, 80] ∧ usesN 8 = [83, 80] ∧ usesN 9 = [83, 80] ∧ usesN 10 = [83, 80, 82] ∧ usesN 11 = [80] ∧ usesN 12 = [80] ∧ usesN 13 = [80] ∧ usesN 14 = [80, 82] := by decide
    simp only [hu, handSet, hand0, List.foldl, if_true, if_false, Nat.reduceEqDiff, e, w1, w2, w3, w4, w5] at hmk
    rw [hmk]
    refine ⟨?_, e.symm, by first | exact b1.2 | exact (show (0 : Int) < 3000000 by decide), rfl, rfl⟩
    rw [validB_iff]
    simp only [hasB_iff]
    refine ⟨by decide, by omega, by omega, by omega, by omega, ?_, ?_, by omega, ?_, ?_, ?_, ?_, ?_⟩
    all_goals first
      | exact field_used (by omega)
      | exact field_zero
      | (unfold kindB; simp; done)
      | (unfold kindB; simp only [Int.reduceEq, if_true, if_false, or_true, true_or, beq_iff_eq]; omega)
      | (unfold kindB; simp only [Int.reduceEq, if_true, if_false, or_true, true_or, or_false, true_and, bne_iff_ne, ne_eq]; split <;> omega)
end
section
open Go.Proofs

theorem u8_wrap (n : Int) : IntKind.u8.wrap n = n % 256 := IntKind.wrap_u8 n
def byteK (x : Int) (k : Nat) : Int := x / 256 ^ k % 256
def bigL (x : Int) : Nat → List Int
  | 0 => []
  | k + 1 => byteK x k :: bigL x k
theorem bigL_length (x : Int) : ∀ k, (bigL x k).length = k
  | 0 => rfl
  | k + 1 => by simp [bigL, bigL_length x k]
theorem byteK_eq (x : Int) (k : Nat) (hk : k ≤ 7) : IntKind.u8.wrap (Int.fdiv x (2 ^ min (Int.toNat (w64 ((8 : Int) * (k : Int)))) 64)) = byteK x k := by
  rw [u8_wrap]
  have : k = 0 ∨ k = 1 ∨ k = 2 ∨ k = 3 ∨ k = 4 ∨ k = 5 ∨ k = 6 ∨ k = 7 := by omega
  obtain rfl | rfl | rfl | rfl | rfl | rfl | rfl | rfl := this
  all_goals
    unfold byteK
    rw [Int.fdiv_eq_ediv_of_nonneg _ (by decide)]
    rfl
theorem byteK_eq2 (x : Int) (k : Nat) (hk : k ≤ 7) : IntKind.u8.wrap (Int.fdiv x (2 ^ min (Int.toNat (IntKind.u64.wrap (w64 ((8 : Int) * (k : Int))))) 64)) = byteK x k := by
  have e : IntKind.u64.wrap (w64 ((8 : Int) * (k : Int))) = w64 ((8 : Int) * (k : Int)) := by
    rw [IntKind.wrap_u64, w64_in (by omega) (by omega)]; omega
  rw [e]
  exact byteK_eq x k hk
theorem w64_pred (k : Nat) (hk : k ≤ 100) : w64 ((k : Int) - 1) = (k : Int) - 1 := w64_in (by omega) (by omega)

/-- Numbers, each in so many bytes. -/
def bigs (size : Nat) : List Int → List Int
  | [] => []
  | x :: r => bigL x size ++ bigs size r
theorem bigs_length (size : Nat) : ∀ l, (bigs size l).length = l.length * size
  | [] => by simp [bigs]
  | x :: r => by simp [bigs, bigs_length size r, bigL_length, Nat.add_mul, Nat.add_comm]

theorem appendNumbers_inner (b9 : List Int) (size x i1 : Int) (numbers : List Int) (t3 t : Int) : ∀ (k : Nat) (b : List Int), k ≤ 8 → b.length + k ≤ 1000000 →
    fixL (fact_appendNumbers_l2 b9 size x i1 numbers t3) (b, ((k : Int) - 1, t)) = some (b ++ bigL x k, t)
  | 0, b, _, _ => by
    rw [fixL_eq]
    show (fact_appendNumbers_p0 b size x ((0 : Nat) - 1 : Int) numbers t).bind _ = _
    unfold fact_appendNumbers_p0
    simp [bigL]
  | k + 1, b, hk, hb => by
    rw [fixL_eq]
    show (fact_appendNumbers_p0 b size x (((k + 1 : Nat) : Int) - 1) numbers t).bind _ = _
    have e : (((k + 1 : Nat) : Int) - 1) = (k : Int) := by omega
    rw [e]
    unfold fact_appendNumbers_p0
    have d : decide ((0 : Int) ≤ (k : Int)) = true := by simp
    have g : (0 : Int) ≤ w64 (8 * (k : Int)) := by rw [w64_in (by omega) (by omega)]; omega
    rw [d, cond_true, gd_pos g, gd_pos (capB_ok (by omega) (by omega)), byteK_eq x k (by omega), w64_pred k (by omega), Option.bind_some]
    simp only
    rw [appendNumbers_inner b9 size x i1 numbers t3 t k (b ++ [byteK x k]) (by omega) (by simp; omega), bigL]
    simp
theorem appendNumbers_eq (b : List Int) (size : Nat) (l : List Int) (h1 : size ≤ 8) (h2 : l.length ≤ 1000) (h3 : b.length ≤ 1000) : fact_appendNumbers b size l = some (b ++ bigs size l) := by
  show (fixL (fact_appendNumbers_l1 b size l) (b, (0 : Int))).bind (fact_appendNumbers_p7_g b size l) = _
  have key : ∀ (n i : Nat) (b' : List Int), l.length = i + n → b'.length ≤ 1000 + i * 8 → fixL (fact_appendNumbers_l1 b size l) (b', (i : Int)) = some (b' ++ bigs size (l.drop i)) := by
    intro n
    induction n with
    | zero =>
      intro i b' h hb
      have : i = l.length := by omega
      subst this
      rw [fixL_eq]
      show (fact_appendNumbers_p5 b' size l (l.length : Int)).bind _ = _
      unfold fact_appendNumbers_p5
      rw [not_lt_len, cond_false, List.drop_length]
      simp [bigs]
    | succ n ih =>
      intro i b' h hb
      have hi : i < l.length := by omega
      rw [fixL_eq]
      show (fact_appendNumbers_p5 b' size l (i : Int)).bind _ = _
      unfold fact_appendNumbers_p5 fact_appendNumbers_p4 fact_appendNumbers_p3 fact_appendNumbers_p2
      rw [lt_len hi, cond_true, gd_pos (idx_ok hi), getD_nat l 0 i hi]
      have hw : w64 ((size : Int) - 1) = (size : Int) - 1 := w64_pred size (by omega)
      rw [hw, appendNumbers_inner _ _ _ _ _ _ _ size b' h1 (by omega)]
      simp only [Option.bind_some]
      show (fact_appendNumbers_p1 (b' ++ bigL l[i] size) size l (i : Int)).bind _ = _
      unfold fact_appendNumbers_p1
      rw [w64_succ (by omega), Option.bind_some]
      simp only
      rw [ih (i + 1) _ (by omega) (by simp [bigL_length]; omega), List.drop_eq_getElem_cons hi, bigs, List.append_assoc]
  have := key l.length 0 b (by omega) (by omega)
  rw [show ((0 : Nat) : Int) = 0 from rfl] at this
  rw [this]
  rfl
/-! ### The bytes of a fact -/
def letterF (f : GFact) (c : Nat) : List Int :=
  if c = 83 then bigL f.State 1 else if c = 80 then bigL f.Span.From 3 ++ bigL f.Span.To 3 else if c = 84 then bigL f.Seat 1 else if c = 72 then bigL f.Share 1 else if c = 67 then bigL f.Currency 2 else if c = 65 then bigL f.Amount 4 else if c = 82 then bigL f.Ref 1 else []
def headF (f : GFact) : List Int := bigL f.Issuer 1 ++ bigL f.Number 2 ++ bigL f.Version 1 ++ bigL (if f.Withdrawn then 1 else 0) 1 ++ bigL f.Person 1 ++ bigL f.Kind 1
def bytesF (f : GFact) : List Int := if validB f then headF f ++ (usesN f.Kind).flatMap (letterF f) else []
theorem letterF_length (f : GFact) (c : Nat) : (letterF f c).length ≤ 6 := by
  unfold letterF
  repeat' split
  all_goals simp [bigL_length]
theorem foldl_app {T : Type} (g : Nat → List T) : ∀ (l : List Nat) (a : List T), l.foldl (fun a c => a ++ g c) a = a ++ l.flatMap g
  | [], a => by simp
  | c :: l, a => by rw [List.foldl_cons, foldl_app g l, List.flatMap_cons, List.append_assoc]

theorem rune_ascii (l : List Nat) (hl : ∀ c ∈ l, c < 128) (i : Nat) (hi : i < l.length) : runeAt (bstr l) i = (l[i] : Int) ∧ runeW (bstr l) i = 1 := by
  have hsz : i < (bstr l).size := by rw [bstr_size]; exact hi
  have hg : (bstr l)[i]'hsz = UInt8.ofNat l[i] := by
    show (bstr l).data[i]'hsz = _
    simp [bstr]
  have hc := hl _ (List.getElem_mem hi)
  have hn : ((bstr l)[i]'hsz).toNat = l[i] := by rw [hg]; simp [Nat.mod_eq_of_lt (show l[i] < 256 by omega)]
  have := decode_ascii (bstr l) i hsz (by rw [hn]; exact hc)
  unfold runeAt runeW
  rw [this, hn]
  exact ⟨rfl, rfl⟩
theorem usesN_ascii (k : Int) : ∀ c ∈ usesN k, c < 128 := by
  by_cases h : 1 ≤ k ∧ k ≤ 14
  · obtain rfl | rfl | rfl | rfl | rfl | rfl | rfl | rfl | rfl | rfl | rfl | rfl | rfl | rfl := kinds h.1 h.2 <;> decide
  · rw [usesN_out h]; simp
theorem key_beq (c n : Nat) : ((c : Int) == (n : Int)) = decide (c = n) := by
  by_cases h : c = n
  · subst h; simp
  · have h2 : ((c : Int) == (n : Int)) = false := by simp; omega
    rw [h2]; simp [h]
end
section
open Go.Proofs

theorem fact_Bytes_step (f : GFact) (l : List Nat) (hl : ∀ c ∈ l, c < 128) (hn : l.length ≤ 50) (i : Nat) (hi : i < l.length) (b : List Int) (hb : b.length ≤ 8 + i * 6) :
    fact_Bytes_p0 b f (bstr l) i = some (.inl (b ++ letterF f l[i], i + 1)) := by
  obtain ⟨r1, r2⟩ := rune_ascii l hl i hi
  unfold fact_Bytes_p0
  have hlt : Nat.blt i (bstr l).size = true := by rw [bstr_size]; simpa using hi
  rw [hlt, cond_true, gd_pos rfl, r1, r2]
  have k83 := key_beq l[i] 83; have k80 := key_beq l[i] 80; have k84 := key_beq l[i] 84; have k72 := key_beq l[i] 72; have k67 := key_beq l[i] 67; have k65 := key_beq l[i] 65; have k82 := key_beq l[i] 82
  simp only [Int.cast_ofNat_Int] at k83 k80 k84 k72 k67 k65 k82
  rw [k83, k80, k84, k72, k67, k65, k82]
  have a1 := fun x => appendNumbers_eq b 1 [x] (by omega) (by simp) (by omega)
  have a2 := fun x => appendNumbers_eq b 2 [x] (by omega) (by simp) (by omega)
  have a4 := fun x => appendNumbers_eq b 4 [x] (by omega) (by simp) (by omega)
  have a3 := fun x y => appendNumbers_eq b 3 [x, y] (by omega) (by simp) (by omega)
  simp only [Int.cast_ofNat_Int] at a1 a2 a3 a4
  have a1' : ∀ x, fact_appendNumbers b 1 [x] = some (b ++ bigs 1 [x]) := a1
  rw [a1', a1', a1', a1', a2, a3, a4]
  simp only [Option.bind_some, cond_true, bigs, List.append_nil]
  unfold letterF
  generalize l[i] = c
  by_cases h1 : c = 83
  · simp [h1]
  by_cases h2 : c = 80
  · simp [h2]
  by_cases h3 : c = 84
  · simp [h3]
  by_cases h4 : c = 72
  · simp [h4]
  by_cases h5 : c = 67
  · simp [h5]
  by_cases h6 : c = 65
  · simp [h6]
  by_cases h7 : c = 82
  · simp [h7]
  · simp [h1, h2, h3, h4, h5, h6, h7]

theorem fact_Bytes_loop (f : GFact) (l : List Nat) (hl : ∀ c ∈ l, c < 128) (hn : l.length ≤ 50) (b0 : List Int) : ∀ (n i : Nat) (b : List Int), l.length = i + n → b.length ≤ 8 + i * 6 →
    fixL (fact_Bytes_l1 b0 f (bstr l)) (b, i) = some (b ++ (l.drop i).flatMap (letterF f))
  | 0, i, b, h, hb => by
    have : i = l.length := by omega
    subst this
    rw [fixL_eq]
    show (fact_Bytes_p0 b f (bstr l) l.length).bind _ = _
    unfold fact_Bytes_p0
    have hlt : Nat.blt l.length (bstr l).size = false := by
      rw [bstr_size]
      cases hc : Nat.blt l.length l.length with
      | false => rfl
      | true => rw [Nat.blt_eq] at hc; omega
    rw [hlt, cond_false, List.drop_length]
    simp
  | n + 1, i, b, h, hb => by
    have hi : i < l.length := by omega
    rw [fixL_eq]
    show (fact_Bytes_p0 b f (bstr l) i).bind _ = _
    rw [fact_Bytes_step f l hl hn i hi b hb, Option.bind_some]
    simp only
    have := letterF_length f l[i]
    rw [fact_Bytes_loop f l hl hn b0 n (i + 1) _ (by omega) (by simp; omega), List.drop_eq_getElem_cons hi, List.flatMap_cons, List.append_assoc]

theorem fact_Bytes_eq (f : GFact) : fact_Bytes f = some (bytesF f) := by
  show fact_Bytes_p4 f = _
  unfold fact_Bytes_p4
  rw [fact_Valid_eq, Option.bind_some]
  unfold bytesF
  cases hv : validB f with
  | false => rfl
  | true =>
    simp only [Bool.not_true, cond_false, if_true]
    have core : ∀ w : Int, fact_Bytes_p3 w f = some (bigL f.Issuer 1 ++ bigL f.Number 2 ++ bigL f.Version 1 ++ bigL w 1 ++ bigL f.Person 1 ++ bigL f.Kind 1 ++ (usesN f.Kind).flatMap (letterF f)) := by
      intro w
      unfold fact_Bytes_p3
      have e1 := appendNumbers_eq [] 1 [f.Issuer] (by omega) (by simp) (by simp)
      have e2 := appendNumbers_eq (bigL f.Issuer 1) 2 [f.Number] (by omega) (by simp) (by simp [bigL_length])
      have e3 := appendNumbers_eq (bigL f.Issuer 1 ++ bigL f.Number 2) 1 [f.Version, w, f.Person, f.Kind] (by omega) (by simp) (by simp [bigL_length])
      simp only [bigs, List.append_nil, List.nil_append] at e1 e2 e3
      have e1' : fact_appendNumbers [] 1 [f.Issuer] = some (bigL f.Issuer 1) := e1
      have e2' : fact_appendNumbers (bigL f.Issuer 1) 2 [f.Number] = some (bigL f.Issuer 1 ++ bigL f.Number 2) := e2
      have e3' : fact_appendNumbers (bigL f.Issuer 1 ++ bigL f.Number 2) 1 [f.Version, w, f.Person, f.Kind] = some (bigL f.Issuer 1 ++ bigL f.Number 2 ++ (bigL f.Version 1 ++ (bigL w 1 ++ (bigL f.Person 1 ++ bigL f.Kind 1)))) := e3
      rw [e1', Option.bind_some, e2', Option.bind_some, e3', Option.bind_some, fact_Uses_eq, Option.bind_some]
      show (fixL _ _).bind _ = _
      have hn := usesN_length f.Kind
      rw [fact_Bytes_loop f (usesN f.Kind) (usesN_ascii _) (by omega) _ (usesN f.Kind).length 0 _ (by omega) (by simp [bigL_length])]
      simp [fact_Bytes_p2_g, fact_Bytes_p1]
    unfold headF
    cases f.Withdrawn with
    | true => simp only [cond_true, if_true]; exact core 1
    | false => simp only [cond_false]; exact core 0

/-! ### The order -/
/-- Bytes, in the dictionary's order. -/
def ltB : List Int → List Int → Prop
  | _, [] => False
  | [], _ :: _ => True
  | x :: xs, y :: ys => x < y ∨ (x = y ∧ ltB xs ys)
theorem ltB_irrefl : ∀ l : List Int, ¬ ltB l l
  | [] => fun h => h
  | x :: l => by
    rintro (h | ⟨_, h⟩)
    · omega
    · exact ltB_irrefl l h
theorem ltB_trans : ∀ {a b c : List Int}, ltB a b → ltB b c → ltB a c
  | [], _ :: _, _ :: _, _, _ => trivial
  | _ :: _, _ :: _, _ :: _, h, h' => by
    rcases h with h | ⟨rfl, h⟩ <;> rcases h' with h' | ⟨rfl, h'⟩
    · exact .inl (by omega)
    · exact .inl h
    · exact .inl h'
    · exact .inr ⟨rfl, ltB_trans h h'⟩
  | [], _ :: _, [], _, h' => h'.elim
  | _ :: _, _ :: _, [], _, h' => h'.elim
  | [], [], _, h, _ => h.elim
  | _ :: _, [], _, h, _ => h.elim
theorem ltB_total : ∀ (a b : List Int), ltB a b ∨ a = b ∨ ltB b a
  | [], [] => .inr (.inl rfl)
  | [], _ :: _ => .inl trivial
  | _ :: _, [] => .inr (.inr trivial)
  | x :: a, y :: b => by
    rcases Int.lt_trichotomy x y with h | rfl | h
    · exact .inl (.inl h)
    · rcases ltB_total a b with h | rfl | h
      · exact .inl (.inr ⟨rfl, h⟩)
      · exact .inr (.inl rfl)
      · exact .inr (.inr (.inr ⟨rfl, h⟩))
    · exact .inr (.inr (.inl h))
noncomputable instance (a b : List Int) : Decidable (ltB a b) := Classical.propDecidable _

def inByte (l : List Int) : Prop := ∀ x ∈ l, 0 ≤ x ∧ x < 256
theorem u8_of {x : Int} (h : 0 ≤ x ∧ x < 256) : (UInt8.ofNat x.toNat).toNat = x.toNat := by
  simp [Nat.mod_eq_of_lt (show x.toNat < 256 by omega)]
theorem u8_lt {x y : Int} (hx : 0 ≤ x ∧ x < 256) (hy : 0 ≤ y ∧ y < 256) : UInt8.ofNat x.toNat < UInt8.ofNat y.toNat ↔ x < y := by
  rw [UInt8.lt_iff_toNat_lt, u8_of hx, u8_of hy]
  omega
theorem u8_eq {x y : Int} (hx : 0 ≤ x ∧ x < 256) (hy : 0 ≤ y ∧ y < 256) : (UInt8.ofNat x.toNat = UInt8.ofNat y.toNat) ↔ x = y := by
  constructor
  · intro h
    have := congrArg UInt8.toNat h
    rw [u8_of hx, u8_of hy] at this
    omega
  · rintro rfl; rfl
theorem compare_lt : ∀ (a b : List Int), inByte a → inByte b → (compareL a b < 0 ↔ ltB a b)
  | [], [], _, _ => by simp [compareL, Lib.compareBytes, ltB]
  | [], _ :: _, _, _ => by simp [compareL, Lib.compareBytes, ltB]
  | _ :: _, [], _, _ => by simp [compareL, Lib.compareBytes, ltB]
  | x :: a, y :: b, ha, hb => by
    have hx := ha x (by simp)
    have hy := hb y (by simp)
    have ih := compare_lt a b (fun z hz => ha z (by simp [hz])) (fun z hz => hb z (by simp [hz]))
    unfold compareL at ih ⊢
    simp only [List.map_cons, Lib.compareBytes, ltB]
    by_cases h : x < y
    · rw [if_pos ((u8_lt hx hy).2 h)]
      simp [h]
    · rw [if_neg (fun e => h ((u8_lt hx hy).1 e))]
      by_cases h' : y < x
      · rw [if_pos ((u8_lt hy hx).2 h')]
        constructor
        · intro e; omega
        · rintro (e | ⟨e, _⟩) <;> omega
      · rw [if_neg (fun e => h' ((u8_lt hy hx).1 e))]
        have : x = y := by omega
        rw [ih]
        constructor
        · intro e; exact .inr ⟨this, e⟩
        · rintro (e | ⟨_, e⟩)
          · omega
          · exact e
theorem bytesLess_lt : ∀ (a b : List Int), inByte a → inByte b → (Op.bytesLess (a.map fun x => UInt8.ofNat x.toNat) (b.map fun x => UInt8.ofNat x.toNat) = true ↔ ltB a b)
  | [], [], _, _ => by simp [Op.bytesLess, ltB]
  | [], _ :: _, _, _ => by simp [Op.bytesLess, ltB]
  | _ :: _, [], _, _ => by simp [Op.bytesLess, ltB]
  | x :: a, y :: b, ha, hb => by
    have hx := ha x (by simp)
    have hy := hb y (by simp)
    have ih := bytesLess_lt a b (fun z hz => ha z (by simp [hz])) (fun z hz => hb z (by simp [hz]))
    simp only [List.map_cons, Op.bytesLess, ltB, Bool.or_eq_true, Bool.and_eq_true, decide_eq_true_eq, beq_iff_eq]
    rw [u8_lt hx hy, u8_eq hx hy, ih]

theorem bigL_byte (x : Int) : ∀ k, inByte (bigL x k)
  | 0 => fun y hy => by simp [bigL] at hy
  | k + 1 => fun y hy => by
    rcases List.mem_cons.1 hy with rfl | hy
    · unfold byteK
      exact ⟨Int.emod_nonneg _ (by decide), Int.emod_lt_of_pos _ (by decide)⟩
    · exact bigL_byte x k y hy
theorem inByte_app {a b : List Int} (ha : inByte a) (hb : inByte b) : inByte (a ++ b) := fun x hx => (List.mem_append.1 hx).elim (ha x) (hb x)
theorem inByte_nil : inByte [] := fun x hx => by simp at hx
theorem letterF_byte (f : GFact) (c : Nat) : inByte (letterF f c) := by
  unfold letterF
  repeat' split
  all_goals first | exact bigL_byte _ _ | exact inByte_app (bigL_byte _ _) (bigL_byte _ _) | exact inByte_nil
theorem bytesF_byte (f : GFact) : inByte (bytesF f) := by
  unfold bytesF
  split
  · refine inByte_app ?_ ?_
    · unfold headF
      exact inByte_app (inByte_app (inByte_app (inByte_app (inByte_app (bigL_byte _ _) (bigL_byte _ _)) (bigL_byte _ _)) (bigL_byte _ _)) (bigL_byte _ _)) (bigL_byte _ _)
    · intro x hx
      obtain ⟨c, _, hc⟩ := List.mem_flatMap.1 hx
      exact letterF_byte f c x hc
  · exact inByte_nil

/-! ### Bytes tell facts apart -/
theorem big1_inj {x y : Int} (hx : 0 ≤ x ∧ x < 256) (hy : 0 ≤ y ∧ y < 256) (h : bigL x 1 = bigL y 1) : x = y := by
  simp only [bigL, byteK, List.cons.injEq, and_true] at h
  omega
theorem big2_inj {x y : Int} (hx : 0 ≤ x ∧ x < 65536) (hy : 0 ≤ y ∧ y < 65536) (h : bigL x 2 = bigL y 2) : x = y := by
  simp only [bigL, byteK, List.cons.injEq, and_true] at h
  obtain ⟨h1, h0⟩ := h
  simp only [Int.pow_succ, Int.pow_zero, Int.one_mul] at h1 h0
  omega
theorem big3_inj {x y : Int} (hx : 0 ≤ x ∧ x < 16777216) (hy : 0 ≤ y ∧ y < 16777216) (h : bigL x 3 = bigL y 3) : x = y := by
  simp only [bigL, byteK, List.cons.injEq, and_true] at h
  obtain ⟨h2, h1, h0⟩ := h
  simp only [Int.pow_succ, Int.pow_zero, Int.one_mul] at h2 h1 h0
  omega
theorem big4_inj {x y : Int} (hx : 0 ≤ x ∧ x < 4294967296) (hy : 0 ≤ y ∧ y < 4294967296) (h : bigL x 4 = bigL y 4) : x = y := by
  simp only [bigL, byteK, List.cons.injEq, and_true] at h
  obtain ⟨h3, h2, h1, h0⟩ := h
  simp only [Int.pow_succ, Int.pow_zero, Int.one_mul] at h3 h2 h1 h0
  omega
theorem fieldB_range {u : Bool} {x l h : Int} (hf : fieldB u x l h = true) (h0 : l ≤ 1) (hl : 0 ≤ l) (hh : 0 ≤ h) : 0 ≤ x ∧ x ≤ h ∧ (u = false → x = 0) := by
  unfold fieldB at hf
  cases u with
  | true =>
    simp only [if_true] at hf
    have := withinB_iff.1 hf
    exact ⟨by omega, by omega, fun e => by cases e⟩
  | false =>
    have : x = 0 := by simpa using hf
    omega
end
section
open Go.Proofs

theorem flatMap_inj {T : Type} {p q : Nat → List T} : ∀ {u : List Nat}, (∀ c ∈ u, (p c).length = (q c).length) → u.flatMap p = u.flatMap q → ∀ c ∈ u, p c = q c
  | [], _, _, c, hc => by simp at hc
  | d :: u, hl, h, c, hc => by
    rw [List.flatMap_cons, List.flatMap_cons] at h
    obtain ⟨h1, h2⟩ := List.append_inj h (hl d (by simp))
    rcases List.mem_cons.1 hc with rfl | hc
    · exact h1
    · exact flatMap_inj (fun c hc => hl c (by simp [hc])) h2 c hc
theorem letterF_len (f g : GFact) (c : Nat) : (letterF f c).length = (letterF g c).length := by
  unfold letterF
  repeat' split
  all_goals simp [bigL_length]
theorem headF_len (f : GFact) : (headF f).length = 7 := by simp [headF, bigL_length]
theorem valid_kind {f : GFact} (h : validB f = true) : 1 ≤ f.Kind ∧ f.Kind ≤ 14 := by
  have h1 := ((validB_iff f).1 h).1
  by_cases hk : 1 ≤ f.Kind ∧ f.Kind ≤ 14
  · exact hk
  · rw [usesN_out hk] at h1; simp at h1
theorem uses_span {k : Int} (h : 1 ≤ k ∧ k ≤ 14) : 80 ∈ usesN k := by
  obtain rfl | rfl | rfl | rfl | rfl | rfl | rfl | rfl | rfl | rfl | rfl | rfl | rfl | rfl := kinds h.1 h.2 <;> decide

theorem head_inj {f g : GFact} (hf : validB f = true) (hg : validB g = true) (h : headF f = headF g) :
    f.Issuer = g.Issuer ∧ f.Number = g.Number ∧ f.Version = g.Version ∧ f.Withdrawn = g.Withdrawn ∧ f.Person = g.Person ∧ f.Kind = g.Kind := by
  obtain ⟨_, f1, f2, f3, f4, _⟩ := (validB_iff f).1 hf
  obtain ⟨_, g1, g2, g3, g4, _⟩ := (validB_iff g).1 hg
  have fk := valid_kind hf
  have gk := valid_kind hg
  unfold headF at h
  obtain ⟨h, k6⟩ := List.append_inj h (by simp [bigL_length])
  obtain ⟨h, k5⟩ := List.append_inj h (by simp [bigL_length])
  obtain ⟨h, k4⟩ := List.append_inj h (by simp [bigL_length])
  obtain ⟨h, k3⟩ := List.append_inj h (by simp [bigL_length])
  obtain ⟨k1, k2⟩ := List.append_inj h (by simp [bigL_length])
  refine ⟨big1_inj (by omega) (by omega) k1, big2_inj (by omega) (by omega) k2, big1_inj (by omega) (by omega) k3, ?_, big1_inj (by omega) (by omega) k5, big1_inj (by omega) (by omega) k6⟩
  have := big1_inj (by split <;> omega) (by split <;> omega) k4
  cases hw : f.Withdrawn <;> cases hw' : g.Withdrawn <;> simp [hw, hw'] at this ⊢

theorem bytesF_inj {f g : GFact} (hf : validB f = true) (hg : validB g = true) (h : bytesF f = bytesF g) : f = g := by
  unfold bytesF at h
  rw [if_pos hf, if_pos hg] at h
  obtain ⟨h1, h2⟩ := List.append_inj h (by rw [headF_len, headF_len])
  obtain ⟨e1, e2, e3, e4, e5, e6⟩ := head_inj hf hg h1
  rw [← e6] at h2
  have hl := flatMap_inj (fun c _ => letterF_len f g c) h2
  obtain ⟨_, _, _, _, _, fS, fT, fp, fH, fC, fA, fR, _⟩ := (validB_iff f).1 hf
  obtain ⟨_, _, _, _, _, gS, gT, gp, gH, gC, gA, gR, _⟩ := (validB_iff g).1 hg
  rw [← e6] at gS gT gH gC gA gR
  have fS' := fieldB_range fS (by omega) (by omega) (by omega)
  have gS' := fieldB_range gS (by omega) (by omega) (by omega)
  have fT' := fieldB_range fT (by omega) (by omega) (by omega)
  have gT' := fieldB_range gT (by omega) (by omega) (by omega)
  have fH' := fieldB_range fH (by omega) (by omega) (by omega)
  have gH' := fieldB_range gH (by omega) (by omega) (by omega)
  have fC' := fieldB_range fC (by omega) (by omega) (by omega)
  have gC' := fieldB_range gC (by omega) (by omega) (by omega)
  have fA' := fieldB_range fA (by omega) (by omega) (by omega)
  have gA' := fieldB_range gA (by omega) (by omega) (by omega)
  have fR' := fieldB_range fR (by omega) (by omega) (by omega)
  have gR' := fieldB_range gR (by omega) (by omega) (by omega)
  have hm : ∀ c, hasB f.Kind c = true → letterF f c = letterF g c := fun c hc => hl c (by unfold hasB at hc; simpa using hc)
  have pS : f.State = g.State := by
    cases hc : hasB f.Kind 83 with
    | true => exact big1_inj (by omega) (by omega) (hm 83 hc)
    | false => rw [fS'.2.2 hc, gS'.2.2 hc]
  have pT : f.Seat = g.Seat := by
    cases hc : hasB f.Kind 84 with
    | true => exact big1_inj (by omega) (by omega) (hm 84 hc)
    | false => rw [fT'.2.2 hc, gT'.2.2 hc]
  have pH : f.Share = g.Share := by
    cases hc : hasB f.Kind 72 with
    | true => exact big1_inj (by omega) (by omega) (hm 72 hc)
    | false => rw [fH'.2.2 hc, gH'.2.2 hc]
  have pC : f.Currency = g.Currency := by
    cases hc : hasB f.Kind 67 with
    | true => exact big2_inj (by omega) (by omega) (hm 67 hc)
    | false => rw [fC'.2.2 hc, gC'.2.2 hc]
  have pA : f.Amount = g.Amount := by
    cases hc : hasB f.Kind 65 with
    | true => exact big4_inj (by omega) (by omega) (hm 65 hc)
    | false => rw [fA'.2.2 hc, gA'.2.2 hc]
  have pR : f.Ref = g.Ref := by
    cases hc : hasB f.Kind 82 with
    | true => exact big1_inj (by omega) (by omega) (hm 82 hc)
    | false => rw [fR'.2.2 hc, gR'.2.2 hc]
  have hspan : letterF f 80 = letterF g 80 := hl 80 (uses_span (valid_kind hf))
  have hs : bigL f.Span.From 3 ++ bigL f.Span.To 3 = bigL g.Span.From 3 ++ bigL g.Span.To 3 := hspan
  obtain ⟨s1, s2⟩ := List.append_inj hs (by simp [bigL_length])
  have q1 := big3_inj (by omega) (by omega) s1
  have q2 := big3_inj (by omega) (by omega) s2
  obtain ⟨a1, a2, a3, a4, a5, a6, a7, ⟨a8, a9⟩, a10, a11, a12, a13, a14⟩ := f
  obtain ⟨b1, b2, b3, b4, b5, b6, b7, ⟨b8, b9⟩, b10, b11, b12, b13, b14⟩ := g
  simp only at e1 e2 e3 e4 e5 e6 pS pT pH pC pA pR q1 q2
  subst e1 e2 e3 e4 e5 e6 pS pT pH pC pA pR q1 q2
  rfl

/-! ### Identity -/
def cmpI (a b : GFact) : Int := if a.Issuer < b.Issuer then -1 else if b.Issuer < a.Issuer then 1 else if a.Number < b.Number then -1 else if b.Number < a.Number then 1 else 0
def idlt (a b : GFact) : Prop := a.Issuer < b.Issuer ∨ (a.Issuer = b.Issuer ∧ a.Number < b.Number)
def ideq (a b : GFact) : Prop := a.Issuer = b.Issuer ∧ a.Number = b.Number
theorem cmpI_cases (a b : GFact) : (idlt a b ∧ cmpI a b = -1) ∨ (ideq a b ∧ cmpI a b = 0) ∨ (idlt b a ∧ cmpI a b = 1) := by
  unfold cmpI idlt ideq
  by_cases h1 : a.Issuer < b.Issuer
  · left; simp [h1]
  by_cases h2 : b.Issuer < a.Issuer
  · right; right; simp [h1, h2]
  by_cases h3 : a.Number < b.Number
  · left; simp [h1, h2, h3]; omega
  by_cases h4 : b.Number < a.Number
  · right; right; simp [h1, h2, h3, h4]; omega
  · right; left; simp [h1, h2, h3, h4]; omega
theorem idlt_trans {a b c : GFact} (h : idlt a b) (h' : idlt b c) : idlt a c := by unfold idlt at *; omega
theorem idlt_irrefl (a : GFact) : ¬ idlt a a := by unfold idlt; omega
theorem idlt_not_eq {a b : GFact} (h : idlt a b) : ¬ ideq a b := by unfold idlt ideq at *; omega
theorem idlt_asymm {a b : GFact} (h : idlt a b) : ¬ idlt b a := by unfold idlt at *; omega
theorem idlt_eq {a b c : GFact} (h : idlt a b) (h' : ideq b c) : idlt a c := by unfold idlt ideq at *; omega
theorem ideq_lt {a b c : GFact} (h : ideq a b) (h' : idlt b c) : idlt a c := by unfold idlt ideq at *; omega
theorem ideq_symm {a b : GFact} (h : ideq a b) : ideq b a := ⟨h.1.symm, h.2.symm⟩
theorem ideq_trans {a b c : GFact} (h : ideq a b) (h' : ideq b c) : ideq a c := ⟨h.1.trans h'.1, h.2.trans h'.2⟩
theorem ideq_refl (a : GFact) : ideq a a := ⟨rfl, rfl⟩

theorem cmp_Compare_eq (x y : Int) : cmp_Compare_int x y = some (if x < y then -1 else if y < x then 1 else 0) := by
  show cmp_Compare_int_p0 x y = _
  unfold cmp_Compare_int_p0
  have e : ∀ z : Int, cmp_isNaN_int z = some false := fun z => by show some (z != z) = _; simp
  rw [e, e]
  simp only [Option.bind_some, cond_false]
  by_cases h : x < y
  · simp [h]
  · by_cases h' : y < x
    · simp [h, h']
    · simp [h, h']
theorem cmp_Or_eq (x y : Int) : cmp_Or_int [x, y] = some (if x ≠ 0 then x else y) := by
  show (fixL (cmp_Or_int_l1 [x, y]) (0 : Int)).bind _ = _
  rw [fixL_eq]
  show ((cmp_Or_int_p0 [x, y] 0).bind _).bind _ = _
  have s0 : cmp_Or_int_p0 [x, y] 0 = if x ≠ 0 then some (.inr (.inl x)) else some (.inl 1) := by
    unfold cmp_Or_int_p0
    rw [show decide ((0 : Int) < (([x, y].length : Nat) : Int)) = true from rfl, cond_true, gd_pos (by simp)]
    show (bif x != 0 then _ else _) = _
    by_cases h : x = 0
    · subst h; rfl
    · have : (x != 0) = true := by simpa using h
      rw [this, if_pos h]; rfl
  rw [s0]
  by_cases h : x = 0
  · rw [if_neg (by simpa using h), if_neg (by simpa using h), Option.bind_some]
    simp only
    rw [fixL_eq]
    show ((cmp_Or_int_p0 [x, y] 1).bind _).bind _ = _
    have s1 : cmp_Or_int_p0 [x, y] 1 = if y ≠ 0 then some (.inr (.inl y)) else some (.inl 2) := by
      unfold cmp_Or_int_p0
      rw [show decide ((1 : Int) < (([x, y].length : Nat) : Int)) = true from rfl, cond_true, gd_pos (by simp)]
      show (bif y != 0 then _ else _) = _
      by_cases h : y = 0
      · subst h; rfl
      · have : (y != 0) = true := by simpa using h
        rw [this, if_pos h]; rfl
    rw [s1]
    by_cases h' : y = 0
    · rw [if_neg (by simpa using h'), Option.bind_some]
      simp only
      rw [fixL_eq]
      show ((cmp_Or_int_p0 [x, y] 2).bind _).bind _ = _
      have s2 : cmp_Or_int_p0 [x, y] 2 = some (.inr (.inr ())) := rfl
      rw [s2, h']
      rfl
    · rw [if_pos h']
      rfl
  · rw [if_pos h, if_pos h]
    rfl
theorem career_byIdentity_eq (a b : GFact) : career_byIdentity a b = some (cmpI a b) := by
  show career_byIdentity_p0 a b = _
  unfold career_byIdentity_p0
  rw [cmp_Compare_eq, Option.bind_some, cmp_Compare_eq, Option.bind_some, cmp_Or_eq, Option.bind_some]
  congr 1
  unfold cmpI
  by_cases h1 : a.Issuer < b.Issuer
  · simp [h1]
  · by_cases h2 : b.Issuer < a.Issuer
    · simp [h1, h2]
    · simp [h1, h2]

/-! ### Which of two facts is less -/
def lessF (a b : GFact) : Prop := ltB (bytesF a) (bytesF b)
noncomputable instance (a b : GFact) : Decidable (lessF a b) := Classical.propDecidable _
theorem lessF_irrefl (a : GFact) : ¬ lessF a a := ltB_irrefl _
theorem lessF_trans {a b c : GFact} (h : lessF a b) (h' : lessF b c) : lessF a c := ltB_trans h h'
theorem lessF_total {a b : GFact} (ha : validB a = true) (hb : validB b = true) : lessF a b ∨ a = b ∨ lessF b a := by
  rcases ltB_total (bytesF a) (bytesF b) with h | h | h
  · exact .inl h
  · exact .inr (.inl (bytesF_inj ha hb h))
  · exact .inr (.inr h)
theorem fact_Less_eq {a b : GFact} (ha : validB a = true) (hb : validB b = true) : fact_Less a b = some (decide (lessF a b)) := by
  show fact_Less_p0 a b = _
  unfold fact_Less_p0
  rw [fact_Valid_eq, Option.bind_some, fact_Valid_eq b, ha, hb, gd_pos (by intro _; rfl)]
  simp only [Bool.not_true, Option.getD_some, cond_false]
  rw [fact_Bytes_eq, Option.bind_some, fact_Bytes_eq, Option.bind_some]
  have e : bytes_Compare (bytesF a) (bytesF b) = some (compareL (bytesF a) (bytesF b)) := rfl
  rw [e, Option.bind_some]
  congr 1
  have := compare_lt (bytesF a) (bytesF b) (bytesF_byte a) (bytesF_byte b)
  rw [decide_eq_decide]
  exact this
noncomputable def greaterF (a b : GFact) : GFact := if lessF a b then b else a
theorem career_greater_eq {a b : GFact} (ha : validB a = true) (hb : validB b = true) : career_greater a b = some (greaterF a b) := by
  show career_greater_p0 a b = _
  unfold career_greater_p0 greaterF
  rw [fact_Less_eq ha hb, Option.bind_some]
  by_cases h : lessF a b
  · simp [h]
  · simp [h]
end
section
open Go.Proofs

def Valids (l : List GFact) : Prop := ∀ f ∈ l, validB f = true
def Asc (l : List GFact) : Prop := l.Pairwise idlt
noncomputable def mergeL : List GFact → List GFact → List GFact
  | [], b => b
  | x :: a, [] => x :: a
  | x :: a, y :: b => if cmpI x y < 0 then x :: mergeL a (y :: b) else if 0 < cmpI x y then y :: mergeL (x :: a) b else greaterF x y :: mergeL a b
termination_by a b => a.length + b.length

/-- A fact that no other one of its identity beats. -/
def Top (S : List GFact) (f : GFact) : Prop := f ∈ S ∧ validB f = true ∧ ∀ g ∈ S, validB g = true → ideq f g → ¬ lessF f g
structure IsMerge (S M : List GFact) : Prop where
  asc : Asc M
  mem : ∀ f, f ∈ M ↔ Top S f

theorem IsMerge.valids {S M : List GFact} (h : IsMerge S M) : Valids M := fun f hf => ((h.mem f).1 hf).2.1
theorem Top_congr {S S' : List GFact} (h : ∀ f, f ∈ S ↔ f ∈ S') (f : GFact) : Top S f ↔ Top S' f := by
  unfold Top
  rw [h f]
  simp only [h]
theorem IsMerge.congr {S S' M : List GFact} (h : IsMerge S M) (hs : ∀ f, f ∈ S ↔ f ∈ S') : IsMerge S' M := ⟨h.asc, fun f => (h.mem f).trans (Top_congr hs f)⟩

theorem asc_uniq : ∀ {a b : List GFact}, Asc a → Asc b → (∀ f, f ∈ a ↔ f ∈ b) → a = b
  | [], [], _, _, _ => rfl
  | [], y :: b, _, _, h => by have := (h y).2 (by simp); simp at this
  | x :: a, [], _, _, h => by have := (h x).1 (by simp); simp at this
  | x :: a, y :: b, ha, hb, h => by
    unfold Asc at ha hb
    rw [List.pairwise_cons] at ha hb
    have hxy : x = y := by
      rcases List.mem_cons.1 ((h x).1 (by simp)) with e | hx
      · exact e
      · rcases List.mem_cons.1 ((h y).2 (by simp)) with e | hy
        · exact e.symm
        · exact (idlt_asymm (ha.1 y hy) (hb.1 x hx)).elim
    subst hxy
    congr 1
    refine asc_uniq ha.2 hb.2 fun f => ⟨fun hf => ?_, fun hf => ?_⟩
    · rcases List.mem_cons.1 ((h f).1 (by simp [hf])) with e | hm
      · subst e; exact (idlt_irrefl _ (ha.1 f hf)).elim
      · exact hm
    · rcases List.mem_cons.1 ((h f).2 (by simp [hf])) with e | hm
      · subst e; exact (idlt_irrefl _ (hb.1 f hf)).elim
      · exact hm
theorem IsMerge.uniq {S S' M M' : List GFact} (h : IsMerge S M) (h' : IsMerge S' M') (hs : ∀ f, Top S f ↔ Top S' f) : M = M' :=
  asc_uniq h.asc h'.asc fun f => (h.mem f).trans ((hs f).trans (h'.mem f).symm)

theorem Top_cons {x : GFact} {S : List GFact} (hx : validB x = true) (h : ∀ g ∈ S, idlt x g) (f : GFact) : Top (x :: S) f ↔ f = x ∨ Top S f := by
  constructor
  · rintro ⟨h1, h2, h3⟩
    rcases List.mem_cons.1 h1 with e | hm
    · exact .inl e
    · exact .inr ⟨hm, h2, fun g hg => h3 g (by simp [hg])⟩
  · rintro (rfl | ⟨h1, h2, h3⟩)
    · refine ⟨by simp, hx, fun g hg _ he => ?_⟩
      rcases List.mem_cons.1 hg with e | hm
      · subst e; exact lessF_irrefl _
      · exact (idlt_not_eq (h g hm) he).elim
    · refine ⟨by simp [h1], h2, fun g hg hv he => ?_⟩
      rcases List.mem_cons.1 hg with e | hm
      · subst e; exact (idlt_not_eq (h f h1) (ideq_symm he)).elim
      · exact h3 g hm hv he
theorem Top_cons2 {x y : GFact} {S : List GFact} (hx : validB x = true) (hy : validB y = true) (he : ideq x y) (h : ∀ g ∈ S, idlt x g) (f : GFact) : Top (x :: y :: S) f ↔ f = greaterF x y ∨ Top S f := by
  have hno : ∀ g ∈ S, ∀ z, ideq x z → ¬ ideq z g := fun g hg z hz hzg => idlt_not_eq (h g hg) (ideq_trans hz hzg)
  constructor
  · rintro ⟨h1, h2, h3⟩
    have k1 := h3 x (by simp) hx
    have k2 := h3 y (by simp) hy
    rcases List.mem_cons.1 h1 with e | hm
    · subst e
      left
      have := k2 he
      unfold greaterF
      rw [if_neg this]
    · rcases List.mem_cons.1 hm with e | hm
      · subst e
        left
        have := k1 (ideq_symm he)
        unfold greaterF
        split
        · rfl
        · next hn =>
          rcases lessF_total hx hy with e | e | e
          · exact (hn e).elim
          · exact e.symm
          · exact (this e).elim
      · exact .inr ⟨hm, h2, fun g hg => h3 g (by simp [hg])⟩
  · rintro (rfl | ⟨h1, h2, h3⟩)
    · unfold greaterF
      split
      · next hl =>
        refine ⟨by simp, hy, fun g hg hv hi => ?_⟩
        rcases List.mem_cons.1 hg with e | hg
        · subst e; intro hc; exact lessF_irrefl _ (lessF_trans hl hc)
        · rcases List.mem_cons.1 hg with e | hg
          · subst e; exact lessF_irrefl _
          · exact (hno g hg y he hi).elim
      · next hl =>
        refine ⟨by simp, hx, fun g hg hv hi => ?_⟩
        rcases List.mem_cons.1 hg with e | hg
        · subst e; exact lessF_irrefl _
        · rcases List.mem_cons.1 hg with e | hg
          · subst e; exact hl
          · exact (hno g hg x (ideq_refl x) hi).elim
    · refine ⟨by simp [h1], h2, fun g hg hv hi => ?_⟩
      rcases List.mem_cons.1 hg with e | hg
      · subst e; exact (hno f h1 g (ideq_refl g) (ideq_symm hi)).elim
      · rcases List.mem_cons.1 hg with e | hg
        · subst e; exact (hno f h1 g he (ideq_symm hi)).elim
        · exact h3 g hg hv hi

theorem asc_cons {x : GFact} {a : List GFact} (h : Asc (x :: a)) : (∀ g ∈ a, idlt x g) ∧ Asc a := List.pairwise_cons.1 h
theorem mergeL_ok : ∀ (a b : List GFact), Asc a → Asc b → Valids a → Valids b → IsMerge (a ++ b) (mergeL a b)
  | [], b, _, hb, _, vb => by
    rw [mergeL]
    refine ⟨hb, fun f => ?_⟩
    rw [List.nil_append]
    induction b with
    | nil => simp [Top]
    | cons y b ih =>
      obtain ⟨h1, h2⟩ := asc_cons hb
      rw [Top_cons (vb y (by simp)) h1, List.mem_cons, ih h2 fun g hg => vb g (by simp [hg])]
  | x :: a, [], ha, _, va, _ => by
    rw [mergeL, List.append_nil]
    refine ⟨ha, fun f => ?_⟩
    have key : ∀ l : List GFact, Asc l → Valids l → (f ∈ l ↔ Top l f) := by
      intro l
      induction l with
      | nil => intro _ _; simp [Top]
      | cons y b ih =>
        intro hb vb
        obtain ⟨h1, h2⟩ := asc_cons hb
        rw [Top_cons (vb y (by simp)) h1, List.mem_cons, ih h2 fun g hg => vb g (by simp [hg])]
    exact key _ ha va
  | x :: a, y :: b, ha, hb, va, vb => by
    obtain ⟨hxa, ha'⟩ := asc_cons ha
    obtain ⟨hyb, hb'⟩ := asc_cons hb
    have vx := va x (by simp)
    have vy := vb y (by simp)
    have va' : Valids a := fun g hg => va g (by simp [hg])
    have vb' : Valids b := fun g hg => vb g (by simp [hg])
    rw [mergeL]
    rcases cmpI_cases x y with ⟨hc, e⟩ | ⟨hc, e⟩ | ⟨hc, e⟩
    · rw [if_pos (by omega)]
      have ih := mergeL_ok a (y :: b) ha' hb va' vb
      have hall : ∀ g ∈ a ++ y :: b, idlt x g := by
        intro g hg
        rcases List.mem_append.1 hg with hg | hg
        · exact hxa g hg
        · rcases List.mem_cons.1 hg with rfl | hg
          · exact hc
          · exact idlt_trans hc (hyb g hg)
      refine ⟨List.pairwise_cons.2 ⟨fun g hg => hall g ((ih.mem g).1 hg).1, ih.asc⟩, fun f => ?_⟩
      rw [List.cons_append, Top_cons vx hall, List.mem_cons, ih.mem]
    · rw [if_neg (by omega), if_neg (by omega)]
      have ih := mergeL_ok a b ha' hb' va' vb'
      have hall : ∀ g ∈ a ++ b, idlt x g := by
        intro g hg
        rcases List.mem_append.1 hg with hg | hg
        · exact hxa g hg
        · exact ideq_lt hc (hyb g hg)
      have hgr : ∀ g ∈ a ++ b, idlt (greaterF x y) g := by
        intro g hg
        unfold greaterF
        split
        · exact ideq_lt (ideq_symm hc) (hall g hg)
        · exact hall g hg
      refine ⟨List.pairwise_cons.2 ⟨fun g hg => hgr g ((ih.mem g).1 hg).1, ih.asc⟩, fun f => ?_⟩
      rw [Top_congr (S' := x :: y :: (a ++ b)) (fun f => by simp only [List.mem_append, List.mem_cons, List.cons_append]; constructor <;> (intro h; rcases h with h | h | h | h <;> simp [h])), Top_cons2 vx vy hc hall, List.mem_cons, ih.mem]
    · rw [if_neg (by omega), if_pos (by omega)]
      have ih := mergeL_ok (x :: a) b ha hb' va vb'
      have hall : ∀ g ∈ x :: a ++ b, idlt y g := by
        intro g hg
        rcases List.mem_append.1 hg with hg | hg
        · rcases List.mem_cons.1 hg with rfl | hg
          · exact hc
          · exact idlt_trans hc (hxa g hg)
        · exact hyb g hg
      refine ⟨List.pairwise_cons.2 ⟨fun g hg => hall g ((ih.mem g).1 hg).1, ih.asc⟩, fun f => ?_⟩
      rw [Top_congr (S' := y :: (x :: a ++ b)) (fun f => by simp only [List.mem_append, List.mem_cons, List.cons_append]; constructor <;> (intro h; rcases h with h | h | h | h <;> simp [h])), Top_cons vy hall, List.mem_cons, ih.mem]
termination_by a b => a.length + b.length

/-- Among facts of one identity there is a greatest one. -/
theorem exists_top (g : GFact) (hg : validB g = true) : ∀ A : List GFact, ∃ m, (m = g ∨ m ∈ A) ∧ validB m = true ∧ ideq g m ∧ ¬ lessF m g ∧ ∀ h ∈ A, validB h = true → ideq g h → ¬ lessF m h
  | [] => ⟨g, .inl rfl, hg, ideq_refl g, lessF_irrefl g, fun h hh => by simp at hh⟩
  | x :: A => by
    obtain ⟨m, h1, h2, h3, h4, h5⟩ := exists_top g hg A
    by_cases hc : validB x = true ∧ ideq g x ∧ lessF m x
    · obtain ⟨c1, c2, c3⟩ := hc
      refine ⟨x, .inr (by simp), c1, c2, fun hl => h4 (lessF_trans c3 hl), fun h hh hv hi hl => ?_⟩
      rcases List.mem_cons.1 hh with rfl | hh
      · exact lessF_irrefl _ hl
      · exact h5 h hh hv hi (lessF_trans c3 hl)
    · refine ⟨m, h1.imp id fun h => by simp [h], h2, h3, h4, fun h hh hv hi hl => ?_⟩
      rcases List.mem_cons.1 hh with rfl | hh
      · exact hc ⟨hv, hi, hl⟩
      · exact h5 h hh hv hi hl
theorem Top_merge {A M B : List GFact} (h : IsMerge A M) (f : GFact) : Top (M ++ B) f ↔ Top (A ++ B) f := by
  have hMA : ∀ g ∈ M, g ∈ A := fun g hg => ((h.mem g).1 hg).1
  constructor
  · rintro ⟨h1, h2, h3⟩
    refine ⟨?_, h2, fun g hg hv hi hl => ?_⟩
    · rcases List.mem_append.1 h1 with h1 | h1
      · exact List.mem_append_left _ (hMA f h1)
      · exact List.mem_append_right _ h1
    · rcases List.mem_append.1 hg with hg | hg
      · obtain ⟨m, m1, m2, m3, m4, m5⟩ := exists_top g hv A
        have hmA : m ∈ A := by rcases m1 with rfl | m1; exact hg; exact m1
        have hmM : m ∈ M := (h.mem m).2 ⟨hmA, m2, fun k hk hkv hki => m5 k hk hkv (ideq_trans m3 hki)⟩
        have k1 := h3 m (List.mem_append_left _ hmM) m2 (ideq_trans hi m3)
        rcases lessF_total hv m2 with e | e | e
        · exact k1 (lessF_trans hl e)
        · subst e; exact k1 hl
        · exact m4 e
      · exact h3 g (List.mem_append_right _ hg) hv hi hl
  · rintro ⟨h1, h2, h3⟩
    refine ⟨?_, h2, fun g hg hv hi => ?_⟩
    · rcases List.mem_append.1 h1 with h1 | h1
      · exact List.mem_append_left _ ((h.mem f).2 ⟨h1, h2, fun g hg => h3 g (List.mem_append_left _ hg)⟩)
      · exact List.mem_append_right _ h1
    · rcases List.mem_append.1 hg with hg | hg
      · exact h3 g (List.mem_append_left _ (hMA g hg)) hv hi
      · exact h3 g (List.mem_append_right _ hg) hv hi
theorem app_comm (A B : List GFact) (f : GFact) : f ∈ A ++ B ↔ f ∈ B ++ A := by rw [List.mem_append, List.mem_append, or_comm]
theorem Top_merge2 {A M B : List GFact} (h : IsMerge A M) (f : GFact) : Top (B ++ M) f ↔ Top (B ++ A) f :=
  (Top_congr (app_comm B M) f).trans ((Top_merge h f).trans (Top_congr (app_comm A B) f))
theorem IsMerge.app {A B M M' : List GFact} (h : IsMerge A M) (h' : IsMerge B M') : IsMerge (A ++ B) (mergeL M M') := by
  have := mergeL_ok M M' h.asc h'.asc h.valids h'.valids
  exact ⟨this.asc, fun f => (this.mem f).trans ((Top_merge h f).trans (Top_merge2 h' f))⟩
theorem IsMerge.one {f : GFact} (h : validB f = true) : IsMerge [f] [f] := by
  refine ⟨by simp [Asc], fun g => ?_⟩
  rw [Top_cons h (by simp)]
  simp [Top]
theorem IsMerge.nil : IsMerge [] [] := ⟨by simp [Asc], fun g => by simp [Top]⟩
theorem IsMerge.skip {A M : List GFact} {f : GFact} (h : IsMerge A M) (hf : validB f = false) : IsMerge (A ++ [f]) M := by
  refine ⟨h.asc, fun g => (h.mem g).trans ⟨fun ⟨h1, h2, h3⟩ => ⟨by simp [h1], h2, fun k hk hv hi => ?_⟩, fun ⟨h1, h2, h3⟩ => ⟨?_, h2, fun k hk => h3 k (by simp [hk])⟩⟩⟩
  · rcases List.mem_append.1 hk with hk | hk
    · exact h3 k hk hv hi
    · simp at hk; subst hk; rw [hf] at hv; cases hv
  · rcases List.mem_append.1 h1 with h1 | h1
    · exact h1
    · simp at h1; subst h1; rw [hf] at h2; cases h2
noncomputable def ascL (l : List GFact) : List GFact := l.foldl (fun out f => if validB f then mergeL out [f] else out) []
theorem ascL_go : ∀ (l A out : List GFact), IsMerge A out → IsMerge (A ++ l) (l.foldl (fun out f => if validB f then mergeL out [f] else out) out)
  | [], A, out, h => by rw [List.append_nil]; exact h
  | f :: l, A, out, h => by
    rw [List.foldl_cons, show A ++ f :: l = (A ++ [f]) ++ l by simp]
    refine ascL_go l (A ++ [f]) _ ?_
    by_cases hf : validB f = true
    · rw [if_pos hf]; exact h.app (.one hf)
    · rw [if_neg hf]; exact h.skip (by simpa using hf)
theorem ascL_ok (l : List GFact) : IsMerge l (ascL l) := ascL_go l [] [] .nil
noncomputable def careerMerge (a b : List GFact) : List GFact := mergeL (ascL a) (ascL b)
theorem careerMerge_ok (a b : List GFact) : IsMerge (a ++ b) (careerMerge a b) := (ascL_ok a).app (ascL_ok b)
end
section
open Go.Proofs

theorem toNat_pred (n : Nat) : Int.toNat (((n + 1 : Nat) : Int) - 1) = n := by omega
theorem subL_tail {T : Type} (z x : T) (a : List T) : subL z (x :: a) 1 (Int.toNat ((((x :: a).length : Nat) : Int) - (1 : Int))) = a := by
  rw [List.length_cons, toNat_pred, subL_take (by simp; omega)]
  simp
theorem mergeL_length : ∀ (a b : List GFact), (mergeL a b).length ≤ a.length + b.length
  | [], b => by rw [mergeL]; simp
  | x :: a, [] => by rw [mergeL]; simp
  | x :: a, y :: b => by
    have h1 := mergeL_length a (y :: b)
    have h2 := mergeL_length (x :: a) b
    have h3 := mergeL_length a b
    rw [mergeL]
    simp only [List.length_cons] at h1 h2 h3 ⊢
    split
    · simp only [List.length_cons]; omega
    · split
      · simp only [List.length_cons]; omega
      · simp only [List.length_cons]; omega
termination_by a b => a.length + b.length
theorem capF {n : Nat} (h : n ≤ 1000000) : capB n 112 := ⟨by omega, by omega⟩

theorem merge_loop (a0 b0 : List GFact) : ∀ (a b out : List GFact), Valids a → Valids b → out.length + a.length + b.length ≤ 1000000 →
    ∃ a' b' out', fixL (career_merge_api_Fact_byIdentity_greater_l1 a0 b0) (a, b, out) = some (a', b', out') ∧ out' ++ a' ++ b' = out ++ mergeL a b ∧ out'.length + a'.length + b'.length ≤ 1000000
  | [], b, out, _, _, hn => by
    refine ⟨[], b, out, ?_, by rw [mergeL]; simp, hn⟩
    rw [fixL_eq]
    rfl
  | x :: a, [], out, _, _, hn => by
    refine ⟨x :: a, [], out, ?_, by rw [mergeL]; simp, hn⟩
    rw [fixL_eq]
    show (career_merge_api_Fact_byIdentity_greater_p0 (x :: a) [] out).bind _ = _
    unfold career_merge_api_Fact_byIdentity_greater_p0
    have : (bif decide ((0 : Int) < (((x :: a).length : Nat) : Int)) then decide ((0 : Int) < (([] : List GFact).length : Nat)) else false) = false := by simp
    rw [this]
    rfl
  | x :: a, y :: b, out, va, vb, hn => by
    have vx := va x (by simp)
    have vy := vb y (by simp)
    have va' : Valids a := fun g hg => va g (by simp [hg])
    have vb' : Valids b := fun g hg => vb g (by simp [hg])
    have e1 : (bif decide ((0 : Int) < (((x :: a).length : Nat) : Int)) then decide ((0 : Int) < (((y :: b).length : Nat) : Int)) else false) = true := by simp
    have ga : (0 : Int) ≤ (0 : Int) ∧ (0 : Int) < (((x :: a).length : Nat) : Int) := by simp
    have gb : (0 : Int) ≤ (0 : Int) ∧ (0 : Int) < (((y :: b).length : Nat) : Int) := by simp
    have sa : (0 : Int) ≤ (1 : Int) ∧ (1 : Int) ≤ (((x :: a).length : Nat) : Int) ∧ (((x :: a).length : Nat) : Int) ≤ (((x :: a).length : Nat) : Int) := by simp; omega
    have sb : (0 : Int) ≤ (1 : Int) ∧ (1 : Int) ≤ (((y :: b).length : Nat) : Int) ∧ (((y :: b).length : Nat) : Int) ≤ (((y :: b).length : Nat) : Int) := by simp; omega
    simp only [List.length_cons] at hn
    have hcap : capB (out.length + 1) 112 := capF (by omega)
    have step : career_merge_api_Fact_byIdentity_greater_p0 (x :: a) (y :: b) out = some (.inl (if cmpI x y < 0 then (a, y :: b, out ++ [x]) else if 0 < cmpI x y then (x :: a, b, out ++ [y]) else (a, b, out ++ [greaterF x y]))) := by
      unfold career_merge_api_Fact_byIdentity_greater_p0
      rw [e1, cond_true, gd_pos ga, gd_pos gb]
      have g0 : (x :: a).getD 0 zGFact = x := rfl
      have g1 : (y :: b).getD 0 zGFact = y := rfl
      rw [g0, g1, career_byIdentity_eq, Option.bind_some, subL_tail, subL_tail, career_greater_eq vx vy, Option.bind_some]
      simp only [gd_pos ga, gd_pos gb, gd_pos hcap, gd_pos sa, gd_pos sb]
      by_cases h : cmpI x y < 0
      · simp [h]
      · by_cases h' : 0 < cmpI x y
        · simp [h, h']
        · simp [h, h']
    have unroll : fixL (career_merge_api_Fact_byIdentity_greater_l1 a0 b0) (x :: a, y :: b, out) = fixL (career_merge_api_Fact_byIdentity_greater_l1 a0 b0) (if cmpI x y < 0 then (a, y :: b, out ++ [x]) else if 0 < cmpI x y then (x :: a, b, out ++ [y]) else (a, b, out ++ [greaterF x y])) := by
      rw [fixL_eq]
      show (career_merge_api_Fact_byIdentity_greater_p0 (x :: a) (y :: b) out).bind _ = _
      rw [step]
      rfl
    rw [unroll, mergeL]
    by_cases h : cmpI x y < 0
    · rw [if_pos h, if_pos h]
      obtain ⟨a', b', o', h1, h2, h3⟩ := merge_loop a0 b0 a (y :: b) (out ++ [x]) va' vb (by simp; omega)
      exact ⟨a', b', o', h1, by rw [h2]; simp, h3⟩
    · rw [if_neg h, if_neg h]
      by_cases h' : 0 < cmpI x y
      · rw [if_pos h', if_pos h']
        obtain ⟨a', b', o', h1, h2, h3⟩ := merge_loop a0 b0 (x :: a) b (out ++ [y]) va vb' (by simp; omega)
        exact ⟨a', b', o', h1, by rw [h2]; simp, h3⟩
      · rw [if_neg h', if_neg h']
        obtain ⟨a', b', o', h1, h2, h3⟩ := merge_loop a0 b0 a b (out ++ [greaterF x y]) va' vb' (by simp; omega)
        exact ⟨a', b', o', h1, by rw [h2]; simp, h3⟩
termination_by a b => a.length + b.length

theorem career_merge_eq {a b : List GFact} (va : Valids a) (vb : Valids b) (hn : a.length + b.length ≤ 1000000) : career_merge_api_Fact_byIdentity_greater a b = some (mergeL a b) := by
  show (fixL (career_merge_api_Fact_byIdentity_greater_l1 a b) (a, b, [])).bind _ = _
  obtain ⟨a', b', o', h1, h2, h3⟩ := merge_loop a b a b [] va vb (by simpa using hn)
  rw [h1, Option.bind_some]
  show gd (capB (o'.length + a'.length) 112) _ = _
  rw [gd_pos (capF (by omega)), gd_pos (capF (by omega)), h2]
  simp

theorem ascL_snoc (l : List GFact) (f : GFact) : ascL (l ++ [f]) = if validB f then mergeL (ascL l) [f] else ascL l := by
  unfold ascL
  rw [List.foldl_append]
  rfl
theorem ascL_length (l : List GFact) : (ascL l).length ≤ l.length := by
  have key : ∀ (l out : List GFact), (l.foldl (fun out f => if validB f then mergeL out [f] else out) out).length ≤ out.length + l.length := by
    intro l
    induction l with
    | nil => intro out; simp
    | cons f l ih =>
      intro out
      rw [List.foldl_cons]
      refine Nat.le_trans (ih _) ?_
      split
      · have := mergeL_length out [f]
        simp only [List.length_cons, List.length_nil] at this ⊢; omega
      · simp only [List.length_cons]; omega
  have := key l []
  simpa [ascL] using this
theorem career_ascending_eq (l : List GFact) (hn : l.length ≤ 400000) : career_ascending l = some (ascL l) := by
  show (fixL (career_ascending_l1 l) ([], (0 : Int))).bind _ = _
  have key : ∀ (n i : Nat), l.length = i + n → fixL (career_ascending_l1 l) (ascL (l.take i), (i : Int)) = some (ascL l) := by
    intro n
    induction n with
    | zero =>
      intro i h
      have : i = l.length := by omega
      subst this
      rw [fixL_eq]
      show (career_ascending_p0 (ascL (l.take l.length)) l (l.length : Int)).bind _ = _
      unfold career_ascending_p0
      rw [not_lt_len, cond_false, List.take_length]
      rfl
    | succ n ih =>
      intro i h
      have hi : i < l.length := by omega
      rw [fixL_eq]
      show (career_ascending_p0 (ascL (l.take i)) l (i : Int)).bind _ = _
      unfold career_ascending_p0
      rw [lt_len hi, cond_true, gd_pos (idx_ok hi), getD_nat l _ i hi, fact_Valid_eq, Option.bind_some, w64_succ (by omega)]
      have ht : l.take (i + 1) = l.take i ++ [l[i]] := by rw [List.take_add_one, List.getElem?_eq_getElem hi]; rfl
      have ih' := ih (i + 1) (by omega)
      rw [ht, ascL_snoc] at ih'
      have hlen : (ascL (l.take i)).length ≤ i := Nat.le_trans (ascL_length _) (by rw [List.length_take]; omega)
      cases hv : validB l[i] with
      | false =>
        rw [hv] at ih'
        simpa using ih'
      | true =>
        rw [hv, if_pos rfl] at ih'
        rw [cond_true, career_merge_eq (ascL_ok _).valids (fun g hg => by simp at hg; subst hg; exact hv) (by simp; omega)]
        exact ih'
  have := key l.length 0 (by omega)
  rw [show ((0 : Nat) : Int) = 0 from rfl] at this
  rw [show ([] : List GFact) = ascL (l.take 0) from rfl, this]
  rfl
theorem career_Merge_eq (a b : List GFact) (ha : a.length ≤ 400000) (hb : b.length ≤ 400000) : career_Merge a b = some (careerMerge a b) := by
  show career_Merge_p0 a b = _
  unfold career_Merge_p0
  rw [career_ascending_eq a ha, Option.bind_some, career_ascending_eq b hb, Option.bind_some]
  have h1 := ascL_length a
  have h2 := ascL_length b
  rw [career_merge_eq (ascL_ok a).valids (ascL_ok b).valids (by omega)]
  rfl
theorem careerMerge_length (a b : List GFact) : (careerMerge a b).length ≤ a.length + b.length := by
  have := mergeL_length (ascL a) (ascL b)
  have h1 := ascL_length a
  have h2 := ascL_length b
  unfold careerMerge
  omega

/-! ### The other text -/
def idv (a b : GFact) : Int := if a.Issuer ≠ b.Issuer then a.Issuer - b.Issuer else a.Number - b.Number
theorem valid_ids {f : GFact} (h : validB f = true) : (0 ≤ f.Issuer ∧ f.Issuer ≤ 5) ∧ (1 ≤ f.Number ∧ f.Number ≤ 999) ∧ (1 ≤ f.Version ∧ f.Version ≤ 99) ∧ (1 ≤ f.Person ∧ f.Person ≤ 99) := by
  obtain ⟨_, h1, h2, h3, h4, _⟩ := (validB_iff f).1 h
  exact ⟨h1, h2, h3, h4⟩
theorem idv_pos (a b : GFact) : 0 < idv a b ↔ idlt b a := by
  unfold idv idlt
  split <;> omega
theorem idv_zero (a b : GFact) : idv a b = 0 ↔ ideq a b := by
  unfold idv ideq
  split <;> omega
theorem idv_neg (a b : GFact) : idv a b < 0 ↔ idlt a b := by
  unfold idv idlt
  split <;> omega
end
section
open Go.Proofs

/-- How far a fact comes in. -/
noncomputable def bnd (out : List GFact) (f : GFact) : Nat → Nat
  | 0 => 0
  | n + 1 => if 0 < idv (out.getD n zGFact) f then bnd out f n else n + 1
theorem bnd_le (out : List GFact) (f : GFact) : ∀ n, bnd out f n ≤ n
  | 0 => Nat.le_refl _
  | n + 1 => by
    unfold bnd
    split
    · have := bnd_le out f n; omega
    · exact Nat.le_refl _
theorem bnd_above (out : List GFact) (f : GFact) : ∀ n i, bnd out f n ≤ i → i < n → idlt f (out.getD i zGFact)
  | 0, i, _, h => by omega
  | n + 1, i, h1, h2 => by
    unfold bnd at h1
    split at h1
    · next hp =>
      by_cases hi : i = n
      · subst hi; exact (idv_pos _ _).1 hp
      · exact bnd_above out f n i h1 (by omega)
    · omega
theorem bnd_at (out : List GFact) (f : GFact) : ∀ n, 0 < bnd out f n → ¬ idlt f (out.getD (bnd out f n - 1) zGFact)
  | 0, h => by simp [bnd] at h
  | n + 1, h => by
    unfold bnd at h ⊢
    split
    · next hp => rw [if_pos hp] at h; exact bnd_at out f n h
    · next hp => intro hc; exact hp ((idv_pos _ _).2 (by simpa using hc))

theorem w64_nat {n : Int} (h : -4611686018427387904 ≤ n) (h' : n ≤ 4611686018427387904) : w64 n = n := w64_in (by omega) (by omega)

/-- Where a fact goes. -/
theorem mergeL_insert (f : GFact) : ∀ (p s : List GFact), (∀ g ∈ p, idlt g f) → (∀ g ∈ s, idlt f g) → mergeL (p ++ s) [f] = p ++ f :: s
  | [], [], _, _ => by simp [mergeL]
  | [], y :: s, _, hs => by
    have h := hs y (by simp)
    rw [List.nil_append, mergeL]
    rcases cmpI_cases y f with ⟨hc, e⟩ | ⟨hc, e⟩ | ⟨hc, e⟩
    · exact (idlt_asymm h hc).elim
    · exact (idlt_not_eq h (ideq_symm hc)).elim
    · rw [if_neg (by omega), if_pos (by omega), mergeL]
      rfl
  | x :: p, s, hp, hs => by
    have h := hp x (by simp)
    rw [List.cons_append, mergeL]
    rcases cmpI_cases x f with ⟨hc, e⟩ | ⟨hc, e⟩ | ⟨hc, e⟩
    · rw [if_pos (by omega), mergeL_insert f p s (fun g hg => hp g (by simp [hg])) hs]
      rfl
    · exact (idlt_not_eq h hc).elim
    · exact (idlt_asymm h hc).elim
theorem mergeL_nil_r : ∀ l : List GFact, mergeL l [] = l
  | [] => by rw [mergeL]
  | x :: l => by rw [mergeL]
theorem mergeL_same (f q : GFact) (he : ideq q f) : ∀ (p s : List GFact), (∀ g ∈ p, idlt g f) → mergeL (p ++ q :: s) [f] = p ++ greaterF q f :: s
  | [], s, _ => by
    rw [List.nil_append, mergeL]
    rcases cmpI_cases q f with ⟨hc, e⟩ | ⟨hc, e⟩ | ⟨hc, e⟩
    · exact (idlt_not_eq hc he).elim
    · rw [if_neg (by omega), if_neg (by omega), mergeL_nil_r]; rfl
    · exact (idlt_not_eq hc (ideq_symm he)).elim
  | x :: p, s, hp => by
    have h := hp x (by simp)
    rw [List.cons_append, mergeL]
    rcases cmpI_cases x f with ⟨hc, e⟩ | ⟨hc, e⟩ | ⟨hc, e⟩
    · rw [if_pos (by omega), mergeL_same f q he p s (fun g hg => hp g (by simp [hg]))]
      rfl
    · exact (idlt_not_eq h hc).elim
    · exact (idlt_asymm h hc).elim

theorem getD_app_right {T : Type} (p s : List T) (x z : T) : (p ++ x :: s).getD p.length z = x := by
  rw [List.getD_eq_getElem?_getD, List.getElem?_append_right (Nat.le_refl _)]
  simp
theorem sub_front {T : Type} (z : T) (p s : List T) : subL z (p ++ s) 0 p.length = p := by
  rw [subL_take (by simp)]
  simp
theorem sub_back {T : Type} (z : T) (p s : List T) : subL z (p ++ s) p.length s.length = s := by
  rw [subL_take (by simp)]
  simp
theorem asc_before : ∀ {p : List GFact} {q : GFact} {s : List GFact}, Asc (p ++ q :: s) → ∀ g ∈ p, idlt g q := by
  intro p q s h g hg
  unfold Asc at h
  rw [List.pairwise_append] at h
  exact h.2.2 g hg q (by simp)

theorem careerMerge_ref (a b : List GFact) : careerMerge a b = ascL (a ++ b) := (careerMerge_ok a b).uniq (ascL_ok (a ++ b)) fun _ => Iff.rfl
end
end Go.Ax
