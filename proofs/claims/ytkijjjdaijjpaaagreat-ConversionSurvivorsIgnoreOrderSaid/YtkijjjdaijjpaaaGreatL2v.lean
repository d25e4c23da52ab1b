import Derived.Test.YtkijjjdaijjpaaaGreatL1v
set_option linter.all false
/- Facts that are made of numbers. -/
set_option maxRecDepth 100000
namespace Go.Ax
open Go.Proofs

abbrev GHand := GPensionhand_Fact
def handKind (r : GHand) : Int := 1 + r.Kind % 14
def handFrom (r : GHand) : Int :=
  if handKind r = 11 then 12000 + r.From % 5000 else if handKind r = 12 then 34000 + r.From % 6000 else if handKind r = 8 then 34000 + r.From % 4000 else 21900 + r.From % 16000
def handTo (r : GHand) : Int :=
  if handKind r = 11 then handFrom r + 1 else if handKind r = 12 then handFrom r + 1 else if handKind r = 8 then handFrom r + 1 + r.Length % 700 else handFrom r + lengthL r.Length
def handSet (r : GHand) (a b : Int) (f : GFact) (c : Nat) : GFact :=
  if c = 83 then { f with State := r.State % 3 }
  else if c = 80 then { f with Span := ⟨a, b⟩ }
  else if c = 84 then { f with Seat := if f.Kind = 4 ∧ r.Seat % 3 = f.State then w64 (f.State + 1) % 3 else r.Seat % 3 }
  else if c = 72 then { f with Share := w64 (1 + r.Share % 100) }
  else if c = 67 then { f with Currency := w64 (1 + w64 (r.Seat + r.State.tmod 3) % 3) }
  else if c = 65 then { f with Amount := r.Amount % 3000000 }
  else { f with Ref := if w64 (1 + r.Ref % 4) = f.Person then w64 (1 + f.Person % 4) else w64 (1 + r.Ref % 4) }
def hand0 (r : GHand) : GFact :=
  { Issuer := r.Issuer % 3, Number := 1 + r.Number % 20, Version := 1 + r.Version % 3, Withdrawn := r.Withdrawn, Person := 1 + r.Person % 4, Kind := handKind r, State := 0, Span := ⟨0, 0⟩, Seat := 0, Share := 0, Currency := 0, Amount := 0, Ref := 0 }
def makeL (r : GHand) : GFact := (usesN (handKind r)).foldl (handSet r (handFrom r) (handTo r)) (hand0 r)

theorem hm (x : Int) {m : Int} (h : 0 < m) : 0 ≤ x % m ∧ x % m < m := ⟨Int.emod_nonneg _ (by omega), Int.emod_lt_of_pos _ h⟩

theorem hand_Make_step (r : GHand) (a b : Int) (l : List Nat) (hl : ∀ c ∈ l, c < 256) (hn : l.length < 1000) (i : Nat) (hi : i < l.length) (f : GFact) :
    hand_Make_p1 a b (bstr l) (i : Int) r f = some (.inl (((i + 1 : Nat) : Int), handSet r a b f l[i])) := by
  unfold hand_Make_p1
  rw [bstr_size, gd_pos (by omega), Int.toNat_natCast, bytes_getD l i hi]
  have hv : ((UInt8.ofNat l[i]).toNat : Int) = (l[i] : Int) := by
    have := hl _ (List.getElem_mem hi)
    simp [Nat.mod_eq_of_lt this]
  rw [hv]
  generalize l[i] = c
  have hw : w64 ((i : Int) + 1) = ((i + 1 : Nat) : Int) := by rw [w64_in (by omega) (by omega)]; omega
  have m3 := fun x => plain_Mod_eq x 3 (by omega) (by omega)
  have m4 := fun x => plain_Mod_eq x 4 (by omega) (by omega)
  have m100 := fun x => plain_Mod_eq x 100 (by omega) (by omega)
  have mA := fun x => plain_Mod_eq x 3000000 (by omega) (by omega)
  simp only [m3, m4, m100, mA, Option.bind_some]
  unfold hand_Make_p0
  rw [hw]
  have key : ∀ n : Nat, ((c : Int) == (n : Int)) = decide (c = n) := by
    intro n
    by_cases h : c = n
    · subst h; simp
    · have h2 : ((c : Int) == (n : Int)) = false := by simp; omega
      rw [h2]; simp [h]
  have k83 := key 83; have k80 := key 80; have k84 := key 84; have k72 := key 72; have k67 := key 67; have k65 := key 65
  simp only [Int.cast_ofNat_Int] at k83 k80 k84 k72 k67 k65
  rw [k83, k80, k84, k72, k67, k65]
  unfold handSet
  by_cases h1 : c = 83
  · simp [h1]
  by_cases h2 : c = 80
  · simp [h2]
  by_cases h3 : c = 84
  · subst h3
    by_cases h4 : f.Kind = 4 ∧ r.Seat % 3 = f.State
    · simp [h4]
    · have : (bif f.Kind == 4 then r.Seat % 3 == f.State else false) = false := by
        rw [cond_and, Bool.and_eq_false_iff]
        by_cases h5 : f.Kind = 4
        · right; simpa using fun e => h4 ⟨h5, e⟩
        · left; simpa using h5
      simp [this, h4]
  by_cases h4 : c = 72
  · simp [h4]
  by_cases h5 : c = 67
  · simp [h5]
  by_cases h6 : c = 65
  · simp [h6]
  simp only [h1, h2, h3, h4, h5, h6, decide_false, cond_false, if_false]
  by_cases h7 : w64 (1 + r.Ref % 4) = f.Person
  · simp [h7]
  · have : (w64 (1 + r.Ref % 4) == f.Person) = false := by simpa using h7
    simp [this, h7]

theorem hand_Make_loop (r : GHand) (a b : Int) (l : List Nat) (hl : ∀ c ∈ l, c < 256) (hn : l.length < 1000) (f0 : GFact) : ∀ (n i : Nat) (f : GFact), l.length = i + n →
    fixL (hand_Make_l1 a b (bstr l) r f0) ((i : Int), f) = some ((l.drop i).foldl (handSet r a b) f) := by
  intro n
  induction n with
  | zero =>
    intro i f hi
    rw [fixL_eq]
    show (hand_Make_p2 a b (bstr l) (i : Int) r f).bind _ = _
    unfold hand_Make_p2
    rw [bstr_size]
    have : decide ((i : Int) < (l.length : Int)) = false := by simp; omega
    rw [this, List.drop_of_length_le (by omega)]
    rfl
  | succ n ih =>
    intro i f hi
    have hlt : i < l.length := by omega
    rw [fixL_eq]
    show (hand_Make_p2 a b (bstr l) (i : Int) r f).bind _ = _
    unfold hand_Make_p2
    rw [bstr_size]
    have : decide ((i : Int) < (l.length : Int)) = true := by simp; omega
    rw [this, cond_true, hand_Make_step r a b l hl hn i hlt f, Option.bind_some]
    simp only
    rw [ih (i + 1) _ (by omega), List.drop_eq_getElem_cons hlt, List.foldl_cons]

theorem hand_Make_eq (r : GHand) : hand_Make r = some (makeL r) := by
  show hand_Make_p6 r = _
  unfold hand_Make_p6
  have m3 := fun x => plain_Mod_eq x 3 (by omega) (by omega)
  have m4 := fun x => plain_Mod_eq x 4 (by omega) (by omega)
  have m20 := fun x => plain_Mod_eq x 20 (by omega) (by omega)
  have m14 := fun x => plain_Mod_eq x 14 (by omega) (by omega)
  have m16 := fun x => plain_Mod_eq x 16000 (by omega) (by omega)
  have m5 := fun x => plain_Mod_eq x 5000 (by omega) (by omega)
  have m6 := fun x => plain_Mod_eq x 6000 (by omega) (by omega)
  have m40 := fun x => plain_Mod_eq x 4000 (by omega) (by omega)
  have m7 := fun x => plain_Mod_eq x 700 (by omega) (by omega)
  simp only [m3, m4, m20, m14, m16, m5, m6, m40, m7, hand_length_eq, Option.bind_some]
  have a1 := hm r.Number (m := 20) (by decide)
  have a2 := hm r.Version (m := 3) (by decide)
  have a3 := hm r.Person (m := 4) (by decide)
  have a4 := hm r.Kind (m := 14) (by decide)
  have a5 := hm r.From (m := 5000) (by decide)
  have a6 := hm r.From (m := 6000) (by decide)
  have a7 := hm r.From (m := 4000) (by decide)
  have a8 := hm r.From (m := 16000) (by decide)
  have a9 := hm r.Length (m := 700) (by decide)
  have b1 := lengthL_range r.Length
  rw [w64_in (n := 1 + r.Number % 20) (by omega) (by omega), w64_in (n := 1 + r.Version % 3) (by omega) (by omega), w64_in (n := 1 + r.Person % 4) (by omega) (by omega), w64_in (n := 1 + r.Kind % 14) (by omega) (by omega),
    w64_in (n := 12000 + r.From % 5000) (by omega) (by omega), w64_in (n := 12000 + r.From % 5000 + 1) (by omega) (by omega), w64_in (n := 34000 + r.From % 6000) (by omega) (by omega), w64_in (n := 34000 + r.From % 6000 + 1) (by omega) (by omega),
    w64_in (n := 34000 + r.From % 4000) (by omega) (by omega), w64_in (n := 34000 + r.From % 4000 + 1) (by omega) (by omega), w64_in (n := 34000 + r.From % 4000 + 1 + r.Length % 700) (by omega) (by omega),
    w64_in (n := 21900 + r.From % 16000) (by omega) (by omega), w64_in (n := 21900 + r.From % 16000 + lengthL r.Length) (by omega) (by omega)]
  have core : ∀ a b : Int, hand_Make_p5 a b r (hand0 r) = some ((usesN (handKind r)).foldl (handSet r a b) (hand0 r)) := by
    intro a b
    unfold hand_Make_p5
    rw [ref12_Uses_eq, Option.bind_some]
    unfold hand_Make_p4
    have h6 := usesN_length (handKind r)
    have := hand_Make_loop r a b (usesN (handKind r)) (usesN_small _) (by omega) (hand0 r) (usesN (handKind r)).length 0 (hand0 r) (by omega)
    rw [show ((0 : Nat) : Int) = 0 from rfl] at this
    rw [show (hand0 r).Kind = handKind r from rfl, this]
    rfl
  have hk : handKind r = 1 + r.Kind % 14 := rfl
  unfold makeL handTo handFrom
  by_cases k11 : 1 + r.Kind % 14 = 11
  · have : (1 + r.Kind % 14 == 11) = true := by simpa using k11
    rw [this, cond_true, hk, if_pos k11, if_pos k11]
    exact core _ _
  have e11 : (1 + r.Kind % 14 == 11) = false := by simpa using k11
  rw [e11, cond_false]
  by_cases k12 : 1 + r.Kind % 14 = 12
  · have : (1 + r.Kind % 14 == 12) = true := by simpa using k12
    rw [this, cond_true, hk, if_neg k11, if_pos k12, if_neg k11, if_pos k12]
    exact core _ _
  have e12 : (1 + r.Kind % 14 == 12) = false := by simpa using k12
  rw [e12, cond_false]
  by_cases k8 : 1 + r.Kind % 14 = 8
  · have : (1 + r.Kind % 14 == 8) = true := by simpa using k8
    rw [this, cond_true, hk, if_neg k11, if_neg k12, if_pos k8, if_neg k11, if_neg k12, if_pos k8]
    exact core _ _
  have e8 : (1 + r.Kind % 14 == 8) = false := by simpa using k8
  rw [e8, cond_false, hk, if_neg k11, if_neg k12, if_neg k8, if_neg k11, if_neg k12, if_neg k8]
  exact core _ _

theorem hasB_iff (k : Int) (b : Nat) : hasB k b = decide (b ∈ usesN k) := by
  unfold hasB; simp
theorem field_used {x l h : Int} (hx : l ≤ x ∧ x ≤ h) : fieldB true x l h = true := by
  unfold fieldB
  rw [if_pos rfl, withinB_iff]; exact hx
theorem field_zero {l h : Int} : fieldB false 0 l h = true := rfl
theorem hand_span (r : GHand) : 0 ≤ handFrom r ∧ handFrom r < handTo r ∧ handTo r ≤ 73049 ∧ (handKind r = 11 ∨ handKind r = 12 → handTo r = handFrom r + 1) := by
  have h4 := hm r.From (m := 16000) (by decide)
  have h5 := hm r.From (m := 5000) (by decide)
  have h6 := hm r.From (m := 6000) (by decide)
  have h7 := hm r.From (m := 4000) (by decide)
  have h8 := hm r.Length (m := 700) (by decide)
  have h9 := lengthL_range r.Length
  by_cases k11 : handKind r = 11
  · have e1 : handFrom r = 12000 + r.From % 5000 := by unfold handFrom; rw [if_pos k11]
    have e2 : handTo r = handFrom r + 1 := by unfold handTo; rw [if_pos k11]
    omega
  by_cases k12 : handKind r = 12
  · have e1 : handFrom r = 34000 + r.From % 6000 := by unfold handFrom; rw [if_neg k11, if_pos k12]
    have e2 : handTo r = handFrom r + 1 := by unfold handTo; rw [if_neg k11, if_pos k12]
    omega
  by_cases k8 : handKind r = 8
  · have e1 : handFrom r = 34000 + r.From % 4000 := by unfold handFrom; rw [if_neg k11, if_neg k12, if_pos k8]
    have e2 : handTo r = handFrom r + 1 + r.Length % 700 := by unfold handTo; rw [if_neg k11, if_neg k12, if_pos k8]
    omega
  · have e1 : handFrom r = 21900 + r.From % 16000 := by unfold handFrom; rw [if_neg k11, if_neg k12, if_neg k8]
    have e2 : handTo r = handFrom r + lengthL r.Length := by unfold handTo; rw [if_neg k11, if_neg k12, if_neg k8]
    omega

/-- What a made fact is, whatever its kind. -/
theorem make_valid (r : GHand) : validB (makeL r) = true ∧ (makeL r).Kind = handKind r ∧ (makeL r).Amount < 3000000 ∧ (makeL r).Person = 1 + r.Person % 4 ∧ (makeL r).Version = 1 + r.Version % 3 := by
  have hs := hand_span r
  have a1 := hm r.Issuer (m := 3) (by decide)
  have a2 := hm r.Number (m := 20) (by decide)
  have a3 := hm r.Version (m := 3) (by decide)
  have a4 := hm r.Person (m := 4) (by decide)
  have a5 := hm r.Kind (m := 14) (by decide)
  have a6 := hm r.State (m := 3) (by decide)
  have a7 := hm r.Seat (m := 3) (by decide)
  have a8 := hm r.Share (m := 100) (by decide)
  have a9 := hm (w64 (r.Seat + r.State.tmod 3)) (m := 3) (by decide)
  have b1 := hm r.Amount (m := 3000000) (by decide)
  have b2 := hm r.Ref (m := 4) (by decide)
  have b3 := hm (1 + r.Person % 4) (m := 4) (by decide)
  have b4 := hm (r.State % 3 + 1) (m := 3) (by decide)
  have w1 : w64 (1 + r.Share % 100) = 1 + r.Share % 100 := w64_in (by omega) (by omega)
  have w2 : w64 (1 + w64 (r.Seat + r.State.tmod 3) % 3) = 1 + w64 (r.Seat + r.State.tmod 3) % 3 := w64_in (by omega) (by omega)
  have w3 : w64 (1 + r.Ref % 4) = 1 + r.Ref % 4 := w64_in (by omega) (by omega)
  have w4 : w64 (1 + (1 + r.Person % 4) % 4) = 1 + (1 + r.Person % 4) % 4 := w64_in (by omega) (by omega)
  have w5 : w64 (r.State % 3 + 1) = r.State % 3 + 1 := w64_in (by omega) (by omega)
  have hk : handKind r = 1 + r.Kind % 14 := rfl
  generalize handFrom r = a at hs
  obtain e | e | e | e | e | e | e | e | e | e | e | e | e | e := kinds (k := handKind r) (by omega) (by omega)
  all_goals
    have hmk : makeL r = (usesN (handKind r)).foldl (handSet r (handFrom r) (handTo r)) (hand0 r) := rfl
    have hs := hand_span r
    rw [e] at hmk hs
    have hu : usesN 1 = [83, 80, 84, 72, 67, 65] ∧ usesN 2 = [83, 80, 72, 67, 65] ∧ usesN 3 = [83, 80, 72, 67, 65] ∧ usesN 4 = [83, 80, 84] ∧ usesN 5 = [83, 80] ∧ usesN 6 = [83, 80, 67, 65] ∧ usesN 7 = [83, 80] ∧ usesN 8 = [83, 80] ∧ usesN 9 = [83, 80] ∧ usesN 10 = [83, 80, 82] ∧ usesN 11 = [80] ∧ usesN 12 = [80] ∧ usesN 13 = [80] ∧ usesN 14 = [80, 82] := by decide
    simp only [hu, handSet, hand0, List.foldl, if_true, if_false, Nat.reduceEqDiff, e, w1, w2, w3, w4, w5] at hmk
    rw [hmk]
    refine ⟨?_, e.symm, by first | exact b1.2 | exact (show (0 : Int) < 3000000 by decide), rfl, rfl⟩
    rw [validB_iff]
    simp only [hasB_iff]
    refine ⟨by decide, by omega, by omega, by omega, by omega, ?_, ?_, by omega, ?_, ?_, ?_, ?_, ?_⟩
    all_goals first
      | exact field_used (by omega)
      | exact field_zero
      | (unfold kindB; simp; done)
      | (unfold kindB; simp only [Int.reduceEq, if_true, if_false, or_true, true_or, beq_iff_eq]; omega)
      | (unfold kindB; simp only [Int.reduceEq, if_true, if_false, or_true, true_or, or_false, true_and, bne_iff_ne, ne_eq]; split <;> omega)
end Go.Ax
