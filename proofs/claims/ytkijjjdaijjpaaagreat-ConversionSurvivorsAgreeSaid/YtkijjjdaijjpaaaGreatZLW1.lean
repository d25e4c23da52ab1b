import Derived.Test.YtkijjjdaijjpaaaGreatZL0
import Derived.Test.YtkijjjdaijjpaaaGreatZFs
set_option linter.all false
/- The facts that the tie uses, for the set of SurvivorsAgree. -/
set_option maxRecDepth 100000
namespace Go.Ax
theorem bL (n m : Int) (h : 0 < m) (h' : m ≤ 9223372036854775807) : ap n m = some (n % m) := by
  show sR n m = _
  unfold sR
  rw [an (by omega)]
  have h1 := Int.emod_nonneg n (show m ≠ 0 by omega)
  have h2 := Int.emod_lt_of_pos n h
  rcases QA n h with hc | ⟨hc,hz⟩
  · rw [hc]
    simp [show ¬ n % m < 0 by omega]
  · rw [hc]
    have : n % m - m < 0 := by omega
    simp only [this,decide_true,cond_true]
    rw [bG (by omega) (by omega)]
    congr 1; omega
section
open Go.Proofs
def um (n : Int) : Int :=
  if n % 4 = 0 then 1 + ak (n.tdiv 4) % 9000 else if n % 4 = 1 then 1 + ak (n.tdiv 4) % 1200 else if n % 4 = 2 then 1 + ak (n.tdiv 4) % 120 else 1 + ak (n.tdiv 4) % 12
theorem Rl (x m : Int) (h1 : 0 < m) (h2 : m ≤ 9000) : ak (1 + x % m) = 1 + x % m := by
  have := Int.emod_nonneg x (show m ≠ 0 by omega)
  have := Int.emod_lt_of_pos x h1
  exact bG (by omega) (by omega)
theorem Kj (n : Int) : qy n = some (um n) := by
  show pB n = _
  unfold pB um
  rw [bL n 4 (by omega) (by omega)]
  simp only [Option.bind_some]
  rw [bL _ 9000 (by omega) (by omega),bL _ 1200 (by omega) (by omega),bL _ 120 (by omega) (by omega),bL _ 12 (by omega) (by omega)]
  simp only [Option.bind_some]
  rw [Rl _ 9000 (by omega) (by omega),Rl _ 1200 (by omega) (by omega),Rl _ 120 (by omega) (by omega),Rl _ 12 (by omega) (by omega)]
  by_cases h0 : n % 4 = 0
  · simp [h0]
  by_cases h1 : n % 4 = 1
  · simp [h1]
  by_cases h2 : n % 4 = 2
  · simp [h2]
  · have e0 : (n % 4 == 0) = false := by simpa using h0
    have e1 : (n % 4 == 1) = false := by simpa using h1
    have e2 : (n % 4 == 2) = false := by simpa using h2
    simp [e0,e1,e2,h0,h1,h2]
theorem LB (n : Int) : 1 ≤ um n ∧ um n ≤ 9000 := by
  unfold um
  have key : ∀ x m : Int,0 < m → m ≤ 9000 → 1 ≤ 1 + x % m ∧ 1 + x % m ≤ 9000 := by
    intro x m h1 h2
    have := Int.emod_nonneg x (show m ≠ 0 by omega)
    have := Int.emod_lt_of_pos x h1
    omega
  split
  · exact key _ _ (by omega) (by omega)
  · split
    · exact key _ _ (by omega) (by omega)
    · split
      · exact key _ _ (by omega) (by omega)
      · exact key _ _ (by omega) (by omega)
def dF (k : Int) : List Nat :=
  if k = 1 then [83,80,84,72,67,65] else if k = 2 then [83,80,72,67,65] else if k = 3 then [83,80,72,67,65] else if k = 4 then [83,80,84] else
  if k = 5 then [83,80] else if k = 6 then [83,80,67,65] else if k = 7 then [83,80] else if k = 8 then [83,80] else if k = 9 then [83,80] else
  if k = 10 then [83,80,82] else if k = 11 then [80] else if k = 12 then [80] else if k = 13 then [80] else if k = 14 then [80,82] else []
theorem kinds {k : Int} (h1 : 1 ≤ k) (h2 : k ≤ 14) : k = 1 ∨ k = 2 ∨ k = 3 ∨ k = 4 ∨ k = 5 ∨ k = 6 ∨ k = 7 ∨ k = 8 ∨ k = 9 ∨ k = 10 ∨ k = 11 ∨ k = 12 ∨ k = 13 ∨ k = 14 := by omega
theorem so {k : Int} (h : ¬ (1 ≤ k ∧ k ≤ 14)) : dF k = [] := by
  unfold dF
  have e : ∀ n : Int,1 ≤ n → n ≤ 14 → k ≠ n := fun n a b c => h (by omega)
  rw [if_neg (e 1 (by omega) (by omega)),if_neg (e 2 (by omega) (by omega)),if_neg (e 3 (by omega) (by omega)),if_neg (e 4 (by omega) (by omega)),if_neg (e 5 (by omega) (by omega)),if_neg (e 6 (by omega) (by omega)),if_neg (e 7 (by omega) (by omega)),
    if_neg (e 8 (by omega) (by omega)),if_neg (e 9 (by omega) (by omega)),if_neg (e 10 (by omega) (by omega)),if_neg (e 11 (by omega) (by omega)),if_neg (e 12 (by omega) (by omega)),if_neg (e 13 (by omega) (by omega)),if_neg (e 14 (by omega) (by omega))]
theorem Fp (k : Int) : mP k = some (aA (dF k)) := by
  show tC k = _
  by_cases h : 1 ≤ k ∧ k ≤ 14
  · obtain rfl | rfl | rfl | rfl | rfl | rfl | rfl | rfl | rfl | rfl | rfl | rfl | rfl | rfl := kinds h.1 h.2 <;> rfl
  · rw [so h]
    have e : ∀ n : Int,1 ≤ n → n ≤ 14 → (k == n) = false := fun n a b => by
      have : k ≠ n := fun c => h (by omega)
      simpa using this
    unfold tC
    simp only [e 1 (by omega) (by omega),e 2 (by omega) (by omega),e 3 (by omega) (by omega),e 4 (by omega) (by omega),e 5 (by omega) (by omega),e 6 (by omega) (by omega),e 7 (by omega) (by omega),e 8 (by omega) (by omega),e 9 (by omega) (by omega),e 10 (by omega) (by omega),e 11 (by omega) (by omega),e 12 (by omega) (by omega),e 13 (by omega) (by omega),e 14 (by omega) (by omega),cond_false]
    rfl
theorem rg (k : Int) : eJ k = some (aA (dF k)) := by
  show ra k = _
  unfold ra
  by_cases h : 1 ≤ k ∧ k ≤ 14
  · have h1 : decide (k < 1) = false := by simpa using h.1
    have h2 : decide (15 ≤ k) = false := by simp; omega
    rw [h1,h2,cond_false,cond_false,an (by omega)]
    obtain rfl | rfl | rfl | rfl | rfl | rfl | rfl | rfl | rfl | rfl | rfl | rfl | rfl | rfl := kinds h.1 h.2 <;> rfl
  · rw [so h]
    have : (bif decide (k < 1) then true else decide (15 ≤ k)) = true := by
      rw [lm,Bool.or_eq_true,decide_eq_true_iff,decide_eq_true_iff]; omega
    rw [this]; rfl
def eM (k : Int) (c : Nat) : Bool := (dF k).contains c
theorem vm (k : Int) : ∀ c ∈ dF k,c < 256 := by
  by_cases h : 1 ≤ k ∧ k ≤ 14
  · obtain rfl | rfl | rfl | rfl | rfl | rfl | rfl | rfl | rfl | rfl | rfl | rfl | rfl | rfl := kinds h.1 h.2 <;> decide
  · rw [so h]; intro c hc; simp at hc
theorem uX (l : List Nat) : (aA l).toList = l.map UInt8.ofNat := by
  rw [ByteArray.toList_eq]
  rfl
theorem kt (l : List Nat) : (aA l).size = l.length := by
  show ((l.map UInt8.ofNat).toArray).size = l.length
  simp
theorem ahM (s : ByteArray) (i : Nat) (h : i < s.size) : s[i]! = s.data.toList[i]'(by simpa using h) := by
  rw [getElem!_pos s i h]
  rfl
theorem IP (s : ByteArray) (b : UInt8) : 0 ≤ firstIdx s b ↔ b ∈ s.data.toList := by
  unfold firstIdx
  constructor
  · intro h
    split at h
    · next i hi =>
      have h1 := List.find?_some hi
      have h2 := List.mem_range.1 (List.mem_of_find?_eq_some hi)
      rw [ahM s i h2] at h1
      have h3 : s.data.toList[i]'(by simpa using h2) = b := by simpa using h1
      rw [← h3]
      exact List.getElem_mem _
    · simp at h
  · intro h
    obtain ⟨i,hi,e⟩ := List.getElem_of_mem h
    have h2 : i < s.size := by simpa using hi
    split
    · exact Int.natCast_nonneg _
    · next hn =>
      have := List.find?_eq_none.1 hn i (List.mem_range.2 h2)
      rw [ahM s i h2,e] at this
      simp at this
theorem SP {l : List Nat} (hl : ∀ c ∈ l,c < 256) {c : Nat} (hc : c < 256) : UInt8.ofNat c ∈ (aA l).data.toList ↔ c ∈ l := by
  show UInt8.ofNat c ∈ l.map UInt8.ofNat ↔ _
  constructor
  · intro h
    obtain ⟨d,hd,e⟩ := List.mem_map.1 h
    have h1 := congrArg UInt8.toNat e
    have h2 : (UInt8.ofNat d).toNat = d := by simp [Nat.mod_eq_of_lt (hl d hd)]
    have h3 : (UInt8.ofNat c).toNat = c := by simp [Nat.mod_eq_of_lt hc]
    rw [h2,h3] at h1
    subst h1; exact hd
  · exact fun h => List.mem_map_of_mem h
theorem nY (k : Int) (c : Nat) (hc : c < 256) : br (aA [c]) (aA (dF k)) = some (eM k c) := by
  show oF _ _ = _
  unfold oF mS ol nD rC ib ja fe gZ gw
  have h1 : (aA [c]).size = 1 := rfl
  have h2 : ((((aA [c]).data.getD 0 0).toNat : Int)).toNat.toUInt8 = UInt8.ofNat c := by
    show (((UInt8.ofNat c).toNat : Int)).toNat.toUInt8 = UInt8.ofNat c
    rw [Int.toNat_natCast]
    simp [Nat.mod_eq_of_lt hc]
  rw [h1,h2]
  have hz : (((1 : Nat) : Int) == 0) = false := rfl
  have ho : (((1 : Nat) : Int) == 1) = true := rfl
  rw [hz,ho,lm,Bool.false_or]
  unfold eM
  have hcon : (dF k).contains c = decide (c ∈ dF k) := by simp
  rw [hcon]
  cases he : ((aA [c]).toList == (aA (dF k)).toList) with
  | true =>
    have e : [UInt8.ofNat c] = (dF k).map UInt8.ofNat := by
      have : (aA [c]).toList = (aA (dF k)).toList := by simpa using he
      rwa [uX,uX] at this
    have hm : c ∈ dF k := (SP (vm k) hc).1 (by show _ ∈ (dF k).map UInt8.ofNat; rw [← e]; simp)
    simp [hm]
  | false =>
    simp only [cond_false,cond_true]
    rw [an (by decide)]
    simp only [Option.bind_some,Option.some.injEq]
    rw [decide_eq_decide,IP,SP (vm k) hc]
def jL (x l h : Int) : Bool := decide (l ≤ x) && decide (x ≤ h)
theorem zW (x l h : Int) : bV x l h = some (jL x l h) := by
  show pr x l h = _
  unfold pr jL
  rw [iN]
def dI (u : Bool) (x l h : Int) : Bool := if u then jL x l h else x == 0
theorem LY (u : Bool) (x l h : Int) : cu u x l h = some (dI u x l h) := by
  show rb u x l h = _
  unfold rb dI
  rw [zW]
  rw [an (by intro _; rfl)]
  cases u <;> simp
def C3 (s : ac) : Bool := decide (0 ≤ s.From) && decide (s.From < s.To) && decide (s.To ≤ 73049)
theorem Gm (s : ac) : kH s = some (C3 s) := by
  show l3 s = _
  unfold l3 C3
  rw [iN,iN]
def CW (f : aa) : Bool := if f.Kind = 4 then f.State != f.Seat else if f.Kind = 11 ∨ f.Kind = 12 then f.Span.To == f.Span.From + 1 else if f.Kind = 10 ∨ f.Kind = 14 then f.Ref != f.Person else true
def bN (f : aa) : Bool :=
  !(dF f.Kind).isEmpty && jL f.Issuer 0 5 && jL f.Number 1 999 && jL f.Version 1 99 && jL f.Person 1 99 &&
  dI (eM f.Kind 83) f.State 0 5 && dI (eM f.Kind 84) f.Seat 0 5 && C3 f.Span &&
  dI (eM f.Kind 72) f.Share 1 100 && dI (eM f.Kind 67) f.Currency 1 999 && dI (eM f.Kind 65) f.Amount 0 1000000000 && dI (eM f.Kind 82) f.Ref 1 99 && CW f
theorem zH {x l h : Int} : jL x l h = true ↔ l ≤ x ∧ x ≤ h := by
  unfold jL
  simp only [Bool.and_eq_true,decide_eq_true_eq]
theorem Lq {s : ac} : C3 s = true ↔ 0 ≤ s.From ∧ s.From < s.To ∧ s.To ≤ 73049 := by
  unfold C3
  simp only [Bool.and_eq_true,decide_eq_true_eq,and_assoc]
theorem iJ (f : aa) : bN f = true ↔ (dF f.Kind).isEmpty = false ∧ (0 ≤ f.Issuer ∧ f.Issuer ≤ 5) ∧ (1 ≤ f.Number ∧ f.Number ≤ 999) ∧ (1 ≤ f.Version ∧ f.Version ≤ 99) ∧ (1 ≤ f.Person ∧ f.Person ≤ 99) ∧
    dI (eM f.Kind 83) f.State 0 5 = true ∧ dI (eM f.Kind 84) f.Seat 0 5 = true ∧ (0 ≤ f.Span.From ∧ f.Span.From < f.Span.To ∧ f.Span.To ≤ 73049) ∧ dI (eM f.Kind 72) f.Share 1 100 = true ∧ dI (eM f.Kind 67) f.Currency 1 999 = true ∧
    dI (eM f.Kind 65) f.Amount 0 1000000000 = true ∧ dI (eM f.Kind 82) f.Ref 1 99 = true ∧ CW f = true := by
  unfold bN
  simp only [Bool.and_eq_true,zH,Lq,Bool.not_eq_true',and_assoc]
theorem Mz (k : Int) : ((aA (dF k)).toList == (aA []).toList) = (dF k).isEmpty := by
  rw [uX,uX]
  cases dF k <;> rfl
theorem NM (f : aa) (h : C3 f.Span = true) : ro f = some (CW f) := by
  have hs := Lq.1 h
  unfold ro CW ln
  rw [bG (by omega) (by omega)]
  by_cases k4 : f.Kind = 4
  · simp [k4]
  by_cases k11 : f.Kind = 11
  · simp [k11]
  by_cases k12 : f.Kind = 12
  · simp [k12]
  by_cases k10 : f.Kind = 10
  · simp [k10]
  by_cases k14 : f.Kind = 14
  · simp [k14]
  have e : ∀ n : Int,f.Kind ≠ n → (f.Kind == n) = false := fun n h => by simpa using h
  simp [e 4 k4,e 11 k11,e 12 k12,e 10 k10,e 14 k14,k4,k11,k12,k10,k14]
theorem nO (f : aa) : dJ f = some (bN f) := by
  show qV f = _
  unfold qV
  rw [Fp,Option.bind_some]
  unfold v7
  simp only [zW,nY f.Kind 83 (by decide),nY f.Kind 84 (by decide),nY f.Kind 72 (by decide),nY f.Kind 67 (by decide),nY f.Kind 65 (by decide),nY f.Kind 82 (by decide),LY,Gm,Cn,EB,implies_true,Bu,Option.bind_some,Mz,lm]
  unfold bN
  cases hA : (dF f.Kind).isEmpty <;> cases hB : jL f.Issuer 0 5 <;> cases hC : jL f.Number 1 999 <;> cases hD : jL f.Version 1 99 <;> cases hE : jL f.Person 1 99 <;> simp only [Bool.not_true,Bool.not_false,Bool.or_true,Bool.or_false,Bool.true_or,Bool.false_or,cond_true,cond_false,Bool.false_and,Bool.true_and,Bool.and_false]
  cases hF : dI (eM f.Kind 83) f.State 0 5 <;> cases hG : dI (eM f.Kind 84) f.Seat 0 5 <;> cases hH : C3 f.Span <;> simp only [Bool.not_true,Bool.not_false,Bool.or_true,Bool.or_false,Bool.true_or,Bool.false_or,cond_true,cond_false,Bool.false_and,Bool.true_and,Bool.and_false]
  rw [NM f hH]
  cases hI : dI (eM f.Kind 72) f.Share 1 100 <;> cases hJ : dI (eM f.Kind 67) f.Currency 1 999 <;> cases hK : dI (eM f.Kind 65) f.Amount 0 1000000000 <;> cases hL : dI (eM f.Kind 82) f.Ref 1 99 <;> simp only [Bool.not_true,Bool.not_false,Bool.or_true,Bool.or_false,Bool.true_or,Bool.false_or,cond_true,cond_false,Bool.false_and,Bool.true_and,Bool.and_false]
theorem BV (l : List Nat) (i : Nat) (h : i < l.length) : (aA l).data.getD i 0 = UInt8.ofNat l[i] := by
  show ((l.map UInt8.ofNat).toArray).getD i 0 = _
  rw [Array.getD_eq_getD_getElem?]
  simp [h]
theorem Ih (c : Nat) (hc : c < 256) (l : List Nat) (hl : ∀ c ∈ l,c < 256) (hn : l.length < 1000) : ∀ (n i : Nat),l.length = i + n →
    aN (rm (c : Int) (aA l)) (i : Int) = some (if c ∈ l.drop i then .inl () else .inr ()) := by
  intro n
  induction n with
  | zero =>
    intro i hi
    rw [aV]
    show (lp (c : Int) (aA l) (i : Int)).bind _ = _
    unfold lp
    rw [kt]
    have : decide ((i : Int) < (l.length : Int)) = false := by simp; omega
    rw [this,List.drop_of_length_le (by omega)]
    simp
  | succ n ih =>
    intro i hi
    have hlt : i < l.length := by omega
    rw [aV]
    show (lp (c : Int) (aA l) (i : Int)).bind _ = _
    unfold lp
    rw [kt]
    have : decide ((i : Int) < (l.length : Int)) = true := by simp; omega
    rw [this,an (by omega),Int.toNat_natCast,BV l i hlt]
    have hv : ((UInt8.ofNat l[i]).toNat : Int) = (l[i] : Int) := by
      have := hl _ (List.getElem_mem hlt)
      simp [Nat.mod_eq_of_lt this]
    rw [hv,List.drop_eq_getElem_cons hlt]
    simp only [cond_true]
    by_cases e : l[i] = c
    · have : ((l[i] : Int) == (c : Int)) = true := by simp [e]
      rw [this]
      simp [e]
    · have : ((l[i] : Int) == (c : Int)) = false := by simp; omega
      rw [this,bG (by omega) (by omega)]
      simp only [cond_false,Option.bind_some]
      have := ih (i + 1) (by omega)
      rw [show ((i + 1 : Nat) : Int) = (i : Int) + 1 by omega] at this
      rw [this]
      have hne : ¬ c = l[i] := fun h => e h.symm
      have hiff : (c ∈ l[i] :: l.drop (i + 1)) ↔ c ∈ l.drop (i + 1) := by rw [List.mem_cons]; exact or_iff_right hne
      by_cases hm : c ∈ l.drop (i + 1)
      · rw [if_pos hm,if_pos (hiff.2 hm)]
      · rw [if_neg hm,if_neg (fun h => hm (hiff.1 h))]
theorem sJ (k : Int) : (dF k).length ≤ 6 := by
  by_cases h : 1 ≤ k ∧ k ≤ 14
  · obtain rfl | rfl | rfl | rfl | rfl | rfl | rfl | rfl | rfl | rfl | rfl | rfl | rfl | rfl := kinds h.1 h.2 <;> decide
  · rw [so h]; decide
theorem LO (k : Int) (c : Nat) (hc : c < 256) : sx k (c : Int) = some (eM k c) := by
  show qX k c = _
  unfold qX
  rw [rg,Option.bind_some]
  unfold wa
  have hn := sJ k
  have := Ih c hc (dF k) (vm k) (by omega) (dF k).length 0 (by omega)
  rw [show ((0 : Nat) : Int) = 0 from rfl] at this
  rw [this]
  unfold eM
  by_cases h : c ∈ dF k
  · simp [h,oz]
  · simp [h,oz,wh]
theorem kD (k : Int) (c : Nat) (hc : c < 256) (n l m : Int) : bw k (c : Int) n l m = some (dI (eM k c) n l m) := by
  show pE k c n l m = _
  unfold pE
  rw [LO k c hc,Option.bind_some]
  unfold dI jL
  cases eM k c
  · rfl
  · simp only [cond_true,iN,if_true]
theorem rf (k n l m : Int) : (bw k 83 n l m = some (dI (eM k 83) n l m)) ∧ (bw k 84 n l m = some (dI (eM k 84) n l m)) ∧ (bw k 72 n l m = some (dI (eM k 72) n l m)) ∧
    (bw k 67 n l m = some (dI (eM k 67) n l m)) ∧ (bw k 65 n l m = some (dI (eM k 65) n l m)) ∧ (bw k 82 n l m = some (dI (eM k 82) n l m)) :=
  ⟨kD k 83 (by decide) n l m,kD k 84 (by decide) n l m,kD k 72 (by decide) n l m,kD k 67 (by decide) n l m,kD k 65 (by decide) n l m,kD k 82 (by decide) n l m⟩
theorem Hl {f : aa} (h : bN f = true → False) : some false = some (bN f) := by
  cases hv : bN f with
  | false => rfl
  | true => exact (h hv).elim
theorem l9 (f : aa) : dm f = some (bN f) := by
  show pq f = _
  unfold pq
  rw [rg]
  rw [an (by intro _; rfl)]
  simp only [Cn,Mz,lm,iN]
  cases h1 : (decide (f.Issuer < 0) || decide (6 ≤ f.Issuer) || decide (f.Number < 1) || decide (999 < f.Number) || decide (f.Version < 1) || decide (99 < f.Version) || decide (f.Person < 1) || decide (99 < f.Person) || (dF f.Kind).isEmpty) with
  | true =>
    rw [cond_true]
    refine Hl fun hv => ?_
    obtain ⟨g0,g1,g2,g3,g4,_⟩ := (iJ f).1 hv
    simp only [Bool.or_eq_true,decide_eq_true_eq,g0,Bool.false_eq_true,or_false] at h1
    omega
  | false =>
    rw [cond_false]
    cases h2 : (decide (f.Span.From < 0) || decide (f.Span.To ≤ f.Span.From) || decide (73049 < f.Span.To)) with
    | true =>
      rw [cond_true]
      refine Hl fun hv => ?_
      obtain ⟨g0,g1,g2,g3,g4,_,_,g5,_⟩ := (iJ f).1 hv
      simp only [Bool.or_eq_true,decide_eq_true_eq] at h2
      omega
    | false =>
      rw [cond_false]
      unfold up
      simp only [Bool.or_eq_false_iff,decide_eq_false_iff_not] at h1 h2
      rw [bG (by omega) (by omega)]
      simp only [lm,iN]
      cases h3 : ((f.Kind == 11 || f.Kind == 12) && f.Span.To - f.Span.From != 1 || f.Kind == 4 && f.Seat == f.State || (f.Kind == 10 || f.Kind == 14) && f.Ref == f.Person) with
      | true =>
        rw [cond_true]
        refine Hl fun hv => ?_
        obtain ⟨_,g1,g2,g3,g4,_,_,g5,_,_,_,_,g6⟩ := (iJ f).1 hv
        unfold CW at g6
        simp only [Bool.or_eq_true,Bool.and_eq_true,beq_iff_eq,bne_iff_ne,ne_eq] at h3
        split at g6
        · simp only [bne_iff_ne,ne_eq] at g6; omega
        · split at g6
          · simp only [beq_iff_eq] at g6; omega
          · split at g6
            · simp only [bne_iff_ne,ne_eq] at g6; omega
            · omega
      | false =>
        rw [cond_false]
        have hf := fun n l m => rf f.Kind n l m
        simp only [(hf _ _ _).1,(hf _ _ _).2.1,(hf _ _ _).2.2.1,(hf _ _ _).2.2.2.1,(hf _ _ _).2.2.2.2.1,(hf _ _ _).2.2.2.2.2,Cn,EB,implies_true,Bu,Option.bind_some,Option.some.injEq]
        have hkind : CW f = true := by
          simp only [Bool.or_eq_false_iff,Bool.and_eq_false_iff,beq_eq_false_iff_ne,bne_eq_false_iff_eq,ne_eq] at h3
          unfold CW
          split
          · simp only [bne_iff_ne,ne_eq]; omega
          · split
            · simp only [beq_iff_eq]; omega
            · split
              · simp only [bne_iff_ne,ne_eq]; omega
              · rfl
        rw [Bool.eq_iff_iff,iJ]
        constructor
        · intro hx
          simp only [Bool.and_eq_true] at hx
          exact ⟨h1.2,by omega,by omega,by omega,by omega,hx.1.1.1.1.1,hx.1.1.1.1.2,by omega,hx.1.1.1.2,hx.1.1.2,hx.1.2,hx.2,hkind⟩
        · rintro ⟨_,_,_,_,_,a1,a2,_,a3,a4,a5,a6,_⟩
          simp only [Bool.and_eq_true]
          exact ⟨⟨⟨⟨⟨a1,a2⟩,a3⟩,a4⟩,a5⟩,a6⟩
theorem NG {f : aa} (h : bN f = true) : 0 ≤ f.Amount ∧ f.Amount ≤ 1000000000 ∧ 0 ≤ f.Span.From ∧ f.Span.From < f.Span.To ∧ f.Span.To ≤ 73049 := by
  obtain ⟨_,_,_,_,_,_,_,g5,_,_,ga,_⟩ := (iJ f).1 h
  unfold dI at ga
  split at ga
  · have := zH.1 ga; omega
  · have : f.Amount = 0 := by simpa using ga
    omega
end
section
open Go.Proofs
theorem ZZ (n : Int) : IntKind.u8.wrap n = n % 256 := IntKind.wrap_u8 n
def qP (x : Int) (k : Nat) : Int := x / 256 ^ k % 256
def bE (x : Int) : Nat → List Int
  | 0 => []
  | k + 1 => qP x k :: bE x k
theorem cJ (x : Int) : ∀ k,(bE x k).length = k
  | 0 => rfl
  | k + 1 => by simp [bE,cJ x k]
theorem MJ (x : Int) (k : Nat) (hk : k ≤ 7) : IntKind.u8.wrap (Int.fdiv x (2 ^ min (Int.toNat (ak ((8 : Int) * (k : Int)))) 64)) = qP x k := by
  rw [ZZ]
  have : k = 0 ∨ k = 1 ∨ k = 2 ∨ k = 3 ∨ k = 4 ∨ k = 5 ∨ k = 6 ∨ k = 7 := by omega
  obtain rfl | rfl | rfl | rfl | rfl | rfl | rfl | rfl := this
  all_goals
    unfold qP
    rw [Int.fdiv_eq_ediv_of_nonneg _ (by decide)]
    rfl
theorem SO (x : Int) (k : Nat) (hk : k ≤ 7) : IntKind.u8.wrap (Int.fdiv x (2 ^ min (Int.toNat (IntKind.u64.wrap (ak ((8 : Int) * (k : Int))))) 64)) = qP x k := by
  have e : IntKind.u64.wrap (ak ((8 : Int) * (k : Int))) = ak ((8 : Int) * (k : Int)) := by
    rw [IntKind.wrap_u64,bG (by omega) (by omega)]; omega
  rw [e]
  exact MJ x k hk
theorem BT (k : Nat) (hk : k ≤ 100) : ak ((k : Int) - 1) = (k : Int) - 1 := bG (by omega) (by omega)
def E3 (size : Nat) : List Int → List Int
  | [] => []
  | x :: r => bE x size ++ E3 size r
theorem tH (b9 : List Int) (size x i1 : Int) (numbers : List Int) (t3 t : Int) : ∀ (k : Nat) (b : List Int),k ≤ 8 → b.length + k ≤ 1000000 →
    aN (jH b9 size x i1 numbers t3) (b,((k : Int) - 1,t)) = some (b ++ bE x k,t)
  | 0,b,_,_ => by
    rw [aV]
    show (fD b size x ((0 : Nat) - 1 : Int) numbers t).bind _ = _
    unfold fD
    simp [bE]
  | k + 1,b,hk,hb => by
    rw [aV]
    show (fD b size x (((k + 1 : Nat) : Int) - 1) numbers t).bind _ = _
    have e : (((k + 1 : Nat) : Int) - 1) = (k : Int) := by omega
    rw [e]
    unfold fD
    have d : decide ((0 : Int) ≤ (k : Int)) = true := by simp
    have g : (0 : Int) ≤ ak (8 * (k : Int)) := by rw [bG (by omega) (by omega)]; omega
    rw [d,cond_true,an g,an (xn (by omega) (by omega)),MJ x k (by omega),BT k (by omega),Option.bind_some]
    simp only
    rw [tH b9 size x i1 numbers t3 t k (b ++ [qP x k]) (by omega) (by simp; omega),bE]
    simp
theorem ip (b : List Int) (size : Nat) (l : List Int) (h1 : size ≤ 8) (h2 : l.length ≤ 1000) (h3 : b.length ≤ 1000) : aO b size l = some (b ++ E3 size l) := by
  show (aN (ir b size l) (b,(0 : Int))).bind (li b size l) = _
  have key : ∀ (n i : Nat) (b' : List Int),l.length = i + n → b'.length ≤ 1000 + i * 8 → aN (ir b size l) (b',(i : Int)) = some (b' ++ E3 size (l.drop i)) := by
    intro n
    induction n with
    | zero =>
      intro i b' h hb
      have : i = l.length := by omega
      subst this
      rw [aV]
      show (fz b' size l (l.length : Int)).bind _ = _
      unfold fz
      rw [bH,cond_false,List.drop_length]
      simp [E3]
    | succ n ih =>
      intro i b' h hb
      have hi : i < l.length := by omega
      rw [aV]
      show (fz b' size l (i : Int)).bind _ = _
      unfold fz mr mh mI
      rw [cG hi,cond_true,an (bI hi),cM l 0 i hi]
      have hw : ak ((size : Int) - 1) = (size : Int) - 1 := BT size (by omega)
      rw [hw,tH _ _ _ _ _ _ _ size b' h1 (by omega)]
      simp only [Option.bind_some]
      show (jG (b' ++ bE l[i] size) size l (i : Int)).bind _ = _
      unfold jG
      rw [ca (by omega),Option.bind_some]
      simp only
      rw [ih (i + 1) _ (by omega) (by simp [cJ]; omega),List.drop_eq_getElem_cons hi,E3,List.append_assoc]
  have := key l.length 0 b (by omega) (by omega)
  rw [show ((0 : Nat) : Int) = 0 from rfl] at this
  rw [this]
  rfl
theorem NO (b0 : List Int) (x i1 : Int) : ∀ (k : Nat) (b : List Int),k ≤ 8 → b.length + k ≤ 1000000 → aN (o8 b0 x i1) (b,((k : Int) - 1)) = some (b ++ bE x k)
  | 0,b,_,_ => by
    rw [aV]
    show (mj b x ((0 : Nat) - 1 : Int)).bind _ = _
    unfold mj
    simp [bE]
  | k + 1,b,hk,hb => by
    rw [aV]
    show (mj b x (((k + 1 : Nat) : Int) - 1)).bind _ = _
    have e : (((k + 1 : Nat) : Int) - 1) = (k : Int) := by omega
    rw [e]
    unfold mj
    have d : decide ((0 : Int) ≤ (k : Int)) = true := by simp
    have g : (0 : Int) ≤ IntKind.u64.wrap (ak (8 * (k : Int))) := by rw [IntKind.wrap_u64,bG (by omega) (by omega)]; omega
    rw [d,cond_true,an g,an (xn (by omega) (by omega)),SO x k (by omega),BT k (by omega),Option.bind_some]
    simp only
    rw [NO b0 x i1 k (b ++ [qP x k]) (by omega) (by simp; omega),bE]
    simp
theorem kN (b : List Int) (x : Int) (size : Nat) (h1 : size ≤ 8) (h3 : b.length ≤ 1000) : bc b x size = some (b ++ bE x size) := by
  show (aN (o8 b x (ak ((size : Int) - 1))) (b,ak ((size : Int) - 1))).bind _ = _
  rw [BT size (by omega),NO b x _ size b h1 (by omega)]
  rfl
def fy (f : aa) (c : Nat) : List Int :=
  if c = 83 then bE f.State 1 else if c = 80 then bE f.Span.From 3 ++ bE f.Span.To 3 else if c = 84 then bE f.Seat 1 else if c = 72 then bE f.Share 1 else if c = 67 then bE f.Currency 2 else if c = 65 then bE f.Amount 4 else if c = 82 then bE f.Ref 1 else []
def vd (f : aa) : List Int := bE f.Issuer 1 ++ bE f.Number 2 ++ bE f.Version 1 ++ bE (if f.Withdrawn then 1 else 0) 1 ++ bE f.Person 1 ++ bE f.Kind 1
def fb (f : aa) : List Int := if bN f then vd f ++ (dF f.Kind).flatMap (fy f) else []
theorem A5 (f : aa) (c : Nat) : (fy f c).length ≤ 6 := by
  unfold fy
  repeat' split
  all_goals simp [cJ]
theorem RC (l : List Nat) (hl : ∀ c ∈ l,c < 128) (i : Nat) (hi : i < l.length) : lI (aA l) i = (l[i] : Int) ∧ lX (aA l) i = 1 := by
  have hsz : i < (aA l).size := by rw [kt]; exact hi
  have hg : (aA l)[i]'hsz = UInt8.ofNat l[i] := by
    show (aA l).data[i]'hsz = _
    simp [aA]
  have hc := hl _ (List.getElem_mem hi)
  have hn : ((aA l)[i]'hsz).toNat = l[i] := by rw [hg]; simp [Nat.mod_eq_of_lt (show l[i] < 256 by omega)]
  have := decode_ascii (aA l) i hsz (by rw [hn]; exact hc)
  unfold lI lX
  rw [this,hn]
  exact ⟨rfl,rfl⟩
theorem GF (k : Int) : ∀ c ∈ dF k,c < 128 := by
  by_cases h : 1 ≤ k ∧ k ≤ 14
  · obtain rfl | rfl | rfl | rfl | rfl | rfl | rfl | rfl | rfl | rfl | rfl | rfl | rfl | rfl := kinds h.1 h.2 <;> decide
  · rw [so h]; simp
theorem jE (c n : Nat) : ((c : Int) == (n : Int)) = decide (c = n) := by
  by_cases h : c = n
  · subst h; simp
  · have h2 : ((c : Int) == (n : Int)) = false := by simp; omega
    rw [h2]; simp [h]
end
section
open Go.Proofs
theorem H8 (f : aa) (l : List Nat) (hl : ∀ c ∈ l,c < 128) (hn : l.length ≤ 50) (i : Nat) (hi : i < l.length) (b : List Int) (hb : b.length ≤ 8 + i * 6) :
    jX b f (aA l) i = some (.inl (b ++ fy f l[i],i + 1)) := by
  obtain ⟨r1,r2⟩ := RC l hl i hi
  unfold jX
  have hlt : Nat.blt i (aA l).size = true := by rw [kt]; simpa using hi
  rw [hlt,cond_true,an rfl,r1,r2]
  have k83 := jE l[i] 83; have k80 := jE l[i] 80; have k84 := jE l[i] 84; have k72 := jE l[i] 72; have k67 := jE l[i] 67; have k65 := jE l[i] 65; have k82 := jE l[i] 82
  simp only [Int.cast_ofNat_Int] at k83 k80 k84 k72 k67 k65 k82
  rw [k83,k80,k84,k72,k67,k65,k82]
  have a1 := fun x => ip b 1 [x] (by omega) (by simp) (by omega)
  have a2 := fun x => ip b 2 [x] (by omega) (by simp) (by omega)
  have a4 := fun x => ip b 4 [x] (by omega) (by simp) (by omega)
  have a3 := fun x y => ip b 3 [x,y] (by omega) (by simp) (by omega)
  simp only [Int.cast_ofNat_Int] at a1 a2 a3 a4
  have a1' : ∀ x,aO b 1 [x] = some (b ++ E3 1 [x]) := a1
  rw [a1',a1',a1',a1',a2,a3,a4]
  simp only [Option.bind_some,cond_true,E3,List.append_nil]
  unfold fy
  generalize l[i] = c
  by_cases h1 : c = 83
  · simp [h1]
  by_cases h2 : c = 80
  · simp [h2]
  by_cases h3 : c = 84
  · simp [h3]
  by_cases h4 : c = 72
  · simp [h4]
  by_cases h5 : c = 67
  · simp [h5]
  by_cases h6 : c = 65
  · simp [h6]
  by_cases h7 : c = 82
  · simp [h7]
  · simp [h1,h2,h3,h4,h5,h6,h7]
theorem y1 (f : aa) (l : List Nat) (hl : ∀ c ∈ l,c < 128) (hn : l.length ≤ 50) (b0 : List Int) : ∀ (n i : Nat) (b : List Int),l.length = i + n → b.length ≤ 8 + i * 6 →
    aN (rn b0 f (aA l)) (b,i) = some (b ++ (l.drop i).flatMap (fy f))
  | 0,i,b,h,hb => by
    have : i = l.length := by omega
    subst this
    rw [aV]
    show (jX b f (aA l) l.length).bind _ = _
    unfold jX
    have hlt : Nat.blt l.length (aA l).size = false := by
      rw [kt]
      cases hc : Nat.blt l.length l.length with
      | false => rfl
      | true => rw [Nat.blt_eq] at hc; omega
    rw [hlt,cond_false,List.drop_length]
    simp
  | n + 1,i,b,h,hb => by
    have hi : i < l.length := by omega
    rw [aV]
    show (jX b f (aA l) i).bind _ = _
    rw [H8 f l hl hn i hi b hb,Option.bind_some]
    simp only
    have := A5 f l[i]
    rw [y1 f l hl hn b0 n (i + 1) _ (by omega) (by simp; omega),List.drop_eq_getElem_cons hi,List.flatMap_cons,List.append_assoc]
theorem DL (f : aa) : fc f = some (fb f) := by
  show qR f = _
  unfold qR
  rw [nO,Option.bind_some]
  unfold fb
  cases hv : bN f with
  | false => rfl
  | true =>
    simp only [Bool.not_true,cond_false,if_true]
    have core : ∀ w : Int,nJ w f = some (bE f.Issuer 1 ++ bE f.Number 2 ++ bE f.Version 1 ++ bE w 1 ++ bE f.Person 1 ++ bE f.Kind 1 ++ (dF f.Kind).flatMap (fy f)) := by
      intro w
      unfold nJ
      have e1 := ip [] 1 [f.Issuer] (by omega) (by simp) (by simp)
      have e2 := ip (bE f.Issuer 1) 2 [f.Number] (by omega) (by simp) (by simp [cJ])
      have e3 := ip (bE f.Issuer 1 ++ bE f.Number 2) 1 [f.Version,w,f.Person,f.Kind] (by omega) (by simp) (by simp [cJ])
      simp only [E3,List.append_nil,List.nil_append] at e1 e2 e3
      have e1' : aO [] 1 [f.Issuer] = some (bE f.Issuer 1) := e1
      have e2' : aO (bE f.Issuer 1) 2 [f.Number] = some (bE f.Issuer 1 ++ bE f.Number 2) := e2
      have e3' : aO (bE f.Issuer 1 ++ bE f.Number 2) 1 [f.Version,w,f.Person,f.Kind] = some (bE f.Issuer 1 ++ bE f.Number 2 ++ (bE f.Version 1 ++ (bE w 1 ++ (bE f.Person 1 ++ bE f.Kind 1)))) := e3
      rw [e1',Option.bind_some,e2',Option.bind_some,e3',Option.bind_some,Fp,Option.bind_some]
      show (aN _ _).bind _ = _
      have hn := sJ f.Kind
      rw [y1 f (dF f.Kind) (GF _) (by omega) _ (dF f.Kind).length 0 _ (by omega) (by simp [cJ])]
      simp [tg,vZ]
    unfold vd
    cases f.Withdrawn with
    | true => simp only [cond_true,if_true]; exact core 1
    | false => simp only [cond_false]; exact core 0
theorem Ho (f : aa) (l : List Nat) (hl : ∀ c ∈ l,c < 128) (hn : l.length ≤ 50) (i : Nat) (hi : i < l.length) (b : List Int) (hb : b.length ≤ 8 + i * 6) :
    jr b (aA l) (i : Int) f = some (.inl (b ++ fy f l[i],((i + 1 : Nat) : Int))) := by
  unfold jr
  rw [kt,cG hi,cond_true,an (bI hi),Int.toNat_natCast,BV l i hi]
  have hv : ((UInt8.ofNat l[i]).toNat : Int) = (l[i] : Int) := by
    have := hl _ (List.getElem_mem hi)
    simp [Nat.mod_eq_of_lt (show l[i] < 256 by omega)]
  rw [hv]
  have k83 := jE l[i] 83; have k80 := jE l[i] 80; have k84 := jE l[i] 84; have k72 := jE l[i] 72; have k67 := jE l[i] 67; have k65 := jE l[i] 65; have k82 := jE l[i] 82
  simp only [Int.cast_ofNat_Int] at k83 k80 k84 k72 k67 k65 k82
  rw [k83,k80,k84,k72,k67,k65,k82]
  have a1 : ∀ x,bc b x 1 = some (b ++ bE x 1) := fun x => kN b x 1 (by omega) (by omega)
  have a2 : ∀ x,bc b x 2 = some (b ++ bE x 2) := fun x => kN b x 2 (by omega) (by omega)
  have a3 : ∀ x,bc b x 3 = some (b ++ bE x 3) := fun x => kN b x 3 (by omega) (by omega)
  have a3' : ∀ x y,bc (b ++ bE x 3) y 3 = some (b ++ bE x 3 ++ bE y 3) := fun x y => kN _ y 3 (by omega) (by simp [cJ]; omega)
  have a4 : ∀ x,bc b x 4 = some (b ++ bE x 4) := fun x => kN b x 4 (by omega) (by omega)
  simp only [a1,a2,a3,a3',a4,Option.bind_some,eP]
  rw [ca (by omega)]
  unfold fy
  generalize l[i] = c
  by_cases h1 : c = 83
  · simp [h1]
  by_cases h2 : c = 80
  · simp [h2]
  by_cases h3 : c = 84
  · simp [h3]
  by_cases h4 : c = 72
  · simp [h4]
  by_cases h5 : c = 67
  · simp [h5]
  by_cases h6 : c = 65
  · simp [h6]
  by_cases h7 : c = 82
  · simp [h7]
  · simp [h1,h2,h3,h4,h5,h6,h7]
theorem xZ (f : aa) (l : List Nat) (hl : ∀ c ∈ l,c < 128) (hn : l.length ≤ 50) (b0 : List Int) : ∀ (n i : Nat) (b : List Int),l.length = i + n → b.length ≤ 8 + i * 6 →
    aN (pg b0 (aA l) f) (b,(i : Int)) = some (b ++ (l.drop i).flatMap (fy f))
  | 0,i,b,h,hb => by
    have : i = l.length := by omega
    subst this
    rw [aV]
    show (jr b (aA l) (l.length : Int) f).bind _ = _
    unfold jr
    rw [kt,bH,cond_false,List.drop_length]
    simp
  | n + 1,i,b,h,hb => by
    have hi : i < l.length := by omega
    rw [aV]
    show (jr b (aA l) (i : Int) f).bind _ = _
    rw [Ho f l hl hn i hi b hb,Option.bind_some]
    simp only
    have := A5 f l[i]
    rw [xZ f l hl hn b0 n (i + 1) _ (by omega) (by simp; omega),List.drop_eq_getElem_cons hi,List.flatMap_cons,List.append_assoc]
theorem BD (f : aa) : dR f = some (fb f) := by
  show pe f = _
  unfold pe
  rw [l9,Option.bind_some]
  unfold fb
  cases hv : bN f with
  | false => rfl
  | true =>
    simp only [Bool.not_true,cond_false,if_true]
    have core : ∀ w : Int,ma w f = some (bE f.Issuer 1 ++ bE f.Number 2 ++ bE f.Version 1 ++ bE w 1 ++ bE f.Person 1 ++ bE f.Kind 1 ++ (dF f.Kind).flatMap (fy f)) := by
      intro w
      unfold ma
      have e : ∀ (b : List Int) (x : Int),b.length ≤ 10 → bc b x 1 = some (b ++ bE x 1) := fun b x h => kN b x 1 (by omega) (by omega)
      have e2 : ∀ (b : List Int) (x : Int),b.length ≤ 10 → bc b x 2 = some (b ++ bE x 2) := fun b x h => kN b x 2 (by omega) (by omega)
      rw [e [] _ (by simp),Option.bind_some,e2 _ _ (by simp [cJ]),Option.bind_some,e _ _ (by simp [cJ]),Option.bind_some,e _ _ (by simp [cJ]),Option.bind_some,e _ _ (by simp [cJ]),Option.bind_some,e _ _ (by simp [cJ]),Option.bind_some,rg,Option.bind_some]
      show (aN _ _).bind _ = _
      have hn := sJ f.Kind
      have := xZ f (dF f.Kind) (GF _) (by omega) ([] ++ bE f.Issuer 1 ++ bE f.Number 2 ++ bE f.Version 1 ++ bE w 1 ++ bE f.Person 1 ++ bE f.Kind 1) (dF f.Kind).length 0 ([] ++ bE f.Issuer 1 ++ bE f.Number 2 ++ bE f.Version 1 ++ bE w 1 ++ bE f.Person 1 ++ bE f.Kind 1) (by omega) (by simp [cJ])
      rw [show ((0 : Nat) : Int) = 0 from rfl] at this
      rw [this]
      simp [rt,uD]
    unfold vd
    cases f.Withdrawn with
    | true => simp only [cond_true,if_true]; exact core 1
    | false => simp only [cond_false]; exact core 0
def rK : List Int → List Int → Prop
  | _,[] => False
  | [],_ :: _ => True
  | x :: xs,y :: ys => x < y ∨ (x = y ∧ rK xs ys)
theorem Jg : ∀ l : List Int, ¬ rK l l
  | [] => fun h => h
  | x :: l => by
    rintro (h | ⟨_,h⟩)
    · omega
    · exact Jg l h
theorem KU : ∀ {a b c : List Int},rK a b → rK b c → rK a c
  | [],_ :: _,_ :: _,_,_ => trivial
  | _ :: _,_ :: _,_ :: _,h,h' => by
    rcases h with h | ⟨rfl,h⟩ <;> rcases h' with h' | ⟨rfl,h'⟩
    · exact .inl (by omega)
    · exact .inl h
    · exact .inl h'
    · exact .inr ⟨rfl,KU h h'⟩
  | [],_ :: _,[],_,h' => h'.elim
  | _ :: _,_ :: _,[],_,h' => h'.elim
  | [],[],_,h,_ => h.elim
  | _ :: _,[],_,h,_ => h.elim
theorem K2 : ∀ (a b : List Int),rK a b ∨ a = b ∨ rK b a
  | [],[] => .inr (.inl rfl)
  | [],_ :: _ => .inl trivial
  | _ :: _,[] => .inr (.inr trivial)
  | x :: a,y :: b => by
    rcases Int.lt_trichotomy x y with h | rfl | h
    · exact .inl (.inl h)
    · rcases K2 a b with h | rfl | h
      · exact .inl (.inr ⟨rfl,h⟩)
      · exact .inr (.inl rfl)
      · exact .inr (.inr (.inr ⟨rfl,h⟩))
    · exact .inr (.inr (.inl h))
noncomputable instance (a b : List Int) : Decidable (rK a b) := Classical.propDecidable _
def oL (l : List Int) : Prop := ∀ x ∈ l,0 ≤ x ∧ x < 256
theorem Mu {x : Int} (h : 0 ≤ x ∧ x < 256) : (UInt8.ofNat x.toNat).toNat = x.toNat := by
  simp [Nat.mod_eq_of_lt (show x.toNat < 256 by omega)]
theorem IK {x y : Int} (hx : 0 ≤ x ∧ x < 256) (hy : 0 ≤ y ∧ y < 256) : UInt8.ofNat x.toNat < UInt8.ofNat y.toNat ↔ x < y := by
  rw [UInt8.lt_iff_toNat_lt,Mu hx,Mu hy]
  omega
theorem ajK {x y : Int} (hx : 0 ≤ x ∧ x < 256) (hy : 0 ≤ y ∧ y < 256) : (UInt8.ofNat x.toNat = UInt8.ofNat y.toNat) ↔ x = y := by
  constructor
  · intro h
    have := congrArg UInt8.toNat h
    rw [Mu hx,Mu hy] at this
    omega
  · rintro rfl; rfl
theorem JA : ∀ (a b : List Int),oL a → oL b → (m8 a b < 0 ↔ rK a b)
  | [],[],_,_ => by simp [m8,Lib.compareBytes,rK]
  | [],_ :: _,_,_ => by simp [m8,Lib.compareBytes,rK]
  | _ :: _,[],_,_ => by simp [m8,Lib.compareBytes,rK]
  | x :: a,y :: b,ha,hb => by
    have hx := ha x (by simp)
    have hy := hb y (by simp)
    have ih := JA a b (fun z hz => ha z (by simp [hz])) (fun z hz => hb z (by simp [hz]))
    unfold m8 at ih ⊢
    simp only [List.map_cons,Lib.compareBytes,rK]
    by_cases h : x < y
    · rw [if_pos ((IK hx hy).2 h)]
      simp [h]
    · rw [if_neg (fun e => h ((IK hx hy).1 e))]
      by_cases h' : y < x
      · rw [if_pos ((IK hy hx).2 h')]
        constructor
        · intro e; omega
        · rintro (e | ⟨e,_⟩) <;> omega
      · rw [if_neg (fun e => h' ((IK hy hx).1 e))]
        have : x = y := by omega
        rw [ih]
        constructor
        · intro e; exact .inr ⟨this,e⟩
        · rintro (e | ⟨_,e⟩)
          · omega
          · exact e
theorem Eq : ∀ (a b : List Int),oL a → oL b → (Op.bytesLess (a.map fun x => UInt8.ofNat x.toNat) (b.map fun x => UInt8.ofNat x.toNat) = true ↔ rK a b)
  | [],[],_,_ => by simp [Op.bytesLess,rK]
  | [],_ :: _,_,_ => by simp [Op.bytesLess,rK]
  | _ :: _,[],_,_ => by simp [Op.bytesLess,rK]
  | x :: a,y :: b,ha,hb => by
    have hx := ha x (by simp)
    have hy := hb y (by simp)
    have ih := Eq a b (fun z hz => ha z (by simp [hz])) (fun z hz => hb z (by simp [hz]))
    simp only [List.map_cons,Op.bytesLess,rK,Bool.or_eq_true,Bool.and_eq_true,decide_eq_true_eq,beq_iff_eq]
    rw [IK hx hy,ajK hx hy,ih]
theorem kw (x : Int) : ∀ k,oL (bE x k)
  | 0 => fun y hy => by simp [bE] at hy
  | k + 1 => fun y hy => by
    rcases List.mem_cons.1 hy with rfl | hy
    · unfold qP
      exact ⟨Int.emod_nonneg _ (by decide),Int.emod_lt_of_pos _ (by decide)⟩
    · exact kw x k y hy
theorem nb {a b : List Int} (ha : oL a) (hb : oL b) : oL (a ++ b) := fun x hx => (List.mem_append.1 hx).elim (ha x) (hb x)
theorem Jz : oL [] := fun x hx => by simp at hx
theorem Ot (f : aa) (c : Nat) : oL (fy f c) := by
  unfold fy
  repeat' split
  all_goals first | exact kw _ _ | exact nb (kw _ _) (kw _ _) | exact Jz
theorem ve (f : aa) : oL (fb f) := by
  unfold fb
  split
  · refine nb ?_ ?_
    · unfold vd
      exact nb (nb (nb (nb (nb (kw _ _) (kw _ _)) (kw _ _)) (kw _ _)) (kw _ _)) (kw _ _)
    · intro x hx
      obtain ⟨c,_,hc⟩ := List.mem_flatMap.1 hx
      exact Ot f c x hc
  · exact Jz
theorem no {x y : Int} (hx : 0 ≤ x ∧ x < 256) (hy : 0 ≤ y ∧ y < 256) (h : bE x 1 = bE y 1) : x = y := by
  simp only [bE,qP,List.cons.injEq,and_true] at h
  omega
theorem Oo {x y : Int} (hx : 0 ≤ x ∧ x < 65536) (hy : 0 ≤ y ∧ y < 65536) (h : bE x 2 = bE y 2) : x = y := by
  simp only [bE,qP,List.cons.injEq,and_true] at h
  obtain ⟨h1,h0⟩ := h
  simp only [Int.pow_succ,Int.pow_zero,Int.one_mul] at h1 h0
  omega
theorem NS {x y : Int} (hx : 0 ≤ x ∧ x < 16777216) (hy : 0 ≤ y ∧ y < 16777216) (h : bE x 3 = bE y 3) : x = y := by
  simp only [bE,qP,List.cons.injEq,and_true] at h
  obtain ⟨h2,h1,h0⟩ := h
  simp only [Int.pow_succ,Int.pow_zero,Int.one_mul] at h2 h1 h0
  omega
theorem Vi {x y : Int} (hx : 0 ≤ x ∧ x < 4294967296) (hy : 0 ≤ y ∧ y < 4294967296) (h : bE x 4 = bE y 4) : x = y := by
  simp only [bE,qP,List.cons.injEq,and_true] at h
  obtain ⟨h3,h2,h1,h0⟩ := h
  simp only [Int.pow_succ,Int.pow_zero,Int.one_mul] at h3 h2 h1 h0
  omega
theorem eO {u : Bool} {x l h : Int} (hf : dI u x l h = true) (h0 : l ≤ 1) (hl : 0 ≤ l) (hh : 0 ≤ h) : 0 ≤ x ∧ x ≤ h ∧ (u = false → x = 0) := by
  unfold dI at hf
  cases u with
  | true =>
    simp only [if_true] at hf
    have := zH.1 hf
    exact ⟨by omega,by omega,fun e => by cases e⟩
  | false =>
    have : x = 0 := by simpa using hf
    omega
end
section
open Go.Proofs
theorem GI {T : Type} {p q : Nat → List T} : ∀ {u : List Nat},(∀ c ∈ u,(p c).length = (q c).length) → u.flatMap p = u.flatMap q → ∀ c ∈ u,p c = q c
  | [],_,_,c,hc => by simp at hc
  | d :: u,hl,h,c,hc => by
    rw [List.flatMap_cons,List.flatMap_cons] at h
    obtain ⟨h1,h2⟩ := List.append_inj h (hl d (by simp))
    rcases List.mem_cons.1 hc with rfl | hc
    · exact h1
    · exact GI (fun c hc => hl c (by simp [hc])) h2 c hc
theorem OX (f g : aa) (c : Nat) : (fy f c).length = (fy g c).length := by
  unfold fy
  repeat' split
  all_goals simp [cJ]
theorem KV (f : aa) : (vd f).length = 7 := by simp [vd,cJ]
theorem Cc {f : aa} (h : bN f = true) : 1 ≤ f.Kind ∧ f.Kind ≤ 14 := by
  have h1 := ((iJ f).1 h).1
  by_cases hk : 1 ≤ f.Kind ∧ f.Kind ≤ 14
  · exact hk
  · rw [so hk] at h1; simp at h1
theorem T2 {k : Int} (h : 1 ≤ k ∧ k ≤ 14) : 80 ∈ dF k := by
  obtain rfl | rfl | rfl | rfl | rfl | rfl | rfl | rfl | rfl | rfl | rfl | rfl | rfl | rfl := kinds h.1 h.2 <;> decide
theorem Vm {f g : aa} (hf : bN f = true) (hg : bN g = true) (h : vd f = vd g) :
    f.Issuer = g.Issuer ∧ f.Number = g.Number ∧ f.Version = g.Version ∧ f.Withdrawn = g.Withdrawn ∧ f.Person = g.Person ∧ f.Kind = g.Kind := by
  obtain ⟨_,f1,f2,f3,f4,_⟩ := (iJ f).1 hf
  obtain ⟨_,g1,g2,g3,g4,_⟩ := (iJ g).1 hg
  have fk := Cc hf
  have gk := Cc hg
  unfold vd at h
  obtain ⟨h,k6⟩ := List.append_inj h (by simp [cJ])
  obtain ⟨h,k5⟩ := List.append_inj h (by simp [cJ])
  obtain ⟨h,k4⟩ := List.append_inj h (by simp [cJ])
  obtain ⟨h,k3⟩ := List.append_inj h (by simp [cJ])
  obtain ⟨k1,k2⟩ := List.append_inj h (by simp [cJ])
  refine ⟨no (by omega) (by omega) k1,Oo (by omega) (by omega) k2,no (by omega) (by omega) k3, ?_,no (by omega) (by omega) k5,no (by omega) (by omega) k6⟩
  have := no (by split <;> omega) (by split <;> omega) k4
  cases hw : f.Withdrawn <;> cases hw' : g.Withdrawn <;> simp [hw,hw'] at this ⊢
theorem RI {f g : aa} (hf : bN f = true) (hg : bN g = true) (h : fb f = fb g) : f = g := by
  unfold fb at h
  rw [if_pos hf,if_pos hg] at h
  obtain ⟨h1,h2⟩ := List.append_inj h (by rw [KV,KV])
  obtain ⟨e1,e2,e3,e4,e5,e6⟩ := Vm hf hg h1
  rw [← e6] at h2
  have hl := GI (fun c _ => OX f g c) h2
  obtain ⟨_,_,_,_,_,fS,fT,fp,fH,fC,fA,fR,_⟩ := (iJ f).1 hf
  obtain ⟨_,_,_,_,_,gS,gT,gp,gH,gC,gA,gR,_⟩ := (iJ g).1 hg
  rw [← e6] at gS gT gH gC gA gR
  have fS' := eO fS (by omega) (by omega) (by omega)
  have gS' := eO gS (by omega) (by omega) (by omega)
  have fT' := eO fT (by omega) (by omega) (by omega)
  have gT' := eO gT (by omega) (by omega) (by omega)
  have fH' := eO fH (by omega) (by omega) (by omega)
  have gH' := eO gH (by omega) (by omega) (by omega)
  have fC' := eO fC (by omega) (by omega) (by omega)
  have gC' := eO gC (by omega) (by omega) (by omega)
  have fA' := eO fA (by omega) (by omega) (by omega)
  have gA' := eO gA (by omega) (by omega) (by omega)
  have fR' := eO fR (by omega) (by omega) (by omega)
  have gR' := eO gR (by omega) (by omega) (by omega)
  have hm : ∀ c,eM f.Kind c = true → fy f c = fy g c := fun c hc => hl c (by unfold eM at hc; simpa using hc)
  have pS : f.State = g.State := by
    cases hc : eM f.Kind 83 with
    | true => exact no (by omega) (by omega) (hm 83 hc)
    | false => rw [fS'.2.2 hc,gS'.2.2 hc]
  have pT : f.Seat = g.Seat := by
    cases hc : eM f.Kind 84 with
    | true => exact no (by omega) (by omega) (hm 84 hc)
    | false => rw [fT'.2.2 hc,gT'.2.2 hc]
  have pH : f.Share = g.Share := by
    cases hc : eM f.Kind 72 with
    | true => exact no (by omega) (by omega) (hm 72 hc)
    | false => rw [fH'.2.2 hc,gH'.2.2 hc]
  have pC : f.Currency = g.Currency := by
    cases hc : eM f.Kind 67 with
    | true => exact Oo (by omega) (by omega) (hm 67 hc)
    | false => rw [fC'.2.2 hc,gC'.2.2 hc]
  have pA : f.Amount = g.Amount := by
    cases hc : eM f.Kind 65 with
    | true => exact Vi (by omega) (by omega) (hm 65 hc)
    | false => rw [fA'.2.2 hc,gA'.2.2 hc]
  have pR : f.Ref = g.Ref := by
    cases hc : eM f.Kind 82 with
    | true => exact no (by omega) (by omega) (hm 82 hc)
    | false => rw [fR'.2.2 hc,gR'.2.2 hc]
  have hspan : fy f 80 = fy g 80 := hl 80 (T2 (Cc hf))
  have hs : bE f.Span.From 3 ++ bE f.Span.To 3 = bE g.Span.From 3 ++ bE g.Span.To 3 := hspan
  obtain ⟨s1,s2⟩ := List.append_inj hs (by simp [cJ])
  have q1 := NS (by omega) (by omega) s1
  have q2 := NS (by omega) (by omega) s2
  obtain ⟨a1,a2,a3,a4,a5,a6,a7,⟨a8,a9⟩,a10,a11,a12,a13,a14⟩ := f
  obtain ⟨b1,b2,b3,b4,b5,b6,b7,⟨b8,b9⟩,b10,b11,b12,b13,b14⟩ := g
  simp only at e1 e2 e3 e4 e5 e6 pS pT pH pC pA pR q1 q2
  subst e1 e2 e3 e4 e5 e6 pS pT pH pC pA pR q1 q2
  rfl
def qf (a b : aa) : Int := if a.Issuer < b.Issuer then -1 else if b.Issuer < a.Issuer then 1 else if a.Number < b.Number then -1 else if b.Number < a.Number then 1 else 0
def ez (a b : aa) : Prop := a.Issuer < b.Issuer ∨ (a.Issuer = b.Issuer ∧ a.Number < b.Number)
def jo (a b : aa) : Prop := a.Issuer = b.Issuer ∧ a.Number = b.Number
theorem pN (a b : aa) : (ez a b ∧ qf a b = -1) ∨ (jo a b ∧ qf a b = 0) ∨ (ez b a ∧ qf a b = 1) := by
  unfold qf ez jo
  by_cases h1 : a.Issuer < b.Issuer
  · left; simp [h1]
  by_cases h2 : b.Issuer < a.Issuer
  · right; right; simp [h1,h2]
  by_cases h3 : a.Number < b.Number
  · left; simp [h1,h2,h3]; omega
  by_cases h4 : b.Number < a.Number
  · right; right; simp [h1,h2,h3,h4]; omega
  · right; left; simp [h1,h2,h3,h4]; omega
theorem Ch {a b c : aa} (h : ez a b) (h' : ez b c) : ez a c := by unfold ez at *; omega
theorem GD (a : aa) : ¬ ez a a := by unfold ez; omega
theorem ky {a b : aa} (h : ez a b) : ¬ jo a b := by unfold ez jo at *; omega
theorem xd {a b : aa} (h : ez a b) : ¬ ez b a := by unfold ez at *; omega
theorem aay {a b c : aa} (h : ez a b) (h' : jo b c) : ez a c := by unfold ez jo at *; omega
theorem Pe {a b c : aa} (h : jo a b) (h' : ez b c) : ez a c := by unfold ez jo at *; omega
theorem mQ {a b : aa} (h : jo a b) : jo b a := ⟨h.1.symm,h.2.symm⟩
theorem C4 {a b c : aa} (h : jo a b) (h' : jo b c) : jo a c := ⟨h.1.trans h'.1,h.2.trans h'.2⟩
theorem Eb (a : aa) : jo a a := ⟨rfl,rfl⟩
theorem Bp (x y : Int) : dG x y = some (if x < y then -1 else if y < x then 1 else 0) := by
  show lq x y = _
  unfold lq
  have e : ∀ z : Int,iY z = some false := fun z => by show some (z != z) = _; simp
  rw [e,e]
  simp only [Option.bind_some,cond_false]
  by_cases h : x < y
  · simp [h]
  · by_cases h' : y < x
    · simp [h,h']
    · simp [h,h']
theorem SV (x y : Int) : sZ [x,y] = some (if x ≠ 0 then x else y) := by
  show (aN (q5 [x,y]) (0 : Int)).bind _ = _
  rw [aV]
  show ((fV [x,y] 0).bind _).bind _ = _
  have s0 : fV [x,y] 0 = if x ≠ 0 then some (.inr (.inl x)) else some (.inl 1) := by
    unfold fV
    rw [show decide ((0 : Int) < (([x,y].length : Nat) : Int)) = true from rfl,cond_true,an (by simp)]
    show (bif x != 0 then _ else _) = _
    by_cases h : x = 0
    · subst h; rfl
    · have : (x != 0) = true := by simpa using h
      rw [this,if_pos h]; rfl
  rw [s0]
  by_cases h : x = 0
  · rw [if_neg (by simpa using h),if_neg (by simpa using h),Option.bind_some]
    simp only
    rw [aV]
    show ((fV [x,y] 1).bind _).bind _ = _
    have s1 : fV [x,y] 1 = if y ≠ 0 then some (.inr (.inl y)) else some (.inl 2) := by
      unfold fV
      rw [show decide ((1 : Int) < (([x,y].length : Nat) : Int)) = true from rfl,cond_true,an (by simp)]
      show (bif y != 0 then _ else _) = _
      by_cases h : y = 0
      · subst h; rfl
      · have : (y != 0) = true := by simpa using h
        rw [this,if_pos h]; rfl
    rw [s1]
    by_cases h' : y = 0
    · rw [if_neg (by simpa using h'),Option.bind_some]
      simp only
      rw [aV]
      show ((fV [x,y] 2).bind _).bind _ = _
      have s2 : fV [x,y] 2 = some (.inr (.inr ())) := rfl
      rw [s2,h']
      rfl
    · rw [if_pos h']
      rfl
  · rw [if_pos h,if_pos h]
    rfl
theorem BW (a b : aa) : l7 a b = some (qf a b) := by
  show ka a b = _
  unfold ka
  rw [Bp,Option.bind_some,Bp,Option.bind_some,SV,Option.bind_some]
  congr 1
  unfold qf
  by_cases h1 : a.Issuer < b.Issuer
  · simp [h1]
  · by_cases h2 : b.Issuer < a.Issuer
    · simp [h1,h2]
    · simp [h1,h2]
def jK (a b : aa) : Prop := rK (fb a) (fb b)
noncomputable instance (a b : aa) : Decidable (jK a b) := Classical.propDecidable _
theorem kX (a : aa) : ¬ jK a a := Jg _
theorem qj {a b c : aa} (h : jK a b) (h' : jK b c) : jK a c := KU h h'
theorem GT {a b : aa} (ha : bN a = true) (hb : bN b = true) : jK a b ∨ a = b ∨ jK b a := by
  rcases K2 (fb a) (fb b) with h | h | h
  · exact .inl h
  · exact .inr (.inl (RI ha hb h))
  · exact .inr (.inr h)
theorem MT {a b : aa} (ha : bN a = true) (hb : bN b = true) : vv a b = some (decide (jK a b)) := by
  show tx a b = _
  unfold tx
  rw [nO,Option.bind_some,nO b,ha,hb,an (by intro _; rfl)]
  simp only [Bool.not_true,Option.getD_some,cond_false]
  rw [DL,Option.bind_some,DL,Option.bind_some]
  have e : nP (fb a) (fb b) = some (m8 (fb a) (fb b)) := rfl
  rw [e,Option.bind_some]
  congr 1
  have := JA (fb a) (fb b) (ve a) (ve b)
  rw [decide_eq_decide]
  exact this
noncomputable def gB (a b : aa) : aa := if jK a b then b else a
theorem Gf {a b : aa} (ha : bN a = true) (hb : bN b = true) : mn a b = some (gB a b) := by
  show lV a b = _
  unfold lV gB
  rw [MT ha hb,Option.bind_some]
  by_cases h : jK a b
  · simp [h]
  · simp [h]
end
section
open Go.Proofs
def kM (l : List aa) : Prop := ∀ f ∈ l,bN f = true
def xP (l : List aa) : Prop := l.Pairwise ez
noncomputable def cT : List aa → List aa → List aa
  | [],b => b
  | x :: a,[] => x :: a
  | x :: a,y :: b => if qf x y < 0 then x :: cT a (y :: b) else if 0 < qf x y then y :: cT (x :: a) b else gB x y :: cT a b
termination_by a b => a.length + b.length
def sU (S : List aa) (f : aa) : Prop := f ∈ S ∧ bN f = true ∧ ∀ g ∈ S,bN g = true → jo f g → ¬ jK f g
structure dK (S M : List aa) : Prop where
  asc : xP M
  mem : ∀ f,f ∈ M ↔ sU S f
theorem dK.valids {S M : List aa} (h : dK S M) : kM M := fun f hf => ((h.mem f).1 hf).2.1
theorem vC {S S' : List aa} (h : ∀ f,f ∈ S ↔ f ∈ S') (f : aa) : sU S f ↔ sU S' f := by
  unfold sU
  rw [h f]
  simp only [h]
theorem dK.congr {S S' M : List aa} (h : dK S M) (hs : ∀ f,f ∈ S ↔ f ∈ S') : dK S' M := ⟨h.asc,fun f => (h.mem f).trans (vC hs f)⟩
theorem M2 : ∀ {a b : List aa},xP a → xP b → (∀ f,f ∈ a ↔ f ∈ b) → a = b
  | [],[],_,_,_ => rfl
  | [],y :: b,_,_,h => by have := (h y).2 (by simp); simp at this
  | x :: a,[],_,_,h => by have := (h x).1 (by simp); simp at this
  | x :: a,y :: b,ha,hb,h => by
    unfold xP at ha hb
    rw [List.pairwise_cons] at ha hb
    have hxy : x = y := by
      rcases List.mem_cons.1 ((h x).1 (by simp)) with e | hx
      · exact e
      · rcases List.mem_cons.1 ((h y).2 (by simp)) with e | hy
        · exact e.symm
        · exact (xd (ha.1 y hy) (hb.1 x hx)).elim
    subst hxy
    congr 1
    refine M2 ha.2 hb.2 fun f => ⟨fun hf => ?_,fun hf => ?_⟩
    · rcases List.mem_cons.1 ((h f).1 (by simp [hf])) with e | hm
      · subst e; exact (GD _ (ha.1 f hf)).elim
      · exact hm
    · rcases List.mem_cons.1 ((h f).2 (by simp [hf])) with e | hm
      · subst e; exact (GD _ (hb.1 f hf)).elim
      · exact hm
theorem dK.uniq {S S' M M' : List aa} (h : dK S M) (h' : dK S' M') (hs : ∀ f,sU S f ↔ sU S' f) : M = M' :=
  M2 h.asc h'.asc fun f => (h.mem f).trans ((hs f).trans (h'.mem f).symm)
theorem xr {x : aa} {S : List aa} (hx : bN x = true) (h : ∀ g ∈ S,ez x g) (f : aa) : sU (x :: S) f ↔ f = x ∨ sU S f := by
  constructor
  · rintro ⟨h1,h2,h3⟩
    rcases List.mem_cons.1 h1 with e | hm
    · exact .inl e
    · exact .inr ⟨hm,h2,fun g hg => h3 g (by simp [hg])⟩
  · rintro (rfl | ⟨h1,h2,h3⟩)
    · refine ⟨by simp,hx,fun g hg _ he => ?_⟩
      rcases List.mem_cons.1 hg with e | hm
      · subst e; exact kX _
      · exact (ky (h g hm) he).elim
    · refine ⟨by simp [h1],h2,fun g hg hv he => ?_⟩
      rcases List.mem_cons.1 hg with e | hm
      · subst e; exact (ky (h f h1) (mQ he)).elim
      · exact h3 g hm hv he
theorem R1 {x y : aa} {S : List aa} (hx : bN x = true) (hy : bN y = true) (he : jo x y) (h : ∀ g ∈ S,ez x g) (f : aa) : sU (x :: y :: S) f ↔ f = gB x y ∨ sU S f := by
  have hno : ∀ g ∈ S, ∀ z,jo x z → ¬ jo z g := fun g hg z hz hzg => ky (h g hg) (C4 hz hzg)
  constructor
  · rintro ⟨h1,h2,h3⟩
    have k1 := h3 x (by simp) hx
    have k2 := h3 y (by simp) hy
    rcases List.mem_cons.1 h1 with e | hm
    · subst e
      left
      have := k2 he
      unfold gB
      rw [if_neg this]
    · rcases List.mem_cons.1 hm with e | hm
      · subst e
        left
        have := k1 (mQ he)
        unfold gB
        split
        · rfl
        · next hn =>
          rcases GT hx hy with e | e | e
          · exact (hn e).elim
          · exact e.symm
          · exact (this e).elim
      · exact .inr ⟨hm,h2,fun g hg => h3 g (by simp [hg])⟩
  · rintro (rfl | ⟨h1,h2,h3⟩)
    · unfold gB
      split
      · next hl =>
        refine ⟨by simp,hy,fun g hg hv hi => ?_⟩
        rcases List.mem_cons.1 hg with e | hg
        · subst e; intro hc; exact kX _ (qj hl hc)
        · rcases List.mem_cons.1 hg with e | hg
          · subst e; exact kX _
          · exact (hno g hg y he hi).elim
      · next hl =>
        refine ⟨by simp,hx,fun g hg hv hi => ?_⟩
        rcases List.mem_cons.1 hg with e | hg
        · subst e; exact kX _
        · rcases List.mem_cons.1 hg with e | hg
          · subst e; exact hl
          · exact (hno g hg x (Eb x) hi).elim
    · refine ⟨by simp [h1],h2,fun g hg hv hi => ?_⟩
      rcases List.mem_cons.1 hg with e | hg
      · subst e; exact (hno f h1 g (Eb g) (mQ hi)).elim
      · rcases List.mem_cons.1 hg with e | hg
        · subst e; exact (hno f h1 g he (mQ hi)).elim
        · exact h3 g hg hv hi
theorem BU {x : aa} {a : List aa} (h : xP (x :: a)) : (∀ g ∈ a,ez x g) ∧ xP a := List.pairwise_cons.1 h
theorem yZ : ∀ (a b : List aa),xP a → xP b → kM a → kM b → dK (a ++ b) (cT a b)
  | [],b,_,hb,_,vb => by
    rw [cT]
    refine ⟨hb,fun f => ?_⟩
    rw [List.nil_append]
    induction b with
    | nil => simp [sU]
    | cons y b ih =>
      obtain ⟨h1,h2⟩ := BU hb
      rw [xr (vb y (by simp)) h1,List.mem_cons,ih h2 fun g hg => vb g (by simp [hg])]
  | x :: a,[],ha,_,va,_ => by
    rw [cT,List.append_nil]
    refine ⟨ha,fun f => ?_⟩
    have key : ∀ l : List aa,xP l → kM l → (f ∈ l ↔ sU l f) := by
      intro l
      induction l with
      | nil => intro _ _; simp [sU]
      | cons y b ih =>
        intro hb vb
        obtain ⟨h1,h2⟩ := BU hb
        rw [xr (vb y (by simp)) h1,List.mem_cons,ih h2 fun g hg => vb g (by simp [hg])]
    exact key _ ha va
  | x :: a,y :: b,ha,hb,va,vb => by
    obtain ⟨hxa,ha'⟩ := BU ha
    obtain ⟨hyb,hb'⟩ := BU hb
    have vx := va x (by simp)
    have vy := vb y (by simp)
    have va' : kM a := fun g hg => va g (by simp [hg])
    have vb' : kM b := fun g hg => vb g (by simp [hg])
    rw [cT]
    rcases pN x y with ⟨hc,e⟩ | ⟨hc,e⟩ | ⟨hc,e⟩
    · rw [if_pos (by omega)]
      have ih := yZ a (y :: b) ha' hb va' vb
      have hall : ∀ g ∈ a ++ y :: b,ez x g := by
        intro g hg
        rcases List.mem_append.1 hg with hg | hg
        · exact hxa g hg
        · rcases List.mem_cons.1 hg with rfl | hg
          · exact hc
          · exact Ch hc (hyb g hg)
      refine ⟨List.pairwise_cons.2 ⟨fun g hg => hall g ((ih.mem g).1 hg).1,ih.asc⟩,fun f => ?_⟩
      rw [List.cons_append,xr vx hall,List.mem_cons,ih.mem]
    · rw [if_neg (by omega),if_neg (by omega)]
      have ih := yZ a b ha' hb' va' vb'
      have hall : ∀ g ∈ a ++ b,ez x g := by
        intro g hg
        rcases List.mem_append.1 hg with hg | hg
        · exact hxa g hg
        · exact Pe hc (hyb g hg)
      have hgr : ∀ g ∈ a ++ b,ez (gB x y) g := by
        intro g hg
        unfold gB
        split
        · exact Pe (mQ hc) (hall g hg)
        · exact hall g hg
      refine ⟨List.pairwise_cons.2 ⟨fun g hg => hgr g ((ih.mem g).1 hg).1,ih.asc⟩,fun f => ?_⟩
      rw [vC (S' := x :: y :: (a ++ b)) (fun f => by simp only [List.mem_append,List.mem_cons,List.cons_append]; constructor <;> (intro h; rcases h with h | h | h | h <;> simp [h])),R1 vx vy hc hall,List.mem_cons,ih.mem]
    · rw [if_neg (by omega),if_pos (by omega)]
      have ih := yZ (x :: a) b ha hb' va vb'
      have hall : ∀ g ∈ x :: a ++ b,ez y g := by
        intro g hg
        rcases List.mem_append.1 hg with hg | hg
        · rcases List.mem_cons.1 hg with rfl | hg
          · exact hc
          · exact Ch hc (hxa g hg)
        · exact hyb g hg
      refine ⟨List.pairwise_cons.2 ⟨fun g hg => hall g ((ih.mem g).1 hg).1,ih.asc⟩,fun f => ?_⟩
      rw [vC (S' := y :: (x :: a ++ b)) (fun f => by simp only [List.mem_append,List.mem_cons,List.cons_append]; constructor <;> (intro h; rcases h with h | h | h | h <;> simp [h])),xr vy hall,List.mem_cons,ih.mem]
termination_by a b => a.length + b.length
theorem HX (g : aa) (hg : bN g = true) : ∀ A : List aa, ∃ m,(m = g ∨ m ∈ A) ∧ bN m = true ∧ jo g m ∧ ¬ jK m g ∧ ∀ h ∈ A,bN h = true → jo g h → ¬ jK m h
  | [] => ⟨g, .inl rfl,hg,Eb g,kX g,fun h hh => by simp at hh⟩
  | x :: A => by
    obtain ⟨m,h1,h2,h3,h4,h5⟩ := HX g hg A
    by_cases hc : bN x = true ∧ jo g x ∧ jK m x
    · obtain ⟨c1,c2,c3⟩ := hc
      refine ⟨x, .inr (by simp),c1,c2,fun hl => h4 (qj c3 hl),fun h hh hv hi hl => ?_⟩
      rcases List.mem_cons.1 hh with rfl | hh
      · exact kX _ hl
      · exact h5 h hh hv hi (qj c3 hl)
    · refine ⟨m,h1.imp id fun h => by simp [h],h2,h3,h4,fun h hh hv hi hl => ?_⟩
      rcases List.mem_cons.1 hh with rfl | hh
      · exact hc ⟨hv,hi,hl⟩
      · exact h5 h hh hv hi hl
theorem La {A M B : List aa} (h : dK A M) (f : aa) : sU (M ++ B) f ↔ sU (A ++ B) f := by
  have hMA : ∀ g ∈ M,g ∈ A := fun g hg => ((h.mem g).1 hg).1
  constructor
  · rintro ⟨h1,h2,h3⟩
    refine ⟨?_,h2,fun g hg hv hi hl => ?_⟩
    · rcases List.mem_append.1 h1 with h1 | h1
      · exact List.mem_append_left _ (hMA f h1)
      · exact List.mem_append_right _ h1
    · rcases List.mem_append.1 hg with hg | hg
      · obtain ⟨m,m1,m2,m3,m4,m5⟩ := HX g hv A
        have hmA : m ∈ A := by rcases m1 with rfl | m1; exact hg; exact m1
        have hmM : m ∈ M := (h.mem m).2 ⟨hmA,m2,fun k hk hkv hki => m5 k hk hkv (C4 m3 hki)⟩
        have k1 := h3 m (List.mem_append_left _ hmM) m2 (C4 hi m3)
        rcases GT hv m2 with e | e | e
        · exact k1 (qj hl e)
        · subst e; exact k1 hl
        · exact m4 e
      · exact h3 g (List.mem_append_right _ hg) hv hi hl
  · rintro ⟨h1,h2,h3⟩
    refine ⟨?_,h2,fun g hg hv hi => ?_⟩
    · rcases List.mem_append.1 h1 with h1 | h1
      · exact List.mem_append_left _ ((h.mem f).2 ⟨h1,h2,fun g hg => h3 g (List.mem_append_left _ hg)⟩)
      · exact List.mem_append_right _ h1
    · rcases List.mem_append.1 hg with hg | hg
      · exact h3 g (List.mem_append_left _ (hMA g hg)) hv hi
      · exact h3 g (List.mem_append_right _ hg) hv hi
theorem NF (A B : List aa) (f : aa) : f ∈ A ++ B ↔ f ∈ B ++ A := by rw [List.mem_append,List.mem_append,or_comm]
theorem PV {A M B : List aa} (h : dK A M) (f : aa) : sU (B ++ M) f ↔ sU (B ++ A) f :=
  (vC (NF B M) f).trans ((La h f).trans (vC (NF A B) f))
theorem dK.app {A B M M' : List aa} (h : dK A M) (h' : dK B M') : dK (A ++ B) (cT M M') := by
  have := yZ M M' h.asc h'.asc h.valids h'.valids
  exact ⟨this.asc,fun f => (this.mem f).trans ((La h f).trans (PV h' f))⟩
theorem dK.one {f : aa} (h : bN f = true) : dK [f] [f] := by
  refine ⟨by simp [xP],fun g => ?_⟩
  rw [xr h (by simp)]
  simp [sU]
theorem dK.nil : dK [] [] := ⟨by simp [xP],fun g => by simp [sU]⟩
theorem dK.skip {A M : List aa} {f : aa} (h : dK A M) (hf : bN f = false) : dK (A ++ [f]) M := by
  refine ⟨h.asc,fun g => (h.mem g).trans ⟨fun ⟨h1,h2,h3⟩ => ⟨by simp [h1],h2,fun k hk hv hi => ?_⟩,fun ⟨h1,h2,h3⟩ => ⟨?_,h2,fun k hk => h3 k (by simp [hk])⟩⟩⟩
  · rcases List.mem_append.1 hk with hk | hk
    · exact h3 k hk hv hi
    · simp at hk; subst hk; rw [hf] at hv; cases hv
  · rcases List.mem_append.1 h1 with h1 | h1
    · exact h1
    · simp at h1; subst h1; rw [hf] at h2; cases h2
noncomputable def kf (l : List aa) : List aa := l.foldl (fun out f => if bN f then cT out [f] else out) []
theorem O9 : ∀ (l A out : List aa),dK A out → dK (A ++ l) (l.foldl (fun out f => if bN f then cT out [f] else out) out)
  | [],A,out,h => by rw [List.append_nil]; exact h
  | f :: l,A,out,h => by
    rw [List.foldl_cons,show A ++ f :: l = (A ++ [f]) ++ l by simp]
    refine O9 l (A ++ [f]) _ ?_
    by_cases hf : bN f = true
    · rw [if_pos hf]; exact h.app (.one hf)
    · rw [if_neg hf]; exact h.skip (by simpa using hf)
theorem uv (l : List aa) : dK l (kf l) := O9 l [] [] .nil
noncomputable def dA (a b : List aa) : List aa := cT (kf a) (kf b)
theorem KE (a b : List aa) : dK (a ++ b) (dA a b) := (uv a).app (uv b)
end
section
open Go.Proofs
theorem PI (n : Nat) : Int.toNat (((n + 1 : Nat) : Int) - 1) = n := by omega
theorem Lr {T : Type} (z x : T) (a : List T) : jD z (x :: a) 1 (Int.toNat ((((x :: a).length : Nat) : Int) - (1 : Int))) = a := by
  rw [List.length_cons,PI,rM (by simp; omega)]
  simp
theorem nV : ∀ (a b : List aa),(cT a b).length ≤ a.length + b.length
  | [],b => by rw [cT]; simp
  | x :: a,[] => by rw [cT]; simp
  | x :: a,y :: b => by
    have h1 := nV a (y :: b)
    have h2 := nV (x :: a) b
    have h3 := nV a b
    rw [cT]
    simp only [List.length_cons] at h1 h2 h3 ⊢
    split
    · simp only [List.length_cons]; omega
    · split
      · simp only [List.length_cons]; omega
      · simp only [List.length_cons]; omega
termination_by a b => a.length + b.length
theorem lL {n : Nat} (h : n ≤ 1000000) : cL n 112 := ⟨by omega,by omega⟩
theorem wX (a0 b0 : List aa) : ∀ (a b out : List aa),kM a → kM b → out.length + a.length + b.length ≤ 1000000 →
    ∃ a' b' out',aN (bO a0 b0) (a,b,out) = some (a',b',out') ∧ out' ++ a' ++ b' = out ++ cT a b ∧ out'.length + a'.length + b'.length ≤ 1000000
  | [],b,out,_,_,hn => by
    refine ⟨[],b,out, ?_,by rw [cT]; simp,hn⟩
    rw [aV]
    rfl
  | x :: a,[],out,_,_,hn => by
    refine ⟨x :: a,[],out, ?_,by rw [cT]; simp,hn⟩
    rw [aV]
    show (bP (x :: a) [] out).bind _ = _
    unfold bP
    have : (bif decide ((0 : Int) < (((x :: a).length : Nat) : Int)) then decide ((0 : Int) < (([] : List aa).length : Nat)) else false) = false := by simp
    rw [this]
    rfl
  | x :: a,y :: b,out,va,vb,hn => by
    have vx := va x (by simp)
    have vy := vb y (by simp)
    have va' : kM a := fun g hg => va g (by simp [hg])
    have vb' : kM b := fun g hg => vb g (by simp [hg])
    have e1 : (bif decide ((0 : Int) < (((x :: a).length : Nat) : Int)) then decide ((0 : Int) < (((y :: b).length : Nat) : Int)) else false) = true := by simp
    have ga : (0 : Int) ≤ (0 : Int) ∧ (0 : Int) < (((x :: a).length : Nat) : Int) := by simp
    have gb : (0 : Int) ≤ (0 : Int) ∧ (0 : Int) < (((y :: b).length : Nat) : Int) := by simp
    have sa : (0 : Int) ≤ (1 : Int) ∧ (1 : Int) ≤ (((x :: a).length : Nat) : Int) ∧ (((x :: a).length : Nat) : Int) ≤ (((x :: a).length : Nat) : Int) := by simp; omega
    have sb : (0 : Int) ≤ (1 : Int) ∧ (1 : Int) ≤ (((y :: b).length : Nat) : Int) ∧ (((y :: b).length : Nat) : Int) ≤ (((y :: b).length : Nat) : Int) := by simp; omega
    simp only [List.length_cons] at hn
    have hcap : cL (out.length + 1) 112 := lL (by omega)
    have step : bP (x :: a) (y :: b) out = some (.inl (if qf x y < 0 then (a,y :: b,out ++ [x]) else if 0 < qf x y then (x :: a,b,out ++ [y]) else (a,b,out ++ [gB x y]))) := by
      unfold bP
      rw [e1,cond_true,an ga,an gb]
      have g0 : (x :: a).getD 0 aw = x := rfl
      have g1 : (y :: b).getD 0 aw = y := rfl
      rw [g0,g1,BW,Option.bind_some,Lr,Lr,Gf vx vy,Option.bind_some]
      simp only [an ga,an gb,an hcap,an sa,an sb]
      by_cases h : qf x y < 0
      · simp [h]
      · by_cases h' : 0 < qf x y
        · simp [h,h']
        · simp [h,h']
    have unroll : aN (bO a0 b0) (x :: a,y :: b,out) = aN (bO a0 b0) (if qf x y < 0 then (a,y :: b,out ++ [x]) else if 0 < qf x y then (x :: a,b,out ++ [y]) else (a,b,out ++ [gB x y])) := by
      rw [aV]
      show (bP (x :: a) (y :: b) out).bind _ = _
      rw [step]
      rfl
    rw [unroll,cT]
    by_cases h : qf x y < 0
    · rw [if_pos h,if_pos h]
      obtain ⟨a',b',o',h1,h2,h3⟩ := wX a0 b0 a (y :: b) (out ++ [x]) va' vb (by simp; omega)
      exact ⟨a',b',o',h1,by rw [h2]; simp,h3⟩
    · rw [if_neg h,if_neg h]
      by_cases h' : 0 < qf x y
      · rw [if_pos h',if_pos h']
        obtain ⟨a',b',o',h1,h2,h3⟩ := wX a0 b0 (x :: a) b (out ++ [y]) va vb' (by simp; omega)
        exact ⟨a',b',o',h1,by rw [h2]; simp,h3⟩
      · rw [if_neg h',if_neg h']
        obtain ⟨a',b',o',h1,h2,h3⟩ := wX a0 b0 a b (out ++ [gB x y]) va' vb' (by simp; omega)
        exact ⟨a',b',o',h1,by rw [h2]; simp,h3⟩
termination_by a b => a.length + b.length
theorem yM {a b : List aa} (va : kM a) (vb : kM b) (hn : a.length + b.length ≤ 1000000) : bM a b = some (cT a b) := by
  show (aN (bO a b) (a,b,[])).bind _ = _
  obtain ⟨a',b',o',h1,h2,h3⟩ := wX a b a b [] va vb (by simpa using hn)
  rw [h1,Option.bind_some]
  show gd (cL (o'.length + a'.length) 112) _ = _
  rw [an (lL (by omega)),an (lL (by omega)),h2]
  simp
theorem KQ (l : List aa) (f : aa) : kf (l ++ [f]) = if bN f then cT (kf l) [f] else kf l := by
  unfold kf
  rw [List.foldl_append]
  rfl
theorem od (l : List aa) : (kf l).length ≤ l.length := by
  have key : ∀ (l out : List aa),(l.foldl (fun out f => if bN f then cT out [f] else out) out).length ≤ out.length + l.length := by
    intro l
    induction l with
    | nil => intro out; simp
    | cons f l ih =>
      intro out
      rw [List.foldl_cons]
      refine Nat.le_trans (ih _) ?_
      split
      · have := nV out [f]
        simp only [List.length_cons,List.length_nil] at this ⊢; omega
      · simp only [List.length_cons]; omega
  have := key l []
  simpa [kf] using this
theorem tU (l : List aa) (hn : l.length ≤ 400000) : ee l = some (kf l) := by
  show (aN (jf l) ([],(0 : Int))).bind _ = _
  have key : ∀ (n i : Nat),l.length = i + n → aN (jf l) (kf (l.take i),(i : Int)) = some (kf l) := by
    intro n
    induction n with
    | zero =>
      intro i h
      have : i = l.length := by omega
      subst this
      rw [aV]
      show (gU (kf (l.take l.length)) l (l.length : Int)).bind _ = _
      unfold gU
      rw [bH,cond_false,List.take_length]
      rfl
    | succ n ih =>
      intro i h
      have hi : i < l.length := by omega
      rw [aV]
      show (gU (kf (l.take i)) l (i : Int)).bind _ = _
      unfold gU
      rw [cG hi,cond_true,an (bI hi),cM l _ i hi,nO,Option.bind_some,ca (by omega)]
      have ht : l.take (i + 1) = l.take i ++ [l[i]] := by rw [List.take_add_one,List.getElem?_eq_getElem hi]; rfl
      have ih' := ih (i + 1) (by omega)
      rw [ht,KQ] at ih'
      have hlen : (kf (l.take i)).length ≤ i := Nat.le_trans (od _) (by rw [List.length_take]; omega)
      cases hv : bN l[i] with
      | false =>
        rw [hv] at ih'
        simpa using ih'
      | true =>
        rw [hv,if_pos rfl] at ih'
        rw [cond_true,yM (uv _).valids (fun g hg => by simp at hg; subst hg; exact hv) (by simp; omega)]
        exact ih'
  have := key l.length 0 (by omega)
  rw [show ((0 : Nat) : Int) = 0 from rfl] at this
  rw [show ([] : List aa) = kf (l.take 0) from rfl,this]
  rfl
theorem IH (a b : List aa) (ha : a.length ≤ 400000) (hb : b.length ≤ 400000) : mv a b = some (dA a b) := by
  show ov a b = _
  unfold ov
  rw [tU a ha,Option.bind_some,tU b hb,Option.bind_some]
  have h1 := od a
  have h2 := od b
  rw [yM (uv a).valids (uv b).valids (by omega)]
  rfl
theorem vX (a b : List aa) : (dA a b).length ≤ a.length + b.length := by
  have := nV (kf a) (kf b)
  have h1 := od a
  have h2 := od b
  unfold dA
  omega
def G4 (a b : aa) : Int := if a.Issuer ≠ b.Issuer then a.Issuer - b.Issuer else a.Number - b.Number
theorem rS {f : aa} (h : bN f = true) : (0 ≤ f.Issuer ∧ f.Issuer ≤ 5) ∧ (1 ≤ f.Number ∧ f.Number ≤ 999) ∧ (1 ≤ f.Version ∧ f.Version ≤ 99) ∧ (1 ≤ f.Person ∧ f.Person ≤ 99) := by
  obtain ⟨_,h1,h2,h3,h4,_⟩ := (iJ f).1 h
  exact ⟨h1,h2,h3,h4⟩
theorem zM {a b : aa} (ha : bN a = true) (hb : bN b = true) : jp a b = some (G4 a b) := by
  have h1 := rS ha
  have h2 := rS hb
  show uL a b = _
  unfold uL G4
  rw [bG (by omega) (by omega),bG (by omega) (by omega)]
  by_cases h : a.Issuer = b.Issuer
  · simp [h]
  · have : (a.Issuer != b.Issuer) = true := by simpa using h
    simp [h,this]
theorem O8 (a b : aa) : 0 < G4 a b ↔ ez b a := by
  unfold G4 ez
  split <;> omega
theorem HL (a b : aa) : G4 a b = 0 ↔ jo a b := by
  unfold G4 jo
  split <;> omega
end
section
open Go.Proofs
theorem LC {a b : aa} (ha : bN a = true) (hb : bN b = true) (he : jo a b) : sO a b = some (decide (jK a b)) := by
  show qW a b = _
  unfold qW
  rw [l9,Option.bind_some,l9 b,ha,hb,an (by intro _; rfl)]
  simp only [Bool.not_true,Option.getD_some,cond_false]
  rw [zM ha hb,Option.bind_some,(HL a b).2 he]
  rw [show ((0 : Int) != 0) = false from rfl,cond_false,BD,Option.bind_some,BD,Option.bind_some]
  have va := rS ha
  have vb := rS hb
  have hl : Op.bytesLess (nH (fb a)).toList (nH (fb b)).toList = decide (jK a b) := by
    rw [ByteArray.toList_eq,ByteArray.toList_eq]
    have := Eq (fb a) (fb b) (ve a) (ve b)
    rw [Bool.eq_iff_iff,decide_eq_true_eq]
    unfold jK
    rw [← this]
    simp [nH]
  by_cases hv : a.Version = b.Version
  · have : (a.Version != b.Version) = false := by simpa using hv
    rw [this,cond_false,hl]
  · have : (a.Version != b.Version) = true := by simpa using hv
    rw [this,cond_true]
    congr 1
    rw [decide_eq_decide]
    have key : ∀ {f g : aa},bN f = true → bN g = true → jo f g → f.Version < g.Version → jK f g := by
      intro f g hf hg h hlt
      have vf := rS hf
      have vg := rS hg
      unfold jK fb vd
      rw [if_pos hf,if_pos hg,h.1,h.2]
      simp only [bE,List.cons_append,List.nil_append,List.append_assoc,rK,qP]
      right; refine ⟨trivial, ?_⟩
      right; refine ⟨trivial, ?_⟩
      right; refine ⟨trivial, ?_⟩
      left
      omega
    constructor
    · intro h; exact key ha hb he h
    · intro h
      by_cases h' : a.Version < b.Version
      · exact h'
      · exact (kX _ (qj h (key hb ha (mQ he) (by omega)))).elim
noncomputable def An (out : List aa) (f : aa) : Nat → Nat
  | 0 => 0
  | n + 1 => if 0 < G4 (out.getD n aw) f then An out f n else n + 1
theorem Us (out : List aa) (f : aa) : ∀ n,An out f n ≤ n
  | 0 => Nat.le_refl _
  | n + 1 => by
    unfold An
    split
    · have := Us out f n; omega
    · exact Nat.le_refl _
theorem KP (out : List aa) (f : aa) : ∀ n i,An out f n ≤ i → i < n → ez f (out.getD i aw)
  | 0,i,_,h => by omega
  | n + 1,i,h1,h2 => by
    unfold An at h1
    split at h1
    · next hp =>
      by_cases hi : i = n
      · subst hi; exact (O8 _ _).1 hp
      · exact KP out f n i h1 (by omega)
    · omega
theorem SX (out : List aa) (f : aa) : ∀ n,0 < An out f n → ¬ ez f (out.getD (An out f n - 1) aw)
  | 0,h => by simp [An] at h
  | n + 1,h => by
    unfold An at h ⊢
    split
    · next hp => rw [if_pos hp] at h; exact SX out f n h
    · next hp => intro hc; exact hp ((O8 _ _).2 (by simpa using hc))
theorem FJ {n : Int} (h : -4611686018427387904 ≤ n) (h' : n ≤ 4611686018427387904) : ak n = n := bG (by omega) (by omega)
theorem Jy (a b out out8 : List aa) (i i6 at1 : Int) (f : aa) (hf : bN f = true) (vo : kM out) (hn : out.length ≤ 1000000) : ∀ (n : Nat),n ≤ out.length →
    aN (l8 a b out8 i6 at1 f) (out,i,(n : Int)) = some (out,i,(An out f n : Int))
  | 0,_ => by
    rw [aV]
    show (kE a b out i ((0 : Nat) : Int) f).bind _ = _
    unfold kE
    rw [show decide ((0 : Int) < ((0 : Nat) : Int)) = false from rfl,an (by intro h; simp at h),an (by intro h; simp at h),an (by intro h; simp at h)]
    rfl
  | n + 1,h => by
    have hlt : n < out.length := by omega
    have e : ak (((n + 1 : Nat) : Int) - 1) = (n : Int) := by rw [FJ (by omega) (by omega)]; omega
    have hv : bN (out.getD n aw) = true := by
      rw [List.getD_eq_getElem?_getD,List.getElem?_eq_getElem hlt]
      exact vo _ (List.getElem_mem hlt)
    have hd : decide ((0 : Int) < ((n + 1 : Nat) : Int)) = true := by simp
    rw [aV]
    show (kE a b out i ((n + 1 : Nat) : Int) f).bind _ = _
    unfold kE
    rw [e,hd,Nat.zero_add,Int.toNat_natCast,zM hv hf,an (by intro _; omega),an (by intro _; omega),an (by intro _; rfl)]
    simp only [cond_true,Option.getD_some]
    unfold An
    by_cases hp : 0 < G4 (out.getD n aw) f
    · rw [if_pos hp]
      simp only [hp,decide_true,cond_true,Option.bind_some]
      exact Jy a b out out8 i i6 at1 f hf vo hn n (by omega)
    · rw [if_neg hp,decide_eq_false hp]
      rfl
theorem DK (f : aa) : ∀ (p s : List aa),(∀ g ∈ p,ez g f) → (∀ g ∈ s,ez f g) → cT (p ++ s) [f] = p ++ f :: s
  | [],[],_,_ => by simp [cT]
  | [],y :: s,_,hs => by
    have h := hs y (by simp)
    rw [List.nil_append,cT]
    rcases pN y f with ⟨hc,e⟩ | ⟨hc,e⟩ | ⟨hc,e⟩
    · exact (xd h hc).elim
    · exact (ky h (mQ hc)).elim
    · rw [if_neg (by omega),if_pos (by omega),cT]
      rfl
  | x :: p,s,hp,hs => by
    have h := hp x (by simp)
    rw [List.cons_append,cT]
    rcases pN x f with ⟨hc,e⟩ | ⟨hc,e⟩ | ⟨hc,e⟩
    · rw [if_pos (by omega),DK f p s (fun g hg => hp g (by simp [hg])) hs]
      rfl
    · exact (ky h hc).elim
    · exact (xd h hc).elim
theorem Ow : ∀ l : List aa,cT l [] = l
  | [] => by rw [cT]
  | x :: l => by rw [cT]
theorem GE (f q : aa) (he : jo q f) : ∀ (p s : List aa),(∀ g ∈ p,ez g f) → cT (p ++ q :: s) [f] = p ++ gB q f :: s
  | [],s,_ => by
    rw [List.nil_append,cT]
    rcases pN q f with ⟨hc,e⟩ | ⟨hc,e⟩ | ⟨hc,e⟩
    · exact (ky hc he).elim
    · rw [if_neg (by omega),if_neg (by omega),Ow]; rfl
    · exact (ky hc (mQ he)).elim
  | x :: p,s,hp => by
    have h := hp x (by simp)
    rw [List.cons_append,cT]
    rcases pN x f with ⟨hc,e⟩ | ⟨hc,e⟩ | ⟨hc,e⟩
    · rw [if_pos (by omega),GE f q he p s (fun g hg => hp g (by simp [hg]))]
      rfl
    · exact (ky h hc).elim
    · exact (xd h hc).elim
theorem mK {T : Type} (p s : List T) (x z : T) : (p ++ x :: s).getD p.length z = x := by
  rw [List.getD_eq_getElem?_getD,List.getElem?_append_right (Nat.le_refl _)]
  simp
theorem Lo {T : Type} (z : T) (p s : List T) : jD z (p ++ s) 0 p.length = p := by
  rw [rM (by simp)]
  simp
theorem MF {T : Type} (z : T) (p s : List T) : jD z (p ++ s) p.length s.length = s := by
  rw [rM (by simp)]
  simp
theorem Qp : ∀ {p : List aa} {q : aa} {s : List aa},xP (p ++ q :: s) → ∀ g ∈ p,ez g q := by
  intro p q s h g hg
  unfold xP at h
  rw [List.pairwise_append] at h
  exact h.2.2 g hg q (by simp)
theorem P6 (a b out : List aa) (i : Int) (f : aa) (hf : bN f = true) (vo : kM out) (ho : xP out) (hn : out.length ≤ 900000) :
    uj a b out i (out.length : Int) f = some (.inl (cT out [f],ak (i + 1))) := by
  show (aN (l8 a b out i (out.length : Int) f) (out,i,(out.length : Int))).bind _ = _
  rw [Jy a b out out i i (out.length : Int) f hf vo (by omega) out.length (Nat.le_refl _),Option.bind_some]
  show py a b out i (An out f out.length : Int) f = _
  have hle := Us out f out.length
  have habove := KP out f out.length
  have hat := SX out f out.length
  generalize An out f out.length = k at hle habove hat
  obtain ⟨p,s,hps,hp⟩ : ∃ p s,out = p ++ s ∧ p.length = k := ⟨out.take k,out.drop k,(List.take_append_drop k out).symm,by rw [List.length_take]; omega⟩
  have hs : ∀ g ∈ s,ez f g := by
    intro g hg
    obtain ⟨j,hj⟩ := List.getElem?_of_mem hg
    have hjl := (List.getElem?_eq_some_iff.1 hj).1
    have := habove (k + j) (by omega) (by rw [hps,List.length_append]; omega)
    rw [hps,List.getD_eq_getElem?_getD,List.getElem?_append_right (by omega),hp,Nat.add_sub_cancel_left,hj] at this
    exact this
  have ins : (∀ g ∈ p,ez g f) → (gd ((0 : Int) ≤ (0 : Int) ∧ (0 : Int) ≤ (k : Int) ∧ (k : Int) ≤ ((out.length : Nat) : Int)) (gd (cL (Int.toNat ((k : Int) - (0 : Int))) 112) (gd (cL ((Int.toNat ((k : Int) - (0 : Int))) + 1) 112) (gd ((0 : Int) ≤ (k : Int) ∧ (k : Int) ≤ ((out.length : Nat) : Int) ∧ ((out.length : Nat) : Int) ≤ ((out.length : Nat) : Int)) (gd (cL (((Int.toNat ((k : Int) - (0 : Int))) + 1) + (Int.toNat (((out.length : Nat) : Int) - (k : Int)))) 112) ((kz a b (((jD aw out 0 (Int.toNat ((k : Int) - (0 : Int)))) ++ ([f] : List aa)) ++ (jD aw out (0 + (Int.toNat (k : Int))) (Int.toNat (((out.length : Nat) : Int) - (k : Int))))) i)))))) : Option (((List aa) × Int) ⊕ (((List aa))))) = some (.inl (cT out [f],ak (i + 1))) := by
    intro hlt
    have e1 : Int.toNat ((k : Int) - 0) = k := by omega
    have e2 : Int.toNat (((out.length : Nat) : Int) - (k : Int)) = s.length := by rw [hps,List.length_append]; omega
    rw [e1,e2,Nat.zero_add,Int.toNat_natCast]
    have hl : k + s.length = out.length := by rw [hps,List.length_append,hp]
    rw [an (by omega),an (lL (by omega)),an (lL (by omega)),an (by omega),an (lL (by omega))]
    rw [hps, ← hp,Lo,MF,DK f p s hlt hs]
    show some _ = _
    simp
  unfold py
  cases k with
  | zero =>
    have hp0 : p = [] := List.eq_nil_of_length_eq_zero hp
    rw [show ((0 : Nat) : Int) = 0 from rfl] at ins ⊢
    rw [show decide ((0 : Int) < 0) = false from rfl,an (by intro h; simp at h),an (by intro h; simp at h),an (by intro h; simp at h)]
    simp only [cond_false]
    exact ins (by rw [hp0]; simp)
  | succ n =>
    obtain ⟨p',q,hq⟩ : ∃ p' q,p = p' ++ [q] := ⟨p.dropLast,p.getLast (by intro e; rw [e] at hp; simp at hp),(List.dropLast_concat_getLast _).symm⟩
    have hp' : p'.length = n := by rw [hq] at hp; simpa using hp
    have hout : out = p' ++ q :: s := by rw [hps,hq]; simp
    have hget : out.getD n aw = q := by rw [hout, ← hp']; exact mK p' s q aw
    have hvq : bN q = true := vo q (by rw [hout]; simp)
    have hnot : ¬ ez f q := by
      have := hat (by omega)
      rw [Nat.add_sub_cancel,hget] at this
      exact this
    have hbef : ∀ g ∈ p',ez g q := Qp (hout ▸ ho)
    have e : ak (((n + 1 : Nat) : Int) - 1) = (n : Int) := by rw [FJ (by omega) (by omega)]; omega
    have hd : decide ((0 : Int) < ((n + 1 : Nat) : Int)) = true := by simp
    have hlen : n < out.length := by omega
    rw [e,hd,Nat.zero_add,Int.toNat_natCast,hget,zM hvq hf,an (by intro _; omega),an (by intro _; omega),an (by intro _; rfl)]
    simp only [cond_true,Option.getD_some]
    by_cases hz : jo q f
    · rw [(HL q f).2 hz,show ((0 : Int) == 0) = true from rfl,cond_true,an (by omega),LC hvq hf hz,Option.bind_some,an (by omega)]
      have hms : cT out [f] = p' ++ gB q f :: s := by
        rw [hout]
        exact GE f q hz p' s fun g hg => aay (hbef g hg) hz
      rw [hms]
      by_cases hl : jK q f
      · simp only [hl,decide_true,cond_true]
        have : out.set n f = p' ++ f :: s := by
          rw [hout, ← hp',List.set_append_right _ _ (Nat.le_refl _)]
          simp
        rw [this]
        show some _ = _
        unfold gB
        rw [if_pos hl]
      · simp only [hl,decide_false,cond_false]
        show some _ = _
        unfold gB
        rw [if_neg hl,hout]
    · have : (G4 q f == 0) = false := by
        have : G4 q f ≠ 0 := fun h => hz ((HL q f).1 h)
        simpa using this
      rw [this,cond_false]
      refine ins fun g hg => ?_
      have hqf : ez q f := by
        rcases pN q f with ⟨hc,_⟩ | ⟨hc,_⟩ | ⟨hc,_⟩
        · exact hc
        · exact (hz hc).elim
        · exact (hnot hc).elim
      rw [hq] at hg
      rcases List.mem_append.1 hg with hg | hg
      · exact Ch (hbef g hg) hqf
      · simp at hg; subst hg; exact hqf
theorem Jp (a b out : List aa) (i : Int) (f : aa) (vo : kM out) (ho : xP out) (hn : out.length ≤ 900000) :
    mt a b out i f = some (.inl (if bN f then cT out [f] else out,ak (i + 1))) := by
  unfold mt
  rw [l9,Option.bind_some]
  cases hv : bN f with
  | false => rfl
  | true =>
    simp only [Bool.not_true,cond_false,if_true]
    exact P6 a b out i f hv vo ho hn
theorem KI (a b : List aa) (ha : a.length ≤ 400000) (hb : b.length ≤ 400000) : lR a b = some (kf (a ++ b)) := by
  show (aN (mz a b) ([],(0 : Int))).bind _ = _
  have hlen : ak (((a.length : Nat) : Int) + ((b.length : Nat) : Int)) = (((a ++ b).length : Nat) : Int) := by rw [FJ (by omega) (by omega),List.length_append]; omega
  have key : ∀ (n i : Nat),(a ++ b).length = i + n → aN (mz a b) (kf ((a ++ b).take i),(i : Int)) = some (kf (a ++ b)) := by
    intro n
    induction n with
    | zero =>
      intro i h
      have : i = (a ++ b).length := by omega
      subst this
      rw [aV]
      show (kJ a b _ _).bind _ = _
      unfold kJ
      rw [hlen,bH,cond_false,List.take_length]
      rfl
    | succ n ih =>
      intro i h
      have hi : i < (a ++ b).length := by omega
      have hil : (a ++ b).length = a.length + b.length := List.length_append
      have ht : (a ++ b).take (i + 1) = (a ++ b).take i ++ [(a ++ b)[i]] := by rw [List.take_add_one,List.getElem?_eq_getElem hi]; rfl
      have ih' := ih (i + 1) (by omega)
      rw [ht,KQ] at ih'
      have hl2 : (kf ((a ++ b).take i)).length ≤ 900000 := Nat.le_trans (od _) (by rw [List.length_take]; omega)
      have hm := uv ((a ++ b).take i)
      rw [aV]
      show (kJ a b _ _).bind _ = _
      unfold kJ ue ul
      rw [hlen,cG hi,cond_true]
      by_cases hia : i < a.length
      · rw [cG hia,cond_true,an (bI hia),cM a _ i hia,Jp a b _ _ _ hm.valids hm.asc hl2,Option.bind_some,ca (by omega)]
        rw [List.getElem_append_left hia] at ih'
        exact ih'
      · have e : decide ((i : Int) < (a.length : Int)) = false := by simp; omega
        have ew : ak ((i : Int) - ((a.length : Nat) : Int)) = ((i - a.length : Nat) : Int) := by rw [FJ (by omega) (by omega)]; omega
        have hib : i - a.length < b.length := by omega
        rw [e,cond_false,ew,an (bI hib),cM b _ _ hib,Jp a b _ _ _ hm.valids hm.asc hl2,Option.bind_some,ca (by omega)]
        rw [List.getElem_append_right (by omega)] at ih'
        exact ih'
  have := key (a ++ b).length 0 (by omega)
  rw [show ((0 : Nat) : Int) = 0 from rfl] at this
  rw [show ([] : List aa) = kf ((a ++ b).take 0) from rfl,this]
  rfl
theorem IO (a b : List aa) : dA a b = kf (a ++ b) := (KE a b).uniq (uv (a ++ b)) fun _ => Iff.rfl
end
end Go.Ax
