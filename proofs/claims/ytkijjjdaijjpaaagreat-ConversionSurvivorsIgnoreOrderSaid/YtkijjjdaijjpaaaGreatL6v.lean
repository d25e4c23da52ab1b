import Derived.Test.YtkijjjdaijjpaaaGreatL5v
set_option linter.all false
/- Facts that have the same bytes are the same; the order of facts of one identity. -/
set_option maxRecDepth 100000
namespace Go.Ax
open Go.Proofs

theorem flatMap_inj {T : Type} {p q : Nat → List T} : ∀ {u : List Nat}, (∀ c ∈ u, (p c).length = (q c).length) → u.flatMap p = u.flatMap q → ∀ c ∈ u, p c = q c
  | [], _, _, c, hc => by simp at hc
  | d :: u, hl, h, c, hc => by
    rw [List.flatMap_cons, List.flatMap_cons] at h
    obtain ⟨h1, h2⟩ := List.append_inj h (hl d (by simp))
    rcases List.mem_cons.1 hc with rfl | hc
    · exact h1
    · exact flatMap_inj (fun c hc => hl c (by simp [hc])) h2 c hc
theorem letterF_len (f g : GFact) (c : Nat) : (letterF f c).length = (letterF g c).length := by
  unfold letterF
  repeat' split
  all_goals simp [bigL_length]
theorem headF_len (f : GFact) : (headF f).length = 7 := by simp [headF, bigL_length]
theorem valid_kind {f : GFact} (h : validB f = true) : 1 ≤ f.Kind ∧ f.Kind ≤ 14 := by
  have h1 := ((validB_iff f).1 h).1
  by_cases hk : 1 ≤ f.Kind ∧ f.Kind ≤ 14
  · exact hk
  · rw [usesN_out hk] at h1; simp at h1
theorem uses_span {k : Int} (h : 1 ≤ k ∧ k ≤ 14) : 80 ∈ usesN k := by
  obtain rfl | rfl | rfl | rfl | rfl | rfl | rfl | rfl | rfl | rfl | rfl | rfl | rfl | rfl := kinds h.1 h.2 <;> decide

theorem head_inj {f g : GFact} (hf : validB f = true) (hg : validB g = true) (h : headF f = headF g) :
    f.Issuer = g.Issuer ∧ f.Number = g.Number ∧ f.Version = g.Version ∧ f.Withdrawn = g.Withdrawn ∧ f.Person = g.Person ∧ f.Kind = g.Kind := by
  obtain ⟨_, f1, f2, f3, f4, _⟩ := (validB_iff f).1 hf
  obtain ⟨_, g1, g2, g3, g4, _⟩ := (validB_iff g).1 hg
  have fk := valid_kind hf
  have gk := valid_kind hg
  unfold headF at h
  obtain ⟨h, k6⟩ := List.append_inj h (by simp [bigL_length])
  obtain ⟨h, k5⟩ := List.append_inj h (by simp [bigL_length])
  obtain ⟨h, k4⟩ := List.append_inj h (by simp [bigL_length])
  obtain ⟨h, k3⟩ := List.append_inj h (by simp [bigL_length])
  obtain ⟨k1, k2⟩ := List.append_inj h (by simp [bigL_length])
  refine ⟨big1_inj (by omega) (by omega) k1, big2_inj (by omega) (by omega) k2, big1_inj (by omega) (by omega) k3, ?_, big1_inj (by omega) (by omega) k5, big1_inj (by omega) (by omega) k6⟩
  have := big1_inj (by split <;> omega) (by split <;> omega) k4
  cases hw : f.Withdrawn <;> cases hw' : g.Withdrawn <;> simp [hw, hw'] at this ⊢

theorem bytesF_inj {f g : GFact} (hf : validB f = true) (hg : validB g = true) (h : bytesF f = bytesF g) : f = g := by
  unfold bytesF at h
  rw [if_pos hf, if_pos hg] at h
  obtain ⟨h1, h2⟩ := List.append_inj h (by rw [headF_len, headF_len])
  obtain ⟨e1, e2, e3, e4, e5, e6⟩ := head_inj hf hg h1
  rw [← e6] at h2
  have hl := flatMap_inj (fun c _ => letterF_len f g c) h2
  obtain ⟨_, _, _, _, _, fS, fT, fp, fH, fC, fA, fR, _⟩ := (validB_iff f).1 hf
  obtain ⟨_, _, _, _, _, gS, gT, gp, gH, gC, gA, gR, _⟩ := (validB_iff g).1 hg
  rw [← e6] at gS gT gH gC gA gR
  have fS' := fieldB_range fS (by omega) (by omega) (by omega)
  have gS' := fieldB_range gS (by omega) (by omega) (by omega)
  have fT' := fieldB_range fT (by omega) (by omega) (by omega)
  have gT' := fieldB_range gT (by omega) (by omega) (by omega)
  have fH' := fieldB_range fH (by omega) (by omega) (by omega)
  have gH' := fieldB_range gH (by omega) (by omega) (by omega)
  have fC' := fieldB_range fC (by omega) (by omega) (by omega)
  have gC' := fieldB_range gC (by omega) (by omega) (by omega)
  have fA' := fieldB_range fA (by omega) (by omega) (by omega)
  have gA' := fieldB_range gA (by omega) (by omega) (by omega)
  have fR' := fieldB_range fR (by omega) (by omega) (by omega)
  have gR' := fieldB_range gR (by omega) (by omega) (by omega)
  have hm : ∀ c, hasB f.Kind c = true → letterF f c = letterF g c := fun c hc => hl c (by unfold hasB at hc; simpa using hc)
  have pS : f.State = g.State := by
    cases hc : hasB f.Kind 83 with
    | true => exact big1_inj (by omega) (by omega) (hm 83 hc)
    | false => rw [fS'.2.2 hc, gS'.2.2 hc]
  have pT : f.Seat = g.Seat := by
    cases hc : hasB f.Kind 84 with
    | true => exact big1_inj (by omega) (by omega) (hm 84 hc)
    | false => rw [fT'.2.2 hc, gT'.2.2 hc]
  have pH : f.Share = g.Share := by
    cases hc : hasB f.Kind 72 with
    | true => exact big1_inj (by omega) (by omega) (hm 72 hc)
    | false => rw [fH'.2.2 hc, gH'.2.2 hc]
  have pC : f.Currency = g.Currency := by
    cases hc : hasB f.Kind 67 with
    | true => exact big2_inj (by omega) (by omega) (hm 67 hc)
    | false => rw [fC'.2.2 hc, gC'.2.2 hc]
  have pA : f.Amount = g.Amount := by
    cases hc : hasB f.Kind 65 with
    | true => exact big4_inj (by omega) (by omega) (hm 65 hc)
    | false => rw [fA'.2.2 hc, gA'.2.2 hc]
  have pR : f.Ref = g.Ref := by
    cases hc : hasB f.Kind 82 with
    | true => exact big1_inj (by omega) (by omega) (hm 82 hc)
    | false => rw [fR'.2.2 hc, gR'.2.2 hc]
  have hspan : letterF f 80 = letterF g 80 := hl 80 (uses_span (valid_kind hf))
  have hs : bigL f.Span.From 3 ++ bigL f.Span.To 3 = bigL g.Span.From 3 ++ bigL g.Span.To 3 := hspan
  obtain ⟨s1, s2⟩ := List.append_inj hs (by simp [bigL_length])
  have q1 := big3_inj (by omega) (by omega) s1
  have q2 := big3_inj (by omega) (by omega) s2
  obtain ⟨a1, a2, a3, a4, a5, a6, a7, ⟨a8, a9⟩, a10, a11, a12, a13, a14⟩ := f
  obtain ⟨b1, b2, b3, b4, b5, b6, b7, ⟨b8, b9⟩, b10, b11, b12, b13, b14⟩ := g
  simp only at e1 e2 e3 e4 e5 e6 pS pT pH pC pA pR q1 q2
  subst e1 e2 e3 e4 e5 e6 pS pT pH pC pA pR q1 q2
  rfl

/-! ### Identity -/
def cmpI (a b : GFact) : Int := if a.Issuer < b.Issuer then -1 else if b.Issuer < a.Issuer then 1 else if a.Number < b.Number then -1 else if b.Number < a.Number then 1 else 0
def idlt (a b : GFact) : Prop := a.Issuer < b.Issuer ∨ (a.Issuer = b.Issuer ∧ a.Number < b.Number)
def ideq (a b : GFact) : Prop := a.Issuer = b.Issuer ∧ a.Number = b.Number
theorem cmpI_cases (a b : GFact) : (idlt a b ∧ cmpI a b = -1) ∨ (ideq a b ∧ cmpI a b = 0) ∨ (idlt b a ∧ cmpI a b = 1) := by
  unfold cmpI idlt ideq
  by_cases h1 : a.Issuer < b.Issuer
  · left; simp [h1]
  by_cases h2 : b.Issuer < a.Issuer
  · right; right; simp [h1, h2]
  by_cases h3 : a.Number < b.Number
  · left; simp [h1, h2, h3]; omega
  by_cases h4 : b.Number < a.Number
  · right; right; simp [h1, h2, h3, h4]; omega
  · right; left; simp [h1, h2, h3, h4]; omega
theorem idlt_trans {a b c : GFact} (h : idlt a b) (h' : idlt b c) : idlt a c := by unfold idlt at *; omega
theorem idlt_irrefl (a : GFact) : ¬ idlt a a := by unfold idlt; omega
theorem idlt_not_eq {a b : GFact} (h : idlt a b) : ¬ ideq a b := by unfold idlt ideq at *; omega
theorem idlt_asymm {a b : GFact} (h : idlt a b) : ¬ idlt b a := by unfold idlt at *; omega
theorem idlt_eq {a b c : GFact} (h : idlt a b) (h' : ideq b c) : idlt a c := by unfold idlt ideq at *; omega
theorem ideq_lt {a b c : GFact} (h : ideq a b) (h' : idlt b c) : idlt a c := by unfold idlt ideq at *; omega
theorem ideq_symm {a b : GFact} (h : ideq a b) : ideq b a := ⟨h.1.symm, h.2.symm⟩
theorem ideq_trans {a b c : GFact} (h : ideq a b) (h' : ideq b c) : ideq a c := ⟨h.1.trans h'.1, h.2.trans h'.2⟩
theorem ideq_refl (a : GFact) : ideq a a := ⟨rfl, rfl⟩

theorem cmp_Compare_eq (x y : Int) : cmp_Compare_int x y = some (if x < y then -1 else if y < x then 1 else 0) := by
  show cmp_Compare_int_p0 x y = _
  unfold cmp_Compare_int_p0
  have e : ∀ z : Int, cmp_isNaN_int z = some false := fun z => by show some (z != z) = _; simp
  rw [e, e]
  simp only [Option.bind_some, cond_false]
  by_cases h : x < y
  · simp [h]
  · by_cases h' : y < x
    · simp [h, h']
    · simp [h, h']
theorem cmp_Or_eq (x y : Int) : cmp_Or_int [x, y] = some (if x ≠ 0 then x else y) := by
  show (fixL (cmp_Or_int_l1 [x, y]) (0 : Int)).bind _ = _
  rw [fixL_eq]
  show ((cmp_Or_int_p0 [x, y] 0).bind _).bind _ = _
  have s0 : cmp_Or_int_p0 [x, y] 0 = if x ≠ 0 then some (.inr (.inl x)) else some (.inl 1) := by
    unfold cmp_Or_int_p0
    rw [show decide ((0 : Int) < (([x, y].length : Nat) : Int)) = true from rfl, cond_true, gd_pos (by simp)]
    show (bif x != 0 then _ else _) = _
    by_cases h : x = 0
    · subst h; rfl
    · have : (x != 0) = true := by simpa using h
      rw [this, if_pos h]; rfl
  rw [s0]
  by_cases h : x = 0
  · rw [if_neg (by simpa using h), if_neg (by simpa using h), Option.bind_some]
    simp only
    rw [fixL_eq]
    show ((cmp_Or_int_p0 [x, y] 1).bind _).bind _ = _
    have s1 : cmp_Or_int_p0 [x, y] 1 = if y ≠ 0 then some (.inr (.inl y)) else some (.inl 2) := by
      unfold cmp_Or_int_p0
      rw [show decide ((1 : Int) < (([x, y].length : Nat) : Int)) = true from rfl, cond_true, gd_pos (by simp)]
      show (bif y != 0 then _ else _) = _
      by_cases h : y = 0
      · subst h; rfl
      · have : (y != 0) = true := by simpa using h
        rw [this, if_pos h]; rfl
    rw [s1]
    by_cases h' : y = 0
    · rw [if_neg (by simpa using h'), Option.bind_some]
      simp only
      rw [fixL_eq]
      show ((cmp_Or_int_p0 [x, y] 2).bind _).bind _ = _
      have s2 : cmp_Or_int_p0 [x, y] 2 = some (.inr (.inr ())) := rfl
      rw [s2, h']
      rfl
    · rw [if_pos h']
      rfl
  · rw [if_pos h, if_pos h]
    rfl
theorem career_byIdentity_eq (a b : GFact) : career_byIdentity a b = some (cmpI a b) := by
  show career_byIdentity_p0 a b = _
  unfold career_byIdentity_p0
  rw [cmp_Compare_eq, Option.bind_some, cmp_Compare_eq, Option.bind_some, cmp_Or_eq, Option.bind_some]
  congr 1
  unfold cmpI
  by_cases h1 : a.Issuer < b.Issuer
  · simp [h1]
  · by_cases h2 : b.Issuer < a.Issuer
    · simp [h1, h2]
    · simp [h1, h2]

/-! ### Which of two facts is less -/
def lessF (a b : GFact) : Prop := ltB (bytesF a) (bytesF b)
noncomputable instance (a b : GFact) : Decidable (lessF a b) := Classical.propDecidable _
theorem lessF_irrefl (a : GFact) : ¬ lessF a a := ltB_irrefl _
theorem lessF_trans {a b c : GFact} (h : lessF a b) (h' : lessF b c) : lessF a c := ltB_trans h h'
theorem lessF_total {a b : GFact} (ha : validB a = true) (hb : validB b = true) : lessF a b ∨ a = b ∨ lessF b a := by
  rcases ltB_total (bytesF a) (bytesF b) with h | h | h
  · exact .inl h
  · exact .inr (.inl (bytesF_inj ha hb h))
  · exact .inr (.inr h)
theorem fact_Less_eq {a b : GFact} (ha : validB a = true) (hb : validB b = true) : fact_Less a b = some (decide (lessF a b)) := by
  show fact_Less_p0 a b = _
  unfold fact_Less_p0
  rw [fact_Valid_eq, Option.bind_some, fact_Valid_eq b, ha, hb, gd_pos (by intro _; rfl)]
  simp only [Bool.not_true, Option.getD_some, cond_false]
  rw [fact_Bytes_eq, Option.bind_some, fact_Bytes_eq, Option.bind_some]
  have e : bytes_Compare (bytesF a) (bytesF b) = some (compareL (bytesF a) (bytesF b)) := rfl
  rw [e, Option.bind_some]
  congr 1
  have := compare_lt (bytesF a) (bytesF b) (bytesF_byte a) (bytesF_byte b)
  rw [decide_eq_decide]
  exact this
noncomputable def greaterF (a b : GFact) : GFact := if lessF a b then b else a
theorem career_greater_eq {a b : GFact} (ha : validB a = true) (hb : validB b = true) : career_greater a b = some (greaterF a b) := by
  show career_greater_p0 a b = _
  unfold career_greater_p0 greaterF
  rw [fact_Less_eq ha hb, Option.bind_some]
  by_cases h : lessF a b
  · simp [h]
  · simp [h]
end Go.Ax
