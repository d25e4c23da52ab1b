import Derived.Test.YtkijjjdaijjpaaaGreatL7v
set_option linter.all false
/- What the printed functions over lists of facts compute. -/
set_option maxRecDepth 100000
namespace Go.Ax
open Go.Proofs

theorem toNat_pred (n : Nat) : Int.toNat (((n + 1 : Nat) : Int) - 1) = n := by omega
theorem subL_tail {T : Type} (z x : T) (a : List T) : subL z (x :: a) 1 (Int.toNat ((((x :: a).length : Nat) : Int) - (1 : Int))) = a := by
  rw [List.length_cons, toNat_pred, subL_take (by simp; omega)]
  simp
theorem mergeL_length : ∀ (a b : List GFact), (mergeL a b).length ≤ a.length + b.length
  | [], b => by rw [mergeL]; simp
  | x :: a, [] => by rw [mergeL]; simp
  | x :: a, y :: b => by
    have h1 := mergeL_length a (y :: b)
    have h2 := mergeL_length (x :: a) b
    have h3 := mergeL_length a b
    rw [mergeL]
    simp only [List.length_cons] at h1 h2 h3 ⊢
    split
    · simp only [List.length_cons]; omega
    · split
      · simp only [List.length_cons]; omega
      · simp only [List.length_cons]; omega
termination_by a b => a.length + b.length
theorem capF {n : Nat} (h : n ≤ 1000000) : capB n 112 := ⟨by omega, by omega⟩

theorem merge_loop (a0 b0 : List GFact) : ∀ (a b out : List GFact), Valids a → Valids b → out.length + a.length + b.length ≤ 1000000 →
    ∃ a' b' out', fixL (career_merge_api_Fact_byIdentity_greater_l1 a0 b0) (a, b, out) = some (a', b', out') ∧ out' ++ a' ++ b' = out ++ mergeL a b ∧ out'.length + a'.length + b'.length ≤ 1000000
  | [], b, out, _, _, hn => by
    refine ⟨[], b, out, ?_, by rw [mergeL]; simp, hn⟩
    rw [fixL_eq]
    rfl
  | x :: a, [], out, _, _, hn => by
    refine ⟨x :: a, [], out, ?_, by rw [mergeL]; simp, hn⟩
    rw [fixL_eq]
    show (career_merge_api_Fact_byIdentity_greater_p0 (x :: a) [] out).bind _ = _
    unfold career_merge_api_Fact_byIdentity_greater_p0
    have : (bif decide ((0 : Int) < (((x :: a).length : Nat) : Int)) then decide ((0 : Int) < (([] : List GFact).length : Nat)) else false) = false := by simp
    rw [this]
    rfl
  | x :: a, y :: b, out, va, vb, hn => by
    have vx := va x (by simp)
    have vy := vb y (by simp)
    have va' : Valids a := fun g hg => va g (by simp [hg])
    have vb' : Valids b := fun g hg => vb g (by simp [hg])
    have e1 : (bif decide ((0 : Int) < (((x :: a).length : Nat) : Int)) then decide ((0 : Int) < (((y :: b).length : Nat) : Int)) else false) = true := by simp
    have ga : (0 : Int) ≤ (0 : Int) ∧ (0 : Int) < (((x :: a).length : Nat) : Int) := by simp
    have gb : (0 : Int) ≤ (0 : Int) ∧ (0 : Int) < (((y :: b).length : Nat) : Int) := by simp
    have sa : (0 : Int) ≤ (1 : Int) ∧ (1 : Int) ≤ (((x :: a).length : Nat) : Int) ∧ (((x :: a).length : Nat) : Int) ≤ (((x :: a).length : Nat) : Int) := by simp; omega
    have sb : (0 : Int) ≤ (1 : Int) ∧ (1 : Int) ≤ (((y :: b).length : Nat) : Int) ∧ (((y :: b).length : Nat) : Int) ≤ (((y :: b).length : Nat) : Int) := by simp; omega
    simp only [List.length_cons] at hn
    have hcap : capB (out.length + 1) 112 := capF (by omega)
    have step : career_merge_api_Fact_byIdentity_greater_p0 (x :: a) (y :: b) out = some (.inl (if cmpI x y < 0 then (a, y :: b, out ++ [x]) else if 0 < cmpI x y then (x :: a, b, out ++ [y]) else (a, b, out ++ [greaterF x y]))) := by
      unfold career_merge_api_Fact_byIdentity_greater_p0
      rw [e1, cond_true, gd_pos ga, gd_pos gb]
      have g0 : (x :: a).getD 0 zGFact = x := rfl
      have g1 : (y :: b).getD 0 zGFact = y := rfl
      rw [g0, g1, career_byIdentity_eq, Option.bind_some, subL_tail, subL_tail, career_greater_eq vx vy, Option.bind_some]
      simp only [gd_pos ga, gd_pos gb, gd_pos hcap, gd_pos sa, gd_pos sb]
      by_cases h : cmpI x y < 0
      · simp [h]
      · by_cases h' : 0 < cmpI x y
        · simp [h, h']
        · simp [h, h']
    have unroll : fixL (career_merge_api_Fact_byIdentity_greater_l1 a0 b0) (x :: a, y :: b, out) = fixL (career_merge_api_Fact_byIdentity_greater_l1 a0 b0) (if cmpI x y < 0 then (a, y :: b, out ++ [x]) else if 0 < cmpI x y then (x :: a, b, out ++ [y]) else (a, b, out ++ [greaterF x y])) := by
      rw [fixL_eq]
      show (career_merge_api_Fact_byIdentity_greater_p0 (x :: a) (y :: b) out).bind _ = _
      rw [step]
      rfl
    rw [unroll, mergeL]
    by_cases h : cmpI x y < 0
    · rw [if_pos h, if_pos h]
      obtain ⟨a', b', o', h1, h2, h3⟩ := merge_loop a0 b0 a (y :: b) (out ++ [x]) va' vb (by simp; omega)
      exact ⟨a', b', o', h1, by rw [h2]; simp, h3⟩
    · rw [if_neg h, if_neg h]
      by_cases h' : 0 < cmpI x y
      · rw [if_pos h', if_pos h']
        obtain ⟨a', b', o', h1, h2, h3⟩ := merge_loop a0 b0 (x :: a) b (out ++ [y]) va vb' (by simp; omega)
        exact ⟨a', b', o', h1, by rw [h2]; simp, h3⟩
      · rw [if_neg h', if_neg h']
        obtain ⟨a', b', o', h1, h2, h3⟩ := merge_loop a0 b0 a b (out ++ [greaterF x y]) va' vb' (by simp; omega)
        exact ⟨a', b', o', h1, by rw [h2]; simp, h3⟩
termination_by a b => a.length + b.length

theorem career_merge_eq {a b : List GFact} (va : Valids a) (vb : Valids b) (hn : a.length + b.length ≤ 1000000) : career_merge_api_Fact_byIdentity_greater a b = some (mergeL a b) := by
  show (fixL (career_merge_api_Fact_byIdentity_greater_l1 a b) (a, b, [])).bind _ = _
  obtain ⟨a', b', o', h1, h2, h3⟩ := merge_loop a b a b [] va vb (by simpa using hn)
  rw [h1, Option.bind_some]
  show gd (capB (o'.length + a'.length) 112) _ = _
  rw [gd_pos (capF (by omega)), gd_pos (capF (by omega)), h2]
  simp

theorem ascL_snoc (l : List GFact) (f : GFact) : ascL (l ++ [f]) = if validB f then mergeL (ascL l) [f] else ascL l := by
  unfold ascL
  rw [List.foldl_append]
  rfl
theorem ascL_length (l : List GFact) : (ascL l).length ≤ l.length := by
  have key : ∀ (l out : List GFact), (l.foldl (fun out f => if validB f then mergeL out [f] else out) out).length ≤ out.length + l.length := by
    intro l
    induction l with
    | nil => intro out; simp
    | cons f l ih =>
      intro out
      rw [List.foldl_cons]
      refine Nat.le_trans (ih _) ?_
      split
      · have := mergeL_length out [f]
        simp only [List.length_cons, List.length_nil] at this ⊢; omega
      · simp only [List.length_cons]; omega
  have := key l []
  simpa [ascL] using this
theorem career_ascending_eq (l : List GFact) (hn : l.length ≤ 400000) : career_ascending l = some (ascL l) := by
  show (fixL (career_ascending_l1 l) ([], (0 : Int))).bind _ = _
  have key : ∀ (n i : Nat), l.length = i + n → fixL (career_ascending_l1 l) (ascL (l.take i), (i : Int)) = some (ascL l) := by
    intro n
    induction n with
    | zero =>
      intro i h
      have : i = l.length := by omega
      subst this
      rw [fixL_eq]
      show (career_ascending_p0 (ascL (l.take l.length)) l (l.length : Int)).bind _ = _
      unfold career_ascending_p0
      rw [not_lt_len, cond_false, List.take_length]
      rfl
    | succ n ih =>
      intro i h
      have hi : i < l.length := by omega
      rw [fixL_eq]
      show (career_ascending_p0 (ascL (l.take i)) l (i : Int)).bind _ = _
      unfold career_ascending_p0
      rw [lt_len hi, cond_true, gd_pos (idx_ok hi), getD_nat l _ i hi, fact_Valid_eq, Option.bind_some, w64_succ (by omega)]
      have ht : l.take (i + 1) = l.take i ++ [l[i]] := by rw [List.take_add_one, List.getElem?_eq_getElem hi]; rfl
      have ih' := ih (i + 1) (by omega)
      rw [ht, ascL_snoc] at ih'
      have hlen : (ascL (l.take i)).length ≤ i := Nat.le_trans (ascL_length _) (by rw [List.length_take]; omega)
      cases hv : validB l[i] with
      | false =>
        rw [hv] at ih'
        simpa using ih'
      | true =>
        rw [hv, if_pos rfl] at ih'
        rw [cond_true, career_merge_eq (ascL_ok _).valids (fun g hg => by simp at hg; subst hg; exact hv) (by simp; omega)]
        exact ih'
  have := key l.length 0 (by omega)
  rw [show ((0 : Nat) : Int) = 0 from rfl] at this
  rw [show ([] : List GFact) = ascL (l.take 0) from rfl, this]
  rfl
theorem career_Merge_eq (a b : List GFact) (ha : a.length ≤ 400000) (hb : b.length ≤ 400000) : career_Merge a b = some (careerMerge a b) := by
  show career_Merge_p0 a b = _
  unfold career_Merge_p0
  rw [career_ascending_eq a ha, Option.bind_some, career_ascending_eq b hb, Option.bind_some]
  have h1 := ascL_length a
  have h2 := ascL_length b
  rw [career_merge_eq (ascL_ok a).valids (ascL_ok b).valids (by omega)]
  rfl
theorem careerMerge_length (a b : List GFact) : (careerMerge a b).length ≤ a.length + b.length := by
  have := mergeL_length (ascL a) (ascL b)
  have h1 := ascL_length a
  have h2 := ascL_length b
  unfold careerMerge
  omega

/-! ### The other text -/
def idv (a b : GFact) : Int := if a.Issuer ≠ b.Issuer then a.Issuer - b.Issuer else a.Number - b.Number
theorem valid_ids {f : GFact} (h : validB f = true) : (0 ≤ f.Issuer ∧ f.Issuer ≤ 5) ∧ (1 ≤ f.Number ∧ f.Number ≤ 999) ∧ (1 ≤ f.Version ∧ f.Version ≤ 99) ∧ (1 ≤ f.Person ∧ f.Person ≤ 99) := by
  obtain ⟨_, h1, h2, h3, h4, _⟩ := (validB_iff f).1 h
  exact ⟨h1, h2, h3, h4⟩
theorem idv_pos (a b : GFact) : 0 < idv a b ↔ idlt b a := by
  unfold idv idlt
  split <;> omega
theorem idv_zero (a b : GFact) : idv a b = 0 ↔ ideq a b := by
  unfold idv ideq
  split <;> omega
theorem idv_neg (a b : GFact) : idv a b < 0 ↔ idlt a b := by
  unfold idv idlt
  split <;> omega
end Go.Ax
