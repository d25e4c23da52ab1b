import Derived.Test.YtkijjjdaijjpaaaGreatL119v
set_option linter.all false
/- The survivors do not depend on the order and the repetition of facts. -/
set_option maxRecDepth 100000
namespace Go.Ax
open Go.Proofs

theorem Same_Heir_self (a : List GHeir) (hn : a.length ≤ 1000) : plain_Same_api_Heir a a = some true := by
  have key : ∀ n i : Nat, a.length = i + n → fixL (plain_Same_api_Heir_l1 a a) (i : Int) = some (.inr ()) := by
    intro n
    induction n with
    | zero =>
      intro i h
      have : i = a.length := by omega
      subst this
      rw [fixL_eq]
      show (plain_Same_api_Heir_p0 a a ((a.length : Nat) : Int)).bind _ = _
      unfold plain_Same_api_Heir_p0
      rw [not_lt_len, cond_false]
      rfl
    | succ n ih =>
      intro i h
      have hi : i < a.length := by omega
      rw [fixL_eq]
      show (plain_Same_api_Heir_p0 a a (i : Int)).bind _ = _
      unfold plain_Same_api_Heir_p0
      rw [lt_len hi, cond_true, gd_pos (idx_ok hi), gd_pos (idx_ok hi), beq_self_eq_true, beq_self_eq_true, beq_self_eq_true, w64_succ (by omega)]
      exact ih (i + 1) (by omega)
  have := key a.length 0 (by omega)
  show plain_Same_api_Heir_p3 a a = _
  unfold plain_Same_api_Heir_p3
  rw [bne_self_eq_false, cond_false]
  show (fixL (plain_Same_api_Heir_l1 a a) (0 : Int)).bind _ = _
  rw [show ((0 : Nat) : Int) = 0 from rfl] at this
  rw [this]
  rfl
theorem survL_len (l : List GFact) (person day : Int) : (survL l person day).length ≤ 12 := by
  unfold survL
  cases (bif (bif (bif decide (person < 1) then true else decide (99 < person)) then true else decide (day < 0)) then true else decide (73048 < day)) with
  | true => simp
  | false =>
    rw [cond_false]
    cases (bif !(firstL (ofL l person) 12).2 then true else decide (day ≤ (firstL (ofL l person) 12).1)) with
    | true => simp
    | false => rw [cond_false, List.length_take]; omega
theorem merge_members {f g : List GFact} (h : ∀ x, x ∈ f ↔ x ∈ g) : careerMerge f [] = careerMerge g [] :=
  (careerMerge_ok f []).uniq (careerMerge_ok g []) fun x => Top_congr (fun y => by simp only [List.append_nil]; exact h y) x
theorem law_ConversionSurvivorsIgnoreOrder (n : List Int) (l : List GHand) (person day by_ : Int) (hn : n.length ≤ maxLen) : law22_ConversionSurvivorsIgnoreOrder n l person day by_ = some true := by
  have hmax : maxLen ≤ 9223372036854775807 := by decide
  obtain ⟨a, a1, a2, _⟩ := hand_Lives_some n (Nat.le_trans hn hmax)
  obtain ⟨b, b1, b2, _⟩ := hand_Facts_some l
  show law22_ConversionSurvivorsIgnoreOrder_p1 n l person day by_ = _
  unfold law22_ConversionSurvivorsIgnoreOrder_p1
  have hm := Int.emod_nonneg by_ (show (((a.length + b.length : Nat)) : Int) ≠ 0 by omega)
  have hm2 := Int.emod_lt_of_pos by_ (show (0 : Int) < (((a.length + b.length : Nat)) : Int) by omega)
  rw [a1, Option.bind_some, b1, Option.bind_some, gd_pos (capF (by omega)), plain_Mod_eq by_ _ (by omega) (by omega), Option.bind_some]
  generalize hk : by_ % (((a.length + b.length : Nat)) : Int) = k at hm hm2
  have hf : (a ++ b).length = a.length + b.length := List.length_append
  rw [← hf] at hm2
  have hlen : (a ++ b).length ≤ 27 := by omega
  generalize a ++ b = f at hm2 hlen
  obtain ⟨j, rfl⟩ := Int.eq_ofNat_of_zero_le hm
  have hj : j < f.length := by omega
  unfold law22_ConversionSurvivorsIgnoreOrder_p0
  have e1 : Int.toNat (((f.length : Nat) : Int) - (j : Int)) = f.length - j := by omega
  have e2 : Int.toNat ((j : Int) - 0) = j := by omega
  have e3 : subL zGFact f j (f.length - j) = f.drop j := by rw [subL_take (by omega), List.take_of_length_le (by rw [List.length_drop]; omega)]
  have e4 : subL zGFact f 0 j = f.take j := by rw [subL_take (by omega), List.drop_zero]
  have e5 : f.getD j zGFact = f[j] := by rw [List.getD_eq_getElem?_getD, List.getElem?_eq_getElem hj]; rfl
  rw [e1, e2, Nat.zero_add, Int.toNat_natCast, e3, e4, e5, gd_pos (by omega), gd_pos (capF (by omega)), gd_pos (by omega), gd_pos (capF (by omega)), gd_pos (by omega), gd_pos (capF (by omega)), plain_Mod_eq person 4 (by omega) (by omega), Option.bind_some, plain_Mod_eq day 5000 (by omega) (by omega), Option.bind_some, law22_awake_eq, Option.bind_some, cond_true]
  have hg : ((f.drop j ++ f.take j) ++ [f[j]]).length ≤ 100 := by
    rw [List.length_append, List.length_append, List.length_drop, List.length_take]
    simp only [List.length_cons, List.length_nil]
    omega
  have hmem : ∀ x, x ∈ f ↔ x ∈ (f.drop j ++ f.take j) ++ [f[j]] := by
    intro x
    constructor
    · intro hx
      rw [← List.take_append_drop j f] at hx
      rcases List.mem_append.1 hx with hx | hx
      · exact List.mem_append.2 (.inl (List.mem_append.2 (.inr hx)))
      · exact List.mem_append.2 (.inl (List.mem_append.2 (.inl hx)))
    · intro hx
      rcases List.mem_append.1 hx with hx | hx
      · rcases List.mem_append.1 hx with hx | hx
        · exact List.mem_of_mem_drop hx
        · exact List.mem_of_mem_take hx
      · rw [List.mem_singleton.1 hx]; exact List.getElem_mem hj
  rw [conversion_Survivors_eq f _ _ (by omega), Option.bind_some, conversion_Survivors_eq _ _ _ (by omega), Option.bind_some, ← merge_members hmem, Same_Heir_self _ (by have := survL_len ((careerMerge f []).filter curB) (w64 (1 + person % 4)) (w64 (35000 + day % 5000)); omega)]
  rfl
end Go.Ax
