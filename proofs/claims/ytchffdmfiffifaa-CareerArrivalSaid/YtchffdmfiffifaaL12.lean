import Derived.Test.YtchffdmfiffifaaL11
set_option linter.all false
/- Facts that arrive one by one. -/
set_option maxRecDepth 100000
namespace Go.Ax
open Go.Proofs

theorem Top_sub {S S' : List GFact} (h : ∀ f, f ∈ S ↔ f ∈ S') : ∀ f, Top S f ↔ Top S' f := Top_congr h

theorem arrival_first (order : List Int) (a : List GFact) (na : 0 < a.length) (na' : a.length ≤ 14) (no : order.length ≤ 60) : ∀ (n i : Nat) (have_ S : List GFact), order.length = i + n → IsMerge S have_ → (∀ f ∈ S, f ∈ a) → have_.length ≤ i →
    ∃ h' S', fixL (law13_CareerArrival_l1 order a) (have_, (i : Int)) = some h' ∧ IsMerge S' h' ∧ (∀ f ∈ S', f ∈ a) ∧ h'.length ≤ 60
  | 0, i, hv, S, h, hm, hs, hl => by
    have : i = order.length := by omega
    subst this
    refine ⟨hv, S, ?_, hm, hs, by omega⟩
    rw [fixL_eq]
    show (law13_CareerArrival_p0 order a hv (order.length : Int)).bind _ = _
    unfold law13_CareerArrival_p0
    rw [not_lt_len]
    rfl
  | n + 1, i, hv, S, h, hm, hs, hl => by
    have hi : i < order.length := by omega
    have hp := hm' order[i] na
    obtain ⟨k, hk, hka⟩ : ∃ k : Nat, order[i] % (a.length : Int) = (k : Int) ∧ k < a.length := ⟨(order[i] % (a.length : Int)).toNat, by omega, by omega⟩
    have hd : decide ((0 : Int) < ((a.length : Nat) : Int)) = true := by simp; omega
    have step : law13_CareerArrival_p0 order a hv (i : Int) = some (.inl (careerMerge hv [a[k]], ((i + 1 : Nat) : Int))) := by
      unfold law13_CareerArrival_p0
      rw [lt_len hi, cond_true, hd, cond_true, gd_pos (idx_ok hi), getD_nat order 0 i hi, made_Pick_eq _ _ (by omega), Option.bind_some, if_neg (by omega), hk, gd_pos (idx_ok hka), getD_nat0 a _ k hka,
        career_Merge_eq _ _ (by omega) (by simp), Option.bind_some, w64_succ (by omega)]
    have hl2 := careerMerge_length hv [a[k]]
    have h1 : IsMerge (S ++ [a[k]]) (careerMerge hv [a[k]]) := by
      have := careerMerge_ok hv [a[k]]
      exact ⟨this.asc, fun f => (this.mem f).trans (Top_merge hm f)⟩
    obtain ⟨h', S', g1, g2, g3, g4⟩ := arrival_first order a na na' no n (i + 1) _ _ (by omega) h1 (fun f hf => by
      rcases List.mem_append.1 hf with hf | hf
      · exact hs f hf
      · simp at hf; subst hf; exact List.getElem_mem hka) (by simp only [List.length_cons, List.length_nil] at hl2; omega)
    refine ⟨h', S', ?_, g2, g3, g4⟩
    rw [fixL_eq]
    show (law13_CareerArrival_p0 order a hv (i : Int)).bind _ = _
    rw [step]
    exact g1
where
  hm' (x : Int) {n : Nat} (h : 0 < n) : 0 ≤ x % (n : Int) ∧ x % (n : Int) < (n : Int) := ⟨Int.emod_nonneg _ (by omega), Int.emod_lt_of_pos _ (by omega)⟩

theorem arrival_second (a h5 : List GFact) (na' : a.length ≤ 14) : ∀ (n i : Nat) (have_ S : List GFact), a.length = i + n → IsMerge S have_ → (∀ f ∈ S, f ∈ a) → (∀ j, j < i → ∀ (hj : a.length - 1 - j < a.length), a[a.length - 1 - j] ∈ S) → have_.length ≤ 60 + i →
    ∃ h', fixL (law13_CareerArrival_l2 a h5) (have_, (i : Int)) = some h' ∧ IsMerge a h' ∧ h'.length ≤ 100
  | 0, i, hv, S, h, hm, hs, hc, hl => by
    have : i = a.length := by omega
    subst this
    refine ⟨hv, ?_, hm.congr fun f => ⟨hs f, fun hf => ?_⟩, by omega⟩
    · rw [fixL_eq]
      show (law13_CareerArrival_p1 a hv (a.length : Int)).bind _ = _
      unfold law13_CareerArrival_p1
      rw [not_lt_len]
      rfl
    · obtain ⟨j, hj, rfl⟩ := List.mem_iff_getElem.1 hf
      have := hc (a.length - 1 - j) (by omega) (by omega)
      have e : a.length - 1 - (a.length - 1 - j) = j := by omega
      simpa only [e] using this
  | n + 1, i, hv, S, h, hm, hs, hc, hl => by
    have hi : i < a.length := by omega
    have hk : a.length - 1 - i < a.length := by omega
    have e : w64 (w64 (((a.length : Nat) : Int) - 1) - (i : Int)) = ((a.length - 1 - i : Nat) : Int) := by
      rw [w64_nat (n := ((a.length : Nat) : Int) - 1) (by omega) (by omega), w64_nat (by omega) (by omega)]; omega
    have step : law13_CareerArrival_p1 a hv (i : Int) = some (.inl (careerMerge [a[a.length - 1 - i]] hv, ((i + 1 : Nat) : Int))) := by
      unfold law13_CareerArrival_p1
      rw [lt_len hi, cond_true, e, gd_pos (idx_ok hk), getD_nat0 a _ _ hk, career_Merge_eq _ _ (by simp) (by omega), Option.bind_some, w64_succ (by omega)]
    have hl2 := careerMerge_length [a[a.length - 1 - i]] hv
    have h1 : IsMerge ([a[a.length - 1 - i]] ++ S) (careerMerge [a[a.length - 1 - i]] hv) := by
      have := careerMerge_ok [a[a.length - 1 - i]] hv
      exact ⟨this.asc, fun f => (this.mem f).trans (Top_merge2 hm f)⟩
    obtain ⟨h', g1, g2, g3⟩ := arrival_second a h5 na' n (i + 1) _ _ (by omega) h1 (fun f hf => by
      rcases List.mem_append.1 hf with hf | hf
      · simp at hf; subst hf; exact List.getElem_mem hk
      · exact hs f hf) (fun j hj hjl => by
      by_cases hji : j = i
      · subst hji; simp
      · exact List.mem_append_right _ (hc j (by omega) hjl)) (by simp only [List.length_cons, List.length_nil] at hl2; omega)
    refine ⟨h', ?_, g2, g3⟩
    rw [fixL_eq]
    show (law13_CareerArrival_p1 a hv (i : Int)).bind _ = _
    rw [step]
    exact g1

theorem law_CareerArrival (l : List GHand) (near : Int) (order : List Int) : law13_CareerArrival l near order = some true := by
  obtain ⟨a, ha, na⟩ := law13_facts_some l near
  show law13_CareerArrival_p6 l near order = _
  unfold law13_CareerArrival_p6
  rw [ha, Option.bind_some]
  by_cases ho : 60 < order.length
  · have : decide ((60 : Int) < ((order.length : Nat) : Int)) = true := by simp; omega
    rw [this, cond_true]
  have : decide ((60 : Int) < ((order.length : Nat) : Int)) = false := decide_eq_false (by omega)
  rw [this, cond_false]
  have behind : ∀ h' S' : List GFact, IsMerge S' h' → (∀ f ∈ S', f ∈ a) → h'.length ≤ 60 → law13_CareerArrival_p4 a h' = some true := by
    intro h' S' g2 g3 g4
    obtain ⟨k, k1, k2, k3⟩ := arrival_second a h' na a.length 0 h' S' (by omega) g2 g3 (fun j hj => by omega) (by omega)
    rw [show ((0 : Nat) : Int) = 0 from rfl] at k1
    show (fixL (law13_CareerArrival_l2 a h') (h', (0 : Int))).bind _ = _
    rw [k1, Option.bind_some]
    show law13_CareerArrival_p2 a k = _
    unfold law13_CareerArrival_p2
    have e : careerMerge a [] = k := (careerMerge_ok a []).uniq k2 fun f => by rw [List.append_nil]
    rw [law13_awake_eq, Option.bind_some, cond_true, career_Merge_eq a [] (by omega) (by simp), Option.bind_some, e, SameFacts_refl _ (by omega), Option.bind_some]
  show (fixL (law13_CareerArrival_l1 order a) ([], (0 : Int))).bind _ = _
  by_cases hz : a.length = 0
  · -- there is nothing to arrive
    have hfix : fixL (law13_CareerArrival_l1 order a) ([], (0 : Int)) = some [] := by
      rw [fixL_eq]
      show (law13_CareerArrival_p0 order a [] 0).bind _ = _
      unfold law13_CareerArrival_p0
      have hd : decide ((0 : Int) < ((a.length : Nat) : Int)) = false := decide_eq_false (by omega)
      have : (bif decide ((0 : Int) < ((order.length : Nat) : Int)) then decide ((0 : Int) < ((a.length : Nat) : Int)) else false) = false := by rw [hd]; cases decide ((0 : Int) < ((order.length : Nat) : Int)) <;> rfl
      rw [this]
      rfl
    rw [hfix, Option.bind_some]
    exact behind [] [] .nil (fun f hf => by simp at hf) (by simp)
  · obtain ⟨h', S', g1, g2, g3, g4⟩ := arrival_first order a (by omega) na (by omega) order.length 0 [] [] (by omega) .nil (fun f hf => by simp at hf) (by simp)
    rw [show ((0 : Nat) : Int) = 0 from rfl] at g1
    rw [g1, Option.bind_some]
    exact behind h' S' g2 g3 g4
end Go.Ax
