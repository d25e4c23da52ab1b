import Derived.Test.YtkijjjdaijjpaaaGreatL39v
import Derived.Test.YtkijjjdaijjpaaaGreatL30v
set_option linter.all false
/- Dividing: Divide, whole. -/
set_option maxRecDepth 100000
namespace Go.Ax

theorem divS_keeps {total : Int} (ht : 0 ≤ total ∧ total ≤ 1000000000000) {l : List GHeir} (hv : validL l = true) : ∀ (n i : Nat) (a : Int × List GPart × List GConversion_remainder), l.length = i + n → divP i a → divP l.length (runE (divG total l) id (l.drop i) a)
  | 0, i, a, h, hp => by
    have : i = l.length := by omega
    subst this
    rw [List.drop_length]
    exact hp
  | n + 1, i, a, h, hp => by
    have hi : i < l.length := by omega
    rw [List.drop_eq_getElem_cons hi]
    exact divS_keeps ht hv n (i + 1) _ (by omega) (divG_keeps ht hv i hi a _ hp rfl)
/-- What is missing at first. -/
def sumL (total : Int) (l : List GHeir) : Int := total * min 100 (allPts l) / 100
def divideL (total : Int) (l : List GHeir) : List GPart :=
  giveL (divS total l (sumL total l)).2.2 (divS total l (sumL total l)).1 (divS total l (sumL total l)).2.1
theorem conversion_Divide_eq (total : Int) (l : List GHeir) : conversion_Divide total l = some (if 0 ≤ total ∧ total ≤ 1000000000000 then (if validL l then (divideL total l, 0) else ([], 1)) else ([], 1)) := by
  show conversion_Divide_p6 total l = _
  unfold conversion_Divide_p6
  rw [cond_or]
  by_cases ht : 0 ≤ total ∧ total ≤ 1000000000000
  · rw [if_pos ht, decide_eq_false (show ¬ total < 0 by omega), decide_eq_false (show ¬ 1000000000000 < total by omega), show (false || false) = false from rfl, cond_false, conversion_Shares_eq, Option.bind_some]
    cases hv : validL l with
    | false => rfl
    | true =>
      obtain ⟨h1, h2⟩ := validL_facts hv
      have ha := allPts_rng hv
      rw [if_pos rfl, if_pos rfl]
      show (conversion_points l).bind _ = _
      rw [conversion_points_eq l hv, Option.bind_some]
      have hmin : (if (100 : Int) < allPts l then (100 : Int) else allPts l) = min 100 (allPts l) := by omega
      have hs0 : 0 ≤ total * min 100 (allPts l) := Int.mul_nonneg ht.1 (by omega)
      have hs1 : total * min 100 (allPts l) ≤ 1000000000000 * 100 := Int.mul_le_mul ht.2 (by omega) (by omega) (by omega)
      have hs2 : 0 ≤ total * min 100 (allPts l) / 100 := Int.ediv_nonneg hs0 (by omega)
      have hs3 : total * min 100 (allPts l) / 100 ≤ 1000000000000 := by omega
      show conversion_Divide_p5 total l (w64 (Int.tdiv (w64 (total * (if (100 : Int) < allPts l then (100 : Int) else allPts l))) (100 : Int))) (l.map (shareL l)) (((l.map (shareL l)).length : Nat) : Int) = _
      rw [hmin, w64_in (n := total * min 100 (allPts l)) (by omega) (by omega), Int.tdiv_eq_ediv_of_nonneg hs0, w64_in (by omega) (by omega), show (l.map (shareL l)).length = l.length from List.length_map _]
      show (fixL (conversion_Divide_l1 total l (sumL total l) (l.map (shareL l)) ((l.length : Nat) : Int)) (sumL total l, [], [], 0)).bind _ = _
      rw [Divide_loop1 ht hv (sumL total l) (sumL total l) ⟨hs2, hs3⟩, Option.bind_some]
      have hP : divP l.length (divS total l (sumL total l)) := divS_keeps ht hv l.length 0 _ (by omega) ⟨⟨by show -1000000000000 * ((0 : Nat) : Int) ≤ sumL total l; unfold sumL; omega, hs3⟩, rfl, rfl, fun x hx => by simp at hx, fun x hx => by simp at hx⟩
      unfold divideL
      generalize divS total l (sumL total l) = s at hP ⊢
      obtain ⟨m, out, cut⟩ := s
      obtain ⟨⟨b1, b2⟩, b3, b4, b5, b6⟩ := hP
      have b1 : -1000000000000 * (l.length : Int) ≤ m := b1
      have b2 : m ≤ 1000000000000 := b2
      have b3 : out.length = l.length := b3
      have b4 : cut.length = l.length := b4
      show (fixL (conversion_Divide_l2 m out cut ((cut.length : Nat) : Int)) (m, out, cut, ((cut.length : Nat) : Int), 0)).bind _ = _
      rw [Divide_loop2 cut out m _ _ _ _ (by omega) (by omega) (fun x hx => by have := b5 x hx; exact ⟨this.2.1, by omega⟩) b6, Option.bind_some]
      rfl
  · rw [if_neg ht]
    have : (decide (total < 0) || decide (1000000000000 < total)) = true := by
      by_cases h : total < 0
      · rw [decide_eq_true h]; rfl
      · rw [decide_eq_true (show 1000000000000 < total by omega), Bool.or_true]
    rw [this]
    rfl
theorem law22_awake_eq : law22_awake = some true := by
  have e1 : (if validL [⟨1, 1, 100⟩, ⟨2, 2, 0⟩, ⟨3, 2, 0⟩] = true then (([⟨1, 1, 100⟩, ⟨2, 2, 0⟩, ⟨3, 2, 0⟩] : List GHeir).map (shareL [⟨1, 1, 100⟩, ⟨2, 2, 0⟩, ⟨3, 2, 0⟩]), (0 : Int)) else ([], 1)) = ([⟨3, 5⟩, ⟨1, 5⟩, ⟨1, 5⟩], 0) := by kernel_rfl
  have e2 : (if (0 : Int) ≤ 11 ∧ (11 : Int) ≤ 1000000000000 then (if validL [⟨1, 1, 100⟩, ⟨2, 2, 0⟩, ⟨3, 2, 0⟩] = true then (divideL 11 [⟨1, 1, 100⟩, ⟨2, 2, 0⟩, ⟨3, 2, 0⟩], (0 : Int)) else ([], 1)) else ([], 1)) = ([⟨1, 7⟩, ⟨2, 2⟩, ⟨3, 2⟩], 0) := by kernel_rfl
  have e3 : convL [⟨1, 2, 1, 0, 0, 0, 50⟩, ⟨1, 1, 1, 0, 0, 0, 40⟩] = [⟨1, 1, 1, 0, 0, 0, 50⟩] := by kernel_rfl
  show law22_awake_p0 = _
  unfold law22_awake_p0
  rw [conversion_Shares_eq, Option.bind_some, conversion_Divide_eq, Option.bind_some, conversion_Convert_eq _ (by decide), Option.bind_some]
  rw [e1, e2, e3]
  simp [gd_true]
  decide
end Go.Ax
