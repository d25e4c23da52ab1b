import Derived.Test.YtklbaihmajbbdaaL47
set_option linter.all false
/- The parts' sum. -/
set_option maxRecDepth 100000
namespace Go.Ax

theorem sumL_rng {total : Int} (ht : 0 ≤ total ∧ total ≤ 1000000000000) {l : List GHeir} (hv : validL l = true) : 0 ≤ sumL total l ∧ sumL total l ≤ total := by
  have ha := allPts_rng hv
  have h0 : 0 ≤ total * min 100 (allPts l) := Int.mul_nonneg ht.1 (by omega)
  have h1 : total * min 100 (allPts l) ≤ total * 100 := Int.mul_le_mul_of_nonneg_left (by omega) ht.1
  unfold sumL
  omega
theorem divide_sum {total : Int} (ht : 0 ≤ total ∧ total ≤ 1000000000000) {l : List GHeir} (hv : validL l = true) : sumA (divideL total l) = sumL total l ∧ (divideL total l).length = l.length := by
  have hr := sumL_rng ht hv
  have hm := missing_rng ht.1 hv
  have hP : divP l.length (divS total l (sumL total l)) := divS_keeps ht hv l.length 0 _ (by omega) ⟨⟨by show -1000000000000 * ((0 : Nat) : Int) ≤ sumL total l; omega, by show sumL total l ≤ 1000000000000; omega⟩, rfl, rfl, fun x hx => by simp at hx, fun x hx => by simp at hx⟩
  obtain ⟨a, b, c⟩ := divS_sum total l l (sumL total l) [] []
  unfold divideL
  have e : divS total l (sumL total l) = runE (divG total l) id l (sumL total l, [], []) := rfl
  rw [← e] at a b c
  generalize divS total l (sumL total l) = s at hP a b c ⊢
  obtain ⟨m, out, cut⟩ := s
  obtain ⟨_, b3, b4, b5, b6⟩ := hP
  have a : m = sumL total l - (l.map fun h => partL total (shareL l h)).sum := a
  have b : out = [] ++ l.map (fun h => ⟨h.Person, partL total (shareL l h)⟩) := b
  have b3 : out.length = l.length := b3
  have b4 : cut.length = l.length := b4
  obtain ⟨g1, g2⟩ := giveL_sum cut m out (fun x hx => by have := b5 x hx; exact ⟨this.2.1, by omega⟩)
  have hq : sumA out = (l.map fun h => partL total (shareL l h)).sum := by
    rw [b, List.nil_append]
    unfold sumA
    rw [List.map_map]
    rfl
  show sumA (giveL cut m out) = _ ∧ (giveL cut m out).length = _
  rw [g1, g2, hq]
  omega
end Go.Ax
