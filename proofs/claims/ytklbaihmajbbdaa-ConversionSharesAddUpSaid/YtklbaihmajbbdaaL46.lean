import Derived.Test.YtklbaihmajbbdaaL45
set_option linter.all false
/- Sums of quotients; the parts of the first loop. -/
set_option maxRecDepth 100000
namespace Go.Ax

theorem floor_sum (D : Int) (hD : 0 < D) : ∀ l : List Int, D * (l.map (· / D)).sum ≤ l.sum ∧ l.sum ≤ D * (l.map (· / D)).sum + (D - 1) * (l.length : Int)
  | [] => by simp
  | x :: l => by
    obtain ⟨h1, h2⟩ := floor_sum D hD l
    have e1 := Int.mul_ediv_add_emod x D
    have e2 := emod_rng x hD
    rw [List.map_cons, List.sum_cons, List.sum_cons, List.length_cons, Int.mul_add, Int.natCast_add, Int.mul_add]
    have e3 : (D - 1) * ((1 : Nat) : Int) = D - 1 := by rw [Int.natCast_one, Int.mul_one]
    rw [e3]
    omega
theorem divS_sum (total : Int) (l0 : List GHeir) : ∀ (l : List GHeir) (m : Int) (out : List GPart) (cut : List GConversion_remainder),
    (runE (divG total l0) id l (m, out, cut)).1 = m - (l.map fun h => partL total (shareL l0 h)).sum ∧ (runE (divG total l0) id l (m, out, cut)).2.1 = out ++ l.map (fun h => ⟨h.Person, partL total (shareL l0 h)⟩) ∧ (runE (divG total l0) id l (m, out, cut)).2.2.length = cut.length + l.length
  | [], m, out, cut => by simp [runE]
  | x :: l, m, out, cut => by
    obtain ⟨a, b, c⟩ := divS_sum total l0 l (m - partL total (shareL l0 x)) (out ++ [⟨x.Person, partL total (shareL l0 x)⟩]) (insR (remL total out.length (shareL l0 x)) cut)
    have e : runE (divG total l0) id (x :: l) (m, out, cut) = runE (divG total l0) id l (m - partL total (shareL l0 x), out ++ [⟨x.Person, partL total (shareL l0 x)⟩], insR (remL total out.length (shareL l0 x)) cut) := rfl
    rw [e, a, b, c, insR_length]
    refine ⟨?_, by simp, by rw [List.length_cons]; omega⟩
    rw [List.map_cons, List.sum_cons]
    omega
end Go.Ax
