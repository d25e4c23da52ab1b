import Derived.Test.YtklbaihmajbbdaaL44
set_option linter.all false
/- A part, over the common denominator. -/
set_option maxRecDepth 100000
namespace Go.Ax

theorem partL_eq {total : Int} (ht : 0 ≤ total) {l : List GHeir} (hv : validL l = true) {h : GHeir} (hm : h ∈ l) : partL total (shareL l h) = total * numL l h / (baseD l * wholeL l) := by
  obtain ⟨n, d, e1, e2, e3, e4, e5, e6⟩ := ref_frac l hv h hm
  have hb := baseD_rng hv
  have hw := wholeL_rng hv
  have hmul : baseD l * wholeL l ≤ 876588 * 420 := Int.mul_le_mul hb.2 hw.2 (by omega) (by omega)
  obtain ⟨f1, f2, f3, f4, f5⟩ := fracN_facts n d e5 (by omega) (by omega)
  obtain ⟨t, rfl⟩ : ∃ t : Nat, total = (t : Int) := ⟨total.toNat, by omega⟩
  rw [← e6, f1, e1, e2]
  show (t : Int) * ((n / Nat.gcd n d : Nat) : Int) / ((d / Nat.gcd n d : Nat) : Int) = _
  rw [← Int.natCast_mul, ← Int.natCast_mul, ← Int.natCast_ediv, ← Int.natCast_ediv, frac_quot t n d e5]
end Go.Ax
