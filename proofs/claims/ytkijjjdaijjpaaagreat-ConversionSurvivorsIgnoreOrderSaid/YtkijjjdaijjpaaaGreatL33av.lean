import Derived.Test.YtkijjjdaijjpaaaGreatL33v
set_option linter.all false
/- Shares over one denominator. -/
set_option maxRecDepth 100000
namespace Go.Ax

theorem fracN_scale (k n d : Nat) (hk : 0 < k) : fracN (k * n) (k * d) = fracN n d := by
  unfold fracN
  rw [Nat.gcd_mul_left, Nat.mul_div_mul_left _ _ hk, Nat.mul_div_mul_left _ _ hk]
/-- The days of all spouses; at least 1. -/
def baseD (l : List GHeir) : Int := max (daysL l) 1
def numL (l : List GHeir) (h : GHeir) : Int := if h.Kind = 1 then 60 * h.Days else if h.Kind = 2 then 20 * baseD l else 30 * baseD l
theorem wholeL_rng {l : List GHeir} (hv : validL l = true) : 100 ≤ wholeL l ∧ wholeL l ≤ 420 := by
  have := allPts_rng hv
  unfold wholeL; omega
theorem baseD_rng {l : List GHeir} (hv : validL l = true) : 1 ≤ baseD l ∧ baseD l ≤ 876588 := by
  have := heirs_rng hv
  unfold baseD; omega
theorem ref_frac (l : List GHeir) (hv : validL l = true) (h : GHeir) (hm : h ∈ l) : ∃ n d : Nat, numL l h = (n : Int) ∧ baseD l * wholeL l = (d : Int) ∧ n ≤ 1000000000000 ∧ d ≤ 1000000000000 ∧ 0 < d ∧ (fracN n d).1 = shareL l h := by
  obtain ⟨h1, h2⟩ := validL_facts hv
  have hr := heirs_rng hv
  have hb := baseD_rng hv
  have hw := wholeL_rng hv
  have hx := (heirB_facts (h2 h hm)).2
  obtain ⟨b, hbb⟩ : ∃ b : Nat, baseD l = (b : Int) := ⟨(baseD l).toNat, by omega⟩
  obtain ⟨w, hww⟩ : ∃ w : Nat, wholeL l = (w : Int) := ⟨(wholeL l).toNat, by omega⟩
  rw [hbb] at hb
  rw [hww] at hw
  have hmul : b * w ≤ 876588 * 420 := Nat.mul_le_mul (by omega) (by omega)
  have hmul0 : 0 < b * w := Nat.mul_pos (by omega) (by omega)
  have e : baseD l * wholeL l = ((b * w : Nat) : Int) := by rw [hbb, hww, Int.natCast_mul]
  rcases hx with ⟨k, d1, d2⟩ | ⟨k, d1⟩ | ⟨k, d1⟩
  · obtain ⟨x, hx⟩ : ∃ x : Nat, h.Days = (x : Int) := ⟨h.Days.toNat, by omega⟩
    have hd := daysL_pos l h2 h hm k
    refine ⟨60 * x, b * w, by unfold numL; rw [if_pos k, hx]; omega, e, by omega, by omega, hmul0, ?_⟩
    unfold shareL
    rw [if_pos k, hx, show daysL l = (b : Int) by rw [← hbb]; unfold baseD; omega, hww, ← Int.natCast_mul, Int.toNat_natCast, show ((60 : Int) * (x : Int)).toNat = 60 * x by omega]
  · refine ⟨b * 20, b * w, by unfold numL; rw [if_neg (by omega), if_pos k, hbb]; omega, e, by omega, by omega, hmul0, ?_⟩
    unfold shareL
    rw [if_neg (by omega), if_neg (by omega), hww, Int.toNat_natCast, fracN_scale b 20 w (by omega)]
  · refine ⟨b * 30, b * w, by unfold numL; rw [if_neg (by omega), if_neg (by omega), hbb]; omega, e, by omega, by omega, hmul0, ?_⟩
    unfold shareL
    rw [if_neg (by omega), if_pos k, hww, Int.toNat_natCast, fracN_scale b 30 w (by omega)]
end Go.Ax
