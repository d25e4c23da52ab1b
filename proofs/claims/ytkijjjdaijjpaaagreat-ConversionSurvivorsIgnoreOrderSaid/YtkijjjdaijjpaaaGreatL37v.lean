import Derived.Test.YtkijjjdaijjpaaaGreatL36v
set_option linter.all false
/- Dividing: the parts, rounded down. -/
set_option maxRecDepth 100000
namespace Go.Ax

theorem shareL_facts {l : List GHeir} (hv : validL l = true) {h : GHeir} (hm : h ∈ l) : (0 ≤ (shareL l h).Num ∧ (shareL l h).Num ≤ 4382940) ∧ (1 ≤ (shareL l h).Den ∧ (shareL l h).Den ≤ 1000000000) := by
  obtain ⟨h1, h2⟩ := validL_facts hv
  have hr := heirs_rng hv
  have hw := wholeL_rng hv
  have hx := (heirB_facts (h2 h hm)).2
  obtain ⟨w, hww⟩ : ∃ w : Nat, wholeL l = (w : Int) := ⟨(wholeL l).toNat, by omega⟩
  rw [hww] at hw
  have key : ∀ n d : Nat, 0 < d → n ≤ 4382940 → d ≤ 1000000000 → (0 ≤ (fracN n d).1.Num ∧ (fracN n d).1.Num ≤ 4382940) ∧ (1 ≤ (fracN n d).1.Den ∧ (fracN n d).1.Den ≤ 1000000000) := by
    intro n d h0 hn hd
    obtain ⟨e, a, b, c, _⟩ := fracN_facts n d h0 (by omega) (by omega)
    rw [e]
    generalize n / Nat.gcd n d = x at *
    generalize d / Nat.gcd n d = y at *
    show (0 ≤ (x : Int) ∧ (x : Int) ≤ 4382940) ∧ (1 ≤ (y : Int) ∧ (y : Int) ≤ 1000000000)
    omega
  unfold shareL
  rcases hx with ⟨k, d1, d2⟩ | ⟨k, d1⟩ | ⟨k, d1⟩
  · obtain ⟨x, hx⟩ : ∃ x : Nat, h.Days = (x : Int) := ⟨h.Days.toNat, by omega⟩
    have hd := daysL_pos l h2 h hm k
    obtain ⟨d, hdd⟩ : ∃ d : Nat, daysL l = (d : Int) := ⟨(daysL l).toNat, by omega⟩
    rw [hdd] at hr hd
    have hmul : d * w ≤ 876588 * 420 := Nat.mul_le_mul (by omega) (by omega)
    have hmul0 : 0 < d * w := Nat.mul_pos (by omega) (by omega)
    rw [if_pos k, hx, hdd, hww, ← Int.natCast_mul, Int.toNat_natCast, show ((60 : Int) * (x : Int)).toNat = 60 * x by omega]
    exact key _ _ hmul0 (by omega) (by omega)
  · rw [if_neg (by omega), if_neg (by omega), hww, Int.toNat_natCast]
    exact key _ _ (by omega) (by omega) (by omega)
  · rw [if_neg (by omega), if_pos k, hww, Int.toNat_natCast]
    exact key _ _ (by omega) (by omega) (by omega)
def partL (total : Int) (f : GFraction) : Int := total * f.Num / f.Den
def remL (total : Int) (i : Nat) (f : GFraction) : GConversion_remainder := ⟨(i : Int), total * f.Num % f.Den, f.Den⟩
def divG (total : Int) (l : List GHeir) (h : GHeir) (a : Int × List GPart × List GConversion_remainder) : (Int × List GPart × List GConversion_remainder) ⊕ (Int × List GPart × List GConversion_remainder) :=
  .inl (a.1 - partL total (shareL l h), a.2.1 ++ [⟨h.Person, partL total (shareL l h)⟩], insR (remL total a.2.1.length (shareL l h)) a.2.2)
theorem part_rng {total : Int} (ht : 0 ≤ total ∧ total ≤ 1000000000000) {f : GFraction} (hf : (0 ≤ f.Num ∧ f.Num ≤ 4382940) ∧ (1 ≤ f.Den ∧ f.Den ≤ 1000000000)) : (0 ≤ total * f.Num ∧ total * f.Num ≤ 4382940000000000000) ∧ (0 ≤ partL total f ∧ partL total f ≤ 4382940000000000000) ∧ (0 ≤ total * f.Num % f.Den ∧ total * f.Num % f.Den ≤ 1000000000) := by
  have h0 : 0 ≤ total * f.Num := Int.mul_nonneg ht.1 hf.1.1
  have h1 : total * f.Num ≤ 1000000000000 * 4382940 := Int.mul_le_mul ht.2 hf.1.2 hf.1.1 (by omega)
  have h2 := emod_rng (total * f.Num) (m := f.Den) (by omega)
  have h3 : 0 ≤ total * f.Num / f.Den := Int.ediv_nonneg h0 (by omega)
  have h4 : total * f.Num / f.Den ≤ total * f.Num := Int.ediv_le_self _ h0
  unfold partL
  omega
end Go.Ax
