import Derived.Test.YtklbaihmajbbdaaL40
import Derived.Test.YtklbaihmajbbdaaL30r
import Derived.Test.YtklbaihmajbbdaaL31
import Derived.Test.YtklbaihmajbbdaaL34
set_option linter.all false
/- Laws of conversion. -/
set_option maxRecDepth 100000
namespace Go.Ax

theorem keepL_len : ∀ (l : List GNet) (am : List Int) (lf : List Bool), (keepL l am lf).length ≤ l.length
  | [], _, _ => by simp [keepL]
  | x :: l, [], _ => by simp [keepL]
  | x :: l, a :: am, [] => by simp [keepL]
  | x :: l, a :: am, b :: lf => by
    have := keepL_len l am lf
    unfold keepL
    split
    · rw [List.length_cons]; omega
    · rw [List.length_cons, List.length_cons]; omega
theorem convL_len (l : List GNet) : (convL l).length ≤ l.length := keepL_len l _ _
theorem law_ConversionConvertAgrees (l : List GNet) (r : List GPensionlaw22_Raw) (hl : l.length ≤ 2513169434843) (hr : r.length ≤ 9223372036854775807) : law22_ConversionConvertAgrees l r = some true := by
  show law22_ConversionConvertAgrees_p0 l r = _
  unfold law22_ConversionConvertAgrees_p0
  have hn := netsL_len false r
  have c1 := convL_len l
  have c2 := convL_len (netsL false r)
  rw [law22_Nets_eq r false hr, Option.bind_some, law22_awake_eq, Option.bind_some, cond_true, conversion_Convert_eq l hl, Option.bind_some, ref21_Convert_eq l hl, Option.bind_some, Same_Net_self _ (by omega), Option.bind_some, cond_true, conversion_Convert_eq _ (by omega), Option.bind_some, ref21_Convert_eq _ (by omega), Option.bind_some, Same_Net_self _ (by omega)]
  rfl
theorem law_ConversionDivideRejects (r : List GPensionlaw22_Raw) (by_1 : Int) (hr : r.length ≤ 9223372036854775807) : law22_ConversionDivideRejects r by_1 = some true := by
  show law22_ConversionDivideRejects_p0 r by_1 = _
  unfold law22_ConversionDivideRejects_p0
  have hm := emod_rng by_1 (m := 100000) (by omega)
  rw [law22_Heirs_eq r hr, Option.bind_some, plain_Mod_eq _ _ (by omega) (by omega), Option.bind_some, w64_in (n := 1 + by_1 % 100000) (by omega) (by omega), w64_in (n := 0 - (1 + by_1 % 100000)) (by omega) (by omega), w64_in (n := 1000000000000 + (1 + by_1 % 100000)) (by omega) (by omega), conversion_Divide_eq, if_neg (by omega), Option.bind_some, conversion_Divide_eq, if_neg (by omega), Option.bind_some, law22_awake_eq, Option.bind_some]
  rfl
theorem Same_Fraction_self (a : List GFraction) (ha : a.length ≤ 9223372036854775807) : plain_Same_api_Fraction a a = some true := by
  show plain_Same_api_Fraction_p3 a a = _
  unfold plain_Same_api_Fraction_p3
  rw [bne_self_eq_false, cond_false]
  show (fixL (plain_Same_api_Fraction_l1 a a) ((0 : Nat) : Int)).bind _ = _
  have := fixL_list0 (f := plain_Same_api_Fraction_l1 a a) a (fun i (_ : Unit) => (i : Int)) (fun _ _ => True) (fun _ _ => .inl ()) (fun _ => .inr ()) () trivial ?_ (fun _ _ _ _ _ _ => trivial) ?_
  · rw [this, runE_fold]; rfl
  · intro i hi _ _
    show plain_Same_api_Fraction_p0 a a i = _
    unfold plain_Same_api_Fraction_p0
    rw [lt_len hi, cond_true, gd_pos (idx_ok hi), gd_pos (idx_ok hi), w64_succ (by omega)]
    simp
  · intro _ _
    show plain_Same_api_Fraction_p0 a a a.length = _
    unfold plain_Same_api_Fraction_p0
    rw [not_lt_len, cond_false]
theorem shares_len (l : List GHeir) : (if validL l then (l.map (shareL l), (0 : Int)) else ([], 1)).1.length ≤ 12 := by
  cases hv : validL l with
  | false => simp
  | true =>
    have := (validL_facts hv).1
    simpa using this
theorem law_ConversionSharesAgree (r : List GPensionlaw22_Raw) (l : List GHeir) (hr : r.length ≤ 9223372036854775807) : law22_ConversionSharesAgree r l = some true := by
  show law22_ConversionSharesAgree_p0 r l = _
  unfold law22_ConversionSharesAgree_p0
  rw [law22_Heirs_eq r hr, Option.bind_some, conversion_Shares_eq, Option.bind_some, ref21_Shares_eq, Option.bind_some, conversion_Shares_eq, Option.bind_some, ref21_Shares_eq, Option.bind_some, law22_awake_eq, Option.bind_some]
  have h1 := shares_len (heirsL r)
  have h2 := shares_len l
  rw [Same_Fraction_self _ (by omega), Same_Fraction_self _ (by omega), gd_pos (by intro _; rfl), gd_pos (by intro _; rfl)]
  simp
end Go.Ax
