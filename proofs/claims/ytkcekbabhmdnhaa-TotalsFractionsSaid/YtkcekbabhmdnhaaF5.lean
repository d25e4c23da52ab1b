import Derived.Test.YtkcekbabhmdnhaaF4
import Derived.Test.YtkcekbabhmdnhaaLay
import Derived.Test.YtkcekbabhmdnhaaRows
/- Types of the program, and functions of it: printed by a program, checked by the kernel. -/
set_option linter.all false
set_option maxRecDepth 100000
namespace Go.Ax
open Go.Proofs Go.Proofs.Ytkcekbabhmdnhaa
noncomputable def z25i0 : List Code := items (bodyOf Try.f25)
def ref1_lowest_out (x_1 : (GFraction × Int)) : Out := .data (.tup [(.agg [(i64 x_1.1.Num), (i64 x_1.1.Den)]), (i64 x_1.2)])
def z25R (x_1 : (GFraction × Int)) : St := { tm := [sv 6 (.ptr 0 2 0 0), sv 7 (i64 x_1.2)], hp := [(0, some (.box [(i64 x_1.1.Num), (i64 x_1.1.Den)]))], nx := 1 }
theorem z25Rok (x_1 : (GFraction × Int)) : retK Try.prog [.cell 6 44, .tmp 7] (OutOk (ref1_lowest_out x_1)) .ret (z25R x_1) :=
  retK.intro (v := (.tup [(.agg [(i64 x_1.1.Num), (i64 x_1.1.Den)]), (i64 x_1.2)])) (by kernel_rfl) (VLe.tup (VLes.cons (VLe.rfl' _) (VLes.cons (VLe.rfl' _) (VLes.nil))))
def z25p0S (negative : Bool) (n : GPensionref1_wide) (d_1 : Int) : St := { tm := [sv 0 (bl negative), sv 1 (.ag (eGPensionref1_wide n)), sv 2 (.c (.lit (.int .u64 d_1)))], hp := [], nx := 0 }
noncomputable def ref1_lowest_p0 (negative : Bool) (n : GPensionref1_wide) (d_1 : Int) : Option ((GFraction × Int)) := (ref1_wide_over n d_1).bind fun r_1 => ((ref1_gcd d_1 r_1.2).bind fun r_2 => ((ref1_wide_over n r_2).bind fun r_3 => (gd (r_2 ≠ (0 : Int)) ((bif (bif (bif (r_3.1.hi != (0 : Int)) then true else (decide ((1000000000000000 : Int) < r_3.1.lo))) then true else (decide ((1000000000 : Int) < (IntKind.u64.wrap (Int.tdiv d_1 r_2))))) then (some ((GFraction.mk (0 : Int) (0 : Int)), (2 : Int))) else (bif negative then (some ((GFraction.mk (w64 ((0 : Int) - (w64 r_3.1.lo))) (w64 (IntKind.u64.wrap (Int.tdiv d_1 r_2)))), (0 : Int))) else (some ((GFraction.mk (w64 r_3.1.lo) (w64 (IntKind.u64.wrap (Int.tdiv d_1 r_2)))), (0 : Int)))))))))
theorem z25p0ok (negative : Bool) (n : GPensionref1_wide) (d_1 : Int) (K : KT) (h : W (ref1_lowest_p0 negative n d_1) (rE z25R K)) : EvL Try.prog 55 (List.drop 0 z25i0) K (z25p0S negative n d_1) :=
  EvL.pE mixed (lookC_ok (l := [(35, .pure ref1_wide_over_C), (36, .pure ref1_gcd_C)]) ⟨ref1_wide_over_ok, ref1_gcd_ok, trivial⟩) [6, 7] 0 12 (.nf (X := fun K => ((ref1_wide_over n d_1).isSome = true) ∧ (((ref1_gcd d_1 (((ref1_wide_over n d_1).getD (zGPensionref1_wide, (0 : Int))).2)).isSome = true) ∧ (((ref1_wide_over n ((ref1_gcd d_1 (((ref1_wide_over n d_1).getD (zGPensionref1_wide, (0 : Int))).2)).getD (0 : Int))).isSome = true) ∧ ((((ref1_gcd d_1 (((ref1_wide_over n d_1).getD (zGPensionref1_wide, (0 : Int))).2)).getD (0 : Int)) ≠ (0 : Int)) ∧ ((bif (bif (bif ((((ref1_wide_over n ((ref1_gcd d_1 (((ref1_wide_over n d_1).getD (zGPensionref1_wide, (0 : Int))).2)).getD (0 : Int))).getD (zGPensionref1_wide, (0 : Int))).1).hi != (0 : Int)) then true else (decide ((1000000000000000 : Int) < (((ref1_wide_over n ((ref1_gcd d_1 (((ref1_wide_over n d_1).getD (zGPensionref1_wide, (0 : Int))).2)).getD (0 : Int))).getD (zGPensionref1_wide, (0 : Int))).1).lo))) then true else (decide ((1000000000 : Int) < (IntKind.u64.wrap (Int.tdiv d_1 ((ref1_gcd d_1 (((ref1_wide_over n d_1).getD (zGPensionref1_wide, (0 : Int))).2)).getD (0 : Int))))))) then wK K .ret (z25R ((GFraction.mk (0 : Int) (0 : Int)), (2 : Int))) else (bif negative then wK K .ret (z25R ((GFraction.mk (w64 ((0 : Int) - (w64 (((ref1_wide_over n ((ref1_gcd d_1 (((ref1_wide_over n d_1).getD (zGPensionref1_wide, (0 : Int))).2)).getD (0 : Int))).getD (zGPensionref1_wide, (0 : Int))).1).lo))) (w64 (IntKind.u64.wrap (Int.tdiv d_1 ((ref1_gcd d_1 (((ref1_wide_over n d_1).getD (zGPensionref1_wide, (0 : Int))).2)).getD (0 : Int)))))), (0 : Int))) else wK K .ret (z25R ((GFraction.mk (w64 (((ref1_wide_over n ((ref1_gcd d_1 (((ref1_wide_over n d_1).getD (zGPensionref1_wide, (0 : Int))).2)).getD (0 : Int))).getD (zGPensionref1_wide, (0 : Int))).1).lo) (w64 (IntKind.u64.wrap (Int.tdiv d_1 ((ref1_gcd d_1 (((ref1_wide_over n d_1).getD (zGPensionref1_wide, (0 : Int))).2)).getD (0 : Int)))))), (0 : Int)))))))))) (fun K => by kernel_rfl) (W_bind (zGPensionref1_wide, (0 : Int)) h fun hp0 h => (W_bind (0 : Int) h fun hp1 h => (W_bind (zGPensionref1_wide, (0 : Int)) h fun hp2 h => (W_gd h fun hp3 h => (W_bif h (fun _ h => ⟨_, .refl _, h⟩) (fun _ h => (W_bif h (fun _ h => ⟨_, .refl _, h⟩) (fun _ h => ⟨_, .refl _, h⟩)))))))))
noncomputable def ref1_lowest (negative : Bool) (n : GPensionref1_wide) (d_1 : Int) : Option ((GFraction × Int)) := ref1_lowest_p0 negative n d_1
theorem z25run (negative : Bool) (n : GPensionref1_wide) (d_1 : Int) (y_ : (GFraction × Int)) (h : ref1_lowest negative n d_1 = some y_) : EvL Try.prog 55 (items (bodyOf Try.f25)) (retK Try.prog [.cell 6 44, .tmp 7] (OutOk (ref1_lowest_out y_))) (z25p0S negative n d_1) :=
  z25p0ok negative n d_1 _ (W_iff.2 ⟨y_, h, z25Rok y_⟩)
noncomputable def ref1_lowest_C : Con
  | [(.c (.lit (.bool a1))), (.agg [(.c (.lit (.int .u64 a2))), (.c (.lit (.int .u64 a3)))]), (.c (.lit (.int .u64 a4)))] => some ([(ref1_lowest a1 (GPensionref1_wide.mk a2 a3) a4).isSome = true], (ref1_lowest_out ((ref1_lowest a1 (GPensionref1_wide.mk a2 a3) a4).getD (zGFraction, (0 : Int)))))
  | _ => none
theorem ref1_lowest_ok : Meets Try.prog 25 ref1_lowest_C := by
  refine meets_fun (fn := Try.f25) (c := bodyOf Try.f25) (by kernel_rfl) (by kernel_rfl) (by kernel_rfl) (rs := [.cell 6 44, .tmp 7]) (by kernel_rfl) (nt := 55) (by kernel_rfl) fun vs p out h hp => ?_
  unfold ref1_lowest_C at h
  split at h
  · next a1 a2 a3 a4 =>
    cases h
    obtain ⟨g, hp⟩ := allq hp
    obtain ⟨x, hx⟩ := Option.isSome_iff_exists.1 g
    rw [hx]
    exact ⟨[(bl a1), (.agg [(.c (.lit (.int .u64 (GPensionref1_wide.mk a2 a3).hi))), (.c (.lit (.int .u64 (GPensionref1_wide.mk a2 a3).lo)))]), (.c (.lit (.int .u64 a4)))], (VLes.cons (VLe.rfl' _) (VLes.cons (VLe.rfl' _) (VLes.cons (VLe.rfl' _) VLes.nil))), rfl, z25run a1 (GPensionref1_wide.mk a2 a3) a4 x hx⟩
  · cases h

noncomputable def z16i0 : List Code := items (bodyOf Try.f16)
def ref1_MakeFraction_out (x_1 : (GFraction × Int)) : Out := .data (.tup [(.agg [(i64 x_1.1.Num), (i64 x_1.1.Den)]), (i64 x_1.2)])
def z16R (x_1 : (GFraction × Int)) : St := { tm := [sv 4 (.ptr 0 2 0 0), sv 5 (i64 x_1.2)], hp := [(0, some (.box [(i64 x_1.1.Num), (i64 x_1.1.Den)]))], nx := 1 }
theorem z16Rok (x_1 : (GFraction × Int)) : retK Try.prog [.cell 4 44, .tmp 5] (OutOk (ref1_MakeFraction_out x_1)) .ret (z16R x_1) :=
  retK.intro (v := (.tup [(.agg [(i64 x_1.1.Num), (i64 x_1.1.Den)]), (i64 x_1.2)])) (by kernel_rfl) (VLe.tup (VLes.cons (VLe.rfl' _) (VLes.cons (VLe.rfl' _) (VLes.nil))))
def z16p0S (num den : Int) : St := { tm := [sv 0 (i64 num), sv 1 (i64 den)], hp := [], nx := 0 }
noncomputable def ref1_MakeFraction_p0 (num den : Int) : Option ((GFraction × Int)) := (bif (den == (0 : Int)) then (some ((GFraction.mk (0 : Int) (0 : Int)), (3 : Int))) else (ref1_size num).bind fun r_1 => ((ref1_size den).bind fun r_2 => ((ref1_lowest (!((decide (num < (0 : Int))) == (decide (den < (0 : Int))))) (GPensionref1_wide.mk (0 : Int) r_1) r_2).bind fun r_3 => ((some (r_3.1, r_3.2))))))
theorem z16p0ok (num den : Int) (K : KT) (h : W (ref1_MakeFraction_p0 num den) (rE z16R K)) : EvL Try.prog 22 (List.drop 0 z16i0) K (z16p0S num den) :=
  EvL.pE mixed (lookC_ok (l := [(25, .pure ref1_lowest_C), (26, .pure ref1_size_C)]) ⟨ref1_lowest_ok, ref1_size_ok, trivial⟩) [4, 5] 0 5 (.nf (X := fun K => (bif (den == (0 : Int)) then wK K .ret (z16R ((GFraction.mk (0 : Int) (0 : Int)), (3 : Int))) else ((ref1_size num).isSome = true) ∧ ((ref1_size den).isSome = true) ∧ ((ref1_lowest (!((decide (num < (0 : Int))) == (decide (den < (0 : Int))))) (GPensionref1_wide.mk (0 : Int) ((ref1_size num).getD (0 : Int))) ((ref1_size den).getD (0 : Int))).isSome = true) ∧ (wK K .ret (z16R (((ref1_lowest (!((decide (num < (0 : Int))) == (decide (den < (0 : Int))))) (GPensionref1_wide.mk (0 : Int) ((ref1_size num).getD (0 : Int))) ((ref1_size den).getD (0 : Int))).getD (zGFraction, (0 : Int))).1, ((ref1_lowest (!((decide (num < (0 : Int))) == (decide (den < (0 : Int))))) (GPensionref1_wide.mk (0 : Int) ((ref1_size num).getD (0 : Int))) ((ref1_size den).getD (0 : Int))).getD (zGFraction, (0 : Int))).2))))) (fun K => by kernel_rfl) (W_bif h (fun _ h => ⟨_, .refl _, h⟩) (fun _ h => (W_bind (0 : Int) h fun hp0 h => (W_bind (0 : Int) h fun hp1 h => (W_bind (zGFraction, (0 : Int)) h fun hp2 h => ⟨_, .refl _, h⟩))))))
noncomputable def ref1_MakeFraction (num den : Int) : Option ((GFraction × Int)) := ref1_MakeFraction_p0 num den
theorem z16run (num den : Int) (y_ : (GFraction × Int)) (h : ref1_MakeFraction num den = some y_) : EvL Try.prog 22 (items (bodyOf Try.f16)) (retK Try.prog [.cell 4 44, .tmp 5] (OutOk (ref1_MakeFraction_out y_))) (z16p0S num den) :=
  z16p0ok num den _ (W_iff.2 ⟨y_, h, z16Rok y_⟩)
noncomputable def ref1_MakeFraction_C : Con
  | [(.c (.lit (.int .i64 a1))), (.c (.lit (.int .i64 a2)))] => some ([(ref1_MakeFraction a1 a2).isSome = true], (ref1_MakeFraction_out ((ref1_MakeFraction a1 a2).getD (zGFraction, (0 : Int)))))
  | _ => none
theorem ref1_MakeFraction_ok : Meets Try.prog 16 ref1_MakeFraction_C := by
  refine meets_fun (fn := Try.f16) (c := bodyOf Try.f16) (by kernel_rfl) (by kernel_rfl) (by kernel_rfl) (rs := [.cell 4 44, .tmp 5]) (by kernel_rfl) (nt := 22) (by kernel_rfl) fun vs p out h hp => ?_
  unfold ref1_MakeFraction_C at h
  split at h
  · next a1 a2 =>
    cases h
    obtain ⟨g, hp⟩ := allq hp
    obtain ⟨x, hx⟩ := Option.isSome_iff_exists.1 g
    rw [hx]
    exact ⟨[(i64 a1), (i64 a2)], (VLes.cons (VLe.rfl' _) (VLes.cons (VLe.rfl' _) VLes.nil)), rfl, z16run a1 a2 x hx⟩
  · cases h

noncomputable def z27i0 : List Code := items (bodyOf Try.f27)
def ref1_ValidFraction_out (x_1 : Bool) : Out := .data (bl x_1)
def z27R (x_1 : Bool) : St := { tm := [sv 2 (bl x_1)], hp := [], nx := 0 }
theorem z27Rok (x_1 : Bool) : retK Try.prog [.tmp 2] (OutOk (ref1_ValidFraction_out x_1)) .ret (z27R x_1) :=
  retK.intro (v := (bl x_1)) (by kernel_rfl) ((VLe.rfl' _))
def z27p0S (f : GFraction) : St := { tm := [sv 0 (.ag (eGFraction f))], hp := [], nx := 0 }
noncomputable def ref1_ValidFraction_p0 (f : GFraction) : Option (Bool) := gd (((bif (bif (bif (decide ((1 : Int) ≤ f.Den)) then (decide (f.Den ≤ (1000000000 : Int))) else false) then (decide ((-1000000000000000 : Int) ≤ f.Num)) else false) then (decide (f.Num ≤ (1000000000000000 : Int))) else false) && true) = true → (ref1_size f.Num).isSome = true) (gd (((bif (bif (bif (decide ((1 : Int) ≤ f.Den)) then (decide (f.Den ≤ (1000000000 : Int))) else false) then (decide ((-1000000000000000 : Int) ≤ f.Num)) else false) then (decide (f.Num ≤ (1000000000000000 : Int))) else false) && true) = true → (ref1_gcd ((ref1_size f.Num).getD (0 : Int)) (IntKind.u64.wrap f.Den)).isSome = true) ((some (bif (bif (bif (bif (decide ((1 : Int) ≤ f.Den)) then (decide (f.Den ≤ (1000000000 : Int))) else false) then (decide ((-1000000000000000 : Int) ≤ f.Num)) else false) then (decide (f.Num ≤ (1000000000000000 : Int))) else false) then (((ref1_gcd ((ref1_size f.Num).getD (0 : Int)) (IntKind.u64.wrap f.Den)).getD (0 : Int)) == (1 : Int)) else false))))
theorem z27p0ok (f : GFraction) (K : KT) (h : W (ref1_ValidFraction_p0 f) (rE z27R K)) : EvL Try.prog 31 (List.drop 0 z27i0) K (z27p0S f) :=
  EvL.pE mixed (lookC_ok (l := [(26, .pure ref1_size_C), (36, .pure ref1_gcd_C)]) ⟨ref1_size_ok, ref1_gcd_ok, trivial⟩) [2] 0 3 (.nf (X := fun K => (((bif (bif (bif (decide ((1 : Int) ≤ f.Den)) then (decide (f.Den ≤ (1000000000 : Int))) else false) then (decide ((-1000000000000000 : Int) ≤ f.Num)) else false) then (decide (f.Num ≤ (1000000000000000 : Int))) else false) && true) = true → (ref1_size f.Num).isSome = true) ∧ (((bif (bif (bif (decide ((1 : Int) ≤ f.Den)) then (decide (f.Den ≤ (1000000000 : Int))) else false) then (decide ((-1000000000000000 : Int) ≤ f.Num)) else false) then (decide (f.Num ≤ (1000000000000000 : Int))) else false) && true) = true → (ref1_gcd ((ref1_size f.Num).getD (0 : Int)) (IntKind.u64.wrap f.Den)).isSome = true) ∧ (wK K .ret (z27R (bif (bif (bif (bif (decide ((1 : Int) ≤ f.Den)) then (decide (f.Den ≤ (1000000000 : Int))) else false) then (decide ((-1000000000000000 : Int) ≤ f.Num)) else false) then (decide (f.Num ≤ (1000000000000000 : Int))) else false) then (((ref1_gcd ((ref1_size f.Num).getD (0 : Int)) (IntKind.u64.wrap f.Den)).getD (0 : Int)) == (1 : Int)) else false)))) (fun K => by kernel_rfl) (W_gd h fun hp0 h => (W_gd h fun hp1 h => ⟨_, .refl _, h⟩)))
noncomputable def ref1_ValidFraction (f : GFraction) : Option (Bool) := ref1_ValidFraction_p0 f
theorem z27run (f : GFraction) (y_ : Bool) (h : ref1_ValidFraction f = some y_) : EvL Try.prog 31 (items (bodyOf Try.f27)) (retK Try.prog [.tmp 2] (OutOk (ref1_ValidFraction_out y_))) (z27p0S f) :=
  z27p0ok f _ (W_iff.2 ⟨y_, h, z27Rok y_⟩)
noncomputable def ref1_ValidFraction_C : Con
  | [(.agg [(.c (.lit (.int .i64 a1))), (.c (.lit (.int .i64 a2)))])] => some ([(ref1_ValidFraction (GFraction.mk a1 a2)).isSome = true], (ref1_ValidFraction_out ((ref1_ValidFraction (GFraction.mk a1 a2)).getD false)))
  | _ => none
theorem ref1_ValidFraction_ok : Meets Try.prog 27 ref1_ValidFraction_C := by
  refine meets_fun (fn := Try.f27) (c := bodyOf Try.f27) (by kernel_rfl) (by kernel_rfl) (by kernel_rfl) (rs := [.tmp 2]) (by kernel_rfl) (nt := 31) (by kernel_rfl) fun vs p out h hp => ?_
  unfold ref1_ValidFraction_C at h
  split at h
  · next a1 a2 =>
    cases h
    obtain ⟨g, hp⟩ := allq hp
    obtain ⟨x, hx⟩ := Option.isSome_iff_exists.1 g
    rw [hx]
    exact ⟨[(.agg [(i64 (GFraction.mk a1 a2).Num), (i64 (GFraction.mk a1 a2).Den)])], (VLes.cons (VLe.rfl' _) VLes.nil), rfl, z27run (GFraction.mk a1 a2) x hx⟩
  · cases h

noncomputable def z37i0 : List Code := items (bodyOf Try.f37)
def math_bits_Mul64_out (x_2 : (Int × Int)) : Out := .data (.tup [(.c (.lit (.int .u64 x_2.1))), (.c (.lit (.int .u64 x_2.2)))])
def z37R (x_2 : (Int × Int)) : St := { tm := [sv 4 (.c (.lit (.int .u64 x_2.1))), sv 5 (.c (.lit (.int .u64 x_2.2)))], hp := [], nx := 0 }
theorem z37Rok (x_2 : (Int × Int)) : retK Try.prog [.tmp 4, .tmp 5] (OutOk (math_bits_Mul64_out x_2)) .ret (z37R x_2) :=
  retK.intro (v := (.tup [(.c (.lit (.int .u64 x_2.1))), (.c (.lit (.int .u64 x_2.2)))])) (by kernel_rfl) (VLe.tup (VLes.cons (VLe.rfl' _) (VLes.cons (VLe.rfl' _) (VLes.nil))))
def z37p0S (x_1 y : Int) : St := { tm := [sv 0 (.c (.lit (.int .u64 x_1))), sv 1 (.c (.lit (.int .u64 y)))], hp := [], nx := 0 }
noncomputable def math_bits_Mul64_p0 (x_1 y : Int) : Option ((Int × Int)) := (some ((IntKind.u64.wrap ((IntKind.u64.wrap ((IntKind.u64.wrap ((Int.fdiv x_1 (2 ^ min (Int.toNat (32 : Int)) 64)) * (Int.fdiv y (2 ^ min (Int.toNat (32 : Int)) 64)))) + (Int.fdiv (IntKind.u64.wrap ((IntKind.u64.wrap ((Int.fdiv x_1 (2 ^ min (Int.toNat (32 : Int)) 64)) * (IntKind.u64.wrap (BitVec.ofInt 64 y &&& BitVec.ofInt 64 (4294967295 : Int)).toNat))) + (Int.fdiv (IntKind.u64.wrap ((IntKind.u64.wrap (BitVec.ofInt 64 x_1 &&& BitVec.ofInt 64 (4294967295 : Int)).toNat) * (IntKind.u64.wrap (BitVec.ofInt 64 y &&& BitVec.ofInt 64 (4294967295 : Int)).toNat))) (2 ^ min (Int.toNat (32 : Int)) 64)))) (2 ^ min (Int.toNat (32 : Int)) 64)))) + (Int.fdiv (IntKind.u64.wrap ((IntKind.u64.wrap (BitVec.ofInt 64 (IntKind.u64.wrap ((IntKind.u64.wrap ((Int.fdiv x_1 (2 ^ min (Int.toNat (32 : Int)) 64)) * (IntKind.u64.wrap (BitVec.ofInt 64 y &&& BitVec.ofInt 64 (4294967295 : Int)).toNat))) + (Int.fdiv (IntKind.u64.wrap ((IntKind.u64.wrap (BitVec.ofInt 64 x_1 &&& BitVec.ofInt 64 (4294967295 : Int)).toNat) * (IntKind.u64.wrap (BitVec.ofInt 64 y &&& BitVec.ofInt 64 (4294967295 : Int)).toNat))) (2 ^ min (Int.toNat (32 : Int)) 64)))) &&& BitVec.ofInt 64 (4294967295 : Int)).toNat) + (IntKind.u64.wrap ((IntKind.u64.wrap (BitVec.ofInt 64 x_1 &&& BitVec.ofInt 64 (4294967295 : Int)).toNat) * (Int.fdiv y (2 ^ min (Int.toNat (32 : Int)) 64)))))) (2 ^ min (Int.toNat (32 : Int)) 64)))), (IntKind.u64.wrap (x_1 * y))))
theorem z37p0ok (x_1 y : Int) (K : KT) (h : W (math_bits_Mul64_p0 x_1 y) (rE z37R K)) : EvL Try.prog 51 (List.drop 0 z37i0) K (z37p0S x_1 y) :=
  EvL.pE mixed (lookC_ok (l := []) trivial) [4, 5] 0 13 (.nf (X := fun K => ((0 : Int) ≤ (32 : Int)) ∧ (((0 : Int) ≤ (32 : Int)) ∧ (((0 : Int) ≤ (32 : Int)) ∧ (((0 : Int) ≤ (32 : Int)) ∧ (((0 : Int) ≤ (32 : Int)) ∧ (wK K .ret (z37R ((IntKind.u64.wrap ((IntKind.u64.wrap ((IntKind.u64.wrap ((Int.fdiv x_1 (2 ^ min (Int.toNat (32 : Int)) 64)) * (Int.fdiv y (2 ^ min (Int.toNat (32 : Int)) 64)))) + (Int.fdiv (IntKind.u64.wrap ((IntKind.u64.wrap ((Int.fdiv x_1 (2 ^ min (Int.toNat (32 : Int)) 64)) * (IntKind.u64.wrap (BitVec.ofInt 64 y &&& BitVec.ofInt 64 (4294967295 : Int)).toNat))) + (Int.fdiv (IntKind.u64.wrap ((IntKind.u64.wrap (BitVec.ofInt 64 x_1 &&& BitVec.ofInt 64 (4294967295 : Int)).toNat) * (IntKind.u64.wrap (BitVec.ofInt 64 y &&& BitVec.ofInt 64 (4294967295 : Int)).toNat))) (2 ^ min (Int.toNat (32 : Int)) 64)))) (2 ^ min (Int.toNat (32 : Int)) 64)))) + (Int.fdiv (IntKind.u64.wrap ((IntKind.u64.wrap (BitVec.ofInt 64 (IntKind.u64.wrap ((IntKind.u64.wrap ((Int.fdiv x_1 (2 ^ min (Int.toNat (32 : Int)) 64)) * (IntKind.u64.wrap (BitVec.ofInt 64 y &&& BitVec.ofInt 64 (4294967295 : Int)).toNat))) + (Int.fdiv (IntKind.u64.wrap ((IntKind.u64.wrap (BitVec.ofInt 64 x_1 &&& BitVec.ofInt 64 (4294967295 : Int)).toNat) * (IntKind.u64.wrap (BitVec.ofInt 64 y &&& BitVec.ofInt 64 (4294967295 : Int)).toNat))) (2 ^ min (Int.toNat (32 : Int)) 64)))) &&& BitVec.ofInt 64 (4294967295 : Int)).toNat) + (IntKind.u64.wrap ((IntKind.u64.wrap (BitVec.ofInt 64 x_1 &&& BitVec.ofInt 64 (4294967295 : Int)).toNat) * (Int.fdiv y (2 ^ min (Int.toNat (32 : Int)) 64)))))) (2 ^ min (Int.toNat (32 : Int)) 64)))), (IntKind.u64.wrap (x_1 * y)))))))))) (fun K => by kernel_rfl) (⟨(by decide), ⟨(by decide), ⟨(by decide), ⟨(by decide), ⟨(by decide), ⟨_, .refl _, h⟩⟩⟩⟩⟩⟩))
noncomputable def math_bits_Mul64 (x_1 y : Int) : Option ((Int × Int)) := math_bits_Mul64_p0 x_1 y
theorem z37run (x_1 y : Int) (y_ : (Int × Int)) (h : math_bits_Mul64 x_1 y = some y_) : EvL Try.prog 51 (items (bodyOf Try.f37)) (retK Try.prog [.tmp 4, .tmp 5] (OutOk (math_bits_Mul64_out y_))) (z37p0S x_1 y) :=
  z37p0ok x_1 y _ (W_iff.2 ⟨y_, h, z37Rok y_⟩)
noncomputable def math_bits_Mul64_C : Con
  | [(.c (.lit (.int .u64 a1))), (.c (.lit (.int .u64 a2)))] => some ([(math_bits_Mul64 a1 a2).isSome = true], (math_bits_Mul64_out ((math_bits_Mul64 a1 a2).getD ((0 : Int), (0 : Int)))))
  | _ => none
theorem math_bits_Mul64_ok : Meets Try.prog 37 math_bits_Mul64_C := by
  refine meets_fun (fn := Try.f37) (c := bodyOf Try.f37) (by kernel_rfl) (by kernel_rfl) (by kernel_rfl) (rs := [.tmp 4, .tmp 5]) (by kernel_rfl) (nt := 51) (by kernel_rfl) fun vs p out h hp => ?_
  unfold math_bits_Mul64_C at h
  split at h
  · next a1 a2 =>
    cases h
    obtain ⟨g, hp⟩ := allq hp
    obtain ⟨x, hx⟩ := Option.isSome_iff_exists.1 g
    rw [hx]
    exact ⟨[(.c (.lit (.int .u64 a1))), (.c (.lit (.int .u64 a2)))], (VLes.cons (VLe.rfl' _) (VLes.cons (VLe.rfl' _) VLes.nil)), rfl, z37run a1 a2 x hx⟩
  · cases h

noncomputable def z28i0 : List Code := items (bodyOf Try.f28)
def ref1_times_out (x_1 : GPensionref1_wide) : Out := .data (.agg [(.c (.lit (.int .u64 x_1.hi))), (.c (.lit (.int .u64 x_1.lo)))])
def z28R (x_1 : GPensionref1_wide) : St := { tm := [sv 4 (.ptr 0 2 0 0)], hp := [(0, some (.box [(.c (.lit (.int .u64 x_1.hi))), (.c (.lit (.int .u64 x_1.lo)))]))], nx := 1 }
theorem z28Rok (x_1 : GPensionref1_wide) : retK Try.prog [.cell 4 58] (OutOk (ref1_times_out x_1)) .ret (z28R x_1) :=
  retK.intro (v := (.agg [(.c (.lit (.int .u64 x_1.hi))), (.c (.lit (.int .u64 x_1.lo)))])) (by kernel_rfl) ((VLe.rfl' _))
def z28p0S (a b : Int) : St := { tm := [sv 0 (.c (.lit (.int .u64 a))), sv 1 (.c (.lit (.int .u64 b)))], hp := [], nx := 0 }
noncomputable def ref1_times_p0 (a b : Int) : Option (GPensionref1_wide) := (math_bits_Mul64 a b).bind fun r_1 => ((some (GPensionref1_wide.mk r_1.1 r_1.2)))
theorem z28p0ok (a b : Int) (K : KT) (h : W (ref1_times_p0 a b) (rE z28R K)) : EvL Try.prog 16 (List.drop 0 z28i0) K (z28p0S a b) :=
  EvL.pE mixed (lookC_ok (l := [(37, .pure math_bits_Mul64_C)]) ⟨math_bits_Mul64_ok, trivial⟩) [4] 0 4 (.nf (X := fun K => ((math_bits_Mul64 a b).isSome = true) ∧ (wK K .ret (z28R (GPensionref1_wide.mk ((math_bits_Mul64 a b).getD ((0 : Int), (0 : Int))).1 ((math_bits_Mul64 a b).getD ((0 : Int), (0 : Int))).2)))) (fun K => by kernel_rfl) (W_bind ((0 : Int), (0 : Int)) h fun hp0 h => ⟨_, .refl _, h⟩))
noncomputable def ref1_times (a b : Int) : Option (GPensionref1_wide) := ref1_times_p0 a b
theorem z28run (a b : Int) (y_ : GPensionref1_wide) (h : ref1_times a b = some y_) : EvL Try.prog 16 (items (bodyOf Try.f28)) (retK Try.prog [.cell 4 58] (OutOk (ref1_times_out y_))) (z28p0S a b) :=
  z28p0ok a b _ (W_iff.2 ⟨y_, h, z28Rok y_⟩)
noncomputable def ref1_times_C : Con
  | [(.c (.lit (.int .u64 a1))), (.c (.lit (.int .u64 a2)))] => some ([(ref1_times a1 a2).isSome = true], (ref1_times_out ((ref1_times a1 a2).getD zGPensionref1_wide)))
  | _ => none
theorem ref1_times_ok : Meets Try.prog 28 ref1_times_C := by
  refine meets_fun (fn := Try.f28) (c := bodyOf Try.f28) (by kernel_rfl) (by kernel_rfl) (by kernel_rfl) (rs := [.cell 4 58]) (by kernel_rfl) (nt := 16) (by kernel_rfl) fun vs p out h hp => ?_
  unfold ref1_times_C at h
  split at h
  · next a1 a2 =>
    cases h
    obtain ⟨g, hp⟩ := allq hp
    obtain ⟨x, hx⟩ := Option.isSome_iff_exists.1 g
    rw [hx]
    exact ⟨[(.c (.lit (.int .u64 a1))), (.c (.lit (.int .u64 a2)))], (VLes.cons (VLe.rfl' _) (VLes.cons (VLe.rfl' _) VLes.nil)), rfl, z28run a1 a2 x hx⟩
  · cases h


/-- The sum of two words, and the carry. -/
noncomputable def math_bits_Add64 (x y c : Int) : Option (Int × Int) := gd ((0 : Int) ≤ x ∧ (0 : Int) ≤ y ∧ (0 : Int) ≤ c ∧ c ≤ (1 : Int)) (some ((x + y + c) % 18446744073709551616, (x + y + c) / 18446744073709551616))
def math_bits_Add64_out (x_2 : (Int × Int)) : Out := .data (.tup [(.c (.lit (.int .u64 x_2.1))), (.c (.lit (.int .u64 x_2.2)))])
noncomputable def math_bits_Add64_C : Con
  | [(.c (.lit (.int .u64 a1))), (.c (.lit (.int .u64 a2))), (.c (.lit (.int .u64 a3)))] => some ([(math_bits_Add64 a1 a2 a3).isSome = true], (math_bits_Add64_out ((math_bits_Add64 a1 a2 a3).getD ((0 : Int), (0 : Int)))))
  | _ => none
theorem math_bits_Add64_ok : Meets Try.prog 38 math_bits_Add64_C := by
  intro ok w xs vs p out hx hok hcon hp
  unfold math_bits_Add64_C at hcon
  split at hcon
  · next a b c =>
    cases hcon
    obtain ⟨g, hp⟩ := allq hp
    obtain ⟨r, hr⟩ := Option.isSome_iff_exists.1 g
    have hr' := hr
    unfold math_bits_Add64 at hr'
    obtain ⟨⟨h1, h2, h3, h4⟩, hq⟩ := gd_some.1 hr'
    cases hq
    rw [hr]
    obtain ⟨x, y, z, rfl⟩ : ∃ x y z, xs = [x, y, z] := by
      have := hx.1
      match xs, this with
      | [x, y, z], _ => exact ⟨x, y, z, rfl⟩
    have e1 := (hx.2 0 x _ rfl rfl).lit_inv
    have e2 := (hx.2 1 y _ rfl rfl).lit_inv
    have e3 := (hx.2 2 z _ rfl rfl).lit_inv
    subst e1 e2 e3
    refine .inr ⟨.tuple #[.int .u64 ((a + b + c) % 18446744073709551616), .int .u64 ((a + b + c) / 18446744073709551616)], w, ?_, .refl _ _, ?_⟩
    · rw [run_callFunc_extern (fn := Try.f38) (e := add64Entry) (by kernel_rfl) (by kernel_rfl) (by kernel_rfl) (by kernel_rfl) (by kernel_rfl)]
      have := run_add64 (P := Try.prog) a b c h1 h2 h3 h4 w
      rw [show [Value.int .u64 a, Value.int .u64 b, Value.int .u64 c].toArray = #[Value.int .u64 a, Value.int .u64 b, Value.int .u64 c] from rfl, this]
      rfl
    · refine RepV.tup [Value.int .u64 ((a + b + c) % 18446744073709551616), Value.int .u64 ((a + b + c) / 18446744073709551616)] _ rfl fun i v d hv hd => ?_
      match i with
      | 0 => cases hv; cases hd; exact .c _ _ (.lit _)
      | 1 => cases hv; cases hd; exact .c _ _ (.lit _)
      | i + 2 => cases hv
  · cases hcon

noncomputable def z29i0 : List Code := items (bodyOf Try.f29)
def ref1_wide_plus_out (x_2 : GPensionref1_wide) : Out := .data (.agg [(.c (.lit (.int .u64 x_2.hi))), (.c (.lit (.int .u64 x_2.lo)))])
def z29R (x_2 : GPensionref1_wide) : St := { tm := [sv 4 (.ptr 0 2 0 0)], hp := [(0, some (.box [(.c (.lit (.int .u64 x_2.hi))), (.c (.lit (.int .u64 x_2.lo)))]))], nx := 1 }
theorem z29Rok (x_2 : GPensionref1_wide) : retK Try.prog [.cell 4 58] (OutOk (ref1_wide_plus_out x_2)) .ret (z29R x_2) :=
  retK.intro (v := (.agg [(.c (.lit (.int .u64 x_2.hi))), (.c (.lit (.int .u64 x_2.lo)))])) (by kernel_rfl) ((VLe.rfl' _))
def z29p0S (w x_1 : GPensionref1_wide) : St := { tm := [sv 0 (.ag (eGPensionref1_wide w)), sv 1 (.ag (eGPensionref1_wide x_1))], hp := [], nx := 0 }
noncomputable def ref1_wide_plus_p0 (w x_1 : GPensionref1_wide) : Option (GPensionref1_wide) := (math_bits_Add64 w.lo x_1.lo (0 : Int)).bind fun r_1 => ((some (GPensionref1_wide.mk (IntKind.u64.wrap ((IntKind.u64.wrap (w.hi + x_1.hi)) + r_1.2)) r_1.1)))
theorem z29p0ok (w x_1 : GPensionref1_wide) (K : KT) (h : W (ref1_wide_plus_p0 w x_1) (rE z29R K)) : EvL Try.prog 24 (List.drop 0 z29i0) K (z29p0S w x_1) :=
  EvL.pE mixed (lookC_ok (l := [(38, .pure math_bits_Add64_C)]) ⟨math_bits_Add64_ok, trivial⟩) [4] 0 4 (.nf (X := fun K => ((math_bits_Add64 w.lo x_1.lo (0 : Int)).isSome = true) ∧ (wK K .ret (z29R (GPensionref1_wide.mk (IntKind.u64.wrap ((IntKind.u64.wrap (w.hi + x_1.hi)) + ((math_bits_Add64 w.lo x_1.lo (0 : Int)).getD ((0 : Int), (0 : Int))).2)) ((math_bits_Add64 w.lo x_1.lo (0 : Int)).getD ((0 : Int), (0 : Int))).1)))) (fun K => by kernel_rfl) (W_bind ((0 : Int), (0 : Int)) h fun hp0 h => ⟨_, .refl _, h⟩))
noncomputable def ref1_wide_plus (w x_1 : GPensionref1_wide) : Option (GPensionref1_wide) := ref1_wide_plus_p0 w x_1
theorem z29run (w x_1 : GPensionref1_wide) (y_ : GPensionref1_wide) (h : ref1_wide_plus w x_1 = some y_) : EvL Try.prog 24 (items (bodyOf Try.f29)) (retK Try.prog [.cell 4 58] (OutOk (ref1_wide_plus_out y_))) (z29p0S w x_1) :=
  z29p0ok w x_1 _ (W_iff.2 ⟨y_, h, z29Rok y_⟩)
noncomputable def ref1_wide_plus_C : Con
  | [(.agg [(.c (.lit (.int .u64 a1))), (.c (.lit (.int .u64 a2)))]), (.agg [(.c (.lit (.int .u64 a3))), (.c (.lit (.int .u64 a4)))])] => some ([(ref1_wide_plus (GPensionref1_wide.mk a1 a2) (GPensionref1_wide.mk a3 a4)).isSome = true], (ref1_wide_plus_out ((ref1_wide_plus (GPensionref1_wide.mk a1 a2) (GPensionref1_wide.mk a3 a4)).getD zGPensionref1_wide)))
  | _ => none
theorem ref1_wide_plus_ok : Meets Try.prog 29 ref1_wide_plus_C := by
  refine meets_fun (fn := Try.f29) (c := bodyOf Try.f29) (by kernel_rfl) (by kernel_rfl) (by kernel_rfl) (rs := [.cell 4 58]) (by kernel_rfl) (nt := 24) (by kernel_rfl) fun vs p out h hp => ?_
  unfold ref1_wide_plus_C at h
  split at h
  · next a1 a2 a3 a4 =>
    cases h
    obtain ⟨g, hp⟩ := allq hp
    obtain ⟨x, hx⟩ := Option.isSome_iff_exists.1 g
    rw [hx]
    exact ⟨[(.agg [(.c (.lit (.int .u64 (GPensionref1_wide.mk a1 a2).hi))), (.c (.lit (.int .u64 (GPensionref1_wide.mk a1 a2).lo)))]), (.agg [(.c (.lit (.int .u64 (GPensionref1_wide.mk a3 a4).hi))), (.c (.lit (.int .u64 (GPensionref1_wide.mk a3 a4).lo)))])], (VLes.cons (VLe.rfl' _) (VLes.cons (VLe.rfl' _) VLes.nil)), rfl, z29run (GPensionref1_wide.mk a1 a2) (GPensionref1_wide.mk a3 a4) x hx⟩
  · cases h

noncomputable def z30i0 : List Code := items (bodyOf Try.f30)
def ref1_wide_less_out (x_2 : Bool) : Out := .data (bl x_2)
def z30R (x_2 : Bool) : St := { tm := [sv 4 (bl x_2)], hp := [], nx := 0 }
theorem z30Rok (x_2 : Bool) : retK Try.prog [.tmp 4] (OutOk (ref1_wide_less_out x_2)) .ret (z30R x_2) :=
  retK.intro (v := (bl x_2)) (by kernel_rfl) ((VLe.rfl' _))
def z30p0S (w x_1 : GPensionref1_wide) : St := { tm := [sv 0 (.ag (eGPensionref1_wide w)), sv 1 (.ag (eGPensionref1_wide x_1))], hp := [], nx := 0 }
noncomputable def ref1_wide_less_p0 (w x_1 : GPensionref1_wide) : Option (Bool) := (some (bif (decide (w.hi < x_1.hi)) then true else (bif (w.hi == x_1.hi) then (decide (w.lo < x_1.lo)) else false)))
theorem z30p0ok (w x_1 : GPensionref1_wide) (K : KT) (h : W (ref1_wide_less_p0 w x_1) (rE z30R K)) : EvL Try.prog 24 (List.drop 0 z30i0) K (z30p0S w x_1) :=
  EvL.pE mixed (lookC_ok (l := []) trivial) [4] 0 3 (.nf (X := fun K => wK K .ret (z30R (bif (decide (w.hi < x_1.hi)) then true else (bif (w.hi == x_1.hi) then (decide (w.lo < x_1.lo)) else false)))) (fun K => by kernel_rfl) (⟨_, .refl _, h⟩))
noncomputable def ref1_wide_less (w x_1 : GPensionref1_wide) : Option (Bool) := ref1_wide_less_p0 w x_1
theorem z30run (w x_1 : GPensionref1_wide) (y_ : Bool) (h : ref1_wide_less w x_1 = some y_) : EvL Try.prog 24 (items (bodyOf Try.f30)) (retK Try.prog [.tmp 4] (OutOk (ref1_wide_less_out y_))) (z30p0S w x_1) :=
  z30p0ok w x_1 _ (W_iff.2 ⟨y_, h, z30Rok y_⟩)
noncomputable def ref1_wide_less_C : Con
  | [(.agg [(.c (.lit (.int .u64 a1))), (.c (.lit (.int .u64 a2)))]), (.agg [(.c (.lit (.int .u64 a3))), (.c (.lit (.int .u64 a4)))])] => some ([(ref1_wide_less (GPensionref1_wide.mk a1 a2) (GPensionref1_wide.mk a3 a4)).isSome = true], (ref1_wide_less_out ((ref1_wide_less (GPensionref1_wide.mk a1 a2) (GPensionref1_wide.mk a3 a4)).getD false)))
  | _ => none
theorem ref1_wide_less_ok : Meets Try.prog 30 ref1_wide_less_C := by
  refine meets_fun (fn := Try.f30) (c := bodyOf Try.f30) (by kernel_rfl) (by kernel_rfl) (by kernel_rfl) (rs := [.tmp 4]) (by kernel_rfl) (nt := 24) (by kernel_rfl) fun vs p out h hp => ?_
  unfold ref1_wide_less_C at h
  split at h
  · next a1 a2 a3 a4 =>
    cases h
    obtain ⟨g, hp⟩ := allq hp
    obtain ⟨x, hx⟩ := Option.isSome_iff_exists.1 g
    rw [hx]
    exact ⟨[(.agg [(.c (.lit (.int .u64 (GPensionref1_wide.mk a1 a2).hi))), (.c (.lit (.int .u64 (GPensionref1_wide.mk a1 a2).lo)))]), (.agg [(.c (.lit (.int .u64 (GPensionref1_wide.mk a3 a4).hi))), (.c (.lit (.int .u64 (GPensionref1_wide.mk a3 a4).lo)))])], (VLes.cons (VLe.rfl' _) (VLes.cons (VLe.rfl' _) VLes.nil)), rfl, z30run (GPensionref1_wide.mk a1 a2) (GPensionref1_wide.mk a3 a4) x hx⟩
  · cases h


/-- The difference of two words, and the borrow. -/
def sub64Entry : Array Value → Sem Value := fun args => do
  let (x, y, b) ← Extern.MathBitsCarry.three "Sub64" args
  pure (Extern.MathBitsCarry.pair ((x + Extern.MathBitsCarry.m64 - y - b) % Extern.MathBitsCarry.m64) (if x < y + b then 1 else 0))
theorem run_sub64 {P : Program} (x y c : Int) (hx : 0 ≤ x) (hy : 0 ≤ y) (hy2 : y < 18446744073709551616) (hc0 : 0 ≤ c) (hc : c ≤ 1) (w : World) :
    (sub64Entry #[.int .u64 x, .int .u64 y, .int .u64 c]).run P w = .ok (.tuple #[.int .u64 ((x - y - c) % 18446744073709551616), .int .u64 (if x < y + c then 1 else 0)]) w := by
  have key : ∀ k : Nat, k ≤ 1 → (sub64Entry #[.int .u64 x, .int .u64 y, .int .u64 (k : Int)]).run P w =
      .ok (Extern.MathBitsCarry.pair ((x.toNat + Extern.MathBitsCarry.m64 - y.toNat - k) % Extern.MathBitsCarry.m64) (if x.toNat < y.toNat + k then 1 else 0)) w := by
    intro k hk
    have : k = 0 ∨ k = 1 := by omega
    rcases this with rfl | rfl <;> rfl
  obtain ⟨k, rfl⟩ := Int.eq_ofNat_of_zero_le hc0
  rw [key k (by omega)]
  obtain ⟨X, rfl⟩ := Int.eq_ofNat_of_zero_le hx
  obtain ⟨Y, rfl⟩ := Int.eq_ofNat_of_zero_le hy
  simp only [Extern.MathBitsCarry.pair, Extern.MathBitsCarry.m64, Int.toNat_natCast]
  have e1 : Int.ofNat ((X + 2 ^ 64 - Y - k) % 2 ^ 64) = ((X : Int) - (Y : Int) - (k : Int)) % 18446744073709551616 := by
    show (((X + 18446744073709551616 - Y - k) % 18446744073709551616 : Nat) : Int) = _
    omega
  have e2 : Int.ofNat (if X < Y + k then 1 else 0) = (if (X : Int) < (Y : Int) + (k : Int) then (1 : Int) else 0) := by
    by_cases h : X < Y + k
    · rw [if_pos h, if_pos (by omega)]; rfl
    · rw [if_neg h, if_neg (by omega)]; rfl
  rw [e1, e2]
noncomputable def math_bits_Sub64 (x y c : Int) : Option (Int × Int) := gd ((0 : Int) ≤ x ∧ (0 : Int) ≤ y ∧ (0 : Int) ≤ c ∧ c ≤ (1 : Int) ∧ y < (18446744073709551616 : Int)) (some ((x - y - c) % 18446744073709551616, if x < y + c then 1 else 0))
def math_bits_Sub64_out (x_2 : (Int × Int)) : Out := .data (.tup [(.c (.lit (.int .u64 x_2.1))), (.c (.lit (.int .u64 x_2.2)))])
noncomputable def math_bits_Sub64_C : Con
  | [(.c (.lit (.int .u64 a1))), (.c (.lit (.int .u64 a2))), (.c (.lit (.int .u64 a3)))] => some ([(math_bits_Sub64 a1 a2 a3).isSome = true], (math_bits_Sub64_out ((math_bits_Sub64 a1 a2 a3).getD ((0 : Int), (0 : Int)))))
  | _ => none
theorem math_bits_Sub64_ok : Meets Try.prog 39 math_bits_Sub64_C := by
  intro ok w xs vs p out hx hok hcon hp
  unfold math_bits_Sub64_C at hcon
  split at hcon
  · next a b c =>
    cases hcon
    obtain ⟨g, hp⟩ := allq hp
    obtain ⟨r, hr⟩ := Option.isSome_iff_exists.1 g
    have hr' := hr
    unfold math_bits_Sub64 at hr'
    obtain ⟨⟨h1, h2, h3, h4, h5⟩, hq⟩ := gd_some.1 hr'
    cases hq
    rw [hr]
    obtain ⟨x, y, z, rfl⟩ : ∃ x y z, xs = [x, y, z] := by
      have := hx.1
      match xs, this with
      | [x, y, z], _ => exact ⟨x, y, z, rfl⟩
    have e1 := (hx.2 0 x _ rfl rfl).lit_inv
    have e2 := (hx.2 1 y _ rfl rfl).lit_inv
    have e3 := (hx.2 2 z _ rfl rfl).lit_inv
    subst e1 e2 e3
    refine .inr ⟨.tuple #[.int .u64 ((a - b - c) % 18446744073709551616), .int .u64 (if a < b + c then 1 else 0)], w, ?_, .refl _ _, ?_⟩
    · rw [run_callFunc_extern (fn := Try.f39) (e := sub64Entry) (by kernel_rfl) (by kernel_rfl) (by kernel_rfl) (by kernel_rfl) (by kernel_rfl)]
      have := run_sub64 (P := Try.prog) a b c h1 h2 h5 h3 h4 w
      rw [show [Value.int .u64 a, Value.int .u64 b, Value.int .u64 c].toArray = #[Value.int .u64 a, Value.int .u64 b, Value.int .u64 c] from rfl, this]
      rfl
    · refine RepV.tup [Value.int .u64 ((a - b - c) % 18446744073709551616), Value.int .u64 (if a < b + c then 1 else 0)] _ rfl fun i v d hv hd => ?_
      match i with
      | 0 => cases hv; cases hd; exact .c _ _ (.lit _)
      | 1 => cases hv; cases hd; exact .c _ _ (.lit _)
      | i + 2 => cases hv
  · cases hcon

noncomputable def z31i0 : List Code := items (bodyOf Try.f31)
def ref1_wide_minus_out (x_2 : GPensionref1_wide) : Out := .data (.agg [(.c (.lit (.int .u64 x_2.hi))), (.c (.lit (.int .u64 x_2.lo)))])
def z31R (x_2 : GPensionref1_wide) : St := { tm := [sv 4 (.ptr 0 2 0 0)], hp := [(0, some (.box [(.c (.lit (.int .u64 x_2.hi))), (.c (.lit (.int .u64 x_2.lo)))]))], nx := 1 }
theorem z31Rok (x_2 : GPensionref1_wide) : retK Try.prog [.cell 4 58] (OutOk (ref1_wide_minus_out x_2)) .ret (z31R x_2) :=
  retK.intro (v := (.agg [(.c (.lit (.int .u64 x_2.hi))), (.c (.lit (.int .u64 x_2.lo)))])) (by kernel_rfl) ((VLe.rfl' _))
def z31p0S (w x_1 : GPensionref1_wide) : St := { tm := [sv 0 (.ag (eGPensionref1_wide w)), sv 1 (.ag (eGPensionref1_wide x_1))], hp := [], nx := 0 }
noncomputable def ref1_wide_minus_p0 (w x_1 : GPensionref1_wide) : Option (GPensionref1_wide) := (math_bits_Sub64 w.lo x_1.lo (0 : Int)).bind fun r_1 => ((some (GPensionref1_wide.mk (IntKind.u64.wrap ((IntKind.u64.wrap (w.hi - x_1.hi)) - r_1.2)) r_1.1)))
theorem z31p0ok (w x_1 : GPensionref1_wide) (K : KT) (h : W (ref1_wide_minus_p0 w x_1) (rE z31R K)) : EvL Try.prog 24 (List.drop 0 z31i0) K (z31p0S w x_1) :=
  EvL.pE mixed (lookC_ok (l := [(39, .pure math_bits_Sub64_C)]) ⟨math_bits_Sub64_ok, trivial⟩) [4] 0 4 (.nf (X := fun K => ((math_bits_Sub64 w.lo x_1.lo (0 : Int)).isSome = true) ∧ (wK K .ret (z31R (GPensionref1_wide.mk (IntKind.u64.wrap ((IntKind.u64.wrap (w.hi - x_1.hi)) - ((math_bits_Sub64 w.lo x_1.lo (0 : Int)).getD ((0 : Int), (0 : Int))).2)) ((math_bits_Sub64 w.lo x_1.lo (0 : Int)).getD ((0 : Int), (0 : Int))).1)))) (fun K => by kernel_rfl) (W_bind ((0 : Int), (0 : Int)) h fun hp0 h => ⟨_, .refl _, h⟩))
noncomputable def ref1_wide_minus (w x_1 : GPensionref1_wide) : Option (GPensionref1_wide) := ref1_wide_minus_p0 w x_1
theorem z31run (w x_1 : GPensionref1_wide) (y_ : GPensionref1_wide) (h : ref1_wide_minus w x_1 = some y_) : EvL Try.prog 24 (items (bodyOf Try.f31)) (retK Try.prog [.cell 4 58] (OutOk (ref1_wide_minus_out y_))) (z31p0S w x_1) :=
  z31p0ok w x_1 _ (W_iff.2 ⟨y_, h, z31Rok y_⟩)
noncomputable def ref1_wide_minus_C : Con
  | [(.agg [(.c (.lit (.int .u64 a1))), (.c (.lit (.int .u64 a2)))]), (.agg [(.c (.lit (.int .u64 a3))), (.c (.lit (.int .u64 a4)))])] => some ([(ref1_wide_minus (GPensionref1_wide.mk a1 a2) (GPensionref1_wide.mk a3 a4)).isSome = true], (ref1_wide_minus_out ((ref1_wide_minus (GPensionref1_wide.mk a1 a2) (GPensionref1_wide.mk a3 a4)).getD zGPensionref1_wide)))
  | _ => none
theorem ref1_wide_minus_ok : Meets Try.prog 31 ref1_wide_minus_C := by
  refine meets_fun (fn := Try.f31) (c := bodyOf Try.f31) (by kernel_rfl) (by kernel_rfl) (by kernel_rfl) (rs := [.cell 4 58]) (by kernel_rfl) (nt := 24) (by kernel_rfl) fun vs p out h hp => ?_
  unfold ref1_wide_minus_C at h
  split at h
  · next a1 a2 a3 a4 =>
    cases h
    obtain ⟨g, hp⟩ := allq hp
    obtain ⟨x, hx⟩ := Option.isSome_iff_exists.1 g
    rw [hx]
    exact ⟨[(.agg [(.c (.lit (.int .u64 (GPensionref1_wide.mk a1 a2).hi))), (.c (.lit (.int .u64 (GPensionref1_wide.mk a1 a2).lo)))]), (.agg [(.c (.lit (.int .u64 (GPensionref1_wide.mk a3 a4).hi))), (.c (.lit (.int .u64 (GPensionref1_wide.mk a3 a4).lo)))])], (VLes.cons (VLe.rfl' _) (VLes.cons (VLe.rfl' _) VLes.nil)), rfl, z31run (GPensionref1_wide.mk a1 a2) (GPensionref1_wide.mk a3 a4) x hx⟩
  · cases h

noncomputable def z17i0 : List Code := items (bodyOf Try.f17)
def ref1_AddFractions_out (x_1 : (GFraction × Int)) : Out := .data (.tup [(.agg [(i64 x_1.1.Num), (i64 x_1.1.Den)]), (i64 x_1.2)])
def z17R (x_1 : (GFraction × Int)) : St := { tm := [sv 4 (.ptr 0 2 0 0), sv 5 (i64 x_1.2)], hp := [(0, some (.box [(i64 x_1.1.Num), (i64 x_1.1.Den)]))], nx := 1 }
theorem z17Rok (x_1 : (GFraction × Int)) : retK Try.prog [.cell 4 44, .tmp 5] (OutOk (ref1_AddFractions_out x_1)) .ret (z17R x_1) :=
  retK.intro (v := (.tup [(.agg [(i64 x_1.1.Num), (i64 x_1.1.Den)]), (i64 x_1.2)])) (by kernel_rfl) (VLe.tup (VLes.cons (VLe.rfl' _) (VLes.cons (VLe.rfl' _) (VLes.nil))))
def z17p0S (a b : GFraction) : St := { tm := [sv 0 (.ag (eGFraction a)), sv 1 (.ag (eGFraction b))], hp := [], nx := 0 }
noncomputable def ref1_AddFractions_p0 (a b : GFraction) : Option ((GFraction × Int)) := (ref1_ValidFraction a).bind fun r_1 => (gd (((!(!r_1)) && true) = true → (ref1_ValidFraction b).isSome = true) ((bif (bif (!r_1) then true else (!((ref1_ValidFraction b).getD false))) then (some ((GFraction.mk (0 : Int) (0 : Int)), (1 : Int))) else (ref1_size a.Num).bind fun r_2 => ((ref1_times r_2 (IntKind.u64.wrap b.Den)).bind fun r_3 => ((ref1_size b.Num).bind fun r_4 => ((ref1_times r_4 (IntKind.u64.wrap a.Den)).bind fun r_5 => ((bif ((decide (a.Num < (0 : Int))) == (decide (b.Num < (0 : Int)))) then (ref1_wide_plus r_3 r_5).bind fun r_6 => ((ref1_lowest (decide (a.Num < (0 : Int))) r_6 (IntKind.u64.wrap ((IntKind.u64.wrap a.Den) * (IntKind.u64.wrap b.Den)))).bind fun r_7 => ((some (r_7.1, r_7.2)))) else (ref1_wide_less r_3 r_5).bind fun r_8 => ((bif r_8 then (ref1_wide_minus r_5 r_3).bind fun r_9 => ((ref1_lowest (decide (b.Num < (0 : Int))) r_9 (IntKind.u64.wrap ((IntKind.u64.wrap a.Den) * (IntKind.u64.wrap b.Den)))).bind fun r_10 => ((some (r_10.1, r_10.2)))) else (ref1_wide_minus r_3 r_5).bind fun r_11 => ((ref1_lowest (decide (a.Num < (0 : Int))) r_11 (IntKind.u64.wrap ((IntKind.u64.wrap a.Den) * (IntKind.u64.wrap b.Den)))).bind fun r_12 => ((some (r_12.1, r_12.2))))))))))))))
theorem z17p0ok (a b : GFraction) (K : KT) (h : W (ref1_AddFractions_p0 a b) (rE z17R K)) : EvL Try.prog 79 (List.drop 0 z17i0) K (z17p0S a b) :=
  EvL.pE mixed (lookC_ok (l := [(25, .pure ref1_lowest_C), (26, .pure ref1_size_C), (27, .pure ref1_ValidFraction_C), (28, .pure ref1_times_C), (29, .pure ref1_wide_plus_C), (30, .pure ref1_wide_less_C), (31, .pure ref1_wide_minus_C)]) ⟨ref1_lowest_ok, ref1_size_ok, ref1_ValidFraction_ok, ref1_times_ok, ref1_wide_plus_ok, ref1_wide_less_ok, ref1_wide_minus_ok, trivial⟩) [4, 5] 0 11 (.nf (X := fun K => ((ref1_ValidFraction a).isSome = true) ∧ (((!(!((ref1_ValidFraction a).getD false))) && true) = true → (ref1_ValidFraction b).isSome = true) ∧ ((bif (bif (!((ref1_ValidFraction a).getD false)) then true else (!((ref1_ValidFraction b).getD false))) then wK K .ret (z17R ((GFraction.mk (0 : Int) (0 : Int)), (1 : Int))) else ((ref1_size a.Num).isSome = true) ∧ ((ref1_times ((ref1_size a.Num).getD (0 : Int)) (IntKind.u64.wrap b.Den)).isSome = true) ∧ ((ref1_size b.Num).isSome = true) ∧ ((ref1_times ((ref1_size b.Num).getD (0 : Int)) (IntKind.u64.wrap a.Den)).isSome = true) ∧ ((bif ((decide (a.Num < (0 : Int))) == (decide (b.Num < (0 : Int)))) then ((ref1_wide_plus ((ref1_times ((ref1_size a.Num).getD (0 : Int)) (IntKind.u64.wrap b.Den)).getD zGPensionref1_wide) ((ref1_times ((ref1_size b.Num).getD (0 : Int)) (IntKind.u64.wrap a.Den)).getD zGPensionref1_wide)).isSome = true) ∧ ((ref1_lowest (decide (a.Num < (0 : Int))) ((ref1_wide_plus ((ref1_times ((ref1_size a.Num).getD (0 : Int)) (IntKind.u64.wrap b.Den)).getD zGPensionref1_wide) ((ref1_times ((ref1_size b.Num).getD (0 : Int)) (IntKind.u64.wrap a.Den)).getD zGPensionref1_wide)).getD zGPensionref1_wide) (IntKind.u64.wrap ((IntKind.u64.wrap a.Den) * (IntKind.u64.wrap b.Den)))).isSome = true) ∧ (wK K .ret (z17R (((ref1_lowest (decide (a.Num < (0 : Int))) ((ref1_wide_plus ((ref1_times ((ref1_size a.Num).getD (0 : Int)) (IntKind.u64.wrap b.Den)).getD zGPensionref1_wide) ((ref1_times ((ref1_size b.Num).getD (0 : Int)) (IntKind.u64.wrap a.Den)).getD zGPensionref1_wide)).getD zGPensionref1_wide) (IntKind.u64.wrap ((IntKind.u64.wrap a.Den) * (IntKind.u64.wrap b.Den)))).getD (zGFraction, (0 : Int))).1, ((ref1_lowest (decide (a.Num < (0 : Int))) ((ref1_wide_plus ((ref1_times ((ref1_size a.Num).getD (0 : Int)) (IntKind.u64.wrap b.Den)).getD zGPensionref1_wide) ((ref1_times ((ref1_size b.Num).getD (0 : Int)) (IntKind.u64.wrap a.Den)).getD zGPensionref1_wide)).getD zGPensionref1_wide) (IntKind.u64.wrap ((IntKind.u64.wrap a.Den) * (IntKind.u64.wrap b.Den)))).getD (zGFraction, (0 : Int))).2))) else ((ref1_wide_less ((ref1_times ((ref1_size a.Num).getD (0 : Int)) (IntKind.u64.wrap b.Den)).getD zGPensionref1_wide) ((ref1_times ((ref1_size b.Num).getD (0 : Int)) (IntKind.u64.wrap a.Den)).getD zGPensionref1_wide)).isSome = true) ∧ ((bif ((ref1_wide_less ((ref1_times ((ref1_size a.Num).getD (0 : Int)) (IntKind.u64.wrap b.Den)).getD zGPensionref1_wide) ((ref1_times ((ref1_size b.Num).getD (0 : Int)) (IntKind.u64.wrap a.Den)).getD zGPensionref1_wide)).getD false) then ((ref1_wide_minus ((ref1_times ((ref1_size b.Num).getD (0 : Int)) (IntKind.u64.wrap a.Den)).getD zGPensionref1_wide) ((ref1_times ((ref1_size a.Num).getD (0 : Int)) (IntKind.u64.wrap b.Den)).getD zGPensionref1_wide)).isSome = true) ∧ ((ref1_lowest (decide (b.Num < (0 : Int))) ((ref1_wide_minus ((ref1_times ((ref1_size b.Num).getD (0 : Int)) (IntKind.u64.wrap a.Den)).getD zGPensionref1_wide) ((ref1_times ((ref1_size a.Num).getD (0 : Int)) (IntKind.u64.wrap b.Den)).getD zGPensionref1_wide)).getD zGPensionref1_wide) (IntKind.u64.wrap ((IntKind.u64.wrap a.Den) * (IntKind.u64.wrap b.Den)))).isSome = true) ∧ (wK K .ret (z17R (((ref1_lowest (decide (b.Num < (0 : Int))) ((ref1_wide_minus ((ref1_times ((ref1_size b.Num).getD (0 : Int)) (IntKind.u64.wrap a.Den)).getD zGPensionref1_wide) ((ref1_times ((ref1_size a.Num).getD (0 : Int)) (IntKind.u64.wrap b.Den)).getD zGPensionref1_wide)).getD zGPensionref1_wide) (IntKind.u64.wrap ((IntKind.u64.wrap a.Den) * (IntKind.u64.wrap b.Den)))).getD (zGFraction, (0 : Int))).1, ((ref1_lowest (decide (b.Num < (0 : Int))) ((ref1_wide_minus ((ref1_times ((ref1_size b.Num).getD (0 : Int)) (IntKind.u64.wrap a.Den)).getD zGPensionref1_wide) ((ref1_times ((ref1_size a.Num).getD (0 : Int)) (IntKind.u64.wrap b.Den)).getD zGPensionref1_wide)).getD zGPensionref1_wide) (IntKind.u64.wrap ((IntKind.u64.wrap a.Den) * (IntKind.u64.wrap b.Den)))).getD (zGFraction, (0 : Int))).2))) else ((ref1_wide_minus ((ref1_times ((ref1_size a.Num).getD (0 : Int)) (IntKind.u64.wrap b.Den)).getD zGPensionref1_wide) ((ref1_times ((ref1_size b.Num).getD (0 : Int)) (IntKind.u64.wrap a.Den)).getD zGPensionref1_wide)).isSome = true) ∧ ((ref1_lowest (decide (a.Num < (0 : Int))) ((ref1_wide_minus ((ref1_times ((ref1_size a.Num).getD (0 : Int)) (IntKind.u64.wrap b.Den)).getD zGPensionref1_wide) ((ref1_times ((ref1_size b.Num).getD (0 : Int)) (IntKind.u64.wrap a.Den)).getD zGPensionref1_wide)).getD zGPensionref1_wide) (IntKind.u64.wrap ((IntKind.u64.wrap a.Den) * (IntKind.u64.wrap b.Den)))).isSome = true) ∧ (wK K .ret (z17R (((ref1_lowest (decide (a.Num < (0 : Int))) ((ref1_wide_minus ((ref1_times ((ref1_size a.Num).getD (0 : Int)) (IntKind.u64.wrap b.Den)).getD zGPensionref1_wide) ((ref1_times ((ref1_size b.Num).getD (0 : Int)) (IntKind.u64.wrap a.Den)).getD zGPensionref1_wide)).getD zGPensionref1_wide) (IntKind.u64.wrap ((IntKind.u64.wrap a.Den) * (IntKind.u64.wrap b.Den)))).getD (zGFraction, (0 : Int))).1, ((ref1_lowest (decide (a.Num < (0 : Int))) ((ref1_wide_minus ((ref1_times ((ref1_size a.Num).getD (0 : Int)) (IntKind.u64.wrap b.Den)).getD zGPensionref1_wide) ((ref1_times ((ref1_size b.Num).getD (0 : Int)) (IntKind.u64.wrap a.Den)).getD zGPensionref1_wide)).getD zGPensionref1_wide) (IntKind.u64.wrap ((IntKind.u64.wrap a.Den) * (IntKind.u64.wrap b.Den)))).getD (zGFraction, (0 : Int))).2)))))))))) (fun K => by kernel_rfl) (W_bind false h fun hp0 h => (W_gd h fun hp1 h => (W_bif h (fun _ h => ⟨_, .refl _, h⟩) (fun _ h => (W_bind (0 : Int) h fun hp2 h => (W_bind zGPensionref1_wide h fun hp3 h => (W_bind (0 : Int) h fun hp4 h => (W_bind zGPensionref1_wide h fun hp5 h => (W_bif h (fun _ h => (W_bind zGPensionref1_wide h fun hp6 h => (W_bind (zGFraction, (0 : Int)) h fun hp7 h => ⟨_, .refl _, h⟩))) (fun _ h => (W_bind false h fun hp8 h => (W_bif h (fun _ h => (W_bind zGPensionref1_wide h fun hp9 h => (W_bind (zGFraction, (0 : Int)) h fun hp10 h => ⟨_, .refl _, h⟩))) (fun _ h => (W_bind zGPensionref1_wide h fun hp11 h => (W_bind (zGFraction, (0 : Int)) h fun hp12 h => ⟨_, .refl _, h⟩))))))))))))))))
noncomputable def ref1_AddFractions (a b : GFraction) : Option ((GFraction × Int)) := ref1_AddFractions_p0 a b
theorem z17run (a b : GFraction) (y_ : (GFraction × Int)) (h : ref1_AddFractions a b = some y_) : EvL Try.prog 79 (items (bodyOf Try.f17)) (retK Try.prog [.cell 4 44, .tmp 5] (OutOk (ref1_AddFractions_out y_))) (z17p0S a b) :=
  z17p0ok a b _ (W_iff.2 ⟨y_, h, z17Rok y_⟩)
noncomputable def ref1_AddFractions_C : Con
  | [(.agg [(.c (.lit (.int .i64 a1))), (.c (.lit (.int .i64 a2)))]), (.agg [(.c (.lit (.int .i64 a3))), (.c (.lit (.int .i64 a4)))])] => some ([(ref1_AddFractions (GFraction.mk a1 a2) (GFraction.mk a3 a4)).isSome = true], (ref1_AddFractions_out ((ref1_AddFractions (GFraction.mk a1 a2) (GFraction.mk a3 a4)).getD (zGFraction, (0 : Int)))))
  | _ => none
theorem ref1_AddFractions_ok : Meets Try.prog 17 ref1_AddFractions_C := by
  refine meets_fun (fn := Try.f17) (c := bodyOf Try.f17) (by kernel_rfl) (by kernel_rfl) (by kernel_rfl) (rs := [.cell 4 44, .tmp 5]) (by kernel_rfl) (nt := 79) (by kernel_rfl) fun vs p out h hp => ?_
  unfold ref1_AddFractions_C at h
  split at h
  · next a1 a2 a3 a4 =>
    cases h
    obtain ⟨g, hp⟩ := allq hp
    obtain ⟨x, hx⟩ := Option.isSome_iff_exists.1 g
    rw [hx]
    exact ⟨[(.agg [(i64 (GFraction.mk a1 a2).Num), (i64 (GFraction.mk a1 a2).Den)]), (.agg [(i64 (GFraction.mk a3 a4).Num), (i64 (GFraction.mk a3 a4).Den)])], (VLes.cons (VLe.rfl' _) (VLes.cons (VLe.rfl' _) VLes.nil)), rfl, z17run (GFraction.mk a1 a2) (GFraction.mk a3 a4) x hx⟩
  · cases h

noncomputable def z7i0 : List Code := items (bodyOf Try.f7)
noncomputable def z7i1 : List Code := items (inside (inside (nthI z7i0 7)))
noncomputable def z7i2 : List Code := items (inside (inside (nthI z7i0 9)))
def law18_TotalsAddUp_out (x_1 : Bool) : Out := .data (bl x_1)
def z7R (x_1 : Bool) : St := { tm := [sv 4 (bl x_1)], hp := [], nx := 0 }
theorem z7Rok (x_1 : Bool) : retK Try.prog [.tmp 4] (OutOk (law18_TotalsAddUp_out x_1)) .ret (z7R x_1) :=
  retK.intro (v := (bl x_1)) (by kernel_rfl) ((VLe.rfl' _))
def z7l1S (l : (List GCounted)) (t : GTotal) (s : (Bool × Int)) : St := match s with | (everyone, s_1) => { tm := [sv 0 (.c (.sl 4 l.length (lsEl eGCounted zGCounted l))), sv 5 (.ptr 0 15 0 0), sv 6 (.ptr 1 2 0 0), sv 7 (bl everyone), sv 8 (i64 s_1)], hp := [(0, some (.box [(i64 t.Own.a0), (i64 t.Own.a1), (i64 t.Own.a2), (i64 t.Own.a3), (i64 t.Own.a4), (i64 t.Own.a5), (bl t.Few.a0), (bl t.Few.a1), (bl t.Few.a2), (bl t.Few.a3), (bl t.Few.a4), (bl t.Few.a5), (i64 t.Sum), (i64 t.Base), (i64 t.Last)])), (1, some (.box [(i64 (0 : Int)), (i64 (1 : Int))]))], nx := 2 }
def z7l1C0 (l : (List GCounted)) (t : GTotal) (s : Bool) : St := match s with | everyone_1 => { tm := [sv 0 (.c (.sl 4 l.length (lsEl eGCounted zGCounted l))), sv 5 (.ptr 0 15 0 0), sv 6 (.ptr 1 2 0 0), sv 7 (bl everyone_1)], hp := [(0, some (.box [(i64 t.Own.a0), (i64 t.Own.a1), (i64 t.Own.a2), (i64 t.Own.a3), (i64 t.Own.a4), (i64 t.Own.a5), (bl t.Few.a0), (bl t.Few.a1), (bl t.Few.a2), (bl t.Few.a3), (bl t.Few.a4), (bl t.Few.a5), (i64 t.Sum), (i64 t.Base), (i64 t.Last)])), (1, some (.box [(i64 (0 : Int)), (i64 (1 : Int))]))], nx := 2 }
def z7l1E (l : (List GCounted)) (t : GTotal) (r : ((Bool))) (K : KT) : Prop := match r with | s => K (.exit 0) (z7l1C0 l t s)
def z7p0S (l : (List GCounted)) (everyone : Bool) (s_1 : Int) (t : GTotal) : St := { tm := [sv 0 (.c (.sl 4 l.length (lsEl eGCounted zGCounted l))), sv 5 (.ptr 0 15 0 0), sv 6 (.ptr 1 2 0 0), sv 7 (bl everyone), sv 8 (i64 s_1)], hp := [(0, some (.box [(i64 t.Own.a0), (i64 t.Own.a1), (i64 t.Own.a2), (i64 t.Own.a3), (i64 t.Own.a4), (i64 t.Own.a5), (bl t.Few.a0), (bl t.Few.a1), (bl t.Few.a2), (bl t.Few.a3), (bl t.Few.a4), (bl t.Few.a5), (i64 t.Sum), (i64 t.Base), (i64 t.Last)])), (1, some (.box [(i64 (0 : Int)), (i64 (1 : Int))]))], nx := 2 }
noncomputable def law18_TotalsAddUp_p0 (l : (List GCounted)) (everyone : Bool) (s_1 : Int) (t : GTotal) : Option ((Bool × Int) ⊕ ((Bool))) := (bif (decide (s_1 < (6 : Int))) then gd ((everyone && true) = true → (0 : Int) ≤ s_1) (gd ((everyone && true) = true → s_1 < ((6 : Nat) : Int)) (gd (((!((GArr6_I64.at t.Own (Int.toNat s_1)) == (0 : Int))) && (everyone && true)) = true → (0 : Int) ≤ s_1) (gd (((!((GArr6_I64.at t.Own (Int.toNat s_1)) == (0 : Int))) && (everyone && true)) = true → s_1 < ((6 : Nat) : Int)) ((some (Sum.inl ((bif everyone then (bif ((GArr6_I64.at t.Own (Int.toNat s_1)) == (0 : Int)) then true else (GArr6_Bool.at t.Few (Int.toNat s_1))) else false), (w64 (s_1 + (1 : Int)))))))))) else (some (Sum.inr everyone)))
theorem z7p0ok (l : (List GCounted)) (everyone : Bool) (s_1 : Int) (t : GTotal) (K : KT) (h : W (law18_TotalsAddUp_p0 l everyone s_1 t) (nE (z7l1S l t) (z7l1E l t) K)) : EvL Try.prog 113 (List.drop 0 z7i1) K (z7p0S l everyone s_1 t) :=
  EvL.pE mixed (lookC_ok (l := []) trivial) [0, 5, 6, 7, 8, 30, 31, 32, 33, 34, 35, 36, 37, 38, 39, 40, 61, 62, 65, 66, 67, 70, 71, 72, 73, 74, 75, 76, 77, 78, 79, 80, 81, 84, 85, 86, 87, 88, 89, 90, 91, 92, 109, 110, 111] 0 4 (.nf (X := fun K => (bif (decide (s_1 < (6 : Int))) then ((everyone && true) = true → (0 : Int) ≤ s_1) ∧ ((everyone && true) = true → s_1 < ((6 : Nat) : Int)) ∧ ((everyone && true) = true → (0 : Int) ≤ s_1) ∧ ((everyone && true) = true → s_1 < ((6 : Nat) : Int)) ∧ (((!((GArr6_I64.at t.Own (Int.toNat s_1)) == (0 : Int))) && (everyone && true)) = true → (0 : Int) ≤ s_1) ∧ (((!((GArr6_I64.at t.Own (Int.toNat s_1)) == (0 : Int))) && (everyone && true)) = true → s_1 < ((6 : Nat) : Int)) ∧ (((!((GArr6_I64.at t.Own (Int.toNat s_1)) == (0 : Int))) && (everyone && true)) = true → (0 : Int) ≤ s_1) ∧ (((!((GArr6_I64.at t.Own (Int.toNat s_1)) == (0 : Int))) && (everyone && true)) = true → s_1 < ((6 : Nat) : Int)) ∧ (wK K .normal ({ tm := [sv 0 (.c (.sl 4 l.length (lsEl eGCounted zGCounted l))), sv 5 (.ptr 0 15 0 0), sv 6 (.ptr 1 2 0 0), sv 7 (bl (bif everyone then (bif ((GArr6_I64.at t.Own (Int.toNat s_1)) == (0 : Int)) then true else (GArr6_Bool.at t.Few (Int.toNat s_1))) else false)), sv 8 (i64 (w64 (s_1 + (1 : Int)))), sv 30 (.c .unk), sv 31 (.c .unk), sv 32 (.c .unk), sv 33 (.c .unk), sv 34 (.c .unk), sv 35 (.c .unk), sv 36 (.c .unk), sv 37 (.c .unk), sv 38 (.c .unk), sv 39 (.c .unk), sv 40 (.c .unk)], hp := [(0, some (.box [(i64 t.Own.a0), (i64 t.Own.a1), (i64 t.Own.a2), (i64 t.Own.a3), (i64 t.Own.a4), (i64 t.Own.a5), (bl t.Few.a0), (bl t.Few.a1), (bl t.Few.a2), (bl t.Few.a3), (bl t.Few.a4), (bl t.Few.a5), (i64 t.Sum), (i64 t.Base), (i64 t.Last)])), (1, some (.box [(i64 (0 : Int)), (i64 (1 : Int))]))], nx := 2 })) else wK K (.exit 0) ({ tm := [sv 0 (.c (.sl 4 l.length (lsEl eGCounted zGCounted l))), sv 5 (.ptr 0 15 0 0), sv 6 (.ptr 1 2 0 0), sv 7 (bl everyone), sv 8 (i64 s_1)], hp := [(0, some (.box [(i64 t.Own.a0), (i64 t.Own.a1), (i64 t.Own.a2), (i64 t.Own.a3), (i64 t.Own.a4), (i64 t.Own.a5), (bl t.Few.a0), (bl t.Few.a1), (bl t.Few.a2), (bl t.Few.a3), (bl t.Few.a4), (bl t.Few.a5), (i64 t.Sum), (i64 t.Base), (i64 t.Last)])), (1, some (.box [(i64 (0 : Int)), (i64 (1 : Int))]))], nx := 2 }))) (fun K => by kernel_rfl) (W_bif h (fun _ h => (W_gd h fun hx0_1 h => (W_gd h fun hx0_2 h => ⟨hx0_1, ⟨hx0_2, (W_gd h fun hx1_1 h => (W_gd h fun hx1_2 h => ⟨hx1_1, ⟨hx1_2, ⟨(z7l1S l t ((bif everyone then (bif ((GArr6_I64.at t.Own (Int.toNat s_1)) == (0 : Int)) then true else (GArr6_Bool.at t.Few (Int.toNat s_1))) else false), (w64 (s_1 + (1 : Int))))), (.of (.q rfl (.q rfl (.q rfl (.q rfl (.q rfl .nil))))) (.same rfl (.same rfl .nil)) rfl), h⟩⟩⟩))⟩⟩))) (fun _ h => ⟨(z7l1C0 l t everyone), (.of (.q rfl (.q rfl (.q rfl (.q rfl .nil)))) (.same rfl (.same rfl .nil)) rfl), h⟩)))
noncomputable def law18_TotalsAddUp_l1 (l : (List GCounted)) (t : GTotal) (s : (Bool × Int)) : Option ((Bool × Int) ⊕ ((Bool))) := match s with | (everyone, s_1) => law18_TotalsAddUp_p0 l everyone s_1 t
theorem z7l1ok (l : (List GCounted)) (t : GTotal) (s : (Bool × Int)) : Pp Try.prog 113 (List.drop 0 z7i1) (z7l1S l t s) (law18_TotalsAddUp_l1 l t s) (nextE (z7l1S l t) (z7l1E l t)) := fun K h => match s, h with | (everyone, s_1), h => (z7p0ok l everyone s_1 t _ h)
theorem z7l1Ethen (l : (List GCounted)) (t : GTotal) : ∀ (r : ((Bool))) (J : St → Prop) (K : KT), z7l1E l t r K → z7l1E l t r (thenK J K)
  | s, _, _, h => h
def z7l2S (l : (List GCounted)) (everyone_1 : Bool) (t : GTotal) (s : (Int × GFraction)) : St := match s with | (s_2, sum) => { tm := [sv 0 (.c (.sl 4 l.length (lsEl eGCounted zGCounted l))), sv 5 (.ptr 0 15 0 0), sv 6 (.ptr 1 2 0 0), sv 7 (bl everyone_1), sv 9 (i64 s_2)], hp := [(0, some (.box [(i64 t.Own.a0), (i64 t.Own.a1), (i64 t.Own.a2), (i64 t.Own.a3), (i64 t.Own.a4), (i64 t.Own.a5), (bl t.Few.a0), (bl t.Few.a1), (bl t.Few.a2), (bl t.Few.a3), (bl t.Few.a4), (bl t.Few.a5), (i64 t.Sum), (i64 t.Base), (i64 t.Last)])), (1, some (.box [(i64 sum.Num), (i64 sum.Den)]))], nx := 2 }
def z7l2C0 (l : (List GCounted)) (everyone_1 : Bool) (t : GTotal) (s : Unit) : St := match s with | () => { tm := [sv 4 (bl false)], hp := [], nx := 0 }
def z7l2C1 (l : (List GCounted)) (everyone_1 : Bool) (t : GTotal) (s : GFraction) : St := match s with | sum_1 => { tm := [sv 0 (.c (.sl 4 l.length (lsEl eGCounted zGCounted l))), sv 6 (.ptr 0 2 0 0)], hp := [(0, some (.box [(i64 sum_1.Num), (i64 sum_1.Den)]))], nx := 1 }
def z7l2E (l : (List GCounted)) (everyone_1 : Bool) (t : GTotal) (r : ((Unit) ⊕ (GFraction))) (K : KT) : Prop := match r with | (.inl s) => K .ret (z7l2C0 l everyone_1 t s) | (.inr s) => K (.exit 2) (z7l2C1 l everyone_1 t s)
def z7p1S (l : (List GCounted)) (everyone_1 : Bool) (s_2 : Int) (t : GTotal) (sum : GFraction) : St := { tm := [sv 0 (.c (.sl 4 l.length (lsEl eGCounted zGCounted l))), sv 5 (.ptr 0 15 0 0), sv 6 (.ptr 1 2 0 0), sv 7 (bl everyone_1), sv 9 (i64 s_2)], hp := [(0, some (.box [(i64 t.Own.a0), (i64 t.Own.a1), (i64 t.Own.a2), (i64 t.Own.a3), (i64 t.Own.a4), (i64 t.Own.a5), (bl t.Few.a0), (bl t.Few.a1), (bl t.Few.a2), (bl t.Few.a3), (bl t.Few.a4), (bl t.Few.a5), (i64 t.Sum), (i64 t.Base), (i64 t.Last)])), (1, some (.box [(i64 sum.Num), (i64 sum.Den)]))], nx := 2 }
noncomputable def law18_TotalsAddUp_p1 (l : (List GCounted)) (everyone_1 : Bool) (s_2 : Int) (t : GTotal) (sum : GFraction) : Option ((Int × GFraction) ⊕ ((Unit) ⊕ (GFraction))) := (bif (decide (s_2 < (6 : Int))) then (totals_Fraction t s_2).bind fun r_4 => ((ref1_MakeFraction r_4.1 r_4.2).bind fun r_5 => (gd (((!(bif (bif (r_5.2 != (0 : Int)) then true else (decide (r_4.1 < (0 : Int)))) then true else (decide (r_4.2 < r_4.1)))) && true) = true → (0 : Int) ≤ s_2) (gd (((!(bif (bif (r_5.2 != (0 : Int)) then true else (decide (r_4.1 < (0 : Int)))) then true else (decide (r_4.2 < r_4.1)))) && true) = true → s_2 < ((6 : Nat) : Int)) (gd (((!(bif (bif (bif (r_5.2 != (0 : Int)) then true else (decide (r_4.1 < (0 : Int)))) then true else (decide (r_4.2 < r_4.1))) then true else (bif (bif (GArr6_Bool.at t.Few (Int.toNat s_2)) then (decide ((0 : Int) < r_4.1)) else false) then (!everyone_1) else false))) && true) = true → (0 : Int) ≤ s_2) (gd (((!(bif (bif (bif (r_5.2 != (0 : Int)) then true else (decide (r_4.1 < (0 : Int)))) then true else (decide (r_4.2 < r_4.1))) then true else (bif (bif (GArr6_Bool.at t.Few (Int.toNat s_2)) then (decide ((0 : Int) < r_4.1)) else false) then (!everyone_1) else false))) && true) = true → s_2 < ((6 : Nat) : Int)) ((bif (bif (bif (bif (bif (r_5.2 != (0 : Int)) then true else (decide (r_4.1 < (0 : Int)))) then true else (decide (r_4.2 < r_4.1))) then true else (bif (bif (GArr6_Bool.at t.Few (Int.toNat s_2)) then (decide ((0 : Int) < r_4.1)) else false) then (!everyone_1) else false)) then true else (bif ((GArr6_I64.at t.Own (Int.toNat s_2)) == (0 : Int)) then (decide ((0 : Int) < r_4.1)) else false)) then (some (Sum.inr (Sum.inl ()))) else (ref1_AddFractions sum r_5.1).bind fun r_6 => ((bif (r_6.2 != (0 : Int)) then (some (Sum.inr (Sum.inl ()))) else (some (Sum.inl ((w64 (s_2 + (1 : Int))), r_6.1)))))))))))) else (some (Sum.inr (Sum.inr sum))))
theorem z7p1ok (l : (List GCounted)) (everyone_1 : Bool) (s_2 : Int) (t : GTotal) (sum : GFraction) (K : KT) (h : W (law18_TotalsAddUp_p1 l everyone_1 s_2 t sum) (nE (z7l2S l everyone_1 t) (z7l2E l everyone_1 t) K)) : EvL Try.prog 113 (List.drop 0 z7i2) K (z7p1S l everyone_1 s_2 t sum) :=
  EvL.pE mixed (lookC_ok (l := [(13, .pure totals_Fraction_C), (16, .pure ref1_MakeFraction_C), (17, .pure ref1_AddFractions_C)]) ⟨totals_Fraction_ok, ref1_MakeFraction_ok, ref1_AddFractions_ok, trivial⟩) [0, 4, 5, 6, 7, 9, 61, 62, 65, 66, 67, 70, 71, 72, 73, 74, 75, 76, 77, 78, 79, 80, 81, 84, 85, 86, 87, 88, 89, 90, 91, 92, 109, 110, 111] 0 4 (.nf (X := fun K => (bif (decide (s_2 < (6 : Int))) then ((totals_Fraction t s_2).isSome = true) ∧ (((ref1_MakeFraction (((totals_Fraction t s_2).getD ((0 : Int), (0 : Int))).1) (((totals_Fraction t s_2).getD ((0 : Int), (0 : Int))).2)).isSome = true) ∧ ((((!(bif (bif (((ref1_MakeFraction (((totals_Fraction t s_2).getD ((0 : Int), (0 : Int))).1) (((totals_Fraction t s_2).getD ((0 : Int), (0 : Int))).2)).getD (zGFraction, (0 : Int))).2 != (0 : Int)) then true else (decide (((totals_Fraction t s_2).getD ((0 : Int), (0 : Int))).1 < (0 : Int)))) then true else (decide (((totals_Fraction t s_2).getD ((0 : Int), (0 : Int))).2 < ((totals_Fraction t s_2).getD ((0 : Int), (0 : Int))).1)))) && true) = true → (0 : Int) ≤ s_2) ∧ (((!(bif (bif (((ref1_MakeFraction (((totals_Fraction t s_2).getD ((0 : Int), (0 : Int))).1) (((totals_Fraction t s_2).getD ((0 : Int), (0 : Int))).2)).getD (zGFraction, (0 : Int))).2 != (0 : Int)) then true else (decide (((totals_Fraction t s_2).getD ((0 : Int), (0 : Int))).1 < (0 : Int)))) then true else (decide (((totals_Fraction t s_2).getD ((0 : Int), (0 : Int))).2 < ((totals_Fraction t s_2).getD ((0 : Int), (0 : Int))).1)))) && true) = true → s_2 < ((6 : Nat) : Int)) ∧ (((!(bif (bif (((ref1_MakeFraction (((totals_Fraction t s_2).getD ((0 : Int), (0 : Int))).1) (((totals_Fraction t s_2).getD ((0 : Int), (0 : Int))).2)).getD (zGFraction, (0 : Int))).2 != (0 : Int)) then true else (decide (((totals_Fraction t s_2).getD ((0 : Int), (0 : Int))).1 < (0 : Int)))) then true else (decide (((totals_Fraction t s_2).getD ((0 : Int), (0 : Int))).2 < ((totals_Fraction t s_2).getD ((0 : Int), (0 : Int))).1)))) && true) = true → (0 : Int) ≤ s_2) ∧ (((!(bif (bif (((ref1_MakeFraction (((totals_Fraction t s_2).getD ((0 : Int), (0 : Int))).1) (((totals_Fraction t s_2).getD ((0 : Int), (0 : Int))).2)).getD (zGFraction, (0 : Int))).2 != (0 : Int)) then true else (decide (((totals_Fraction t s_2).getD ((0 : Int), (0 : Int))).1 < (0 : Int)))) then true else (decide (((totals_Fraction t s_2).getD ((0 : Int), (0 : Int))).2 < ((totals_Fraction t s_2).getD ((0 : Int), (0 : Int))).1)))) && true) = true → s_2 < ((6 : Nat) : Int)) ∧ (((!(bif (bif (bif (((ref1_MakeFraction (((totals_Fraction t s_2).getD ((0 : Int), (0 : Int))).1) (((totals_Fraction t s_2).getD ((0 : Int), (0 : Int))).2)).getD (zGFraction, (0 : Int))).2 != (0 : Int)) then true else (decide (((totals_Fraction t s_2).getD ((0 : Int), (0 : Int))).1 < (0 : Int)))) then true else (decide (((totals_Fraction t s_2).getD ((0 : Int), (0 : Int))).2 < ((totals_Fraction t s_2).getD ((0 : Int), (0 : Int))).1))) then true else (bif (bif (GArr6_Bool.at t.Few (Int.toNat s_2)) then (decide ((0 : Int) < ((totals_Fraction t s_2).getD ((0 : Int), (0 : Int))).1)) else false) then (!everyone_1) else false))) && true) = true → (0 : Int) ≤ s_2) ∧ (((!(bif (bif (bif (((ref1_MakeFraction (((totals_Fraction t s_2).getD ((0 : Int), (0 : Int))).1) (((totals_Fraction t s_2).getD ((0 : Int), (0 : Int))).2)).getD (zGFraction, (0 : Int))).2 != (0 : Int)) then true else (decide (((totals_Fraction t s_2).getD ((0 : Int), (0 : Int))).1 < (0 : Int)))) then true else (decide (((totals_Fraction t s_2).getD ((0 : Int), (0 : Int))).2 < ((totals_Fraction t s_2).getD ((0 : Int), (0 : Int))).1))) then true else (bif (bif (GArr6_Bool.at t.Few (Int.toNat s_2)) then (decide ((0 : Int) < ((totals_Fraction t s_2).getD ((0 : Int), (0 : Int))).1)) else false) then (!everyone_1) else false))) && true) = true → s_2 < ((6 : Nat) : Int)) ∧ (((!(bif (bif (bif (((ref1_MakeFraction (((totals_Fraction t s_2).getD ((0 : Int), (0 : Int))).1) (((totals_Fraction t s_2).getD ((0 : Int), (0 : Int))).2)).getD (zGFraction, (0 : Int))).2 != (0 : Int)) then true else (decide (((totals_Fraction t s_2).getD ((0 : Int), (0 : Int))).1 < (0 : Int)))) then true else (decide (((totals_Fraction t s_2).getD ((0 : Int), (0 : Int))).2 < ((totals_Fraction t s_2).getD ((0 : Int), (0 : Int))).1))) then true else (bif (bif (GArr6_Bool.at t.Few (Int.toNat s_2)) then (decide ((0 : Int) < ((totals_Fraction t s_2).getD ((0 : Int), (0 : Int))).1)) else false) then (!everyone_1) else false))) && true) = true → (0 : Int) ≤ s_2) ∧ (((!(bif (bif (bif (((ref1_MakeFraction (((totals_Fraction t s_2).getD ((0 : Int), (0 : Int))).1) (((totals_Fraction t s_2).getD ((0 : Int), (0 : Int))).2)).getD (zGFraction, (0 : Int))).2 != (0 : Int)) then true else (decide (((totals_Fraction t s_2).getD ((0 : Int), (0 : Int))).1 < (0 : Int)))) then true else (decide (((totals_Fraction t s_2).getD ((0 : Int), (0 : Int))).2 < ((totals_Fraction t s_2).getD ((0 : Int), (0 : Int))).1))) then true else (bif (bif (GArr6_Bool.at t.Few (Int.toNat s_2)) then (decide ((0 : Int) < ((totals_Fraction t s_2).getD ((0 : Int), (0 : Int))).1)) else false) then (!everyone_1) else false))) && true) = true → s_2 < ((6 : Nat) : Int)) ∧ ((bif (bif (bif (bif (bif (((ref1_MakeFraction (((totals_Fraction t s_2).getD ((0 : Int), (0 : Int))).1) (((totals_Fraction t s_2).getD ((0 : Int), (0 : Int))).2)).getD (zGFraction, (0 : Int))).2 != (0 : Int)) then true else (decide (((totals_Fraction t s_2).getD ((0 : Int), (0 : Int))).1 < (0 : Int)))) then true else (decide (((totals_Fraction t s_2).getD ((0 : Int), (0 : Int))).2 < ((totals_Fraction t s_2).getD ((0 : Int), (0 : Int))).1))) then true else (bif (bif (GArr6_Bool.at t.Few (Int.toNat s_2)) then (decide ((0 : Int) < ((totals_Fraction t s_2).getD ((0 : Int), (0 : Int))).1)) else false) then (!everyone_1) else false)) then true else (bif ((GArr6_I64.at t.Own (Int.toNat s_2)) == (0 : Int)) then (decide ((0 : Int) < ((totals_Fraction t s_2).getD ((0 : Int), (0 : Int))).1)) else false)) then wK K .ret ({ tm := [sv 0 (.c (.sl 4 l.length (lsEl eGCounted zGCounted l))), sv 4 (bl false), sv 5 (.ptr 0 15 0 0), sv 6 (.ptr 1 2 0 0), sv 7 (bl everyone_1), sv 9 (i64 s_2), sv 61 (.c .unk), sv 62 (.c .unk), sv 65 (.c .unk), sv 66 (.c .unk), sv 67 (.c .unk), sv 70 (.c .unk), sv 71 (.c .unk), sv 72 (.c .unk), sv 73 (.c .unk), sv 74 (.c .unk), sv 75 (.c .unk), sv 76 (.c .unk), sv 77 (.c .unk), sv 78 (.c .unk), sv 79 (.c .unk), sv 80 (.c .unk), sv 81 (.c .unk), sv 84 (.c .unk), sv 85 (.c .unk), sv 86 (.c .unk), sv 87 (.c .unk), sv 88 (.c .unk), sv 89 (.c .unk), sv 90 (.c .unk), sv 91 (.c .unk), sv 92 (.c .unk)], hp := [(0, some (.box [(i64 t.Own.a0), (i64 t.Own.a1), (i64 t.Own.a2), (i64 t.Own.a3), (i64 t.Own.a4), (i64 t.Own.a5), (bl t.Few.a0), (bl t.Few.a1), (bl t.Few.a2), (bl t.Few.a3), (bl t.Few.a4), (bl t.Few.a5), (i64 t.Sum), (i64 t.Base), (i64 t.Last)])), (1, some (.box [(i64 sum.Num), (i64 sum.Den)]))], nx := 2 }) else ((ref1_AddFractions sum (((ref1_MakeFraction (((totals_Fraction t s_2).getD ((0 : Int), (0 : Int))).1) (((totals_Fraction t s_2).getD ((0 : Int), (0 : Int))).2)).getD (zGFraction, (0 : Int))).1)).isSome = true) ∧ ((bif (((ref1_AddFractions sum (((ref1_MakeFraction (((totals_Fraction t s_2).getD ((0 : Int), (0 : Int))).1) (((totals_Fraction t s_2).getD ((0 : Int), (0 : Int))).2)).getD (zGFraction, (0 : Int))).1)).getD (zGFraction, (0 : Int))).2 != (0 : Int)) then wK K .ret ({ tm := [sv 0 (.c (.sl 4 l.length (lsEl eGCounted zGCounted l))), sv 4 (bl false), sv 5 (.ptr 0 15 0 0), sv 6 (.ptr 1 2 0 0), sv 7 (bl everyone_1), sv 9 (i64 s_2), sv 61 (.c .unk), sv 62 (.c .unk), sv 65 (.c .unk), sv 66 (.c .unk), sv 67 (.c .unk), sv 70 (.c .unk), sv 71 (.c .unk), sv 72 (.c .unk), sv 73 (.c .unk), sv 74 (.c .unk), sv 75 (.c .unk), sv 76 (.c .unk), sv 77 (.c .unk), sv 78 (.c .unk), sv 79 (.c .unk), sv 80 (.c .unk), sv 81 (.c .unk), sv 84 (.c .unk), sv 85 (.c .unk), sv 86 (.c .unk), sv 87 (.c .unk), sv 88 (.c .unk), sv 89 (.c .unk), sv 90 (.c .unk), sv 91 (.c .unk), sv 92 (.c .unk)], hp := [(0, some (.box [(i64 t.Own.a0), (i64 t.Own.a1), (i64 t.Own.a2), (i64 t.Own.a3), (i64 t.Own.a4), (i64 t.Own.a5), (bl t.Few.a0), (bl t.Few.a1), (bl t.Few.a2), (bl t.Few.a3), (bl t.Few.a4), (bl t.Few.a5), (i64 t.Sum), (i64 t.Base), (i64 t.Last)])), (1, some (.box [(i64 (((ref1_AddFractions sum (((ref1_MakeFraction (((totals_Fraction t s_2).getD ((0 : Int), (0 : Int))).1) (((totals_Fraction t s_2).getD ((0 : Int), (0 : Int))).2)).getD (zGFraction, (0 : Int))).1)).getD (zGFraction, (0 : Int))).1).Num), (i64 (((ref1_AddFractions sum (((ref1_MakeFraction (((totals_Fraction t s_2).getD ((0 : Int), (0 : Int))).1) (((totals_Fraction t s_2).getD ((0 : Int), (0 : Int))).2)).getD (zGFraction, (0 : Int))).1)).getD (zGFraction, (0 : Int))).1).Den)]))], nx := 2 }) else wK K .normal ({ tm := [sv 0 (.c (.sl 4 l.length (lsEl eGCounted zGCounted l))), sv 5 (.ptr 0 15 0 0), sv 6 (.ptr 1 2 0 0), sv 7 (bl everyone_1), sv 9 (i64 (w64 (s_2 + (1 : Int)))), sv 61 (.c .unk), sv 62 (.c .unk), sv 65 (.c .unk), sv 66 (.c .unk), sv 67 (.c .unk), sv 70 (.c .unk), sv 71 (.c .unk), sv 72 (.c .unk), sv 73 (.c .unk), sv 74 (.c .unk), sv 75 (.c .unk), sv 76 (.c .unk), sv 77 (.c .unk), sv 78 (.c .unk), sv 79 (.c .unk), sv 80 (.c .unk), sv 81 (.c .unk), sv 84 (.c .unk), sv 85 (.c .unk), sv 86 (.c .unk), sv 87 (.c .unk), sv 88 (.c .unk), sv 89 (.c .unk), sv 90 (.c .unk), sv 91 (.c .unk), sv 92 (.c .unk)], hp := [(0, some (.box [(i64 t.Own.a0), (i64 t.Own.a1), (i64 t.Own.a2), (i64 t.Own.a3), (i64 t.Own.a4), (i64 t.Own.a5), (bl t.Few.a0), (bl t.Few.a1), (bl t.Few.a2), (bl t.Few.a3), (bl t.Few.a4), (bl t.Few.a5), (i64 t.Sum), (i64 t.Base), (i64 t.Last)])), (1, some (.box [(i64 (((ref1_AddFractions sum (((ref1_MakeFraction (((totals_Fraction t s_2).getD ((0 : Int), (0 : Int))).1) (((totals_Fraction t s_2).getD ((0 : Int), (0 : Int))).2)).getD (zGFraction, (0 : Int))).1)).getD (zGFraction, (0 : Int))).1).Num), (i64 (((ref1_AddFractions sum (((ref1_MakeFraction (((totals_Fraction t s_2).getD ((0 : Int), (0 : Int))).1) (((totals_Fraction t s_2).getD ((0 : Int), (0 : Int))).2)).getD (zGFraction, (0 : Int))).1)).getD (zGFraction, (0 : Int))).1).Den)]))], nx := 2 }))))))) else wK K (.exit 2) ({ tm := [sv 0 (.c (.sl 4 l.length (lsEl eGCounted zGCounted l))), sv 5 (.ptr 0 15 0 0), sv 6 (.ptr 1 2 0 0), sv 7 (bl everyone_1), sv 9 (i64 s_2)], hp := [(0, some (.box [(i64 t.Own.a0), (i64 t.Own.a1), (i64 t.Own.a2), (i64 t.Own.a3), (i64 t.Own.a4), (i64 t.Own.a5), (bl t.Few.a0), (bl t.Few.a1), (bl t.Few.a2), (bl t.Few.a3), (bl t.Few.a4), (bl t.Few.a5), (i64 t.Sum), (i64 t.Base), (i64 t.Last)])), (1, some (.box [(i64 sum.Num), (i64 sum.Den)]))], nx := 2 }))) (fun K => by kernel_rfl) (W_bif h (fun _ h => (W_bind ((0 : Int), (0 : Int)) h fun hp0 h => (W_bind (zGFraction, (0 : Int)) h fun hp1 h => (W_gd h fun hx2_1 h => (W_gd h fun hx2_2 h => ⟨hx2_1, ⟨hx2_2, (W_gd h fun hx3_1 h => (W_gd h fun hx3_2 h => ⟨hx3_1, ⟨hx3_2, (W_bif h (fun _ h => ⟨(z7l2C0 l everyone_1 t ()), (.cn [4]), h⟩) (fun _ h => (W_bind (zGFraction, (0 : Int)) h fun hp4 h => (W_bif h (fun _ h => ⟨(z7l2C0 l everyone_1 t ()), (.cn [4]), h⟩) (fun _ h => ⟨(z7l2S l everyone_1 t ((w64 (s_2 + (1 : Int))), ((ref1_AddFractions sum ((ref1_MakeFraction ((totals_Fraction t s_2).getD ((0 : Int), (0 : Int))).1 ((totals_Fraction t s_2).getD ((0 : Int), (0 : Int))).2).getD (zGFraction, (0 : Int))).1).getD (zGFraction, (0 : Int))).1)), (.of (.q rfl (.q rfl (.q rfl (.q rfl (.q rfl .nil))))) (.same rfl (.same rfl .nil)) rfl), h⟩)))))⟩⟩))⟩⟩))))) (fun _ h => ⟨(z7l2C1 l everyone_1 t sum), (.cn [0, 6]), h⟩)))
noncomputable def law18_TotalsAddUp_l2 (l : (List GCounted)) (everyone_1 : Bool) (t : GTotal) (s : (Int × GFraction)) : Option ((Int × GFraction) ⊕ ((Unit) ⊕ (GFraction))) := match s with | (s_2, sum) => law18_TotalsAddUp_p1 l everyone_1 s_2 t sum
theorem z7l2ok (l : (List GCounted)) (everyone_1 : Bool) (t : GTotal) (s : (Int × GFraction)) : Pp Try.prog 113 (List.drop 0 z7i2) (z7l2S l everyone_1 t s) (law18_TotalsAddUp_l2 l everyone_1 t s) (nextE (z7l2S l everyone_1 t) (z7l2E l everyone_1 t)) := fun K h => match s, h with | (s_2, sum), h => (z7p1ok l everyone_1 s_2 t sum _ h)
theorem z7l2Ethen (l : (List GCounted)) (everyone_1 : Bool) (t : GTotal) : ∀ (r : ((Unit) ⊕ (GFraction))) (J : St → Prop) (K : KT), z7l2E l everyone_1 t r K → z7l2E l everyone_1 t r (thenK J K)
  | (.inl s), _, _, h => h
  | (.inr s), _, _, h => h
def z7p2S (sum_1 want : GFraction) : St := { tm := [sv 6 (.ptr 0 2 0 0), sv 14 (.ptr 1 2 0 0)], hp := [(0, some (.box [(i64 sum_1.Num), (i64 sum_1.Den)])), (1, some (.box [(i64 want.Num), (i64 want.Den)]))], nx := 2 }
noncomputable def law18_TotalsAddUp_p2 (sum_1 want : GFraction) : Option (Bool) := (law18_awake).bind fun r_7 => ((some (bif r_7 then ((sum_1.Num == want.Num) && ((sum_1.Den == want.Den) && true)) else false)))
theorem z7p2ok (sum_1 want : GFraction) (K : KT) (h : W (law18_TotalsAddUp_p2 sum_1 want) (rE z7R K)) : EvL Try.prog 113 (List.drop 13 z7i0) K (z7p2S sum_1 want) :=
  EvL.pE mixed (lookC_ok (l := [(10, .pure law18_awake_C)]) ⟨law18_awake_ok, trivial⟩) [4] 13 2 (.nf (X := fun K => ((law18_awake).isSome = true) ∧ (wK K .ret (z7R (bif ((law18_awake).getD false) then ((sum_1.Num == want.Num) && ((sum_1.Den == want.Den) && true)) else false)))) (fun K => by kernel_rfl) (W_bind false h fun hp0 h => ⟨_, .refl _, h⟩))
def z7p3S (l : (List GCounted)) (sum_1 : GFraction) : St := { tm := [sv 0 (.c (.sl 4 l.length (lsEl eGCounted zGCounted l))), sv 6 (.ptr 0 2 0 0)], hp := [(0, some (.box [(i64 sum_1.Num), (i64 sum_1.Den)]))], nx := 1 }
noncomputable def law18_TotalsAddUp_p3 (l : (List GCounted)) (sum_1 : GFraction) : Option (Bool) := (bif (((l.length : Nat) : Int) == (0 : Int)) then (law18_TotalsAddUp_p2 sum_1 (GFraction.mk (0 : Int) (1 : Int))) else (law18_TotalsAddUp_p2 sum_1 (GFraction.mk (1 : Int) (1 : Int))))
theorem z7p3ok (l : (List GCounted)) (sum_1 : GFraction) (K : KT) (h : W (law18_TotalsAddUp_p3 l sum_1) (rE z7R K)) : EvL Try.prog 113 (List.drop 10 z7i0) K (z7p3S l sum_1) :=
  EvL.pD mixed (lookC_ok (l := []) trivial) [6, 14, 109, 110, 111] 10 3 13 (.nf (X := fun K => (bif (((l.length : Nat) : Int) == (0 : Int)) then wK K .normal (z7p2S sum_1 (GFraction.mk (0 : Int) (1 : Int))) else wK K .normal (z7p2S sum_1 (GFraction.mk (1 : Int) (1 : Int))))) (fun K => by kernel_rfl) (W_bif h (fun _ h => ⟨_, .refl _, (z7p2ok sum_1 (GFraction.mk (0 : Int) (1 : Int)) _ h)⟩) (fun _ h => ⟨_, .refl _, (z7p2ok sum_1 (GFraction.mk (1 : Int) (1 : Int)) _ h)⟩)))
def z7p4S (l : (List GCounted)) (everyone_1 : Bool) (t : GTotal) : St := { tm := [sv 0 (.c (.sl 4 l.length (lsEl eGCounted zGCounted l))), sv 5 (.ptr 0 15 0 0), sv 6 (.ptr 1 2 0 0), sv 7 (bl everyone_1), sv 9 (i64 (0 : Int))], hp := [(0, some (.box [(i64 t.Own.a0), (i64 t.Own.a1), (i64 t.Own.a2), (i64 t.Own.a3), (i64 t.Own.a4), (i64 t.Own.a5), (bl t.Few.a0), (bl t.Few.a1), (bl t.Few.a2), (bl t.Few.a3), (bl t.Few.a4), (bl t.Few.a5), (i64 t.Sum), (i64 t.Base), (i64 t.Last)])), (1, some (.box [(i64 (0 : Int)), (i64 (1 : Int))]))], nx := 2 }
noncomputable def law18_TotalsAddUp_p4_g (l : (List GCounted)) (everyone_1 : Bool) (t : GTotal) (r : ((Unit) ⊕ (GFraction))) : Option (Bool) := match r with | (.inl ()) => (some false) | (.inr sum_1) => (law18_TotalsAddUp_p3 l sum_1)
noncomputable def law18_TotalsAddUp_p4 (l : (List GCounted)) (everyone_1 : Bool) (t : GTotal) : Option (Bool) := (fixL (law18_TotalsAddUp_l2 l everyone_1 t) ((0 : Int), (GFraction.mk (0 : Int) (1 : Int)))).bind (law18_TotalsAddUp_p4_g l everyone_1 t)
theorem z7p4at : List.drop 9 z7i0 = .block 2 (.loop (inside (inside (nthI z7i0 9)))) :: List.drop 10 z7i0 := by kernel_rfl
theorem z7p4k (l : (List GCounted)) (everyone_1 : Bool) (t : GTotal) (K : KT) : ∀ r : ((Unit) ⊕ (GFraction)), W (law18_TotalsAddUp_p4_g l everyone_1 t r) (rE z7R K) → z7l2E l everyone_1 t r (wK (blockK 2 (thenK (EvL Try.prog 113 (List.drop 10 z7i0) K) K)))
  | (.inl ()), h => ⟨(z7R false), (.refl _), h⟩
  | (.inr sum_1), h => ⟨(z7p3S l sum_1), (.refl _), (z7p3ok l sum_1 _ h)⟩
theorem z7p4ok (l : (List GCounted)) (everyone_1 : Bool) (t : GTotal) (K : KT) (h : W (law18_TotalsAddUp_p4 l everyone_1 t) (rE z7R K)) : EvL Try.prog 113 (List.drop 9 z7i0) K (z7p4S l everyone_1 t) :=
  EvL.at_ z7p4at (EvL.cons_loop (EvOk.weak (EvOk.ent (.refl _) (EvOk.loopF (x := inside (inside (nthI z7i0 9))) (f := law18_TotalsAddUp_l2 l everyone_1 t) (emb := z7l2S l everyone_1 t) (E := z7l2E l everyone_1 t) (z7l2ok l everyone_1 t) (z7l2Ethen l everyone_1 t) (W_loop h (z7p4k l everyone_1 t K))))))
def z7p5S (l : (List GCounted)) (everyone_1 : Bool) (t : GTotal) : St := { tm := [sv 0 (.c (.sl 4 l.length (lsEl eGCounted zGCounted l))), sv 5 (.ptr 0 15 0 0), sv 6 (.ptr 1 2 0 0), sv 7 (bl everyone_1)], hp := [(0, some (.box [(i64 t.Own.a0), (i64 t.Own.a1), (i64 t.Own.a2), (i64 t.Own.a3), (i64 t.Own.a4), (i64 t.Own.a5), (bl t.Few.a0), (bl t.Few.a1), (bl t.Few.a2), (bl t.Few.a3), (bl t.Few.a4), (bl t.Few.a5), (i64 t.Sum), (i64 t.Base), (i64 t.Last)])), (1, some (.box [(i64 (0 : Int)), (i64 (1 : Int))]))], nx := 2 }
noncomputable def law18_TotalsAddUp_p5 (l : (List GCounted)) (everyone_1 : Bool) (t : GTotal) : Option (Bool) := (law18_TotalsAddUp_p4 l everyone_1 t)
theorem z7p5ok (l : (List GCounted)) (everyone_1 : Bool) (t : GTotal) (K : KT) (h : W (law18_TotalsAddUp_p5 l everyone_1 t) (rE z7R K)) : EvL Try.prog 113 (List.drop 8 z7i0) K (z7p5S l everyone_1 t) :=
  EvL.pD mixed (lookC_ok (l := []) trivial) [0, 5, 6, 7, 9, 61, 62, 65, 66, 67, 70, 71, 72, 73, 74, 75, 76, 77, 78, 79, 80, 81, 84, 85, 86, 87, 88, 89, 90, 91, 92, 109, 110, 111] 8 1 9 (.nf (X := fun K => wK K .normal (z7p4S l everyone_1 t)) (fun K => by kernel_rfl) (⟨_, .refl _, (z7p4ok l everyone_1 t _ h)⟩))
def z7p6S (l : (List GCounted)) (t : GTotal) : St := { tm := [sv 0 (.c (.sl 4 l.length (lsEl eGCounted zGCounted l))), sv 5 (.ptr 0 15 0 0), sv 6 (.ptr 1 2 0 0), sv 7 (bl true), sv 8 (i64 (0 : Int))], hp := [(0, some (.box [(i64 t.Own.a0), (i64 t.Own.a1), (i64 t.Own.a2), (i64 t.Own.a3), (i64 t.Own.a4), (i64 t.Own.a5), (bl t.Few.a0), (bl t.Few.a1), (bl t.Few.a2), (bl t.Few.a3), (bl t.Few.a4), (bl t.Few.a5), (i64 t.Sum), (i64 t.Base), (i64 t.Last)])), (1, some (.box [(i64 (0 : Int)), (i64 (1 : Int))]))], nx := 2 }
noncomputable def law18_TotalsAddUp_p6_g (l : (List GCounted)) (t : GTotal) (r : ((Bool))) : Option (Bool) := match r with | everyone_1 => (law18_TotalsAddUp_p5 l everyone_1 t)
noncomputable def law18_TotalsAddUp_p6 (l : (List GCounted)) (t : GTotal) : Option (Bool) := (fixL (law18_TotalsAddUp_l1 l t) (true, (0 : Int))).bind (law18_TotalsAddUp_p6_g l t)
theorem z7p6at : List.drop 7 z7i0 = .block 0 (.loop (inside (inside (nthI z7i0 7)))) :: List.drop 8 z7i0 := by kernel_rfl
theorem z7p6k (l : (List GCounted)) (t : GTotal) (K : KT) : ∀ r : ((Bool)), W (law18_TotalsAddUp_p6_g l t r) (rE z7R K) → z7l1E l t r (wK (blockK 0 (thenK (EvL Try.prog 113 (List.drop 8 z7i0) K) K)))
  | everyone_1, h => ⟨(z7p5S l everyone_1 t), (.refl _), (z7p5ok l everyone_1 t _ h)⟩
theorem z7p6ok (l : (List GCounted)) (t : GTotal) (K : KT) (h : W (law18_TotalsAddUp_p6 l t) (rE z7R K)) : EvL Try.prog 113 (List.drop 7 z7i0) K (z7p6S l t) :=
  EvL.at_ z7p6at (EvL.cons_loop (EvOk.weak (EvOk.ent (.refl _) (EvOk.loopF (x := inside (inside (nthI z7i0 7))) (f := law18_TotalsAddUp_l1 l t) (emb := z7l1S l t) (E := z7l1E l t) (z7l1ok l t) (z7l1Ethen l t) (W_loop h (z7p6k l t K))))))
def z7p7S (l : (List GCounted)) (minDays : Int) : St := { tm := [sv 0 (.c (.sl 4 l.length (lsEl eGCounted zGCounted l))), sv 1 (i64 minDays)], hp := [], nx := 0 }
noncomputable def law18_TotalsAddUp_p7 (l : (List GCounted)) (minDays : Int) : Option (Bool) := (bif (decide ((60 : Int) < ((l.length : Nat) : Int))) then (some true) else (law18_counted_2 l false).bind fun r_1 => ((made_Pick minDays (1500 : Int)).bind fun r_2 => ((totals_Compute r_1 r_2).bind fun r_3 => ((law18_TotalsAddUp_p6 l r_3)))))
theorem z7p7nf (l : (List GCounted)) (minDays : Int) (K : KT) (L1_ : List GCounted) (hL1_ : lst dGCounted l.length (lsEl eGCounted zGCounted l) = L1_) (L2_ : List GCounted) (hL2_ : lst dGCounted ((((law18_counted_2 L1_ false).getD ([] : List GCounted))).length) (lsEl eGCounted zGCounted ((law18_counted_2 L1_ false).getD ([] : List GCounted))) = L2_) :
    ev Try.prog (lookC [(8, .pure law18_counted_2_C), (9, .pure made_Pick_C), (11, .pure totals_Compute_C)]) 113 (ofItems ((List.drop 0 z7i0).take 7)) (cN [0, 4, 5, 6, 7, 8, 30, 31, 32, 33, 34, 35, 36, 37, 38, 39, 40, 61, 62, 65, 66, 67, 70, 71, 72, 73, 74, 75, 76, 77, 78, 79, 80, 81, 84, 85, 86, 87, 88, 89, 90, 91, 92, 109, 110, 111] K) (z7p7S l minDays) =
    ((bif (decide ((60 : Int) < ((l.length : Nat) : Int))) then wK K .ret ({ tm := [sv 0 (.c (.sl 4 l.length (lsEl eGCounted zGCounted l))), sv 4 (bl true)], hp := [], nx := 0 }) else (LstOk eGCounted dGCounted 4 4 l.length (lsEl eGCounted zGCounted l)) ∧ ((law18_counted_2 L1_ false).isSome = true) ∧ ((made_Pick minDays (1500 : Int)).isSome = true) ∧ (LstOk eGCounted dGCounted 4 4 ((((law18_counted_2 L1_ false).getD ([] : List GCounted))).length) (lsEl eGCounted zGCounted ((law18_counted_2 L1_ false).getD ([] : List GCounted)))) ∧ ((totals_Compute L2_ ((made_Pick minDays (1500 : Int)).getD (0 : Int))).isSome = true) ∧ (wK K .normal ({ tm := [sv 0 (.c (.sl 4 l.length (lsEl eGCounted zGCounted l))), sv 4 (bl false), sv 5 (.ptr 0 15 0 0), sv 6 (.ptr 1 2 0 0), sv 7 (bl true), sv 8 (i64 (0 : Int))], hp := [(0, some (.box [(i64 (((totals_Compute L2_ ((made_Pick minDays (1500 : Int)).getD (0 : Int))).getD zGTotal).Own).a0), (i64 (((totals_Compute L2_ ((made_Pick minDays (1500 : Int)).getD (0 : Int))).getD zGTotal).Own).a1), (i64 (((totals_Compute L2_ ((made_Pick minDays (1500 : Int)).getD (0 : Int))).getD zGTotal).Own).a2), (i64 (((totals_Compute L2_ ((made_Pick minDays (1500 : Int)).getD (0 : Int))).getD zGTotal).Own).a3), (i64 (((totals_Compute L2_ ((made_Pick minDays (1500 : Int)).getD (0 : Int))).getD zGTotal).Own).a4), (i64 (((totals_Compute L2_ ((made_Pick minDays (1500 : Int)).getD (0 : Int))).getD zGTotal).Own).a5), (bl (((totals_Compute L2_ ((made_Pick minDays (1500 : Int)).getD (0 : Int))).getD zGTotal).Few).a0), (bl (((totals_Compute L2_ ((made_Pick minDays (1500 : Int)).getD (0 : Int))).getD zGTotal).Few).a1), (bl (((totals_Compute L2_ ((made_Pick minDays (1500 : Int)).getD (0 : Int))).getD zGTotal).Few).a2), (bl (((totals_Compute L2_ ((made_Pick minDays (1500 : Int)).getD (0 : Int))).getD zGTotal).Few).a3), (bl (((totals_Compute L2_ ((made_Pick minDays (1500 : Int)).getD (0 : Int))).getD zGTotal).Few).a4), (bl (((totals_Compute L2_ ((made_Pick minDays (1500 : Int)).getD (0 : Int))).getD zGTotal).Few).a5), (i64 ((totals_Compute L2_ ((made_Pick minDays (1500 : Int)).getD (0 : Int))).getD zGTotal).Sum), (i64 ((totals_Compute L2_ ((made_Pick minDays (1500 : Int)).getD (0 : Int))).getD zGTotal).Base), (i64 ((totals_Compute L2_ ((made_Pick minDays (1500 : Int)).getD (0 : Int))).getD zGTotal).Last)])), (1, some (.box [(i64 (0 : Int)), (i64 (1 : Int))]))], nx := 2 })))) := by subst hL1_ hL2_; kernel_rfl
theorem z7p7ok (l : (List GCounted)) (minDays : Int) (K : KT) (h : W (law18_TotalsAddUp_p7 l minDays) (rE z7R K)) : EvL Try.prog 113 (List.drop 0 z7i0) K (z7p7S l minDays) :=
  EvL.pD mixed (lookC_ok (l := [(8, .pure law18_counted_2_C), (9, .pure made_Pick_C), (11, .pure totals_Compute_C)]) ⟨law18_counted_2_ok, made_Pick_ok, totals_Compute_ok, trivial⟩) [0, 4, 5, 6, 7, 8, 30, 31, 32, 33, 34, 35, 36, 37, 38, 39, 40, 61, 62, 65, 66, 67, 70, 71, 72, 73, 74, 75, 76, 77, 78, 79, 80, 81, 84, 85, 86, 87, 88, 89, 90, 91, 92, 109, 110, 111] 0 7 7 (.of (z7p7nf l minDays _ _ (RowIs.lst dGCounted_eGCounted (RowIs.ls eGCounted zGCounted l)) _ (RowIs.lst dGCounted_eGCounted (RowIs.ls eGCounted zGCounted ((law18_counted_2 l false).getD ([] : List GCounted))))) (W_bif h (fun _ h => ⟨(z7R true), (.of (.q rfl .nil) .nil rfl), h⟩) (fun _ h => ⟨RowIs.ok dGCounted_eGCounted (RowIs.ls eGCounted zGCounted l), (W_bind ([] : List GCounted) h fun hp0 h => (W_bind (0 : Int) h fun hp1 h => ⟨RowIs.ok dGCounted_eGCounted (RowIs.ls eGCounted zGCounted ((law18_counted_2 l false).getD ([] : List GCounted))), (W_bind zGTotal h fun hp2 h => ⟨(z7p6S l ((totals_Compute ((law18_counted_2 l false).getD ([] : List GCounted)) ((made_Pick minDays (1500 : Int)).getD (0 : Int))).getD zGTotal)), (.of (.q rfl (.q rfl (.q rfl (.q rfl (.q rfl .nil))))) (.same rfl (.same rfl .nil)) rfl), (z7p6ok l ((totals_Compute ((law18_counted_2 l false).getD ([] : List GCounted)) ((made_Pick minDays (1500 : Int)).getD (0 : Int))).getD zGTotal) _ h)⟩)⟩))⟩)))
noncomputable def law18_TotalsAddUp (l : (List GCounted)) (minDays : Int) : Option (Bool) := law18_TotalsAddUp_p7 l minDays
theorem z7run (l : (List GCounted)) (minDays : Int) (y_ : Bool) (h : law18_TotalsAddUp l minDays = some y_) : EvL Try.prog 113 (items (bodyOf Try.f7)) (retK Try.prog [.tmp 4] (OutOk (law18_TotalsAddUp_out y_))) (z7p7S l minDays) :=
  z7p7ok l minDays _ (W_iff.2 ⟨y_, h, z7Rok y_⟩)
noncomputable def law18_TotalsAddUp_C : Con
  | [(.c (.sl k1 n2 e3)), (.c (.lit (.int .i64 a4)))] => some ([LstOk eGCounted dGCounted 4 k1 n2 e3, (law18_TotalsAddUp (lst dGCounted n2 e3) a4).isSome = true], (law18_TotalsAddUp_out ((law18_TotalsAddUp (lst dGCounted n2 e3) a4).getD false)))
  | _ => none
theorem law18_TotalsAddUp_ok : Meets Try.prog 7 law18_TotalsAddUp_C := by
  refine meets_fun (fn := Try.f7) (c := bodyOf Try.f7) (by kernel_rfl) (by kernel_rfl) (by kernel_rfl) (rs := [.tmp 4]) (by kernel_rfl) (nt := 113) (by kernel_rfl) fun vs p out h hp => ?_
  unfold law18_TotalsAddUp_C at h
  split at h
  · next k1 n2 e3 a4 =>
    cases h
    obtain ⟨g0, hp⟩ := allq hp
    obtain ⟨g, hp⟩ := allq hp
    obtain ⟨x, hx⟩ := Option.isSome_iff_exists.1 g
    rw [hx]
    exact ⟨[(.c (.sl 4 ((lst dGCounted n2 e3)).length (lsEl eGCounted zGCounted (lst dGCounted n2 e3)))), (i64 a4)], (VLes.cons (VLe.slk g0.1 (RowIs.of_ok g0)) (VLes.cons (VLe.rfl' _) VLes.nil)), rfl, z7run (lst dGCounted n2 e3) a4 x hx⟩
  · cases h

end Go.Ax
