import Derived.Test.YtchffdmfiffifaaF3
import Derived.Test.YtchffdmfiffifaaRows
/- Types of the program, and functions of it: printed by a program, checked by the kernel. -/
set_option linter.all false
set_option maxRecDepth 100000
namespace Go.Ax
open Go.Proofs Go.Proofs.Ytchffdmfiffifaa
noncomputable def z89i0 : List Code := items (bodyOf Try.f89)
def z89R (x_1 : Bool) : St := { tm := [sv 2 (bl x_1)], hp := [], nx := 0 }
def ref1_ValidFraction_out (x_1 : Bool) : Out := .data (bl x_1)
theorem z89Rok (x_1 : Bool) : retK Try.prog [.tmp 2] (OutOk (ref1_ValidFraction_out x_1)) .ret (z89R x_1) :=
  retK.intro (v := (bl x_1)) (by kernel_rfl) ((VLe.rfl' _))
def z89p0S (f : GFraction) : St := { tm := [sv 0 (.ag (eGFraction f))], hp := [], nx := 0 }
noncomputable def ref1_ValidFraction_p0 (f : GFraction) : Option (Bool) := gd (((bif (bif (bif (decide ((1 : Int) ≤ f.Den)) then (decide (f.Den ≤ (1000000000 : Int))) else false) then (decide ((-1000000000000000 : Int) ≤ f.Num)) else false) then (decide (f.Num ≤ (1000000000000000 : Int))) else false) && true) = true → (ref1_size f.Num).isSome = true) (gd (((bif (bif (bif (decide ((1 : Int) ≤ f.Den)) then (decide (f.Den ≤ (1000000000 : Int))) else false) then (decide ((-1000000000000000 : Int) ≤ f.Num)) else false) then (decide (f.Num ≤ (1000000000000000 : Int))) else false) && true) = true → (ref1_gcd ((ref1_size f.Num).getD (0 : Int)) (IntKind.u64.wrap f.Den)).isSome = true) ((some (bif (bif (bif (bif (decide ((1 : Int) ≤ f.Den)) then (decide (f.Den ≤ (1000000000 : Int))) else false) then (decide ((-1000000000000000 : Int) ≤ f.Num)) else false) then (decide (f.Num ≤ (1000000000000000 : Int))) else false) then (((ref1_gcd ((ref1_size f.Num).getD (0 : Int)) (IntKind.u64.wrap f.Den)).getD (0 : Int)) == (1 : Int)) else false))))
theorem z89p0ok (f : GFraction) (K : KT) (h : W (ref1_ValidFraction_p0 f) (rE z89R K)) : EvL Try.prog 31 (List.drop 0 z89i0) K (z89p0S f) :=
  EvL.pE mixed (lookC_ok (l := [(107, .pure ref1_size_C), (136, .pure ref1_gcd_C)]) ⟨ref1_size_ok, ref1_gcd_ok, trivial⟩) [2] 0 3 (.nf (X := fun K => (((bif (bif (bif (decide ((1 : Int) ≤ f.Den)) then (decide (f.Den ≤ (1000000000 : Int))) else false) then (decide ((-1000000000000000 : Int) ≤ f.Num)) else false) then (decide (f.Num ≤ (1000000000000000 : Int))) else false) && true) = true → (ref1_size f.Num).isSome = true) ∧ (((bif (bif (bif (decide ((1 : Int) ≤ f.Den)) then (decide (f.Den ≤ (1000000000 : Int))) else false) then (decide ((-1000000000000000 : Int) ≤ f.Num)) else false) then (decide (f.Num ≤ (1000000000000000 : Int))) else false) && true) = true → (ref1_gcd ((ref1_size f.Num).getD (0 : Int)) (IntKind.u64.wrap f.Den)).isSome = true) ∧ (wK K .ret (z89R (bif (bif (bif (bif (decide ((1 : Int) ≤ f.Den)) then (decide (f.Den ≤ (1000000000 : Int))) else false) then (decide ((-1000000000000000 : Int) ≤ f.Num)) else false) then (decide (f.Num ≤ (1000000000000000 : Int))) else false) then (((ref1_gcd ((ref1_size f.Num).getD (0 : Int)) (IntKind.u64.wrap f.Den)).getD (0 : Int)) == (1 : Int)) else false)))) (fun K => by kernel_rfl) (W_gd h fun hp0 h => (W_gd h fun hp1 h => ⟨_, .refl _, h⟩)))
noncomputable def ref1_ValidFraction (f : GFraction) : Option (Bool) := ref1_ValidFraction_p0 f
theorem z89run (f : GFraction) (y_ : Bool) (h : ref1_ValidFraction f = some y_) : EvL Try.prog 31 (items (bodyOf Try.f89)) (retK Try.prog [.tmp 2] (OutOk (ref1_ValidFraction_out y_))) (z89p0S f) :=
  z89p0ok f _ (W_iff.2 ⟨y_, h, z89Rok y_⟩)
noncomputable def ref1_ValidFraction_C : Con
  | [(.agg [(.c (.lit (.int .i64 a1))), (.c (.lit (.int .i64 a2)))])] => some ([(ref1_ValidFraction (GFraction.mk a1 a2)).isSome = true], (ref1_ValidFraction_out ((ref1_ValidFraction (GFraction.mk a1 a2)).getD false)))
  | _ => none
theorem ref1_ValidFraction_ok : Meets Try.prog 89 ref1_ValidFraction_C := by
  refine meets_fun (fn := Try.f89) (c := bodyOf Try.f89) (by kernel_rfl) (by kernel_rfl) (by kernel_rfl) (rs := [.tmp 2]) (by kernel_rfl) (nt := 31) (by kernel_rfl) fun vs p out h hp => ?_
  unfold ref1_ValidFraction_C at h
  split at h
  · next a1 a2 =>
    cases h
    obtain ⟨g, hp⟩ := allq hp
    obtain ⟨x, hx⟩ := Option.isSome_iff_exists.1 g
    rw [hx]
    exact ⟨[(.agg [(i64 (GFraction.mk a1 a2).Num), (i64 (GFraction.mk a1 a2).Den)])], (VLes.cons (VLe.rfl' _) VLes.nil), rfl, z89run (GFraction.mk a1 a2) x hx⟩
  · cases h

noncomputable def z142i0 : List Code := items (bodyOf Try.f142)
def z142R (x_2 : (Int × Int)) : St := { tm := [sv 4 (.c (.lit (.int .u64 x_2.1))), sv 5 (.c (.lit (.int .u64 x_2.2)))], hp := [], nx := 0 }
def math_bits_Mul64_out (x_2 : (Int × Int)) : Out := .data (.tup [(.c (.lit (.int .u64 x_2.1))), (.c (.lit (.int .u64 x_2.2)))])
theorem z142Rok (x_2 : (Int × Int)) : retK Try.prog [.tmp 4, .tmp 5] (OutOk (math_bits_Mul64_out x_2)) .ret (z142R x_2) :=
  retK.intro (v := (.tup [(.c (.lit (.int .u64 x_2.1))), (.c (.lit (.int .u64 x_2.2)))])) (by kernel_rfl) (VLe.tup (VLes.cons (VLe.rfl' _) (VLes.cons (VLe.rfl' _) (VLes.nil))))
def z142p0S (x_1 y : Int) : St := { tm := [sv 0 (.c (.lit (.int .u64 x_1))), sv 1 (.c (.lit (.int .u64 y)))], hp := [], nx := 0 }
noncomputable def math_bits_Mul64_p0 (x_1 y : Int) : Option ((Int × Int)) := (some ((IntKind.u64.wrap ((IntKind.u64.wrap ((IntKind.u64.wrap ((Int.fdiv x_1 (2 ^ min (Int.toNat (32 : Int)) 64)) * (Int.fdiv y (2 ^ min (Int.toNat (32 : Int)) 64)))) + (Int.fdiv (IntKind.u64.wrap ((IntKind.u64.wrap ((Int.fdiv x_1 (2 ^ min (Int.toNat (32 : Int)) 64)) * (IntKind.u64.wrap (BitVec.ofInt 64 y &&& BitVec.ofInt 64 (4294967295 : Int)).toNat))) + (Int.fdiv (IntKind.u64.wrap ((IntKind.u64.wrap (BitVec.ofInt 64 x_1 &&& BitVec.ofInt 64 (4294967295 : Int)).toNat) * (IntKind.u64.wrap (BitVec.ofInt 64 y &&& BitVec.ofInt 64 (4294967295 : Int)).toNat))) (2 ^ min (Int.toNat (32 : Int)) 64)))) (2 ^ min (Int.toNat (32 : Int)) 64)))) + (Int.fdiv (IntKind.u64.wrap ((IntKind.u64.wrap (BitVec.ofInt 64 (IntKind.u64.wrap ((IntKind.u64.wrap ((Int.fdiv x_1 (2 ^ min (Int.toNat (32 : Int)) 64)) * (IntKind.u64.wrap (BitVec.ofInt 64 y &&& BitVec.ofInt 64 (4294967295 : Int)).toNat))) + (Int.fdiv (IntKind.u64.wrap ((IntKind.u64.wrap (BitVec.ofInt 64 x_1 &&& BitVec.ofInt 64 (4294967295 : Int)).toNat) * (IntKind.u64.wrap (BitVec.ofInt 64 y &&& BitVec.ofInt 64 (4294967295 : Int)).toNat))) (2 ^ min (Int.toNat (32 : Int)) 64)))) &&& BitVec.ofInt 64 (4294967295 : Int)).toNat) + (IntKind.u64.wrap ((IntKind.u64.wrap (BitVec.ofInt 64 x_1 &&& BitVec.ofInt 64 (4294967295 : Int)).toNat) * (Int.fdiv y (2 ^ min (Int.toNat (32 : Int)) 64)))))) (2 ^ min (Int.toNat (32 : Int)) 64)))), (IntKind.u64.wrap (x_1 * y))))
theorem z142p0ok (x_1 y : Int) (K : KT) (h : W (math_bits_Mul64_p0 x_1 y) (rE z142R K)) : EvL Try.prog 51 (List.drop 0 z142i0) K (z142p0S x_1 y) :=
  EvL.pE mixed (lookC_ok (l := []) trivial) [4, 5] 0 13 (.nf (X := fun K => ((0 : Int) ≤ (32 : Int)) ∧ (((0 : Int) ≤ (32 : Int)) ∧ (((0 : Int) ≤ (32 : Int)) ∧ (((0 : Int) ≤ (32 : Int)) ∧ (((0 : Int) ≤ (32 : Int)) ∧ (wK K .ret (z142R ((IntKind.u64.wrap ((IntKind.u64.wrap ((IntKind.u64.wrap ((Int.fdiv x_1 (2 ^ min (Int.toNat (32 : Int)) 64)) * (Int.fdiv y (2 ^ min (Int.toNat (32 : Int)) 64)))) + (Int.fdiv (IntKind.u64.wrap ((IntKind.u64.wrap ((Int.fdiv x_1 (2 ^ min (Int.toNat (32 : Int)) 64)) * (IntKind.u64.wrap (BitVec.ofInt 64 y &&& BitVec.ofInt 64 (4294967295 : Int)).toNat))) + (Int.fdiv (IntKind.u64.wrap ((IntKind.u64.wrap (BitVec.ofInt 64 x_1 &&& BitVec.ofInt 64 (4294967295 : Int)).toNat) * (IntKind.u64.wrap (BitVec.ofInt 64 y &&& BitVec.ofInt 64 (4294967295 : Int)).toNat))) (2 ^ min (Int.toNat (32 : Int)) 64)))) (2 ^ min (Int.toNat (32 : Int)) 64)))) + (Int.fdiv (IntKind.u64.wrap ((IntKind.u64.wrap (BitVec.ofInt 64 (IntKind.u64.wrap ((IntKind.u64.wrap ((Int.fdiv x_1 (2 ^ min (Int.toNat (32 : Int)) 64)) * (IntKind.u64.wrap (BitVec.ofInt 64 y &&& BitVec.ofInt 64 (4294967295 : Int)).toNat))) + (Int.fdiv (IntKind.u64.wrap ((IntKind.u64.wrap (BitVec.ofInt 64 x_1 &&& BitVec.ofInt 64 (4294967295 : Int)).toNat) * (IntKind.u64.wrap (BitVec.ofInt 64 y &&& BitVec.ofInt 64 (4294967295 : Int)).toNat))) (2 ^ min (Int.toNat (32 : Int)) 64)))) &&& BitVec.ofInt 64 (4294967295 : Int)).toNat) + (IntKind.u64.wrap ((IntKind.u64.wrap (BitVec.ofInt 64 x_1 &&& BitVec.ofInt 64 (4294967295 : Int)).toNat) * (Int.fdiv y (2 ^ min (Int.toNat (32 : Int)) 64)))))) (2 ^ min (Int.toNat (32 : Int)) 64)))), (IntKind.u64.wrap (x_1 * y)))))))))) (fun K => by kernel_rfl) (⟨(by decide), ⟨(by decide), ⟨(by decide), ⟨(by decide), ⟨(by decide), ⟨_, .refl _, h⟩⟩⟩⟩⟩⟩))
noncomputable def math_bits_Mul64 (x_1 y : Int) : Option ((Int × Int)) := math_bits_Mul64_p0 x_1 y
theorem z142run (x_1 y : Int) (y_ : (Int × Int)) (h : math_bits_Mul64 x_1 y = some y_) : EvL Try.prog 51 (items (bodyOf Try.f142)) (retK Try.prog [.tmp 4, .tmp 5] (OutOk (math_bits_Mul64_out y_))) (z142p0S x_1 y) :=
  z142p0ok x_1 y _ (W_iff.2 ⟨y_, h, z142Rok y_⟩)
noncomputable def math_bits_Mul64_C : Con
  | [(.c (.lit (.int .u64 a1))), (.c (.lit (.int .u64 a2)))] => some ([(math_bits_Mul64 a1 a2).isSome = true], (math_bits_Mul64_out ((math_bits_Mul64 a1 a2).getD ((0 : Int), (0 : Int)))))
  | _ => none
theorem math_bits_Mul64_ok : Meets Try.prog 142 math_bits_Mul64_C := by
  refine meets_fun (fn := Try.f142) (c := bodyOf Try.f142) (by kernel_rfl) (by kernel_rfl) (by kernel_rfl) (rs := [.tmp 4, .tmp 5]) (by kernel_rfl) (nt := 51) (by kernel_rfl) fun vs p out h hp => ?_
  unfold math_bits_Mul64_C at h
  split at h
  · next a1 a2 =>
    cases h
    obtain ⟨g, hp⟩ := allq hp
    obtain ⟨x, hx⟩ := Option.isSome_iff_exists.1 g
    rw [hx]
    exact ⟨[(.c (.lit (.int .u64 a1))), (.c (.lit (.int .u64 a2)))], (VLes.cons (VLe.rfl' _) (VLes.cons (VLe.rfl' _) VLes.nil)), rfl, z142run a1 a2 x hx⟩
  · cases h

noncomputable def z108i0 : List Code := items (bodyOf Try.f108)
def z108R (x_1 : GPensionref1_wide) : St := { tm := [sv 4 (.ptr 0 2 0 0)], hp := [(0, some (.box [(.c (.lit (.int .u64 x_1.hi))), (.c (.lit (.int .u64 x_1.lo)))]))], nx := 1 }
def ref1_times_out (x_1 : GPensionref1_wide) : Out := .data (.agg [(.c (.lit (.int .u64 x_1.hi))), (.c (.lit (.int .u64 x_1.lo)))])
theorem z108Rok (x_1 : GPensionref1_wide) : retK Try.prog [.cell 4 150] (OutOk (ref1_times_out x_1)) .ret (z108R x_1) :=
  retK.intro (v := (.agg [(.c (.lit (.int .u64 x_1.hi))), (.c (.lit (.int .u64 x_1.lo)))])) (by kernel_rfl) ((VLe.rfl' _))
def z108p0S (a b : Int) : St := { tm := [sv 0 (.c (.lit (.int .u64 a))), sv 1 (.c (.lit (.int .u64 b)))], hp := [], nx := 0 }
noncomputable def ref1_times_p0 (a b : Int) : Option (GPensionref1_wide) := (math_bits_Mul64 a b).bind fun r_1 => ((some (GPensionref1_wide.mk r_1.1 r_1.2)))
theorem z108p0ok (a b : Int) (K : KT) (h : W (ref1_times_p0 a b) (rE z108R K)) : EvL Try.prog 16 (List.drop 0 z108i0) K (z108p0S a b) :=
  EvL.pE mixed (lookC_ok (l := [(142, .pure math_bits_Mul64_C)]) ⟨math_bits_Mul64_ok, trivial⟩) [4] 0 4 (.nf (X := fun K => ((math_bits_Mul64 a b).isSome = true) ∧ (wK K .ret (z108R (GPensionref1_wide.mk ((math_bits_Mul64 a b).getD ((0 : Int), (0 : Int))).1 ((math_bits_Mul64 a b).getD ((0 : Int), (0 : Int))).2)))) (fun K => by kernel_rfl) (W_bind ((0 : Int), (0 : Int)) h fun hp0 h => ⟨_, .refl _, h⟩))
noncomputable def ref1_times (a b : Int) : Option (GPensionref1_wide) := ref1_times_p0 a b
theorem z108run (a b : Int) (y_ : GPensionref1_wide) (h : ref1_times a b = some y_) : EvL Try.prog 16 (items (bodyOf Try.f108)) (retK Try.prog [.cell 4 150] (OutOk (ref1_times_out y_))) (z108p0S a b) :=
  z108p0ok a b _ (W_iff.2 ⟨y_, h, z108Rok y_⟩)
noncomputable def ref1_times_C : Con
  | [(.c (.lit (.int .u64 a1))), (.c (.lit (.int .u64 a2)))] => some ([(ref1_times a1 a2).isSome = true], (ref1_times_out ((ref1_times a1 a2).getD zGPensionref1_wide)))
  | _ => none
theorem ref1_times_ok : Meets Try.prog 108 ref1_times_C := by
  refine meets_fun (fn := Try.f108) (c := bodyOf Try.f108) (by kernel_rfl) (by kernel_rfl) (by kernel_rfl) (rs := [.cell 4 150]) (by kernel_rfl) (nt := 16) (by kernel_rfl) fun vs p out h hp => ?_
  unfold ref1_times_C at h
  split at h
  · next a1 a2 =>
    cases h
    obtain ⟨g, hp⟩ := allq hp
    obtain ⟨x, hx⟩ := Option.isSome_iff_exists.1 g
    rw [hx]
    exact ⟨[(.c (.lit (.int .u64 a1))), (.c (.lit (.int .u64 a2)))], (VLes.cons (VLe.rfl' _) (VLes.cons (VLe.rfl' _) VLes.nil)), rfl, z108run a1 a2 x hx⟩
  · cases h

noncomputable def z110i0 : List Code := items (bodyOf Try.f110)
def z110R (x_2 : Bool) : St := { tm := [sv 4 (bl x_2)], hp := [], nx := 0 }
def ref1_wide_less_out (x_2 : Bool) : Out := .data (bl x_2)
theorem z110Rok (x_2 : Bool) : retK Try.prog [.tmp 4] (OutOk (ref1_wide_less_out x_2)) .ret (z110R x_2) :=
  retK.intro (v := (bl x_2)) (by kernel_rfl) ((VLe.rfl' _))
def z110p0S (w x_1 : GPensionref1_wide) : St := { tm := [sv 0 (.ag (eGPensionref1_wide w)), sv 1 (.ag (eGPensionref1_wide x_1))], hp := [], nx := 0 }
noncomputable def ref1_wide_less_p0 (w x_1 : GPensionref1_wide) : Option (Bool) := (some (bif (decide (w.hi < x_1.hi)) then true else (bif (w.hi == x_1.hi) then (decide (w.lo < x_1.lo)) else false)))
theorem z110p0ok (w x_1 : GPensionref1_wide) (K : KT) (h : W (ref1_wide_less_p0 w x_1) (rE z110R K)) : EvL Try.prog 24 (List.drop 0 z110i0) K (z110p0S w x_1) :=
  EvL.pE mixed (lookC_ok (l := []) trivial) [4] 0 3 (.nf (X := fun K => wK K .ret (z110R (bif (decide (w.hi < x_1.hi)) then true else (bif (w.hi == x_1.hi) then (decide (w.lo < x_1.lo)) else false)))) (fun K => by kernel_rfl) (⟨_, .refl _, h⟩))
noncomputable def ref1_wide_less (w x_1 : GPensionref1_wide) : Option (Bool) := ref1_wide_less_p0 w x_1
theorem z110run (w x_1 : GPensionref1_wide) (y_ : Bool) (h : ref1_wide_less w x_1 = some y_) : EvL Try.prog 24 (items (bodyOf Try.f110)) (retK Try.prog [.tmp 4] (OutOk (ref1_wide_less_out y_))) (z110p0S w x_1) :=
  z110p0ok w x_1 _ (W_iff.2 ⟨y_, h, z110Rok y_⟩)
noncomputable def ref1_wide_less_C : Con
  | [(.agg [(.c (.lit (.int .u64 a1))), (.c (.lit (.int .u64 a2)))]), (.agg [(.c (.lit (.int .u64 a3))), (.c (.lit (.int .u64 a4)))])] => some ([(ref1_wide_less (GPensionref1_wide.mk a1 a2) (GPensionref1_wide.mk a3 a4)).isSome = true], (ref1_wide_less_out ((ref1_wide_less (GPensionref1_wide.mk a1 a2) (GPensionref1_wide.mk a3 a4)).getD false)))
  | _ => none
theorem ref1_wide_less_ok : Meets Try.prog 110 ref1_wide_less_C := by
  refine meets_fun (fn := Try.f110) (c := bodyOf Try.f110) (by kernel_rfl) (by kernel_rfl) (by kernel_rfl) (rs := [.tmp 4]) (by kernel_rfl) (nt := 24) (by kernel_rfl) fun vs p out h hp => ?_
  unfold ref1_wide_less_C at h
  split at h
  · next a1 a2 a3 a4 =>
    cases h
    obtain ⟨g, hp⟩ := allq hp
    obtain ⟨x, hx⟩ := Option.isSome_iff_exists.1 g
    rw [hx]
    exact ⟨[(.agg [(.c (.lit (.int .u64 (GPensionref1_wide.mk a1 a2).hi))), (.c (.lit (.int .u64 (GPensionref1_wide.mk a1 a2).lo)))]), (.agg [(.c (.lit (.int .u64 (GPensionref1_wide.mk a3 a4).hi))), (.c (.lit (.int .u64 (GPensionref1_wide.mk a3 a4).lo)))])], (VLes.cons (VLe.rfl' _) (VLes.cons (VLe.rfl' _) VLes.nil)), rfl, z110run (GPensionref1_wide.mk a1 a2) (GPensionref1_wide.mk a3 a4) x hx⟩
  · cases h

noncomputable def z90i0 : List Code := items (bodyOf Try.f90)
def z90R (x_1 : Int) : St := { tm := [sv 4 (i64 x_1)], hp := [], nx := 0 }
def ref1_order_out (x_1 : Int) : Out := .data (i64 x_1)
theorem z90Rok (x_1 : Int) : retK Try.prog [.tmp 4] (OutOk (ref1_order_out x_1)) .ret (z90R x_1) :=
  retK.intro (v := (i64 x_1)) (by kernel_rfl) ((VLe.rfl' _))
def z90p0S (a b : GFraction) : St := { tm := [sv 0 (.ag (eGFraction a)), sv 1 (.ag (eGFraction b))], hp := [], nx := 0 }
noncomputable def ref1_order_p0 (a b : GFraction) : Option (Int) := (bif ((a.Num == b.Num) && ((a.Den == b.Den) && true)) then (some (0 : Int)) else (bif (!((decide (a.Num < (0 : Int))) == (decide (b.Num < (0 : Int))))) then (bif (decide (a.Num < (0 : Int))) then (some (-1 : Int)) else (some (1 : Int))) else (ref1_size a.Num).bind fun r_1 => ((ref1_times r_1 (IntKind.u64.wrap b.Den)).bind fun r_2 => ((ref1_size b.Num).bind fun r_3 => ((ref1_times r_3 (IntKind.u64.wrap a.Den)).bind fun r_4 => ((ref1_wide_less r_2 r_4).bind fun r_5 => ((bif (r_5 == (decide (a.Num < (0 : Int)))) then (some (1 : Int)) else (some (-1 : Int))))))))))
theorem z90p0ok (a b : GFraction) (K : KT) (h : W (ref1_order_p0 a b) (rE z90R K)) : EvL Try.prog 41 (List.drop 0 z90i0) K (z90p0S a b) :=
  EvL.pE mixed (lookC_ok (l := [(107, .pure ref1_size_C), (108, .pure ref1_times_C), (110, .pure ref1_wide_less_C)]) ⟨ref1_size_ok, ref1_times_ok, ref1_wide_less_ok, trivial⟩) [4] 0 10 (.nf (X := fun K => (bif ((a.Num == b.Num) && ((a.Den == b.Den) && true)) then wK K .ret (z90R (0 : Int)) else (bif (!((decide (a.Num < (0 : Int))) == (decide (b.Num < (0 : Int))))) then (bif (decide (a.Num < (0 : Int))) then wK K .ret (z90R (-1 : Int)) else wK K .ret (z90R (1 : Int))) else ((ref1_size a.Num).isSome = true) ∧ ((ref1_times ((ref1_size a.Num).getD (0 : Int)) (IntKind.u64.wrap b.Den)).isSome = true) ∧ ((ref1_size b.Num).isSome = true) ∧ ((ref1_times ((ref1_size b.Num).getD (0 : Int)) (IntKind.u64.wrap a.Den)).isSome = true) ∧ (((ref1_wide_less ((ref1_times ((ref1_size a.Num).getD (0 : Int)) (IntKind.u64.wrap b.Den)).getD zGPensionref1_wide) ((ref1_times ((ref1_size b.Num).getD (0 : Int)) (IntKind.u64.wrap a.Den)).getD zGPensionref1_wide)).isSome = true) ∧ ((bif (((ref1_wide_less ((ref1_times ((ref1_size a.Num).getD (0 : Int)) (IntKind.u64.wrap b.Den)).getD zGPensionref1_wide) ((ref1_times ((ref1_size b.Num).getD (0 : Int)) (IntKind.u64.wrap a.Den)).getD zGPensionref1_wide)).getD false) == (decide (a.Num < (0 : Int)))) then wK K .ret (z90R (1 : Int)) else wK K .ret (z90R (-1 : Int)))))))) (fun K => by kernel_rfl) (W_bif h (fun _ h => ⟨_, .refl _, h⟩) (fun _ h => (W_bif h (fun _ h => (W_bif h (fun _ h => ⟨_, .refl _, h⟩) (fun _ h => ⟨_, .refl _, h⟩))) (fun _ h => (W_bind (0 : Int) h fun hp0 h => (W_bind zGPensionref1_wide h fun hp1 h => (W_bind (0 : Int) h fun hp2 h => (W_bind zGPensionref1_wide h fun hp3 h => (W_bind false h fun hp4 h => (W_bif h (fun _ h => ⟨_, .refl _, h⟩) (fun _ h => ⟨_, .refl _, h⟩))))))))))))
noncomputable def ref1_order (a b : GFraction) : Option (Int) := ref1_order_p0 a b
theorem z90run (a b : GFraction) (y_ : Int) (h : ref1_order a b = some y_) : EvL Try.prog 41 (items (bodyOf Try.f90)) (retK Try.prog [.tmp 4] (OutOk (ref1_order_out y_))) (z90p0S a b) :=
  z90p0ok a b _ (W_iff.2 ⟨y_, h, z90Rok y_⟩)
noncomputable def ref1_order_C : Con
  | [(.agg [(.c (.lit (.int .i64 a1))), (.c (.lit (.int .i64 a2)))]), (.agg [(.c (.lit (.int .i64 a3))), (.c (.lit (.int .i64 a4)))])] => some ([(ref1_order (GFraction.mk a1 a2) (GFraction.mk a3 a4)).isSome = true], (ref1_order_out ((ref1_order (GFraction.mk a1 a2) (GFraction.mk a3 a4)).getD (0 : Int))))
  | _ => none
theorem ref1_order_ok : Meets Try.prog 90 ref1_order_C := by
  refine meets_fun (fn := Try.f90) (c := bodyOf Try.f90) (by kernel_rfl) (by kernel_rfl) (by kernel_rfl) (rs := [.tmp 4]) (by kernel_rfl) (nt := 41) (by kernel_rfl) fun vs p out h hp => ?_
  unfold ref1_order_C at h
  split at h
  · next a1 a2 a3 a4 =>
    cases h
    obtain ⟨g, hp⟩ := allq hp
    obtain ⟨x, hx⟩ := Option.isSome_iff_exists.1 g
    rw [hx]
    exact ⟨[(.agg [(i64 (GFraction.mk a1 a2).Num), (i64 (GFraction.mk a1 a2).Den)]), (.agg [(i64 (GFraction.mk a3 a4).Num), (i64 (GFraction.mk a3 a4).Den)])], (VLes.cons (VLe.rfl' _) (VLes.cons (VLe.rfl' _) VLes.nil)), rfl, z90run (GFraction.mk a1 a2) (GFraction.mk a3 a4) x hx⟩
  · cases h

noncomputable def z38i0 : List Code := items (bodyOf Try.f38)
def z38R (x_1 : (Int × Int)) : St := { tm := [sv 4 (i64 x_1.1), sv 5 (i64 x_1.2)], hp := [], nx := 0 }
def ref1_Compare_out (x_1 : (Int × Int)) : Out := .data (.tup [(i64 x_1.1), (i64 x_1.2)])
theorem z38Rok (x_1 : (Int × Int)) : retK Try.prog [.tmp 4, .tmp 5] (OutOk (ref1_Compare_out x_1)) .ret (z38R x_1) :=
  retK.intro (v := (.tup [(i64 x_1.1), (i64 x_1.2)])) (by kernel_rfl) (VLe.tup (VLes.cons (VLe.rfl' _) (VLes.cons (VLe.rfl' _) (VLes.nil))))
def z38p0S (a b : GFraction) : St := { tm := [sv 0 (.ag (eGFraction a)), sv 1 (.ag (eGFraction b))], hp := [], nx := 0 }
noncomputable def ref1_Compare_p0 (a b : GFraction) : Option ((Int × Int)) := (ref1_ValidFraction a).bind fun r_1 => (gd (((!(!r_1)) && true) = true → (ref1_ValidFraction b).isSome = true) ((bif (bif (!r_1) then true else (!((ref1_ValidFraction b).getD false))) then (some ((0 : Int), (1 : Int))) else (ref1_order a b).bind fun r_2 => ((some (r_2, (0 : Int)))))))
theorem z38p0ok (a b : GFraction) (K : KT) (h : W (ref1_Compare_p0 a b) (rE z38R K)) : EvL Try.prog 17 (List.drop 0 z38i0) K (z38p0S a b) :=
  EvL.pE mixed (lookC_ok (l := [(89, .pure ref1_ValidFraction_C), (90, .pure ref1_order_C)]) ⟨ref1_ValidFraction_ok, ref1_order_ok, trivial⟩) [4, 5] 0 5 (.nf (X := fun K => ((ref1_ValidFraction a).isSome = true) ∧ (((!(!((ref1_ValidFraction a).getD false))) && true) = true → (ref1_ValidFraction b).isSome = true) ∧ ((bif (bif (!((ref1_ValidFraction a).getD false)) then true else (!((ref1_ValidFraction b).getD false))) then wK K .ret (z38R ((0 : Int), (1 : Int))) else ((ref1_order a b).isSome = true) ∧ (wK K .ret (z38R (((ref1_order a b).getD (0 : Int)), (0 : Int))))))) (fun K => by kernel_rfl) (W_bind false h fun hp0 h => (W_gd h fun hp1 h => (W_bif h (fun _ h => ⟨_, .refl _, h⟩) (fun _ h => (W_bind (0 : Int) h fun hp2 h => ⟨_, .refl _, h⟩))))))
noncomputable def ref1_Compare (a b : GFraction) : Option ((Int × Int)) := ref1_Compare_p0 a b
theorem z38run (a b : GFraction) (y_ : (Int × Int)) (h : ref1_Compare a b = some y_) : EvL Try.prog 17 (items (bodyOf Try.f38)) (retK Try.prog [.tmp 4, .tmp 5] (OutOk (ref1_Compare_out y_))) (z38p0S a b) :=
  z38p0ok a b _ (W_iff.2 ⟨y_, h, z38Rok y_⟩)
noncomputable def ref1_Compare_C : Con
  | [(.agg [(.c (.lit (.int .i64 a1))), (.c (.lit (.int .i64 a2)))]), (.agg [(.c (.lit (.int .i64 a3))), (.c (.lit (.int .i64 a4)))])] => some ([(ref1_Compare (GFraction.mk a1 a2) (GFraction.mk a3 a4)).isSome = true], (ref1_Compare_out ((ref1_Compare (GFraction.mk a1 a2) (GFraction.mk a3 a4)).getD ((0 : Int), (0 : Int)))))
  | _ => none
theorem ref1_Compare_ok : Meets Try.prog 38 ref1_Compare_C := by
  refine meets_fun (fn := Try.f38) (c := bodyOf Try.f38) (by kernel_rfl) (by kernel_rfl) (by kernel_rfl) (rs := [.tmp 4, .tmp 5]) (by kernel_rfl) (nt := 17) (by kernel_rfl) fun vs p out h hp => ?_
  unfold ref1_Compare_C at h
  split at h
  · next a1 a2 a3 a4 =>
    cases h
    obtain ⟨g, hp⟩ := allq hp
    obtain ⟨x, hx⟩ := Option.isSome_iff_exists.1 g
    rw [hx]
    exact ⟨[(.agg [(i64 (GFraction.mk a1 a2).Num), (i64 (GFraction.mk a1 a2).Den)]), (.agg [(i64 (GFraction.mk a3 a4).Num), (i64 (GFraction.mk a3 a4).Den)])], (VLes.cons (VLe.rfl' _) (VLes.cons (VLe.rfl' _) VLes.nil)), rfl, z38run (GFraction.mk a1 a2) (GFraction.mk a3 a4) x hx⟩
  · cases h

noncomputable def z10i0 : List Code := items (bodyOf Try.f10)
noncomputable def z10i1 : List Code := items (inside (inside (nthI z10i0 5)))
def z10R (x_1 : Bool) : St := { tm := [sv 4 (bl x_1)], hp := [], nx := 0 }
def law19_EarningsBest_out (x_1 : Bool) : Out := .data (bl x_1)
theorem z10Rok (x_1 : Bool) : retK Try.prog [.tmp 4] (OutOk (law19_EarningsBest_out x_1)) .ret (z10R x_1) :=
  retK.intro (v := (bl x_1)) (by kernel_rfl) ((VLe.rfl' _))
def z10l1S (l : (List Int)) (n : Int) (s : ((List Int) × Int)) : St := match s with | (m, i_1) => { tm := [sv 0 (.c (.sl 1 l.length (lsEl eI64 (0 : Int) l))), sv 1 (i64 n), sv 5 (.row 0 1 0 m.length), sv 6 (i64 i_1)], hp := [(0, some (.row 3 1 m.length (lsEl eI64 (0 : Int) m)))], nx := 1 }
def z10l1C0 (l : (List Int)) (n : Int) (s : (List Int)) : St := match s with | m_1 => { tm := [sv 1 (i64 n), sv 5 (.row 0 1 0 m_1.length)], hp := [(0, some (.row 3 1 m_1.length (lsEl eI64 (0 : Int) m_1)))], nx := 1 }
def z10l1E (l : (List Int)) (n : Int) (r : (((List Int)))) (K : KT) : Prop := match r with | s => K (.exit 0) (z10l1C0 l n s)
def z10p0S (l : (List Int)) (n : Int) (m : (List Int)) (i_1 : Int) : St := { tm := [sv 0 (.c (.sl 1 l.length (lsEl eI64 (0 : Int) l))), sv 1 (i64 n), sv 5 (.row 0 1 0 m.length), sv 6 (i64 i_1)], hp := [(0, some (.row 3 1 m.length (lsEl eI64 (0 : Int) m)))], nx := 1 }
noncomputable def law19_EarningsBest_p0 (l : (List Int)) (n : Int) (m : (List Int)) (i_1 : Int) : Option (((List Int) × Int) ⊕ (((List Int)))) := (bif (decide (i_1 < ((l.length : Nat) : Int))) then gd ((0 : Int) ≤ i_1 ∧ i_1 < ((l.length : Nat) : Int)) ((made_Pick (l.getD (Int.toNat i_1) (0 : Int)) (1000000 : Int)).bind fun r_1 => (gd (capB (m.length + 1) 8) ((some (Sum.inl ((m ++ ([r_1] : List Int)), (w64 (i_1 + (1 : Int))))))))) else (some (Sum.inr m)))
theorem z10p0ok (l : (List Int)) (n : Int) (m : (List Int)) (i_1 : Int) (K : KT) (h : W (law19_EarningsBest_p0 l n m i_1) (nE (z10l1S l n) (z10l1E l n) K)) : EvL Try.prog 71 (List.drop 0 z10i1) K (z10p0S l n m i_1) :=
  EvL.pE mixed (lookC_ok (l := [(23, .pure made_Pick_C)]) ⟨made_Pick_ok, trivial⟩) [0, 1, 5, 6, 60, 61, 64, 65, 68, 69] 0 4 (.nf (X := fun K => (bif (decide (i_1 < ((l.length : Nat) : Int))) then ((0 : Int) ≤ i_1) ∧ (i_1 < ((l.length : Nat) : Int)) ∧ ((made_Pick (l.getD (Int.toNat i_1) (0 : Int)) (1000000 : Int)).isSome = true) ∧ (m.length = m.length) ∧ ((m.length + 1) * 8 ≤ 70368744177664) ∧ ((m.length + 1) ≤ 70368744177664) ∧ (wK K .normal ({ tm := [sv 0 (.c (.sl 1 l.length (lsEl eI64 (0 : Int) l))), sv 1 (i64 n), sv 5 (.row 0 1 0 (m.length + 1)), sv 6 (i64 (w64 (i_1 + (1 : Int))))], hp := [(0, some (.row 3 1 (m.length + 1) (fun i => bif Nat.blt i m.length then (lsEl eI64 (0 : Int) m) i else (fun i => (litE 1 (eI64 ((made_Pick (l.getD (Int.toNat i_1) (0 : Int)) (1000000 : Int)).getD (0 : Int)))) (0 + i)) (i - m.length))))], nx := 1 })) else wK K (.exit 0) ({ tm := [sv 0 (.c (.sl 1 l.length (lsEl eI64 (0 : Int) l))), sv 1 (i64 n), sv 5 (.row 0 1 0 m.length), sv 6 (i64 i_1)], hp := [(0, some (.row 3 1 m.length (lsEl eI64 (0 : Int) m)))], nx := 1 }))) (fun K => by kernel_rfl) (W_bif h (fun _ h => (W_gd2 h fun hp0 h => (W_bind (0 : Int) h fun hp1 h => ⟨rfl, (W_gd2 h fun hp2 h => ⟨(z10l1S l n ((m ++ ([((made_Pick (l.getD (Int.toNat i_1) (0 : Int)) (1000000 : Int)).getD (0 : Int))] : List Int)), (w64 (i_1 + (1 : Int))))), (.of (.q rfl (.q rfl (.cons rfl (.rown (len_app rfl rfl)) (.q rfl .nil)))) (.row rfl (RowIs.app (RowIs.ls eI64 (0 : Int) m) (RowIs.zero (RowIs.l1 (enc := eI64) (z := (0 : Int)) 1 ((made_Pick (l.getD (Int.toNat i_1) (0 : Int)) (1000000 : Int)).getD (0 : Int)) rfl))) .nil rfl) rfl), h⟩)⟩))) (fun _ h => ⟨(z10l1C0 l n m), (.of (.q rfl (.q rfl .nil)) (.same rfl .nil) rfl), h⟩)))
noncomputable def law19_EarningsBest_l1 (l : (List Int)) (n : Int) (s : ((List Int) × Int)) : Option (((List Int) × Int) ⊕ (((List Int)))) := match s with | (m, i_1) => law19_EarningsBest_p0 l n m i_1
theorem z10l1ok (l : (List Int)) (n : Int) (s : ((List Int) × Int)) : Pp Try.prog 71 (List.drop 0 z10i1) (z10l1S l n s) (law19_EarningsBest_l1 l n s) (nextE (z10l1S l n) (z10l1E l n)) := fun K h => match s, h with | (m, i_1), h => (z10p0ok l n m i_1 _ h)
theorem z10l1Ethen (l : (List Int)) (n : Int) : ∀ (r : (((List Int)))) (J : St → Prop) (K : KT), z10l1E l n r K → z10l1E l n r (thenK J K)
  | s, _, _, h => h
def z10p1S (n : Int) (m_2 : (List Int)) : St := { tm := [sv 1 (i64 n), sv 5 (.row 0 1 0 m_2.length)], hp := [(0, some (.row 3 1 m_2.length (lsEl eI64 (0 : Int) m_2)))], nx := 1 }
noncomputable def law19_EarningsBest_p1 (n : Int) (m_2 : (List Int)) : Option (Bool) := (made_Pick n (if (45 : Int) < ((m_2.length : Nat) : Int) then (45 : Int) else ((m_2.length : Nat) : Int))).bind fun r_2 => ((earnings_Base m_2).bind fun r_3 => ((ref8_Best m_2 (w64 ((1 : Int) + r_2))).bind fun r_4 => ((ref1_Compare r_3.1 r_4.1).bind fun r_5 => ((law19_awake).bind fun r_6 => ((some (bif (bif (bif r_6 then (r_3.2 == (0 : Int)) else false) then (r_4.2 == (0 : Int)) else false) then (decide (r_5.1 ≤ (0 : Int))) else false)))))))
theorem z10p1nf (n : Int) (m_2 : (List Int)) (K : KT) (L1_ : List Int) (hL1_ : lst dI64 m_2.length (fun i => (lsEl eI64 (0 : Int) m_2) (0 + i)) = L1_) (L2_ : List Int) (hL2_ : lst dI64 m_2.length (fun i => (lsEl eI64 (0 : Int) m_2) (0 + i)) = L2_) :
    ev Try.prog (lookC [(23, .pure made_Pick_C), (25, .pure law19_awake_C), (31, .pure earnings_Base_C), (37, .pure ref8_Best_C), (38, .pure ref1_Compare_C)]) 71 (ofItems ((List.drop 6 z10i0).take 6)) (cN [4] K) (z10p1S n m_2) =
    (((made_Pick n (if (45 : Int) < ((m_2.length : Nat) : Int) then (45 : Int) else ((m_2.length : Nat) : Int))).isSome = true) ∧ ((LstOk eI64 dI64 1 1 m_2.length (fun i => (lsEl eI64 (0 : Int) m_2) (0 + i))) ∧ ((earnings_Base L1_).isSome = true) ∧ ((LstOk eI64 dI64 1 1 m_2.length (fun i => (lsEl eI64 (0 : Int) m_2) (0 + i))) ∧ ((ref8_Best L2_ (w64 ((1 : Int) + ((made_Pick n (if (45 : Int) < ((m_2.length : Nat) : Int) then (45 : Int) else ((m_2.length : Nat) : Int))).getD (0 : Int))))).isSome = true) ∧ (((ref1_Compare (((earnings_Base L1_).getD (zGFraction, (0 : Int))).1) (((ref8_Best L2_ (w64 ((1 : Int) + ((made_Pick n (if (45 : Int) < ((m_2.length : Nat) : Int) then (45 : Int) else ((m_2.length : Nat) : Int))).getD (0 : Int))))).getD (zGFraction, (0 : Int))).1)).isSome = true) ∧ (((law19_awake).isSome = true) ∧ (wK K .ret (z10R (bif (bif (bif ((law19_awake).getD false) then (((earnings_Base L1_).getD (zGFraction, (0 : Int))).2 == (0 : Int)) else false) then (((ref8_Best L2_ (w64 ((1 : Int) + ((made_Pick n (if (45 : Int) < ((m_2.length : Nat) : Int) then (45 : Int) else ((m_2.length : Nat) : Int))).getD (0 : Int))))).getD (zGFraction, (0 : Int))).2 == (0 : Int)) else false) then (decide (((ref1_Compare (((earnings_Base L1_).getD (zGFraction, (0 : Int))).1) (((ref8_Best L2_ (w64 ((1 : Int) + ((made_Pick n (if (45 : Int) < ((m_2.length : Nat) : Int) then (45 : Int) else ((m_2.length : Nat) : Int))).getD (0 : Int))))).getD (zGFraction, (0 : Int))).1)).getD ((0 : Int), (0 : Int))).1 ≤ (0 : Int))) else false)))))))) := by subst hL1_ hL2_; kernel_rfl
theorem z10p1ok (n : Int) (m_2 : (List Int)) (K : KT) (h : W (law19_EarningsBest_p1 n m_2) (rE z10R K)) : EvL Try.prog 71 (List.drop 6 z10i0) K (z10p1S n m_2) :=
  EvL.pE mixed (lookC_ok (l := [(23, .pure made_Pick_C), (25, .pure law19_awake_C), (31, .pure earnings_Base_C), (37, .pure ref8_Best_C), (38, .pure ref1_Compare_C)]) ⟨made_Pick_ok, law19_awake_ok, earnings_Base_ok, ref8_Best_ok, ref1_Compare_ok, trivial⟩) [4] 6 6 (.of (z10p1nf n m_2 _ _ (RowIs.lst dI64_eI64 (RowIs.zero (RowIs.ls eI64 (0 : Int) m_2))) _ (RowIs.lst dI64_eI64 (RowIs.zero (RowIs.ls eI64 (0 : Int) m_2)))) (W_bind (0 : Int) h fun hp0 h => ⟨RowIs.ok dI64_eI64 (RowIs.zero (RowIs.ls eI64 (0 : Int) m_2)), (W_bind (zGFraction, (0 : Int)) h fun hp1 h => ⟨RowIs.ok dI64_eI64 (RowIs.zero (RowIs.ls eI64 (0 : Int) m_2)), (W_bind (zGFraction, (0 : Int)) h fun hp2 h => (W_bind ((0 : Int), (0 : Int)) h fun hp3 h => (W_bind false h fun hp4 h => ⟨_, .refl _, h⟩)))⟩)⟩))
def z10p2S (l : (List Int)) (n : Int) : St := { tm := [sv 0 (.c (.sl 1 l.length (lsEl eI64 (0 : Int) l))), sv 1 (i64 n), sv 5 (.c .nil), sv 6 (i64 (0 : Int))], hp := [], nx := 0 }
noncomputable def law19_EarningsBest_p2_g (l : (List Int)) (n : Int) (r : (((List Int)))) : Option (Bool) := match r with | m_1 => (law19_EarningsBest_p1 n m_1)
noncomputable def law19_EarningsBest_p2 (l : (List Int)) (n : Int) : Option (Bool) := (fixL (law19_EarningsBest_l1 l n) (([] : List Int), (0 : Int))).bind (law19_EarningsBest_p2_g l n)
theorem z10p2at : List.drop 5 z10i0 = .block 0 (.loop (inside (inside (nthI z10i0 5)))) :: List.drop 6 z10i0 := by kernel_rfl
theorem z10p2k (l : (List Int)) (n : Int) (K : KT) : ∀ r : (((List Int))), W (law19_EarningsBest_p2_g l n r) (rE z10R K) → z10l1E l n r (wK (blockK 0 (thenK (EvL Try.prog 71 (List.drop 6 z10i0) K) K)))
  | m_1, h => ⟨(z10p1S n m_1), (.refl _), (z10p1ok n m_1 _ h)⟩
theorem z10p2ok (l : (List Int)) (n : Int) (K : KT) (h : W (law19_EarningsBest_p2 l n) (rE z10R K)) : EvL Try.prog 71 (List.drop 5 z10i0) K (z10p2S l n) :=
  EvL.at_ z10p2at (EvL.cons_loop (EvOk.weak (EvOk.ent (.trans (.nilrow 5 0 3 1 (lsEl eI64 (0 : Int) []) (Nat.le_of_ble_eq_true rfl) rfl) (.cn [0, 1, 5, 6])) (EvOk.loopF (x := inside (inside (nthI z10i0 5))) (f := law19_EarningsBest_l1 l n) (emb := z10l1S l n) (E := z10l1E l n) (z10l1ok l n) (z10l1Ethen l n) (W_loop h (z10p2k l n K))))))
def z10p3S (l : (List Int)) (n : Int) : St := { tm := [sv 0 (.c (.sl 1 l.length (lsEl eI64 (0 : Int) l))), sv 1 (i64 n)], hp := [], nx := 0 }
noncomputable def law19_EarningsBest_p3 (l : (List Int)) (n : Int) : Option (Bool) := (bif (bif (decide ((100 : Int) < ((l.length : Nat) : Int))) then true else (((l.length : Nat) : Int) == (0 : Int))) then (some true) else (law19_EarningsBest_p2 l n))
theorem z10p3ok (l : (List Int)) (n : Int) (K : KT) (h : W (law19_EarningsBest_p3 l n) (rE z10R K)) : EvL Try.prog 71 (List.drop 0 z10i0) K (z10p3S l n) :=
  EvL.pD mixed (lookC_ok (l := []) trivial) [0, 1, 4, 5, 6, 60, 61, 64, 65, 68, 69] 0 5 5 (.nf (X := fun K => (bif (bif (decide ((100 : Int) < ((l.length : Nat) : Int))) then true else (((l.length : Nat) : Int) == (0 : Int))) then wK K .ret ({ tm := [sv 0 (.c (.sl 1 l.length (lsEl eI64 (0 : Int) l))), sv 1 (i64 n), sv 4 (bl true)], hp := [], nx := 0 }) else wK K .normal ({ tm := [sv 0 (.c (.sl 1 l.length (lsEl eI64 (0 : Int) l))), sv 1 (i64 n), sv 4 (bl false), sv 5 (.c .nil), sv 6 (i64 (0 : Int))], hp := [], nx := 0 }))) (fun K => by kernel_rfl) (W_bif h (fun _ h => ⟨(z10R true), (.of (.q rfl .nil) .nil rfl), h⟩) (fun _ h => ⟨(z10p2S l n), (.of (.q rfl (.q rfl (.q rfl (.q rfl .nil)))) .nil rfl), (z10p2ok l n _ h)⟩)))
noncomputable def law19_EarningsBest (l : (List Int)) (n : Int) : Option (Bool) := law19_EarningsBest_p3 l n
theorem z10run (l : (List Int)) (n : Int) (y_ : Bool) (h : law19_EarningsBest l n = some y_) : EvL Try.prog 71 (items (bodyOf Try.f10)) (retK Try.prog [.tmp 4] (OutOk (law19_EarningsBest_out y_))) (z10p3S l n) :=
  z10p3ok l n _ (W_iff.2 ⟨y_, h, z10Rok y_⟩)
noncomputable def law19_EarningsBest_C : Con
  | [(.c (.sl k1 n2 e3)), (.c (.lit (.int .i64 a4)))] => some ([LstOk eI64 dI64 1 k1 n2 e3, (law19_EarningsBest (lst dI64 n2 e3) a4).isSome = true], (law19_EarningsBest_out ((law19_EarningsBest (lst dI64 n2 e3) a4).getD false)))
  | _ => none
theorem law19_EarningsBest_ok : Meets Try.prog 10 law19_EarningsBest_C := by
  refine meets_fun (fn := Try.f10) (c := bodyOf Try.f10) (by kernel_rfl) (by kernel_rfl) (by kernel_rfl) (rs := [.tmp 4]) (by kernel_rfl) (nt := 71) (by kernel_rfl) fun vs p out h hp => ?_
  unfold law19_EarningsBest_C at h
  split at h
  · next k1 n2 e3 a4 =>
    cases h
    obtain ⟨g0, hp⟩ := allq hp
    obtain ⟨g, hp⟩ := allq hp
    obtain ⟨x, hx⟩ := Option.isSome_iff_exists.1 g
    rw [hx]
    exact ⟨[(.c (.sl 1 ((lst dI64 n2 e3)).length (lsEl eI64 (0 : Int) (lst dI64 n2 e3)))), (i64 a4)], (VLes.cons (VLe.slk g0.1 (RowIs.of_ok g0)) (VLes.cons (VLe.rfl' _) VLes.nil)), rfl, z10run (lst dI64 n2 e3) a4 x hx⟩
  · cases h

end Go.Ax
