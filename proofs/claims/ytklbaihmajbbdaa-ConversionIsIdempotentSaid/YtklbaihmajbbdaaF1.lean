import Derived.Test.YtklbaihmajbbdaaA6
import Derived.Test.YtklbaihmajbbdaaRows
/- Types of the program, and functions of it: printed by a program, checked by the kernel. -/
set_option linter.all false
set_option maxRecDepth 100000
namespace Go.Ax
open Go.Proofs Go.Proofs.Ytklbaihmajbbdaa
theorem mixed : Try.prog.follows .mixedOrders = true := by kernel_rfl
theorem dI64_eI64 (x : Int) : dI64 (eI64 x) = x := rfl
theorem scal_I64 (x : Int) (d : D) (h : d ∈ eI64 x) : d.scal = true := by
  simp only [eI64, List.mem_singleton] at h; subst h; rfl
theorem dU64_eU64 (x : Int) : dU64 (eU64 x) = x := rfl
theorem scal_U64 (x : Int) (d : D) (h : d ∈ eU64 x) : d.scal = true := by
  simp only [eU64, List.mem_singleton] at h; subst h; rfl
theorem dU8_eU8 (x : Int) : dU8 (eU8 x) = x := rfl
theorem scal_U8 (x : Int) (d : D) (h : d ∈ eU8 x) : d.scal = true := by
  simp only [eU8, List.mem_singleton] at h; subst h; rfl
theorem dI32_eI32 (x : Int) : dI32 (eI32 x) = x := rfl
theorem scal_I32 (x : Int) (d : D) (h : d ∈ eI32 x) : d.scal = true := by
  simp only [eI32, List.mem_singleton] at h; subst h; rfl
theorem dU32_eU32 (x : Int) : dU32 (eU32 x) = x := rfl
theorem scal_U32 (x : Int) (d : D) (h : d ∈ eU32 x) : d.scal = true := by
  simp only [eU32, List.mem_singleton] at h; subst h; rfl
theorem dU16_eU16 (x : Int) : dU16 (eU16 x) = x := rfl
theorem scal_U16 (x : Int) (d : D) (h : d ∈ eU16 x) : d.scal = true := by
  simp only [eU16, List.mem_singleton] at h; subst h; rfl
theorem dI8_eI8 (x : Int) : dI8 (eI8 x) = x := rfl
theorem scal_I8 (x : Int) (d : D) (h : d ∈ eI8 x) : d.scal = true := by
  simp only [eI8, List.mem_singleton] at h; subst h; rfl
theorem dI16_eI16 (x : Int) : dI16 (eI16 x) = x := rfl
theorem scal_I16 (x : Int) (d : D) (h : d ∈ eI16 x) : d.scal = true := by
  simp only [eI16, List.mem_singleton] at h; subst h; rfl
theorem dBool_eBool (x : Bool) : dBool (eBool x) = x := rfl
theorem scal_Bool (x : Bool) (d : D) (h : d ∈ eBool x) : d.scal = true := by
  simp only [eBool, List.mem_singleton] at h; subst h; rfl
theorem dStr_eStr (x : ByteArray) : dStr (eStr x) = x := rfl
theorem scal_Str (x : ByteArray) (d : D) (h : d ∈ eStr x) : d.scal = true := by
  simp only [eStr, List.mem_singleton] at h; subst h; rfl
structure GPensionlaw22_Raw where
  A : Int
  B : Int
  C : Int
  D : Int
def zGPensionlaw22_Raw : GPensionlaw22_Raw := ⟨(0 : Int), (0 : Int), (0 : Int), (0 : Int)⟩
def eGPensionlaw22_Raw (x : GPensionlaw22_Raw) : List D := [(di x.A), (di x.B), (di x.C), (di x.D)]
def dGPensionlaw22_Raw : List D → GPensionlaw22_Raw
  | [.lit (.int .i64 a1), .lit (.int .i64 a2), .lit (.int .i64 a3), .lit (.int .i64 a4)] => (GPensionlaw22_Raw.mk a1 a2 a3 a4)
  | _ => zGPensionlaw22_Raw
theorem dGPensionlaw22_Raw_eGPensionlaw22_Raw (x : GPensionlaw22_Raw) : dGPensionlaw22_Raw (eGPensionlaw22_Raw x) = x := rfl
theorem scal_GPensionlaw22_Raw (x : GPensionlaw22_Raw) (d : D) (h : d ∈ eGPensionlaw22_Raw x) : d.scal = true := by
  have : (eGPensionlaw22_Raw x).all D.scal = true := rfl
  exact List.all_eq_true.1 this d h
structure GNet where
  State : Int
  Benefit : Int
  Currency : Int
  Independent : Int
  ProRata : Int
  Deducted : Int
  Amount : Int
def zGNet : GNet := ⟨(0 : Int), (0 : Int), (0 : Int), (0 : Int), (0 : Int), (0 : Int), (0 : Int)⟩
def GNet.s_Amount (x : GNet) (v : Int) : GNet := ⟨x.State, x.Benefit, x.Currency, x.Independent, x.ProRata, x.Deducted, v⟩
def eGNet (x : GNet) : List D := [(di x.State), (di x.Benefit), (di x.Currency), (di x.Independent), (di x.ProRata), (di x.Deducted), (di x.Amount)]
def dGNet : List D → GNet
  | [.lit (.int .i64 a1), .lit (.int .i64 a2), .lit (.int .i64 a3), .lit (.int .i64 a4), .lit (.int .i64 a5), .lit (.int .i64 a6), .lit (.int .i64 a7)] => (GNet.mk a1 a2 a3 a4 a5 a6 a7)
  | _ => zGNet
theorem dGNet_eGNet (x : GNet) : dGNet (eGNet x) = x := rfl
theorem scal_GNet (x : GNet) (d : D) (h : d ∈ eGNet x) : d.scal = true := by
  have : (eGNet x).all D.scal = true := rfl
  exact List.all_eq_true.1 this d h
structure GHeir where
  Person : Int
  Kind : Int
  Days : Int
def zGHeir : GHeir := ⟨(0 : Int), (0 : Int), (0 : Int)⟩
def eGHeir (x : GHeir) : List D := [(di x.Person), (di x.Kind), (di x.Days)]
def dGHeir : List D → GHeir
  | [.lit (.int .i64 a1), .lit (.int .i64 a2), .lit (.int .i64 a3)] => (GHeir.mk a1 a2 a3)
  | _ => zGHeir
theorem dGHeir_eGHeir (x : GHeir) : dGHeir (eGHeir x) = x := rfl
theorem scal_GHeir (x : GHeir) (d : D) (h : d ∈ eGHeir x) : d.scal = true := by
  have : (eGHeir x).all D.scal = true := rfl
  exact List.all_eq_true.1 this d h
structure GRational_wide where
  hi : Int
  lo : Int
def zGRational_wide : GRational_wide := ⟨(0 : Int), (0 : Int)⟩
def eGRational_wide (x : GRational_wide) : List D := [(.lit (.int .u64 x.hi)), (.lit (.int .u64 x.lo))]
def dGRational_wide : List D → GRational_wide
  | [.lit (.int .u64 a1), .lit (.int .u64 a2)] => (GRational_wide.mk a1 a2)
  | _ => zGRational_wide
theorem dGRational_wide_eGRational_wide (x : GRational_wide) : dGRational_wide (eGRational_wide x) = x := rfl
theorem scal_GRational_wide (x : GRational_wide) (d : D) (h : d ∈ eGRational_wide x) : d.scal = true := by
  have : (eGRational_wide x).all D.scal = true := rfl
  exact List.all_eq_true.1 this d h
structure GFraction where
  Num : Int
  Den : Int
def zGFraction : GFraction := ⟨(0 : Int), (0 : Int)⟩
def eGFraction (x : GFraction) : List D := [(di x.Num), (di x.Den)]
def dGFraction : List D → GFraction
  | [.lit (.int .i64 a1), .lit (.int .i64 a2)] => (GFraction.mk a1 a2)
  | _ => zGFraction
theorem dGFraction_eGFraction (x : GFraction) : dGFraction (eGFraction x) = x := rfl
theorem scal_GFraction (x : GFraction) (d : D) (h : d ∈ eGFraction x) : d.scal = true := by
  have : (eGFraction x).all D.scal = true := rfl
  exact List.all_eq_true.1 this d h
structure GPart where
  Person : Int
  Amount : Int
def zGPart : GPart := ⟨(0 : Int), (0 : Int)⟩
def GPart.s_Amount (x : GPart) (v : Int) : GPart := ⟨x.Person, v⟩
def eGPart (x : GPart) : List D := [(di x.Person), (di x.Amount)]
def dGPart : List D → GPart
  | [.lit (.int .i64 a1), .lit (.int .i64 a2)] => (GPart.mk a1 a2)
  | _ => zGPart
theorem dGPart_eGPart (x : GPart) : dGPart (eGPart x) = x := rfl
theorem scal_GPart (x : GPart) (d : D) (h : d ∈ eGPart x) : d.scal = true := by
  have : (eGPart x).all D.scal = true := rfl
  exact List.all_eq_true.1 this d h
structure GConversion_remainder where
  at_ : Int
  num : Int
  den : Int
def zGConversion_remainder : GConversion_remainder := ⟨(0 : Int), (0 : Int), (0 : Int)⟩
def eGConversion_remainder (x : GConversion_remainder) : List D := [(di x.at_), (di x.num), (di x.den)]
def dGConversion_remainder : List D → GConversion_remainder
  | [.lit (.int .i64 a1), .lit (.int .i64 a2), .lit (.int .i64 a3)] => (GConversion_remainder.mk a1 a2 a3)
  | _ => zGConversion_remainder
theorem dGConversion_remainder_eGConversion_remainder (x : GConversion_remainder) : dGConversion_remainder (eGConversion_remainder x) = x := rfl
theorem scal_GConversion_remainder (x : GConversion_remainder) (d : D) (h : d ∈ eGConversion_remainder x) : d.scal = true := by
  have : (eGConversion_remainder x).all D.scal = true := rfl
  exact List.all_eq_true.1 this d h
structure GPensionref1_wide where
  hi : Int
  lo : Int
def zGPensionref1_wide : GPensionref1_wide := ⟨(0 : Int), (0 : Int)⟩
def eGPensionref1_wide (x : GPensionref1_wide) : List D := [(.lit (.int .u64 x.hi)), (.lit (.int .u64 x.lo))]
def dGPensionref1_wide : List D → GPensionref1_wide
  | [.lit (.int .u64 a1), .lit (.int .u64 a2)] => (GPensionref1_wide.mk a1 a2)
  | _ => zGPensionref1_wide
theorem dGPensionref1_wide_eGPensionref1_wide (x : GPensionref1_wide) : dGPensionref1_wide (eGPensionref1_wide x) = x := rfl
theorem scal_GPensionref1_wide (x : GPensionref1_wide) (d : D) (h : d ∈ eGPensionref1_wide x) : d.scal = true := by
  have : (eGPensionref1_wide x).all D.scal = true := rfl
  exact List.all_eq_true.1 this d h

noncomputable def z21i0 : List Code := items (bodyOf Try.f21)
def plain_Mod_out (x_1 : Int) : Out := .data (i64 x_1)
def z21R (x_1 : Int) : St := { tm := [sv 4 (i64 x_1)], hp := [], nx := 0 }
theorem z21Rok (x_1 : Int) : retK Try.prog [.tmp 4] (OutOk (plain_Mod_out x_1)) .ret (z21R x_1) :=
  retK.intro (v := (i64 x_1)) (by kernel_rfl) ((VLe.rfl' _))
def z21p0S (n m : Int) : St := { tm := [sv 0 (i64 n), sv 1 (i64 m)], hp := [], nx := 0 }
noncomputable def plain_Mod_p0 (n m : Int) : Option (Int) := gd (m ≠ (0 : Int)) ((bif (decide ((Int.tmod n m) < (0 : Int))) then (some (w64 ((Int.tmod n m) + m))) else (some (Int.tmod n m))))
theorem z21p0ok (n m : Int) (K : KT) (h : W (plain_Mod_p0 n m) (rE z21R K)) : EvL Try.prog 15 (List.drop 0 z21i0) K (z21p0S n m) :=
  EvL.pE mixed (lookC_ok (l := []) trivial) [4] 0 6 (.nf (X := fun K => (m ≠ (0 : Int)) ∧ ((bif (decide ((Int.tmod n m) < (0 : Int))) then wK K .ret (z21R (w64 ((Int.tmod n m) + m))) else wK K .ret (z21R (Int.tmod n m))))) (fun K => by kernel_rfl) (W_gd h fun hp0 h => (W_bif h (fun _ h => ⟨_, .refl _, h⟩) (fun _ h => ⟨_, .refl _, h⟩))))
noncomputable def plain_Mod (n m : Int) : Option (Int) := plain_Mod_p0 n m
theorem z21run (n m : Int) (y_ : Int) (h : plain_Mod n m = some y_) : EvL Try.prog 15 (items (bodyOf Try.f21)) (retK Try.prog [.tmp 4] (OutOk (plain_Mod_out y_))) (z21p0S n m) :=
  z21p0ok n m _ (W_iff.2 ⟨y_, h, z21Rok y_⟩)
noncomputable def plain_Mod_C : Con
  | [(.c (.lit (.int .i64 a1))), (.c (.lit (.int .i64 a2)))] => some ([(plain_Mod a1 a2).isSome = true], (plain_Mod_out ((plain_Mod a1 a2).getD (0 : Int))))
  | _ => none
theorem plain_Mod_ok : Meets Try.prog 21 plain_Mod_C := by
  refine meets_fun (fn := Try.f21) (c := bodyOf Try.f21) (by kernel_rfl) (by kernel_rfl) (by kernel_rfl) (rs := [.tmp 4]) (by kernel_rfl) (nt := 15) (by kernel_rfl) fun vs p out h hp => ?_
  unfold plain_Mod_C at h
  split at h
  · next a1 a2 =>
    cases h
    obtain ⟨g, hp⟩ := allq hp
    obtain ⟨x, hx⟩ := Option.isSome_iff_exists.1 g
    rw [hx]
    exact ⟨[(i64 a1), (i64 a2)], (VLes.cons (VLe.rfl' _) (VLes.cons (VLe.rfl' _) VLes.nil)), rfl, z21run a1 a2 x hx⟩
  · cases h

noncomputable def z23i0 : List Code := items (bodyOf Try.f23)
def plain_Amount_out (x_1 : Int) : Out := .data (i64 x_1)
def z23R (x_1 : Int) : St := { tm := [sv 2 (i64 x_1)], hp := [], nx := 0 }
theorem z23Rok (x_1 : Int) : retK Try.prog [.tmp 2] (OutOk (plain_Amount_out x_1)) .ret (z23R x_1) :=
  retK.intro (v := (i64 x_1)) (by kernel_rfl) ((VLe.rfl' _))
def z23p0S (n : Int) : St := { tm := [sv 0 (i64 n)], hp := [], nx := 0 }
noncomputable def plain_Amount_p0 (n : Int) : Option (Int) := (plain_Mod n (8 : Int)).bind fun r_1 => ((bif (r_1 == (0 : Int)) then (some (0 : Int)) else (bif (r_1 == (1 : Int)) then (plain_Mod (w64 (Int.tdiv n (8 : Int))) (1000 : Int)).bind fun r_2 => ((some (w64 ((1000000000000 : Int) - r_2)))) else (bif (r_1 == (2 : Int)) then (plain_Mod (w64 (Int.tdiv n (8 : Int))) (1000000000001 : Int)).bind fun r_3 => ((some r_3)) else (plain_Mod (w64 (Int.tdiv n (8 : Int))) (5000 : Int)).bind fun r_4 => ((some r_4))))))
theorem z23p0ok (n : Int) (K : KT) (h : W (plain_Amount_p0 n) (rE z23R K)) : EvL Try.prog 21 (List.drop 0 z23i0) K (z23p0S n) :=
  EvL.pE mixed (lookC_ok (l := [(21, .pure plain_Mod_C)]) ⟨plain_Mod_ok, trivial⟩) [2] 0 5 (.nf (X := fun K => ((plain_Mod n (8 : Int)).isSome = true) ∧ ((bif (((plain_Mod n (8 : Int)).getD (0 : Int)) == (0 : Int)) then wK K .ret (z23R (0 : Int)) else (bif (((plain_Mod n (8 : Int)).getD (0 : Int)) == (1 : Int)) then ((8 : Int) ≠ (0 : Int)) ∧ ((plain_Mod (w64 (Int.tdiv n (8 : Int))) (1000 : Int)).isSome = true) ∧ (wK K .ret (z23R (w64 ((1000000000000 : Int) - ((plain_Mod (w64 (Int.tdiv n (8 : Int))) (1000 : Int)).getD (0 : Int)))))) else (bif (((plain_Mod n (8 : Int)).getD (0 : Int)) == (2 : Int)) then ((8 : Int) ≠ (0 : Int)) ∧ ((plain_Mod (w64 (Int.tdiv n (8 : Int))) (1000000000001 : Int)).isSome = true) ∧ (wK K .ret (z23R ((plain_Mod (w64 (Int.tdiv n (8 : Int))) (1000000000001 : Int)).getD (0 : Int)))) else ((8 : Int) ≠ (0 : Int)) ∧ ((plain_Mod (w64 (Int.tdiv n (8 : Int))) (5000 : Int)).isSome = true) ∧ (wK K .ret (z23R ((plain_Mod (w64 (Int.tdiv n (8 : Int))) (5000 : Int)).getD (0 : Int))))))))) (fun K => by kernel_rfl) (W_bind (0 : Int) h fun hp0 h => (W_bif h (fun _ h => ⟨_, .refl _, h⟩) (fun _ h => (W_bif h (fun _ h => ⟨(by decide), (W_bind (0 : Int) h fun hp1 h => ⟨_, .refl _, h⟩)⟩) (fun _ h => (W_bif h (fun _ h => ⟨(by decide), (W_bind (0 : Int) h fun hp2 h => ⟨_, .refl _, h⟩)⟩) (fun _ h => ⟨(by decide), (W_bind (0 : Int) h fun hp3 h => ⟨_, .refl _, h⟩)⟩))))))))
noncomputable def plain_Amount (n : Int) : Option (Int) := plain_Amount_p0 n
theorem z23run (n : Int) (y_ : Int) (h : plain_Amount n = some y_) : EvL Try.prog 21 (items (bodyOf Try.f23)) (retK Try.prog [.tmp 2] (OutOk (plain_Amount_out y_))) (z23p0S n) :=
  z23p0ok n _ (W_iff.2 ⟨y_, h, z23Rok y_⟩)
noncomputable def plain_Amount_C : Con
  | [(.c (.lit (.int .i64 a1)))] => some ([(plain_Amount a1).isSome = true], (plain_Amount_out ((plain_Amount a1).getD (0 : Int))))
  | _ => none
theorem plain_Amount_ok : Meets Try.prog 23 plain_Amount_C := by
  refine meets_fun (fn := Try.f23) (c := bodyOf Try.f23) (by kernel_rfl) (by kernel_rfl) (by kernel_rfl) (rs := [.tmp 2]) (by kernel_rfl) (nt := 21) (by kernel_rfl) fun vs p out h hp => ?_
  unfold plain_Amount_C at h
  split at h
  · next a1 =>
    cases h
    obtain ⟨g, hp⟩ := allq hp
    obtain ⟨x, hx⟩ := Option.isSome_iff_exists.1 g
    rw [hx]
    exact ⟨[(i64 a1)], (VLes.cons (VLe.rfl' _) VLes.nil), rfl, z23run a1 x hx⟩
  · cases h

noncomputable def z14i0 : List Code := items (bodyOf Try.f14)
noncomputable def z14i1 : List Code := items (inside (inside (nthI z14i0 3)))
noncomputable def z14i2 : List Code := items (inside (nthI z14i1 2))
noncomputable def z14i3 : List Code := items (inside (inside (nthI z14i2 5)))
def law22_Nets_out (x_1 : (List GNet)) : Out := .own true 28 7 (x_1).length (lsEl eGNet zGNet x_1)
def z14R (x_1 : (List GNet)) : St := { tm := [sv 4 (.row 0 7 0 x_1.length)], hp := [(0, some (.row 28 7 x_1.length (lsEl eGNet zGNet x_1)))], nx := 1 }
theorem z14Rok (x_1 : (List GNet)) : retK Try.prog [.tmp 4] (OutOk (law22_Nets_out x_1)) .ret (z14R x_1) :=
  retK.intro (v := (.row 0 7 0 x_1.length)) (by kernel_rfl) (⟨_, _, _, rfl, rfl, rfl, fun _ _ => rfl, fun _ i hi d hd => scal_GNet _ d hd⟩)
def z14l1S (l : (List GPensionlaw22_Raw)) (unique : Bool) (s : ((List GNet) × Int)) : St := match s with | (out_2, i_1) => { tm := [sv 0 (.c (.sl 4 l.length (lsEl eGPensionlaw22_Raw zGPensionlaw22_Raw l))), sv 1 (bl unique), sv 5 (.row 0 7 0 out_2.length), sv 6 (i64 i_1)], hp := [(0, some (.row 28 7 out_2.length (lsEl eGNet zGNet out_2)))], nx := 1 }
def z14l1C0 (l : (List GPensionlaw22_Raw)) (unique : Bool) (s : (List GNet)) : St := match s with | out_4 => { tm := [sv 5 (.row 0 7 0 out_4.length)], hp := [(0, some (.row 28 7 out_4.length (lsEl eGNet zGNet out_4)))], nx := 1 }
def z14l1E (l : (List GPensionlaw22_Raw)) (unique : Bool) (r : (((List GNet)))) (K : KT) : Prop := match r with | s => K (.exit 0) (z14l1C0 l unique s)
def z14l2S (l : (List GPensionlaw22_Raw)) (unique : Bool) (out_8 : (List GNet)) (i_5 : Int) (n : GNet) (s : ((List GNet) × Int × Bool × Int)) : St := match s with | (out_9, i_6, twice, k) => { tm := [sv 0 (.c (.sl 4 l.length (lsEl eGPensionlaw22_Raw zGPensionlaw22_Raw l))), sv 1 (bl unique), sv 5 (.row 0 7 0 out_9.length), sv 6 (i64 i_6), sv 7 (.ptr 1 7 0 0), sv 8 (bl twice), sv 9 (i64 k)], hp := [(0, some (.row 28 7 out_9.length (lsEl eGNet zGNet out_9))), (1, some (.box [(i64 n.State), (i64 n.Benefit), (i64 n.Currency), (i64 n.Independent), (i64 n.ProRata), (i64 n.Deducted), (i64 n.Amount)]))], nx := 2 }
def z14l2C0 (l : (List GPensionlaw22_Raw)) (unique : Bool) (out_8 : (List GNet)) (i_5 : Int) (n : GNet) (s : (List GNet) × Int × Bool) : St := match s with | (out_10, i_7, twice_1) => { tm := [sv 0 (.c (.sl 4 l.length (lsEl eGPensionlaw22_Raw zGPensionlaw22_Raw l))), sv 1 (bl unique), sv 5 (.row 0 7 0 out_10.length), sv 6 (i64 i_7), sv 7 (.ptr 1 7 0 0), sv 8 (bl twice_1)], hp := [(0, some (.row 28 7 out_10.length (lsEl eGNet zGNet out_10))), (1, some (.box [(i64 n.State), (i64 n.Benefit), (i64 n.Currency), (i64 n.Independent), (i64 n.ProRata), (i64 n.Deducted), (i64 n.Amount)]))], nx := 2 }
def z14l2E (l : (List GPensionlaw22_Raw)) (unique : Bool) (out_8 : (List GNet)) (i_5 : Int) (n : GNet) (r : (((List GNet) × Int × Bool))) (K : KT) : Prop := match r with | s => K (.exit 2) (z14l2C0 l unique out_8 i_5 n s)
def z14p0S (l : (List GPensionlaw22_Raw)) (unique : Bool) (out_9 : (List GNet)) (i_6 : Int) (twice : Bool) (k : Int) (n : GNet) : St := { tm := [sv 0 (.c (.sl 4 l.length (lsEl eGPensionlaw22_Raw zGPensionlaw22_Raw l))), sv 1 (bl unique), sv 5 (.row 0 7 0 out_9.length), sv 6 (i64 i_6), sv 7 (.ptr 1 7 0 0), sv 8 (bl twice), sv 9 (i64 k)], hp := [(0, some (.row 28 7 out_9.length (lsEl eGNet zGNet out_9))), (1, some (.box [(i64 n.State), (i64 n.Benefit), (i64 n.Currency), (i64 n.Independent), (i64 n.ProRata), (i64 n.Deducted), (i64 n.Amount)]))], nx := 2 }
noncomputable def law22_Nets_p0 (l : (List GPensionlaw22_Raw)) (unique : Bool) (out_9 : (List GNet)) (i_6 : Int) (twice : Bool) (k : Int) (n : GNet) : Option (((List GNet) × Int × Bool × Int) ⊕ (((List GNet) × Int × Bool))) := (bif (decide (k < ((out_9.length : Nat) : Int))) then gd (((!twice) && true) = true → (0 : Int) ≤ k) (gd (((!twice) && true) = true → k < ((out_9.length : Nat) : Int)) (gd ((((out_9.getD (0 + (Int.toNat k)) zGNet).State == n.State) && ((!twice) && true)) = true → (0 : Int) ≤ k) (gd ((((out_9.getD (0 + (Int.toNat k)) zGNet).State == n.State) && ((!twice) && true)) = true → k < ((out_9.length : Nat) : Int)) ((some (Sum.inl (out_9, i_6, (bif twice then true else (bif ((out_9.getD (0 + (Int.toNat k)) zGNet).State == n.State) then ((out_9.getD (0 + (Int.toNat k)) zGNet).Benefit == n.Benefit) else false)), (w64 (k + (1 : Int)))))))))) else (some (Sum.inr (out_9, i_6, twice))))
theorem z14p0ok (l : (List GPensionlaw22_Raw)) (unique : Bool) (out_9 : (List GNet)) (i_6 : Int) (twice : Bool) (k : Int) (n : GNet) (out_8 : (List GNet)) (i_5 : Int) (K : KT) (h : W (law22_Nets_p0 l unique out_9 i_6 twice k n) (nE (z14l2S l unique out_8 i_5 n) (z14l2E l unique out_8 i_5 n) K)) : EvL Try.prog 101 (List.drop 0 z14i3) K (z14p0S l unique out_9 i_6 twice k n) :=
  EvL.pE mixed (lookC_ok (l := []) trivial) [0, 1, 5, 6, 7, 8, 9, 15, 16, 17, 71, 72, 73, 74, 75, 76, 77, 78, 79, 80, 81, 82, 83, 84, 85, 86, 87, 88, 93, 94] 0 4 (.nf (X := fun K => (bif (decide (k < ((out_9.length : Nat) : Int))) then (((!twice) && true) = true → (0 : Int) ≤ k) ∧ (((!twice) && true) = true → k < ((out_9.length : Nat) : Int)) ∧ ((((out_9.getD (0 + (Int.toNat k)) zGNet).State == n.State) && ((!twice) && true)) = true → (0 : Int) ≤ k) ∧ ((((out_9.getD (0 + (Int.toNat k)) zGNet).State == n.State) && ((!twice) && true)) = true → k < ((out_9.length : Nat) : Int)) ∧ (wK K .normal ({ tm := [sv 0 (.c (.sl 4 l.length (lsEl eGPensionlaw22_Raw zGPensionlaw22_Raw l))), sv 1 (bl unique), sv 5 (.row 0 7 0 out_9.length), sv 6 (i64 i_6), sv 7 (.ptr 1 7 0 0), sv 8 (bl (bif twice then true else (bif ((out_9.getD (0 + (Int.toNat k)) zGNet).State == n.State) then ((out_9.getD (0 + (Int.toNat k)) zGNet).Benefit == n.Benefit) else false))), sv 9 (i64 (w64 (k + (1 : Int)))), sv 71 (.c .unk), sv 72 (.c .unk), sv 73 (.c .unk), sv 74 (.c .unk), sv 75 (.c .unk), sv 76 (.c .unk), sv 77 (.c .unk), sv 78 (.c .unk), sv 79 (.c .unk), sv 80 (.c .unk), sv 81 (.c .unk), sv 82 (.c .unk), sv 83 (.c .unk), sv 84 (.c .unk), sv 85 (.c .unk), sv 86 (.c .unk), sv 87 (.c .unk), sv 88 (.c .unk)], hp := [(0, some (.row 28 7 out_9.length (lsEl eGNet zGNet out_9))), (1, some (.box [(i64 n.State), (i64 n.Benefit), (i64 n.Currency), (i64 n.Independent), (i64 n.ProRata), (i64 n.Deducted), (i64 n.Amount)]))], nx := 2 })) else wK K (.exit 2) ({ tm := [sv 0 (.c (.sl 4 l.length (lsEl eGPensionlaw22_Raw zGPensionlaw22_Raw l))), sv 1 (bl unique), sv 5 (.row 0 7 0 out_9.length), sv 6 (i64 i_6), sv 7 (.ptr 1 7 0 0), sv 8 (bl twice), sv 9 (i64 k)], hp := [(0, some (.row 28 7 out_9.length (lsEl eGNet zGNet out_9))), (1, some (.box [(i64 n.State), (i64 n.Benefit), (i64 n.Currency), (i64 n.Independent), (i64 n.ProRata), (i64 n.Deducted), (i64 n.Amount)]))], nx := 2 }))) (fun K => by kernel_rfl) (W_bif h (fun _ h => (W_gd h fun hp0 h => (W_gd h fun hp1 h => (W_gd h fun hp2 h => (W_gd h fun hp3 h => ⟨(z14l2S l unique out_8 i_5 n (out_9, i_6, (bif twice then true else (bif ((out_9.getD (0 + (Int.toNat k)) zGNet).State == n.State) then ((out_9.getD (0 + (Int.toNat k)) zGNet).Benefit == n.Benefit) else false)), (w64 (k + (1 : Int))))), (.of (.q rfl (.q rfl (.q rfl (.q rfl (.q rfl (.q rfl (.q rfl .nil))))))) (.same rfl (.same rfl .nil)) rfl), h⟩))))) (fun _ h => ⟨(z14l2C0 l unique out_8 i_5 n (out_9, i_6, twice)), (.of (.q rfl (.q rfl (.q rfl (.q rfl (.q rfl (.q rfl .nil)))))) (.same rfl (.same rfl .nil)) rfl), h⟩)))
noncomputable def law22_Nets_l2 (l : (List GPensionlaw22_Raw)) (unique : Bool) (out_8 : (List GNet)) (i_5 : Int) (n : GNet) (s : ((List GNet) × Int × Bool × Int)) : Option (((List GNet) × Int × Bool × Int) ⊕ (((List GNet) × Int × Bool))) := match s with | (out_9, i_6, twice, k) => law22_Nets_p0 l unique out_9 i_6 twice k n
theorem z14l2ok (l : (List GPensionlaw22_Raw)) (unique : Bool) (out_8 : (List GNet)) (i_5 : Int) (n : GNet) (s : ((List GNet) × Int × Bool × Int)) : Pp Try.prog 101 (List.drop 0 z14i3) (z14l2S l unique out_8 i_5 n s) (law22_Nets_l2 l unique out_8 i_5 n s) (nextE (z14l2S l unique out_8 i_5 n) (z14l2E l unique out_8 i_5 n)) := fun K h => match s, h with | (out_9, i_6, twice, k), h => (z14p0ok l unique out_9 i_6 twice k n out_8 i_5 _ h)
theorem z14l2Ethen (l : (List GPensionlaw22_Raw)) (unique : Bool) (out_8 : (List GNet)) (i_5 : Int) (n : GNet) : ∀ (r : (((List GNet) × Int × Bool))) (J : St → Prop) (K : KT), z14l2E l unique out_8 i_5 n r K → z14l2E l unique out_8 i_5 n r (thenK J K)
  | s, _, _, h => h
def z14p1S (l : (List GPensionlaw22_Raw)) (unique : Bool) (out_1 : (List GNet)) (i_9 : Int) : St := { tm := [sv 0 (.c (.sl 4 l.length (lsEl eGPensionlaw22_Raw zGPensionlaw22_Raw l))), sv 1 (bl unique), sv 5 (.row 0 7 0 out_1.length), sv 6 (i64 i_9)], hp := [(0, some (.row 28 7 out_1.length (lsEl eGNet zGNet out_1)))], nx := 1 }
noncomputable def law22_Nets_p1 (l : (List GPensionlaw22_Raw)) (unique : Bool) (out_1 : (List GNet)) (i_9 : Int) : Option (((List GNet) × Int) ⊕ (((List GNet)))) := (some (Sum.inl (out_1, (w64 (i_9 + (1 : Int))))))
theorem z14p1ok (l : (List GPensionlaw22_Raw)) (unique : Bool) (out_1 : (List GNet)) (i_9 : Int) (K : KT) (h : W (law22_Nets_p1 l unique out_1 i_9) (nE (z14l1S l unique) (z14l1E l unique) K)) : EvL Try.prog 101 (List.drop 3 z14i1) K (z14p1S l unique out_1 i_9) :=
  EvL.pE mixed (lookC_ok (l := []) trivial) [0, 1, 5, 6, 15, 16, 17, 71, 72, 73, 74, 75, 76, 77, 78, 79, 80, 81, 82, 83, 84, 85, 86, 87, 88, 93, 94] 3 1 (.nf (X := fun K => wK K .normal (z14l1S l unique (out_1, (w64 (i_9 + (1 : Int)))))) (fun K => by kernel_rfl) (⟨_, .refl _, h⟩))
def z14p2S (l : (List GPensionlaw22_Raw)) (unique : Bool) (out_11 : (List GNet)) (i_8 : Int) (twice_2 : Bool) (n : GNet) : St := { tm := [sv 0 (.c (.sl 4 l.length (lsEl eGPensionlaw22_Raw zGPensionlaw22_Raw l))), sv 1 (bl unique), sv 5 (.row 0 7 0 out_11.length), sv 6 (i64 i_8), sv 7 (.ptr 1 7 0 0), sv 8 (bl twice_2)], hp := [(0, some (.row 28 7 out_11.length (lsEl eGNet zGNet out_11))), (1, some (.box [(i64 n.State), (i64 n.Benefit), (i64 n.Currency), (i64 n.Independent), (i64 n.ProRata), (i64 n.Deducted), (i64 n.Amount)]))], nx := 2 }
noncomputable def law22_Nets_p2 (l : (List GPensionlaw22_Raw)) (unique : Bool) (out_11 : (List GNet)) (i_8 : Int) (twice_2 : Bool) (n : GNet) : Option (((List GNet) × Int) ⊕ (((List GNet)))) := (bif (bif (!unique) then true else (!twice_2)) then gd (capB (out_11.length + 1) 56) ((law22_Nets_p1 l unique (out_11 ++ ([n] : List GNet)) i_8)) else (law22_Nets_p1 l unique out_11 i_8))
theorem z14p2ok (l : (List GPensionlaw22_Raw)) (unique : Bool) (out_11 : (List GNet)) (i_8 : Int) (twice_2 : Bool) (n : GNet) (K : KT) (h : W (law22_Nets_p2 l unique out_11 i_8 twice_2 n) (nE (z14l1S l unique) (z14l1E l unique) K)) : EvL Try.prog 101 (List.drop 6 z14i2) (blockK 1 (thenK (EvL Try.prog 101 (List.drop 3 z14i1) K) K)) (z14p2S l unique out_11 i_8 twice_2 n) :=
  EvL.pE mixed (lookC_ok (l := []) trivial) [0, 1, 5, 6, 15, 16, 17, 71, 72, 73, 74, 75, 76, 77, 78, 79, 80, 81, 82, 83, 84, 85, 86, 87, 88, 93, 94] 6 2 (.nf (X := fun K => (bif (bif (!unique) then true else (!twice_2)) then (out_11.length = out_11.length) ∧ ((out_11.length + 1) * 56 ≤ 70368744177664) ∧ ((out_11.length + 1) ≤ 70368744177664) ∧ (wK K .normal ({ tm := [sv 0 (.c (.sl 4 l.length (lsEl eGPensionlaw22_Raw zGPensionlaw22_Raw l))), sv 1 (bl unique), sv 5 (.row 0 7 0 (out_11.length + 1)), sv 6 (i64 i_8), sv 93 (.c .unk), sv 94 (.c .unk)], hp := [(0, some (.row 28 7 (out_11.length + 1) (fun i => bif Nat.blt i out_11.length then (lsEl eGNet zGNet out_11) i else (fun i => (litE 7 (eGNet n)) (0 + i)) (i - out_11.length))))], nx := 1 })) else wK K .normal ({ tm := [sv 0 (.c (.sl 4 l.length (lsEl eGPensionlaw22_Raw zGPensionlaw22_Raw l))), sv 1 (bl unique), sv 5 (.row 0 7 0 out_11.length), sv 6 (i64 i_8), sv 93 (.c .unk), sv 94 (.c .unk)], hp := [(0, some (.row 28 7 out_11.length (lsEl eGNet zGNet out_11)))], nx := 1 }))) (fun K => by kernel_rfl) (W_bif h (fun _ h => ⟨rfl, (W_gd2 h fun hp0 h => ⟨(z14p1S l unique (out_11 ++ ([n] : List GNet)) i_8), (.of (.q rfl (.q rfl (.cons rfl (.rown (len_app rfl rfl)) (.q rfl .nil)))) (.row rfl (RowIs.app (RowIs.ls eGNet zGNet out_11) (RowIs.zero (RowIs.l1 (enc := eGNet) (z := zGNet) 7 n rfl))) .nil rfl) rfl), (z14p1ok l unique (out_11 ++ ([n] : List GNet)) i_8 _ h)⟩)⟩) (fun _ h => ⟨(z14p1S l unique out_11 i_8), (.of (.q rfl (.q rfl (.q rfl (.q rfl .nil)))) (.same rfl .nil) rfl), (z14p1ok l unique out_11 i_8 _ h)⟩)))
def z14p3S (l : (List GPensionlaw22_Raw)) (unique : Bool) (out_8 : (List GNet)) (i_5 : Int) (n : GNet) : St := { tm := [sv 0 (.c (.sl 4 l.length (lsEl eGPensionlaw22_Raw zGPensionlaw22_Raw l))), sv 1 (bl unique), sv 5 (.row 0 7 0 out_8.length), sv 6 (i64 i_5), sv 7 (.ptr 1 7 0 0), sv 8 (bl false), sv 9 (i64 (0 : Int))], hp := [(0, some (.row 28 7 out_8.length (lsEl eGNet zGNet out_8))), (1, some (.box [(i64 n.State), (i64 n.Benefit), (i64 n.Currency), (i64 n.Independent), (i64 n.ProRata), (i64 n.Deducted), (i64 n.Amount)]))], nx := 2 }
noncomputable def law22_Nets_p3_g (l : (List GPensionlaw22_Raw)) (unique : Bool) (out_8 : (List GNet)) (i_5 : Int) (n : GNet) (r : (((List GNet) × Int × Bool))) : Option (((List GNet) × Int) ⊕ (((List GNet)))) := match r with | (out_10, i_7, twice_1) => (law22_Nets_p2 l unique out_10 i_7 twice_1 n)
noncomputable def law22_Nets_p3 (l : (List GPensionlaw22_Raw)) (unique : Bool) (out_8 : (List GNet)) (i_5 : Int) (n : GNet) : Option (((List GNet) × Int) ⊕ (((List GNet)))) := (fixL (law22_Nets_l2 l unique out_8 i_5 n) (out_8, i_5, false, (0 : Int))).bind (law22_Nets_p3_g l unique out_8 i_5 n)
theorem z14p3at : List.drop 5 z14i2 = .block 2 (.loop (inside (inside (nthI z14i2 5)))) :: List.drop 6 z14i2 := by kernel_rfl
theorem z14p3k (l : (List GPensionlaw22_Raw)) (unique : Bool) (out_8 : (List GNet)) (i_5 : Int) (n : GNet) (K : KT) : ∀ r : (((List GNet) × Int × Bool)), W (law22_Nets_p3_g l unique out_8 i_5 n r) (nE (z14l1S l unique) (z14l1E l unique) K) → z14l2E l unique out_8 i_5 n r (wK (blockK 2 (thenK (EvL Try.prog 101 (List.drop 6 z14i2) (blockK 1 (thenK (EvL Try.prog 101 (List.drop 3 z14i1) K) K))) (blockK 1 (thenK (EvL Try.prog 101 (List.drop 3 z14i1) K) K)))))
  | (out_10, i_7, twice_1), h => ⟨(z14p2S l unique out_10 i_7 twice_1 n), (.refl _), (z14p2ok l unique out_10 i_7 twice_1 n _ h)⟩
theorem z14p3ok (l : (List GPensionlaw22_Raw)) (unique : Bool) (out_8 : (List GNet)) (i_5 : Int) (n : GNet) (K : KT) (h : W (law22_Nets_p3 l unique out_8 i_5 n) (nE (z14l1S l unique) (z14l1E l unique) K)) : EvL Try.prog 101 (List.drop 5 z14i2) (blockK 1 (thenK (EvL Try.prog 101 (List.drop 3 z14i1) K) K)) (z14p3S l unique out_8 i_5 n) :=
  EvL.at_ z14p3at (EvL.cons_loop (EvOk.weak (EvOk.ent (.refl _) (EvOk.loopF (x := inside (inside (nthI z14i2 5))) (f := law22_Nets_l2 l unique out_8 i_5 n) (emb := z14l2S l unique out_8 i_5 n) (E := z14l2E l unique out_8 i_5 n) (z14l2ok l unique out_8 i_5 n) (z14l2Ethen l unique out_8 i_5 n) (W_loop h (z14p3k l unique out_8 i_5 n K))))))
def z14p4S (l : (List GPensionlaw22_Raw)) (unique : Bool) (out_7 : (List GNet)) (i_4 : Int) (n : GNet) : St := { tm := [sv 0 (.c (.sl 4 l.length (lsEl eGPensionlaw22_Raw zGPensionlaw22_Raw l))), sv 1 (bl unique), sv 5 (.row 0 7 0 out_7.length), sv 6 (i64 i_4), sv 7 (.ptr 1 7 0 0)], hp := [(0, some (.row 28 7 out_7.length (lsEl eGNet zGNet out_7))), (1, some (.box [(i64 n.State), (i64 n.Benefit), (i64 n.Currency), (i64 n.Independent), (i64 n.ProRata), (i64 n.Deducted), (i64 n.Amount)]))], nx := 2 }
noncomputable def law22_Nets_p4 (l : (List GPensionlaw22_Raw)) (unique : Bool) (out_7 : (List GNet)) (i_4 : Int) (n : GNet) : Option (((List GNet) × Int) ⊕ (((List GNet)))) := (law22_Nets_p3 l unique out_7 i_4 n)
theorem z14p4ok (l : (List GPensionlaw22_Raw)) (unique : Bool) (out_7 : (List GNet)) (i_4 : Int) (n : GNet) (K : KT) (h : W (law22_Nets_p4 l unique out_7 i_4 n) (nE (z14l1S l unique) (z14l1E l unique) K)) : EvL Try.prog 101 (List.drop 3 z14i2) (blockK 1 (thenK (EvL Try.prog 101 (List.drop 3 z14i1) K) K)) (z14p4S l unique out_7 i_4 n) :=
  EvL.pD mixed (lookC_ok (l := []) trivial) [0, 1, 5, 6, 7, 8, 9, 15, 16, 17, 71, 72, 73, 74, 75, 76, 77, 78, 79, 80, 81, 82, 83, 84, 85, 86, 87, 88, 93, 94] 3 2 5 (.nf (X := fun K => wK K .normal (z14p3S l unique out_7 i_4 n)) (fun K => by kernel_rfl) (⟨_, .refl _, (z14p3ok l unique out_7 i_4 n _ h)⟩))
def z14p5S (l : (List GPensionlaw22_Raw)) (unique : Bool) (out_5 : (List GNet)) (i_3 : Int) : St := { tm := [sv 0 (.c (.sl 4 l.length (lsEl eGPensionlaw22_Raw zGPensionlaw22_Raw l))), sv 1 (bl unique), sv 5 (.row 0 7 0 out_5.length), sv 6 (i64 i_3)], hp := [(0, some (.row 28 7 out_5.length (lsEl eGNet zGNet out_5)))], nx := 1 }
noncomputable def law22_Nets_p5 (l : (List GPensionlaw22_Raw)) (unique : Bool) (out_5 : (List GNet)) (i_3 : Int) : Option (((List GNet) × Int) ⊕ (((List GNet)))) := gd ((0 : Int) ≤ i_3 ∧ i_3 < ((l.length : Nat) : Int)) ((plain_Mod ((l.getD (Int.toNat i_3) zGPensionlaw22_Raw).A) (4 : Int)).bind fun r_1 => (gd ((0 : Int) ≤ i_3 ∧ i_3 < ((l.length : Nat) : Int)) ((plain_Mod ((l.getD (Int.toNat i_3) zGPensionlaw22_Raw).B) (3 : Int)).bind fun r_2 => (gd ((0 : Int) ≤ i_3 ∧ i_3 < ((l.length : Nat) : Int)) ((plain_Mod ((l.getD (Int.toNat i_3) zGPensionlaw22_Raw).A) (4 : Int)).bind fun r_3 => (gd ((0 : Int) ≤ i_3 ∧ i_3 < ((l.length : Nat) : Int)) ((plain_Amount ((l.getD (Int.toNat i_3) zGPensionlaw22_Raw).C)).bind fun r_4 => (gd ((0 : Int) ≤ i_3 ∧ i_3 < ((l.length : Nat) : Int)) ((plain_Mod ((l.getD (Int.toNat i_3) zGPensionlaw22_Raw).D) (100 : Int)).bind fun r_5 => (gd ((0 : Int) ≤ i_3 ∧ i_3 < ((l.length : Nat) : Int)) ((plain_Mod ((l.getD (Int.toNat i_3) zGPensionlaw22_Raw).D) (9 : Int)).bind fun r_6 => ((bif (r_6 == (8 : Int)) then (law22_Nets_p4 l unique out_5 i_3 (GNet.mk r_1 (w64 ((1 : Int) + r_2)) (3 : Int) (0 : Int) (0 : Int) r_5 r_4)) else (law22_Nets_p4 l unique out_5 i_3 (GNet.mk r_1 (w64 ((1 : Int) + r_2)) (w64 ((1 : Int) + (Int.tmod r_3 (2 : Int)))) (0 : Int) (0 : Int) r_5 r_4)))))))))))))))
theorem z14p5ok (l : (List GPensionlaw22_Raw)) (unique : Bool) (out_5 : (List GNet)) (i_3 : Int) (K : KT) (h : W (law22_Nets_p5 l unique out_5 i_3) (nE (z14l1S l unique) (z14l1E l unique) K)) : EvL Try.prog 101 (List.drop 0 z14i2) (blockK 1 (thenK (EvL Try.prog 101 (List.drop 3 z14i1) K) K)) (z14p5S l unique out_5 i_3) :=
  EvL.pD mixed (lookC_ok (l := [(21, .pure plain_Mod_C), (23, .pure plain_Amount_C)]) ⟨plain_Mod_ok, plain_Amount_ok, trivial⟩) [0, 1, 5, 6, 7, 15, 16, 17, 71, 72, 73, 74, 75, 76, 77, 78, 79, 80, 81, 82, 83, 84, 85, 86, 87, 88, 93, 94] 0 3 3 (.nf (X := fun K => ((0 : Int) ≤ i_3) ∧ (i_3 < ((l.length : Nat) : Int)) ∧ ((plain_Mod ((l.getD (Int.toNat i_3) zGPensionlaw22_Raw).A) (4 : Int)).isSome = true) ∧ ((0 : Int) ≤ i_3) ∧ (i_3 < ((l.length : Nat) : Int)) ∧ ((plain_Mod ((l.getD (Int.toNat i_3) zGPensionlaw22_Raw).B) (3 : Int)).isSome = true) ∧ ((0 : Int) ≤ i_3) ∧ (i_3 < ((l.length : Nat) : Int)) ∧ ((plain_Mod ((l.getD (Int.toNat i_3) zGPensionlaw22_Raw).A) (4 : Int)).isSome = true) ∧ ((2 : Int) ≠ (0 : Int)) ∧ ((0 : Int) ≤ i_3) ∧ (i_3 < ((l.length : Nat) : Int)) ∧ ((plain_Amount ((l.getD (Int.toNat i_3) zGPensionlaw22_Raw).C)).isSome = true) ∧ ((0 : Int) ≤ i_3) ∧ (i_3 < ((l.length : Nat) : Int)) ∧ ((plain_Mod ((l.getD (Int.toNat i_3) zGPensionlaw22_Raw).D) (100 : Int)).isSome = true) ∧ (((0 : Int) ≤ i_3) ∧ (i_3 < ((l.length : Nat) : Int)) ∧ ((plain_Mod ((l.getD (Int.toNat i_3) zGPensionlaw22_Raw).D) (9 : Int)).isSome = true) ∧ ((bif (((plain_Mod ((l.getD (Int.toNat i_3) zGPensionlaw22_Raw).D) (9 : Int)).getD (0 : Int)) == (8 : Int)) then wK K .normal (z14p4S l unique out_5 i_3 (GNet.mk ((plain_Mod ((l.getD (Int.toNat i_3) zGPensionlaw22_Raw).A) (4 : Int)).getD (0 : Int)) (w64 ((1 : Int) + ((plain_Mod ((l.getD (Int.toNat i_3) zGPensionlaw22_Raw).B) (3 : Int)).getD (0 : Int)))) (3 : Int) (0 : Int) (0 : Int) ((plain_Mod ((l.getD (Int.toNat i_3) zGPensionlaw22_Raw).D) (100 : Int)).getD (0 : Int)) ((plain_Amount ((l.getD (Int.toNat i_3) zGPensionlaw22_Raw).C)).getD (0 : Int)))) else wK K .normal (z14p4S l unique out_5 i_3 (GNet.mk ((plain_Mod ((l.getD (Int.toNat i_3) zGPensionlaw22_Raw).A) (4 : Int)).getD (0 : Int)) (w64 ((1 : Int) + ((plain_Mod ((l.getD (Int.toNat i_3) zGPensionlaw22_Raw).B) (3 : Int)).getD (0 : Int)))) (w64 ((1 : Int) + (Int.tmod ((plain_Mod ((l.getD (Int.toNat i_3) zGPensionlaw22_Raw).A) (4 : Int)).getD (0 : Int)) (2 : Int)))) (0 : Int) (0 : Int) ((plain_Mod ((l.getD (Int.toNat i_3) zGPensionlaw22_Raw).D) (100 : Int)).getD (0 : Int)) ((plain_Amount ((l.getD (Int.toNat i_3) zGPensionlaw22_Raw).C)).getD (0 : Int)))))))) (fun K => by kernel_rfl) (W_gd2 h fun hp0 h => (W_bind (0 : Int) h fun hp1 h => (W_gd2 h fun hp2 h => (W_bind (0 : Int) h fun hp3 h => (W_gd2 h fun hp4 h => (W_bind (0 : Int) h fun hp5 h => ⟨(by decide), (W_gd2 h fun hp6 h => (W_bind (0 : Int) h fun hp7 h => (W_gd2 h fun hp8 h => (W_bind (0 : Int) h fun hp9 h => (W_gd2 h fun hp10 h => (W_bind (0 : Int) h fun hp11 h => (W_bif h (fun _ h => ⟨_, .refl _, (z14p4ok l unique out_5 i_3 (GNet.mk ((plain_Mod (l.getD (Int.toNat i_3) zGPensionlaw22_Raw).A (4 : Int)).getD (0 : Int)) (w64 ((1 : Int) + ((plain_Mod (l.getD (Int.toNat i_3) zGPensionlaw22_Raw).B (3 : Int)).getD (0 : Int)))) (3 : Int) (0 : Int) (0 : Int) ((plain_Mod (l.getD (Int.toNat i_3) zGPensionlaw22_Raw).D (100 : Int)).getD (0 : Int)) ((plain_Amount (l.getD (Int.toNat i_3) zGPensionlaw22_Raw).C).getD (0 : Int))) _ h)⟩) (fun _ h => ⟨_, .refl _, (z14p4ok l unique out_5 i_3 (GNet.mk ((plain_Mod (l.getD (Int.toNat i_3) zGPensionlaw22_Raw).A (4 : Int)).getD (0 : Int)) (w64 ((1 : Int) + ((plain_Mod (l.getD (Int.toNat i_3) zGPensionlaw22_Raw).B (3 : Int)).getD (0 : Int)))) (w64 ((1 : Int) + (Int.tmod ((plain_Mod (l.getD (Int.toNat i_3) zGPensionlaw22_Raw).A (4 : Int)).getD (0 : Int)) (2 : Int)))) (0 : Int) (0 : Int) ((plain_Mod (l.getD (Int.toNat i_3) zGPensionlaw22_Raw).D (100 : Int)).getD (0 : Int)) ((plain_Amount (l.getD (Int.toNat i_3) zGPensionlaw22_Raw).C).getD (0 : Int))) _ h)⟩))))))))⟩)))))))
def z14p6S (l : (List GPensionlaw22_Raw)) (unique : Bool) (out_3 : (List GNet)) (i_2 : Int) : St := { tm := [sv 0 (.c (.sl 4 l.length (lsEl eGPensionlaw22_Raw zGPensionlaw22_Raw l))), sv 1 (bl unique), sv 5 (.row 0 7 0 out_3.length), sv 6 (i64 i_2)], hp := [(0, some (.row 28 7 out_3.length (lsEl eGNet zGNet out_3)))], nx := 1 }
noncomputable def law22_Nets_p6 (l : (List GPensionlaw22_Raw)) (unique : Bool) (out_3 : (List GNet)) (i_2 : Int) : Option (((List GNet) × Int) ⊕ (((List GNet)))) := (law22_Nets_p5 l unique out_3 i_2)
theorem z14p6at : List.drop 2 z14i1 = .block 1 (inside (nthI z14i1 2)) :: List.drop 3 z14i1 := by kernel_rfl
theorem z14p6ok (l : (List GPensionlaw22_Raw)) (unique : Bool) (out_3 : (List GNet)) (i_2 : Int) (K : KT) (h : W (law22_Nets_p6 l unique out_3 i_2) (nE (z14l1S l unique) (z14l1E l unique) K)) : EvL Try.prog 101 (List.drop 2 z14i1) K (z14p6S l unique out_3 i_2) :=
  EvL.at_ z14p6at (EvL.cons_block (EvL.ent (.refl _) (z14p5ok l unique out_3 i_2 _ h)))
def z14p7S (l : (List GPensionlaw22_Raw)) (unique : Bool) (out_2 : (List GNet)) (i_1 : Int) : St := { tm := [sv 0 (.c (.sl 4 l.length (lsEl eGPensionlaw22_Raw zGPensionlaw22_Raw l))), sv 1 (bl unique), sv 5 (.row 0 7 0 out_2.length), sv 6 (i64 i_1)], hp := [(0, some (.row 28 7 out_2.length (lsEl eGNet zGNet out_2)))], nx := 1 }
noncomputable def law22_Nets_p7 (l : (List GPensionlaw22_Raw)) (unique : Bool) (out_2 : (List GNet)) (i_1 : Int) : Option (((List GNet) × Int) ⊕ (((List GNet)))) := (bif (bif (decide (i_1 < ((l.length : Nat) : Int))) then (decide (((out_2.length : Nat) : Int) < (10 : Int))) else false) then (law22_Nets_p6 l unique out_2 i_1) else (some (Sum.inr out_2)))
theorem z14p7ok (l : (List GPensionlaw22_Raw)) (unique : Bool) (out_2 : (List GNet)) (i_1 : Int) (K : KT) (h : W (law22_Nets_p7 l unique out_2 i_1) (nE (z14l1S l unique) (z14l1E l unique) K)) : EvL Try.prog 101 (List.drop 0 z14i1) K (z14p7S l unique out_2 i_1) :=
  EvL.pD mixed (lookC_ok (l := []) trivial) [0, 1, 5, 6, 15, 16, 17, 71, 72, 73, 74, 75, 76, 77, 78, 79, 80, 81, 82, 83, 84, 85, 86, 87, 88, 93, 94] 0 2 2 (.nf (X := fun K => (bif (bif (decide (i_1 < ((l.length : Nat) : Int))) then (decide (((out_2.length : Nat) : Int) < (10 : Int))) else false) then wK K .normal ({ tm := [sv 0 (.c (.sl 4 l.length (lsEl eGPensionlaw22_Raw zGPensionlaw22_Raw l))), sv 1 (bl unique), sv 5 (.row 0 7 0 out_2.length), sv 6 (i64 i_1), sv 15 (.c .unk), sv 16 (.c .unk), sv 17 (.c .unk)], hp := [(0, some (.row 28 7 out_2.length (lsEl eGNet zGNet out_2)))], nx := 1 }) else wK K (.exit 0) ({ tm := [sv 0 (.c (.sl 4 l.length (lsEl eGPensionlaw22_Raw zGPensionlaw22_Raw l))), sv 1 (bl unique), sv 5 (.row 0 7 0 out_2.length), sv 6 (i64 i_1), sv 15 (.c .unk), sv 16 (.c .unk), sv 17 (.c .unk)], hp := [(0, some (.row 28 7 out_2.length (lsEl eGNet zGNet out_2)))], nx := 1 }))) (fun K => by kernel_rfl) (W_bif h (fun _ h => ⟨(z14p6S l unique out_2 i_1), (.of (.q rfl (.q rfl (.q rfl (.q rfl .nil)))) (.same rfl .nil) rfl), (z14p6ok l unique out_2 i_1 _ h)⟩) (fun _ h => ⟨(z14l1C0 l unique out_2), (.of (.q rfl .nil) (.same rfl .nil) rfl), h⟩)))
noncomputable def law22_Nets_l1 (l : (List GPensionlaw22_Raw)) (unique : Bool) (s : ((List GNet) × Int)) : Option (((List GNet) × Int) ⊕ (((List GNet)))) := match s with | (out_2, i_1) => law22_Nets_p7 l unique out_2 i_1
theorem z14l1ok (l : (List GPensionlaw22_Raw)) (unique : Bool) (s : ((List GNet) × Int)) : Pp Try.prog 101 (List.drop 0 z14i1) (z14l1S l unique s) (law22_Nets_l1 l unique s) (nextE (z14l1S l unique) (z14l1E l unique)) := fun K h => match s, h with | (out_2, i_1), h => (z14p7ok l unique out_2 i_1 _ h)
theorem z14l1Ethen (l : (List GPensionlaw22_Raw)) (unique : Bool) : ∀ (r : (((List GNet)))) (J : St → Prop) (K : KT), z14l1E l unique r K → z14l1E l unique r (thenK J K)
  | s, _, _, h => h
def z14p8S (out_6 : (List GNet)) : St := { tm := [sv 5 (.row 0 7 0 out_6.length)], hp := [(0, some (.row 28 7 out_6.length (lsEl eGNet zGNet out_6)))], nx := 1 }
noncomputable def law22_Nets_p8 (out_6 : (List GNet)) : Option ((List GNet)) := (some out_6)
theorem z14p8ok (out_6 : (List GNet)) (K : KT) (h : W (law22_Nets_p8 out_6) (rE z14R K)) : EvL Try.prog 101 (List.drop 4 z14i0) K (z14p8S out_6) :=
  EvL.pE mixed (lookC_ok (l := []) trivial) [4] 4 2 (.nf (X := fun K => wK K .ret (z14R out_6)) (fun K => by kernel_rfl) (⟨_, .refl _, h⟩))
def z14p9S (l : (List GPensionlaw22_Raw)) (unique : Bool) : St := { tm := [sv 0 (.c (.sl 4 l.length (lsEl eGPensionlaw22_Raw zGPensionlaw22_Raw l))), sv 1 (bl unique), sv 5 (.c .nil), sv 6 (i64 (0 : Int))], hp := [], nx := 0 }
noncomputable def law22_Nets_p9_g (l : (List GPensionlaw22_Raw)) (unique : Bool) (r : (((List GNet)))) : Option ((List GNet)) := match r with | out_4 => (law22_Nets_p8 out_4)
noncomputable def law22_Nets_p9 (l : (List GPensionlaw22_Raw)) (unique : Bool) : Option ((List GNet)) := (fixL (law22_Nets_l1 l unique) (([] : List GNet), (0 : Int))).bind (law22_Nets_p9_g l unique)
theorem z14p9at : List.drop 3 z14i0 = .block 0 (.loop (inside (inside (nthI z14i0 3)))) :: List.drop 4 z14i0 := by kernel_rfl
theorem z14p9k (l : (List GPensionlaw22_Raw)) (unique : Bool) (K : KT) : ∀ r : (((List GNet))), W (law22_Nets_p9_g l unique r) (rE z14R K) → z14l1E l unique r (wK (blockK 0 (thenK (EvL Try.prog 101 (List.drop 4 z14i0) K) K)))
  | out_4, h => ⟨(z14p8S out_4), (.refl _), (z14p8ok out_4 _ h)⟩
theorem z14p9ok (l : (List GPensionlaw22_Raw)) (unique : Bool) (K : KT) (h : W (law22_Nets_p9 l unique) (rE z14R K)) : EvL Try.prog 101 (List.drop 3 z14i0) K (z14p9S l unique) :=
  EvL.at_ z14p9at (EvL.cons_loop (EvOk.weak (EvOk.ent (.trans (.nilrow 5 0 28 7 (lsEl eGNet zGNet []) (Nat.le_of_ble_eq_true rfl) rfl) (.cn [0, 1, 5, 6])) (EvOk.loopF (x := inside (inside (nthI z14i0 3))) (f := law22_Nets_l1 l unique) (emb := z14l1S l unique) (E := z14l1E l unique) (z14l1ok l unique) (z14l1Ethen l unique) (W_loop h (z14p9k l unique K))))))
def z14p10S (l : (List GPensionlaw22_Raw)) (unique : Bool) : St := { tm := [sv 0 (.c (.sl 4 l.length (lsEl eGPensionlaw22_Raw zGPensionlaw22_Raw l))), sv 1 (bl unique)], hp := [], nx := 0 }
noncomputable def law22_Nets_p10 (l : (List GPensionlaw22_Raw)) (unique : Bool) : Option ((List GNet)) := (law22_Nets_p9 l unique)
theorem z14p10ok (l : (List GPensionlaw22_Raw)) (unique : Bool) (K : KT) (h : W (law22_Nets_p10 l unique) (rE z14R K)) : EvL Try.prog 101 (List.drop 0 z14i0) K (z14p10S l unique) :=
  EvL.pD mixed (lookC_ok (l := []) trivial) [0, 1, 5, 6, 15, 16, 17, 71, 72, 73, 74, 75, 76, 77, 78, 79, 80, 81, 82, 83, 84, 85, 86, 87, 88, 93, 94] 0 3 3 (.nf (X := fun K => wK K .normal (z14p9S l unique)) (fun K => by kernel_rfl) (⟨_, .refl _, (z14p9ok l unique _ h)⟩))
noncomputable def law22_Nets (l : (List GPensionlaw22_Raw)) (unique : Bool) : Option ((List GNet)) := law22_Nets_p10 l unique
theorem z14run (l : (List GPensionlaw22_Raw)) (unique : Bool) (y_ : (List GNet)) (h : law22_Nets l unique = some y_) : EvL Try.prog 101 (items (bodyOf Try.f14)) (retK Try.prog [.tmp 4] (OutOk (law22_Nets_out y_))) (z14p10S l unique) :=
  z14p10ok l unique _ (W_iff.2 ⟨y_, h, z14Rok y_⟩)
noncomputable def law22_Nets_C : Con
  | [(.c (.sl k1 n2 e3)), (.c (.lit (.bool a4)))] => some ([LstOk eGPensionlaw22_Raw dGPensionlaw22_Raw 4 k1 n2 e3, (law22_Nets (lst dGPensionlaw22_Raw n2 e3) a4).isSome = true], (law22_Nets_out ((law22_Nets (lst dGPensionlaw22_Raw n2 e3) a4).getD ([] : List GNet))))
  | _ => none
theorem law22_Nets_ok : Meets Try.prog 14 law22_Nets_C := by
  refine meets_fun (fn := Try.f14) (c := bodyOf Try.f14) (by kernel_rfl) (by kernel_rfl) (by kernel_rfl) (rs := [.tmp 4]) (by kernel_rfl) (nt := 101) (by kernel_rfl) fun vs p out h hp => ?_
  unfold law22_Nets_C at h
  split at h
  · next k1 n2 e3 a4 =>
    cases h
    obtain ⟨g0, hp⟩ := allq hp
    obtain ⟨g, hp⟩ := allq hp
    obtain ⟨x, hx⟩ := Option.isSome_iff_exists.1 g
    rw [hx]
    exact ⟨[(.c (.sl 4 ((lst dGPensionlaw22_Raw n2 e3)).length (lsEl eGPensionlaw22_Raw zGPensionlaw22_Raw (lst dGPensionlaw22_Raw n2 e3)))), (bl a4)], (VLes.cons (VLe.slk g0.1 (RowIs.of_ok g0)) (VLes.cons (VLe.rfl' _) VLes.nil)), rfl, z14run (lst dGPensionlaw22_Raw n2 e3) a4 x hx⟩
  · cases h

noncomputable def z32i0 : List Code := items (bodyOf Try.f32)
def conversion_Convert_1_out (x_1 : Bool) : Out := .data (bl x_1)
def z32R (x_1 : Bool) : St := { tm := [sv 3 (bl x_1)], hp := [], nx := 0 }
theorem z32Rok (x_1 : Bool) : retK Try.prog [.tmp 3] (OutOk (conversion_Convert_1_out x_1)) .ret (z32R x_1) :=
  retK.intro (v := (bl x_1)) (by kernel_rfl) ((VLe.rfl' _))
def z32p0S (n t1 : GNet) : St := { tm := [sv 0 (.ag (eGNet n)), sv 1 (.dptr 7 [(di t1.State), (di t1.Benefit), (di t1.Currency), (di t1.Independent), (di t1.ProRata), (di t1.Deducted), (di t1.Amount)] 0)], hp := [], nx := 0 }
noncomputable def conversion_Convert_1_p0 (n t1 : GNet) : Option (Bool) := (some (bif (bif (n.State == t1.State) then (n.Benefit == (1 : Int)) else false) then (decide ((0 : Int) < n.Amount)) else false))
theorem z32p0ok (n t1 : GNet) (K : KT) (h : W (conversion_Convert_1_p0 n t1) (rE z32R K)) : EvL Try.prog 19 (List.drop 0 z32i0) K (z32p0S n t1) :=
  EvL.pE mixed (lookC_ok (l := []) trivial) [3] 0 3 (.nf (X := fun K => wK K .ret (z32R (bif (bif (n.State == t1.State) then (n.Benefit == (1 : Int)) else false) then (decide ((0 : Int) < n.Amount)) else false))) (fun K => by kernel_rfl) (⟨_, .refl _, h⟩))
noncomputable def conversion_Convert_1 (n t1 : GNet) : Option (Bool) := conversion_Convert_1_p0 n t1
theorem z32run (n t1 : GNet) (y_ : Bool) (h : conversion_Convert_1 n t1 = some y_) : EvL Try.prog 19 (items (bodyOf Try.f32)) (retK Try.prog [.tmp 3] (OutOk (conversion_Convert_1_out y_))) (z32p0S n t1) :=
  z32p0ok n t1 _ (W_iff.2 ⟨y_, h, z32Rok y_⟩)
noncomputable def conversion_Convert_1_C : Con
  | [(.agg [(.c (.lit (.int .i64 a1))), (.c (.lit (.int .i64 a2))), (.c (.lit (.int .i64 a3))), (.c (.lit (.int .i64 a4))), (.c (.lit (.int .i64 a5))), (.c (.lit (.int .i64 a6))), (.c (.lit (.int .i64 a7)))]), (.dptr 7 [(.lit (.int .i64 a8)), (.lit (.int .i64 a9)), (.lit (.int .i64 a10)), (.lit (.int .i64 a11)), (.lit (.int .i64 a12)), (.lit (.int .i64 a13)), (.lit (.int .i64 a14))] 0)] => some ([(conversion_Convert_1 (GNet.mk a1 a2 a3 a4 a5 a6 a7) (GNet.mk a8 a9 a10 a11 a12 a13 a14)).isSome = true], (conversion_Convert_1_out ((conversion_Convert_1 (GNet.mk a1 a2 a3 a4 a5 a6 a7) (GNet.mk a8 a9 a10 a11 a12 a13 a14)).getD false)))
  | _ => none
theorem conversion_Convert_1_ok : Meets Try.prog 32 conversion_Convert_1_C := by
  refine meets_fun (fn := Try.f32) (c := bodyOf Try.f32) (by kernel_rfl) (by kernel_rfl) (by kernel_rfl) (rs := [.tmp 3]) (by kernel_rfl) (nt := 19) (by kernel_rfl) fun vs p out h hp => ?_
  unfold conversion_Convert_1_C at h
  split at h
  · next a1 a2 a3 a4 a5 a6 a7 a8 a9 a10 a11 a12 a13 a14 =>
    cases h
    obtain ⟨g, hp⟩ := allq hp
    obtain ⟨x, hx⟩ := Option.isSome_iff_exists.1 g
    rw [hx]
    exact ⟨[(.agg [(i64 (GNet.mk a1 a2 a3 a4 a5 a6 a7).State), (i64 (GNet.mk a1 a2 a3 a4 a5 a6 a7).Benefit), (i64 (GNet.mk a1 a2 a3 a4 a5 a6 a7).Currency), (i64 (GNet.mk a1 a2 a3 a4 a5 a6 a7).Independent), (i64 (GNet.mk a1 a2 a3 a4 a5 a6 a7).ProRata), (i64 (GNet.mk a1 a2 a3 a4 a5 a6 a7).Deducted), (i64 (GNet.mk a1 a2 a3 a4 a5 a6 a7).Amount)]), (.dptr 7 [(di (GNet.mk a8 a9 a10 a11 a12 a13 a14).State), (di (GNet.mk a8 a9 a10 a11 a12 a13 a14).Benefit), (di (GNet.mk a8 a9 a10 a11 a12 a13 a14).Currency), (di (GNet.mk a8 a9 a10 a11 a12 a13 a14).Independent), (di (GNet.mk a8 a9 a10 a11 a12 a13 a14).ProRata), (di (GNet.mk a8 a9 a10 a11 a12 a13 a14).Deducted), (di (GNet.mk a8 a9 a10 a11 a12 a13 a14).Amount)] 0)], (VLes.cons (VLe.rfl' _) (VLes.cons (VLe.rfl' _) VLes.nil)), rfl, z32run (GNet.mk a1 a2 a3 a4 a5 a6 a7) (GNet.mk a8 a9 a10 a11 a12 a13 a14) x hx⟩
  · cases h

noncomputable def z33i0 : List Code := items (bodyOf Try.f33)
noncomputable def z33i1 : List Code := items (inside (inside (nthI z33i0 2)))
def slices_IndexFunc_api_Net_api_Net_Convert_1_out (x_1 : Int) : Out := .data (i64 x_1)
def z33R (x_1 : Int) : St := { tm := [sv 4 (i64 x_1)], hp := [], nx := 0 }
theorem z33Rok (x_1 : Int) : retK Try.prog [.tmp 4] (OutOk (slices_IndexFunc_api_Net_api_Net_Convert_1_out x_1)) .ret (z33R x_1) :=
  retK.intro (v := (i64 x_1)) (by kernel_rfl) ((VLe.rfl' _))
def z33l1S (s_1 : (List GNet)) (f : GNet) (s : (Int)) : St := match s with | t8 => { tm := [sv 0 (.c (.sl 7 s_1.length (lsEl eGNet zGNet s_1))), sv 1 (.fn 32 [(.dptr 7 [(di f.State), (di f.Benefit), (di f.Currency), (di f.Independent), (di f.ProRata), (di f.Deducted), (di f.Amount)] 0)]), sv 7 (i64 ((s_1.length : Nat) : Int)), sv 8 (i64 t8)], hp := [], nx := 0 }
def z33l1C0 (s_1 : (List GNet)) (f : GNet) (s : Int) : St := match s with | t4_1 => { tm := [sv 4 (i64 t4_1)], hp := [], nx := 0 }
def z33l1C1 (s_1 : (List GNet)) (f : GNet) (s : Unit) : St := match s with | () => { tm := [], hp := [], nx := 0 }
def z33l1E (s_1 : (List GNet)) (f : GNet) (r : ((Int) ⊕ (Unit))) (K : KT) : Prop := match r with | (.inl s) => K .ret (z33l1C0 s_1 f s) | (.inr s) => K (.exit 0) (z33l1C1 s_1 f s)
def z33p0S (s_1 : (List GNet)) (f : GNet) (t8 : Int) : St := { tm := [sv 0 (.c (.sl 7 s_1.length (lsEl eGNet zGNet s_1))), sv 1 (.fn 32 [(.dptr 7 [(di f.State), (di f.Benefit), (di f.Currency), (di f.Independent), (di f.ProRata), (di f.Deducted), (di f.Amount)] 0)]), sv 7 (i64 ((s_1.length : Nat) : Int)), sv 8 (i64 t8)], hp := [], nx := 0 }
noncomputable def slices_IndexFunc_api_Net_api_Net_Convert_1_p0 (s_1 : (List GNet)) (f : GNet) (t8 : Int) : Option ((Int) ⊕ ((Int) ⊕ (Unit))) := (bif (decide (t8 < ((s_1.length : Nat) : Int))) then gd ((0 : Int) ≤ t8 ∧ t8 < ((s_1.length : Nat) : Int)) ((conversion_Convert_1 (s_1.getD (Int.toNat t8) zGNet) f).bind fun r_1 => ((bif r_1 then (some (Sum.inr (Sum.inl t8))) else (some (Sum.inl (w64 (t8 + (1 : Int)))))))) else (some (Sum.inr (Sum.inr ()))))
theorem z33p0ok (s_1 : (List GNet)) (f : GNet) (t8 : Int) (K : KT) (h : W (slices_IndexFunc_api_Net_api_Net_Convert_1_p0 s_1 f t8) (nE (z33l1S s_1 f) (z33l1E s_1 f) K)) : EvL Try.prog 19 (List.drop 0 z33i1) K (z33p0S s_1 f t8) :=
  EvL.pE mixed (lookC_ok (l := [(32, .pure conversion_Convert_1_C)]) ⟨conversion_Convert_1_ok, trivial⟩) [0, 1, 4, 7, 8] 0 4 (.nf (X := fun K => (bif (decide (t8 < ((s_1.length : Nat) : Int))) then ((0 : Int) ≤ t8) ∧ (t8 < ((s_1.length : Nat) : Int)) ∧ ((conversion_Convert_1 (s_1.getD (Int.toNat t8) zGNet) f).isSome = true) ∧ ((bif ((conversion_Convert_1 (s_1.getD (Int.toNat t8) zGNet) f).getD false) then wK K .ret ({ tm := [sv 0 (.c (.sl 7 s_1.length (lsEl eGNet zGNet s_1))), sv 1 (.fn 32 [(.dptr 7 [(di f.State), (di f.Benefit), (di f.Currency), (di f.Independent), (di f.ProRata), (di f.Deducted), (di f.Amount)] 0)]), sv 4 (i64 t8), sv 7 (i64 ((s_1.length : Nat) : Int)), sv 8 (i64 t8)], hp := [], nx := 0 }) else wK K .normal (z33l1S s_1 f (w64 (t8 + (1 : Int)))))) else wK K (.exit 0) ({ tm := [sv 0 (.c (.sl 7 s_1.length (lsEl eGNet zGNet s_1))), sv 1 (.fn 32 [(.dptr 7 [(di f.State), (di f.Benefit), (di f.Currency), (di f.Independent), (di f.ProRata), (di f.Deducted), (di f.Amount)] 0)]), sv 7 (i64 ((s_1.length : Nat) : Int)), sv 8 (i64 t8)], hp := [], nx := 0 }))) (fun K => by kernel_rfl) (W_bif h (fun _ h => (W_gd2 h fun hp0 h => (W_bind false h fun hp1 h => (W_bif h (fun _ h => ⟨(z33l1C0 s_1 f t8), (.of (.q rfl .nil) .nil rfl), h⟩) (fun _ h => ⟨_, .refl _, h⟩))))) (fun _ h => ⟨(z33l1C1 s_1 f ()), (.of .nil .nil rfl), h⟩)))
noncomputable def slices_IndexFunc_api_Net_api_Net_Convert_1_l1 (s_1 : (List GNet)) (f : GNet) (s : (Int)) : Option ((Int) ⊕ ((Int) ⊕ (Unit))) := match s with | t8 => slices_IndexFunc_api_Net_api_Net_Convert_1_p0 s_1 f t8
theorem z33l1ok (s_1 : (List GNet)) (f : GNet) (s : (Int)) : Pp Try.prog 19 (List.drop 0 z33i1) (z33l1S s_1 f s) (slices_IndexFunc_api_Net_api_Net_Convert_1_l1 s_1 f s) (nextE (z33l1S s_1 f) (z33l1E s_1 f)) := fun K h => match s, h with | t8, h => (z33p0ok s_1 f t8 _ h)
theorem z33l1Ethen (s_1 : (List GNet)) (f : GNet) : ∀ (r : ((Int) ⊕ (Unit))) (J : St → Prop) (K : KT), z33l1E s_1 f r K → z33l1E s_1 f r (thenK J K)
  | (.inl s), _, _, h => h
  | (.inr s), _, _, h => h
def z33p1S : St := { tm := [], hp := [], nx := 0 }
noncomputable def slices_IndexFunc_api_Net_api_Net_Convert_1_p1 : Option (Int) := (some (-1 : Int))
theorem z33p1ok (K : KT) (h : W (slices_IndexFunc_api_Net_api_Net_Convert_1_p1) (rE z33R K)) : EvL Try.prog 19 (List.drop 3 z33i0) K (z33p1S) :=
  EvL.pE mixed (lookC_ok (l := []) trivial) [4] 3 2 (.nf (X := fun K => wK K .ret (z33R (-1 : Int))) (fun K => by kernel_rfl) (⟨_, .refl _, h⟩))
def z33p2S (s_1 : (List GNet)) (f : GNet) : St := { tm := [sv 0 (.c (.sl 7 s_1.length (lsEl eGNet zGNet s_1))), sv 1 (.fn 32 [(.dptr 7 [(di f.State), (di f.Benefit), (di f.Currency), (di f.Independent), (di f.ProRata), (di f.Deducted), (di f.Amount)] 0)]), sv 7 (i64 ((s_1.length : Nat) : Int)), sv 8 (i64 (0 : Int))], hp := [], nx := 0 }
noncomputable def slices_IndexFunc_api_Net_api_Net_Convert_1_p2_g (s_1 : (List GNet)) (f : GNet) (r : ((Int) ⊕ (Unit))) : Option (Int) := match r with | (.inl t4_1) => (some t4_1) | (.inr ()) => slices_IndexFunc_api_Net_api_Net_Convert_1_p1
noncomputable def slices_IndexFunc_api_Net_api_Net_Convert_1_p2 (s_1 : (List GNet)) (f : GNet) : Option (Int) := (fixL (slices_IndexFunc_api_Net_api_Net_Convert_1_l1 s_1 f) (0 : Int)).bind (slices_IndexFunc_api_Net_api_Net_Convert_1_p2_g s_1 f)
theorem z33p2at : List.drop 2 z33i0 = .block 0 (.loop (inside (inside (nthI z33i0 2)))) :: List.drop 3 z33i0 := by kernel_rfl
theorem z33p2k (s_1 : (List GNet)) (f : GNet) (K : KT) : ∀ r : ((Int) ⊕ (Unit)), W (slices_IndexFunc_api_Net_api_Net_Convert_1_p2_g s_1 f r) (rE z33R K) → z33l1E s_1 f r (wK (blockK 0 (thenK (EvL Try.prog 19 (List.drop 3 z33i0) K) K)))
  | (.inl t4_1), h => ⟨(z33R t4_1), (.refl _), h⟩
  | (.inr ()), h => ⟨(z33p1S), (.refl _), (z33p1ok _ h)⟩
theorem z33p2ok (s_1 : (List GNet)) (f : GNet) (K : KT) (h : W (slices_IndexFunc_api_Net_api_Net_Convert_1_p2 s_1 f) (rE z33R K)) : EvL Try.prog 19 (List.drop 2 z33i0) K (z33p2S s_1 f) :=
  EvL.at_ z33p2at (EvL.cons_loop (EvOk.weak (EvOk.ent (.refl _) (EvOk.loopF (x := inside (inside (nthI z33i0 2))) (f := slices_IndexFunc_api_Net_api_Net_Convert_1_l1 s_1 f) (emb := z33l1S s_1 f) (E := z33l1E s_1 f) (z33l1ok s_1 f) (z33l1Ethen s_1 f) (W_loop h (z33p2k s_1 f K))))))
def z33p3S (s_1 : (List GNet)) (f : GNet) : St := { tm := [sv 0 (.c (.sl 7 s_1.length (lsEl eGNet zGNet s_1))), sv 1 (.fn 32 [(.dptr 7 [(di f.State), (di f.Benefit), (di f.Currency), (di f.Independent), (di f.ProRata), (di f.Deducted), (di f.Amount)] 0)])], hp := [], nx := 0 }
noncomputable def slices_IndexFunc_api_Net_api_Net_Convert_1_p3 (s_1 : (List GNet)) (f : GNet) : Option (Int) := (slices_IndexFunc_api_Net_api_Net_Convert_1_p2 s_1 f)
theorem z33p3ok (s_1 : (List GNet)) (f : GNet) (K : KT) (h : W (slices_IndexFunc_api_Net_api_Net_Convert_1_p3 s_1 f) (rE z33R K)) : EvL Try.prog 19 (List.drop 0 z33i0) K (z33p3S s_1 f) :=
  EvL.pD mixed (lookC_ok (l := []) trivial) [0, 1, 7, 8] 0 2 2 (.nf (X := fun K => wK K .normal (z33p2S s_1 f)) (fun K => by kernel_rfl) (⟨_, .refl _, (z33p2ok s_1 f _ h)⟩))
noncomputable def slices_IndexFunc_api_Net_api_Net_Convert_1 (s_1 : (List GNet)) (f : GNet) : Option (Int) := slices_IndexFunc_api_Net_api_Net_Convert_1_p3 s_1 f
theorem z33run (s_1 : (List GNet)) (f : GNet) (y_ : Int) (h : slices_IndexFunc_api_Net_api_Net_Convert_1 s_1 f = some y_) : EvL Try.prog 19 (items (bodyOf Try.f33)) (retK Try.prog [.tmp 4] (OutOk (slices_IndexFunc_api_Net_api_Net_Convert_1_out y_))) (z33p3S s_1 f) :=
  z33p3ok s_1 f _ (W_iff.2 ⟨y_, h, z33Rok y_⟩)
noncomputable def slices_IndexFunc_api_Net_api_Net_Convert_1_C : Con
  | [(.c (.sl k1 n2 e3)), (.fn 32 [(.dptr 7 [(.lit (.int .i64 a4)), (.lit (.int .i64 a5)), (.lit (.int .i64 a6)), (.lit (.int .i64 a7)), (.lit (.int .i64 a8)), (.lit (.int .i64 a9)), (.lit (.int .i64 a10))] 0)])] => some ([LstOk eGNet dGNet 7 k1 n2 e3, (slices_IndexFunc_api_Net_api_Net_Convert_1 (lst dGNet n2 e3) (GNet.mk a4 a5 a6 a7 a8 a9 a10)).isSome = true], (slices_IndexFunc_api_Net_api_Net_Convert_1_out ((slices_IndexFunc_api_Net_api_Net_Convert_1 (lst dGNet n2 e3) (GNet.mk a4 a5 a6 a7 a8 a9 a10)).getD (0 : Int))))
  | _ => none
theorem slices_IndexFunc_api_Net_api_Net_Convert_1_ok : Meets Try.prog 33 slices_IndexFunc_api_Net_api_Net_Convert_1_C := by
  refine meets_fun (fn := Try.f33) (c := bodyOf Try.f33) (by kernel_rfl) (by kernel_rfl) (by kernel_rfl) (rs := [.tmp 4]) (by kernel_rfl) (nt := 19) (by kernel_rfl) fun vs p out h hp => ?_
  unfold slices_IndexFunc_api_Net_api_Net_Convert_1_C at h
  split at h
  · next k1 n2 e3 a4 a5 a6 a7 a8 a9 a10 =>
    cases h
    obtain ⟨g0, hp⟩ := allq hp
    obtain ⟨g, hp⟩ := allq hp
    obtain ⟨x, hx⟩ := Option.isSome_iff_exists.1 g
    rw [hx]
    exact ⟨[(.c (.sl 7 ((lst dGNet n2 e3)).length (lsEl eGNet zGNet (lst dGNet n2 e3)))), (.fn 32 [(.dptr 7 [(di (GNet.mk a4 a5 a6 a7 a8 a9 a10).State), (di (GNet.mk a4 a5 a6 a7 a8 a9 a10).Benefit), (di (GNet.mk a4 a5 a6 a7 a8 a9 a10).Currency), (di (GNet.mk a4 a5 a6 a7 a8 a9 a10).Independent), (di (GNet.mk a4 a5 a6 a7 a8 a9 a10).ProRata), (di (GNet.mk a4 a5 a6 a7 a8 a9 a10).Deducted), (di (GNet.mk a4 a5 a6 a7 a8 a9 a10).Amount)] 0)])], (VLes.cons (VLe.slk g0.1 (RowIs.of_ok g0)) (VLes.cons (VLe.rfl' _) VLes.nil)), rfl, z33run (lst dGNet n2 e3) (GNet.mk a4 a5 a6 a7 a8 a9 a10) x hx⟩
  · cases h

noncomputable def z34i0 : List Code := items (bodyOf Try.f34)
def conversion_Convert_2_out (x_1 : Bool) : Out := .data (bl x_1)
def z34R (x_1 : Bool) : St := { tm := [sv 3 (bl x_1)], hp := [], nx := 0 }
theorem z34Rok (x_1 : Bool) : retK Try.prog [.tmp 3] (OutOk (conversion_Convert_2_out x_1)) .ret (z34R x_1) :=
  retK.intro (v := (bl x_1)) (by kernel_rfl) ((VLe.rfl' _))
def z34p0S (n t1 : GNet) : St := { tm := [sv 0 (.ag (eGNet n)), sv 1 (.dptr 7 [(di t1.State), (di t1.Benefit), (di t1.Currency), (di t1.Independent), (di t1.ProRata), (di t1.Deducted), (di t1.Amount)] 0)], hp := [], nx := 0 }
noncomputable def conversion_Convert_2_p0 (n t1 : GNet) : Option (Bool) := (some (bif (bif (n.State == t1.State) then (n.Benefit == (2 : Int)) else false) then (n.Currency == t1.Currency) else false))
theorem z34p0ok (n t1 : GNet) (K : KT) (h : W (conversion_Convert_2_p0 n t1) (rE z34R K)) : EvL Try.prog 21 (List.drop 0 z34i0) K (z34p0S n t1) :=
  EvL.pE mixed (lookC_ok (l := []) trivial) [3] 0 3 (.nf (X := fun K => wK K .ret (z34R (bif (bif (n.State == t1.State) then (n.Benefit == (2 : Int)) else false) then (n.Currency == t1.Currency) else false))) (fun K => by kernel_rfl) (⟨_, .refl _, h⟩))
noncomputable def conversion_Convert_2 (n t1 : GNet) : Option (Bool) := conversion_Convert_2_p0 n t1
theorem z34run (n t1 : GNet) (y_ : Bool) (h : conversion_Convert_2 n t1 = some y_) : EvL Try.prog 21 (items (bodyOf Try.f34)) (retK Try.prog [.tmp 3] (OutOk (conversion_Convert_2_out y_))) (z34p0S n t1) :=
  z34p0ok n t1 _ (W_iff.2 ⟨y_, h, z34Rok y_⟩)
noncomputable def conversion_Convert_2_C : Con
  | [(.agg [(.c (.lit (.int .i64 a1))), (.c (.lit (.int .i64 a2))), (.c (.lit (.int .i64 a3))), (.c (.lit (.int .i64 a4))), (.c (.lit (.int .i64 a5))), (.c (.lit (.int .i64 a6))), (.c (.lit (.int .i64 a7)))]), (.dptr 7 [(.lit (.int .i64 a8)), (.lit (.int .i64 a9)), (.lit (.int .i64 a10)), (.lit (.int .i64 a11)), (.lit (.int .i64 a12)), (.lit (.int .i64 a13)), (.lit (.int .i64 a14))] 0)] => some ([(conversion_Convert_2 (GNet.mk a1 a2 a3 a4 a5 a6 a7) (GNet.mk a8 a9 a10 a11 a12 a13 a14)).isSome = true], (conversion_Convert_2_out ((conversion_Convert_2 (GNet.mk a1 a2 a3 a4 a5 a6 a7) (GNet.mk a8 a9 a10 a11 a12 a13 a14)).getD false)))
  | _ => none
theorem conversion_Convert_2_ok : Meets Try.prog 34 conversion_Convert_2_C := by
  refine meets_fun (fn := Try.f34) (c := bodyOf Try.f34) (by kernel_rfl) (by kernel_rfl) (by kernel_rfl) (rs := [.tmp 3]) (by kernel_rfl) (nt := 21) (by kernel_rfl) fun vs p out h hp => ?_
  unfold conversion_Convert_2_C at h
  split at h
  · next a1 a2 a3 a4 a5 a6 a7 a8 a9 a10 a11 a12 a13 a14 =>
    cases h
    obtain ⟨g, hp⟩ := allq hp
    obtain ⟨x, hx⟩ := Option.isSome_iff_exists.1 g
    rw [hx]
    exact ⟨[(.agg [(i64 (GNet.mk a1 a2 a3 a4 a5 a6 a7).State), (i64 (GNet.mk a1 a2 a3 a4 a5 a6 a7).Benefit), (i64 (GNet.mk a1 a2 a3 a4 a5 a6 a7).Currency), (i64 (GNet.mk a1 a2 a3 a4 a5 a6 a7).Independent), (i64 (GNet.mk a1 a2 a3 a4 a5 a6 a7).ProRata), (i64 (GNet.mk a1 a2 a3 a4 a5 a6 a7).Deducted), (i64 (GNet.mk a1 a2 a3 a4 a5 a6 a7).Amount)]), (.dptr 7 [(di (GNet.mk a8 a9 a10 a11 a12 a13 a14).State), (di (GNet.mk a8 a9 a10 a11 a12 a13 a14).Benefit), (di (GNet.mk a8 a9 a10 a11 a12 a13 a14).Currency), (di (GNet.mk a8 a9 a10 a11 a12 a13 a14).Independent), (di (GNet.mk a8 a9 a10 a11 a12 a13 a14).ProRata), (di (GNet.mk a8 a9 a10 a11 a12 a13 a14).Deducted), (di (GNet.mk a8 a9 a10 a11 a12 a13 a14).Amount)] 0)], (VLes.cons (VLe.rfl' _) (VLes.cons (VLe.rfl' _) VLes.nil)), rfl, z34run (GNet.mk a1 a2 a3 a4 a5 a6 a7) (GNet.mk a8 a9 a10 a11 a12 a13 a14) x hx⟩
  · cases h

noncomputable def z33_1i0 : List Code := items (bodyOf Try.f33)
noncomputable def z33_1i1 : List Code := items (inside (inside (nthI z33_1i0 2)))
def slices_IndexFunc_api_Net_api_Net_Convert_2_out (x_1 : Int) : Out := .data (i64 x_1)
def z33_1R (x_1 : Int) : St := { tm := [sv 4 (i64 x_1)], hp := [], nx := 0 }
theorem z33_1Rok (x_1 : Int) : retK Try.prog [.tmp 4] (OutOk (slices_IndexFunc_api_Net_api_Net_Convert_2_out x_1)) .ret (z33_1R x_1) :=
  retK.intro (v := (i64 x_1)) (by kernel_rfl) ((VLe.rfl' _))
def z33_1l1S (s_1 : (List GNet)) (f : GNet) (s : (Int)) : St := match s with | t8 => { tm := [sv 0 (.c (.sl 7 s_1.length (lsEl eGNet zGNet s_1))), sv 1 (.fn 34 [(.dptr 7 [(di f.State), (di f.Benefit), (di f.Currency), (di f.Independent), (di f.ProRata), (di f.Deducted), (di f.Amount)] 0)]), sv 7 (i64 ((s_1.length : Nat) : Int)), sv 8 (i64 t8)], hp := [], nx := 0 }
def z33_1l1C0 (s_1 : (List GNet)) (f : GNet) (s : Int) : St := match s with | t4_1 => { tm := [sv 4 (i64 t4_1)], hp := [], nx := 0 }
def z33_1l1C1 (s_1 : (List GNet)) (f : GNet) (s : Unit) : St := match s with | () => { tm := [], hp := [], nx := 0 }
def z33_1l1E (s_1 : (List GNet)) (f : GNet) (r : ((Int) ⊕ (Unit))) (K : KT) : Prop := match r with | (.inl s) => K .ret (z33_1l1C0 s_1 f s) | (.inr s) => K (.exit 0) (z33_1l1C1 s_1 f s)
def z33_1p0S (s_1 : (List GNet)) (f : GNet) (t8 : Int) : St := { tm := [sv 0 (.c (.sl 7 s_1.length (lsEl eGNet zGNet s_1))), sv 1 (.fn 34 [(.dptr 7 [(di f.State), (di f.Benefit), (di f.Currency), (di f.Independent), (di f.ProRata), (di f.Deducted), (di f.Amount)] 0)]), sv 7 (i64 ((s_1.length : Nat) : Int)), sv 8 (i64 t8)], hp := [], nx := 0 }
noncomputable def slices_IndexFunc_api_Net_api_Net_Convert_2_p0 (s_1 : (List GNet)) (f : GNet) (t8 : Int) : Option ((Int) ⊕ ((Int) ⊕ (Unit))) := (bif (decide (t8 < ((s_1.length : Nat) : Int))) then gd ((0 : Int) ≤ t8 ∧ t8 < ((s_1.length : Nat) : Int)) ((conversion_Convert_2 (s_1.getD (Int.toNat t8) zGNet) f).bind fun r_1 => ((bif r_1 then (some (Sum.inr (Sum.inl t8))) else (some (Sum.inl (w64 (t8 + (1 : Int)))))))) else (some (Sum.inr (Sum.inr ()))))
theorem z33_1p0ok (s_1 : (List GNet)) (f : GNet) (t8 : Int) (K : KT) (h : W (slices_IndexFunc_api_Net_api_Net_Convert_2_p0 s_1 f t8) (nE (z33_1l1S s_1 f) (z33_1l1E s_1 f) K)) : EvL Try.prog 19 (List.drop 0 z33_1i1) K (z33_1p0S s_1 f t8) :=
  EvL.pE mixed (lookC_ok (l := [(34, .pure conversion_Convert_2_C)]) ⟨conversion_Convert_2_ok, trivial⟩) [0, 1, 4, 7, 8] 0 4 (.nf (X := fun K => (bif (decide (t8 < ((s_1.length : Nat) : Int))) then ((0 : Int) ≤ t8) ∧ (t8 < ((s_1.length : Nat) : Int)) ∧ ((conversion_Convert_2 (s_1.getD (Int.toNat t8) zGNet) f).isSome = true) ∧ ((bif ((conversion_Convert_2 (s_1.getD (Int.toNat t8) zGNet) f).getD false) then wK K .ret ({ tm := [sv 0 (.c (.sl 7 s_1.length (lsEl eGNet zGNet s_1))), sv 1 (.fn 34 [(.dptr 7 [(di f.State), (di f.Benefit), (di f.Currency), (di f.Independent), (di f.ProRata), (di f.Deducted), (di f.Amount)] 0)]), sv 4 (i64 t8), sv 7 (i64 ((s_1.length : Nat) : Int)), sv 8 (i64 t8)], hp := [], nx := 0 }) else wK K .normal (z33_1l1S s_1 f (w64 (t8 + (1 : Int)))))) else wK K (.exit 0) ({ tm := [sv 0 (.c (.sl 7 s_1.length (lsEl eGNet zGNet s_1))), sv 1 (.fn 34 [(.dptr 7 [(di f.State), (di f.Benefit), (di f.Currency), (di f.Independent), (di f.ProRata), (di f.Deducted), (di f.Amount)] 0)]), sv 7 (i64 ((s_1.length : Nat) : Int)), sv 8 (i64 t8)], hp := [], nx := 0 }))) (fun K => by kernel_rfl) (W_bif h (fun _ h => (W_gd2 h fun hp0 h => (W_bind false h fun hp1 h => (W_bif h (fun _ h => ⟨(z33_1l1C0 s_1 f t8), (.of (.q rfl .nil) .nil rfl), h⟩) (fun _ h => ⟨_, .refl _, h⟩))))) (fun _ h => ⟨(z33_1l1C1 s_1 f ()), (.of .nil .nil rfl), h⟩)))
noncomputable def slices_IndexFunc_api_Net_api_Net_Convert_2_l1 (s_1 : (List GNet)) (f : GNet) (s : (Int)) : Option ((Int) ⊕ ((Int) ⊕ (Unit))) := match s with | t8 => slices_IndexFunc_api_Net_api_Net_Convert_2_p0 s_1 f t8
theorem z33_1l1ok (s_1 : (List GNet)) (f : GNet) (s : (Int)) : Pp Try.prog 19 (List.drop 0 z33_1i1) (z33_1l1S s_1 f s) (slices_IndexFunc_api_Net_api_Net_Convert_2_l1 s_1 f s) (nextE (z33_1l1S s_1 f) (z33_1l1E s_1 f)) := fun K h => match s, h with | t8, h => (z33_1p0ok s_1 f t8 _ h)
theorem z33_1l1Ethen (s_1 : (List GNet)) (f : GNet) : ∀ (r : ((Int) ⊕ (Unit))) (J : St → Prop) (K : KT), z33_1l1E s_1 f r K → z33_1l1E s_1 f r (thenK J K)
  | (.inl s), _, _, h => h
  | (.inr s), _, _, h => h
def z33_1p1S : St := { tm := [], hp := [], nx := 0 }
noncomputable def slices_IndexFunc_api_Net_api_Net_Convert_2_p1 : Option (Int) := (some (-1 : Int))
theorem z33_1p1ok (K : KT) (h : W (slices_IndexFunc_api_Net_api_Net_Convert_2_p1) (rE z33_1R K)) : EvL Try.prog 19 (List.drop 3 z33_1i0) K (z33_1p1S) :=
  EvL.pE mixed (lookC_ok (l := []) trivial) [4] 3 2 (.nf (X := fun K => wK K .ret (z33_1R (-1 : Int))) (fun K => by kernel_rfl) (⟨_, .refl _, h⟩))
def z33_1p2S (s_1 : (List GNet)) (f : GNet) : St := { tm := [sv 0 (.c (.sl 7 s_1.length (lsEl eGNet zGNet s_1))), sv 1 (.fn 34 [(.dptr 7 [(di f.State), (di f.Benefit), (di f.Currency), (di f.Independent), (di f.ProRata), (di f.Deducted), (di f.Amount)] 0)]), sv 7 (i64 ((s_1.length : Nat) : Int)), sv 8 (i64 (0 : Int))], hp := [], nx := 0 }
noncomputable def slices_IndexFunc_api_Net_api_Net_Convert_2_p2_g (s_1 : (List GNet)) (f : GNet) (r : ((Int) ⊕ (Unit))) : Option (Int) := match r with | (.inl t4_1) => (some t4_1) | (.inr ()) => slices_IndexFunc_api_Net_api_Net_Convert_2_p1
noncomputable def slices_IndexFunc_api_Net_api_Net_Convert_2_p2 (s_1 : (List GNet)) (f : GNet) : Option (Int) := (fixL (slices_IndexFunc_api_Net_api_Net_Convert_2_l1 s_1 f) (0 : Int)).bind (slices_IndexFunc_api_Net_api_Net_Convert_2_p2_g s_1 f)
theorem z33_1p2at : List.drop 2 z33_1i0 = .block 0 (.loop (inside (inside (nthI z33_1i0 2)))) :: List.drop 3 z33_1i0 := by kernel_rfl
theorem z33_1p2k (s_1 : (List GNet)) (f : GNet) (K : KT) : ∀ r : ((Int) ⊕ (Unit)), W (slices_IndexFunc_api_Net_api_Net_Convert_2_p2_g s_1 f r) (rE z33_1R K) → z33_1l1E s_1 f r (wK (blockK 0 (thenK (EvL Try.prog 19 (List.drop 3 z33_1i0) K) K)))
  | (.inl t4_1), h => ⟨(z33_1R t4_1), (.refl _), h⟩
  | (.inr ()), h => ⟨(z33_1p1S), (.refl _), (z33_1p1ok _ h)⟩
theorem z33_1p2ok (s_1 : (List GNet)) (f : GNet) (K : KT) (h : W (slices_IndexFunc_api_Net_api_Net_Convert_2_p2 s_1 f) (rE z33_1R K)) : EvL Try.prog 19 (List.drop 2 z33_1i0) K (z33_1p2S s_1 f) :=
  EvL.at_ z33_1p2at (EvL.cons_loop (EvOk.weak (EvOk.ent (.refl _) (EvOk.loopF (x := inside (inside (nthI z33_1i0 2))) (f := slices_IndexFunc_api_Net_api_Net_Convert_2_l1 s_1 f) (emb := z33_1l1S s_1 f) (E := z33_1l1E s_1 f) (z33_1l1ok s_1 f) (z33_1l1Ethen s_1 f) (W_loop h (z33_1p2k s_1 f K))))))
def z33_1p3S (s_1 : (List GNet)) (f : GNet) : St := { tm := [sv 0 (.c (.sl 7 s_1.length (lsEl eGNet zGNet s_1))), sv 1 (.fn 34 [(.dptr 7 [(di f.State), (di f.Benefit), (di f.Currency), (di f.Independent), (di f.ProRata), (di f.Deducted), (di f.Amount)] 0)])], hp := [], nx := 0 }
noncomputable def slices_IndexFunc_api_Net_api_Net_Convert_2_p3 (s_1 : (List GNet)) (f : GNet) : Option (Int) := (slices_IndexFunc_api_Net_api_Net_Convert_2_p2 s_1 f)
theorem z33_1p3ok (s_1 : (List GNet)) (f : GNet) (K : KT) (h : W (slices_IndexFunc_api_Net_api_Net_Convert_2_p3 s_1 f) (rE z33_1R K)) : EvL Try.prog 19 (List.drop 0 z33_1i0) K (z33_1p3S s_1 f) :=
  EvL.pD mixed (lookC_ok (l := []) trivial) [0, 1, 7, 8] 0 2 2 (.nf (X := fun K => wK K .normal (z33_1p2S s_1 f)) (fun K => by kernel_rfl) (⟨_, .refl _, (z33_1p2ok s_1 f _ h)⟩))
noncomputable def slices_IndexFunc_api_Net_api_Net_Convert_2 (s_1 : (List GNet)) (f : GNet) : Option (Int) := slices_IndexFunc_api_Net_api_Net_Convert_2_p3 s_1 f
theorem z33_1run (s_1 : (List GNet)) (f : GNet) (y_ : Int) (h : slices_IndexFunc_api_Net_api_Net_Convert_2 s_1 f = some y_) : EvL Try.prog 19 (items (bodyOf Try.f33)) (retK Try.prog [.tmp 4] (OutOk (slices_IndexFunc_api_Net_api_Net_Convert_2_out y_))) (z33_1p3S s_1 f) :=
  z33_1p3ok s_1 f _ (W_iff.2 ⟨y_, h, z33_1Rok y_⟩)
noncomputable def slices_IndexFunc_api_Net_api_Net_Convert_2_C : Con
  | [(.c (.sl k1 n2 e3)), (.fn 34 [(.dptr 7 [(.lit (.int .i64 a4)), (.lit (.int .i64 a5)), (.lit (.int .i64 a6)), (.lit (.int .i64 a7)), (.lit (.int .i64 a8)), (.lit (.int .i64 a9)), (.lit (.int .i64 a10))] 0)])] => some ([LstOk eGNet dGNet 7 k1 n2 e3, (slices_IndexFunc_api_Net_api_Net_Convert_2 (lst dGNet n2 e3) (GNet.mk a4 a5 a6 a7 a8 a9 a10)).isSome = true], (slices_IndexFunc_api_Net_api_Net_Convert_2_out ((slices_IndexFunc_api_Net_api_Net_Convert_2 (lst dGNet n2 e3) (GNet.mk a4 a5 a6 a7 a8 a9 a10)).getD (0 : Int))))
  | _ => none
theorem slices_IndexFunc_api_Net_api_Net_Convert_2_ok : Meets Try.prog 33 slices_IndexFunc_api_Net_api_Net_Convert_2_C := by
  refine meets_fun (fn := Try.f33) (c := bodyOf Try.f33) (by kernel_rfl) (by kernel_rfl) (by kernel_rfl) (rs := [.tmp 4]) (by kernel_rfl) (nt := 19) (by kernel_rfl) fun vs p out h hp => ?_
  unfold slices_IndexFunc_api_Net_api_Net_Convert_2_C at h
  split at h
  · next k1 n2 e3 a4 a5 a6 a7 a8 a9 a10 =>
    cases h
    obtain ⟨g0, hp⟩ := allq hp
    obtain ⟨g, hp⟩ := allq hp
    obtain ⟨x, hx⟩ := Option.isSome_iff_exists.1 g
    rw [hx]
    exact ⟨[(.c (.sl 7 ((lst dGNet n2 e3)).length (lsEl eGNet zGNet (lst dGNet n2 e3)))), (.fn 34 [(.dptr 7 [(di (GNet.mk a4 a5 a6 a7 a8 a9 a10).State), (di (GNet.mk a4 a5 a6 a7 a8 a9 a10).Benefit), (di (GNet.mk a4 a5 a6 a7 a8 a9 a10).Currency), (di (GNet.mk a4 a5 a6 a7 a8 a9 a10).Independent), (di (GNet.mk a4 a5 a6 a7 a8 a9 a10).ProRata), (di (GNet.mk a4 a5 a6 a7 a8 a9 a10).Deducted), (di (GNet.mk a4 a5 a6 a7 a8 a9 a10).Amount)] 0)])], (VLes.cons (VLe.slk g0.1 (RowIs.of_ok g0)) (VLes.cons (VLe.rfl' _) VLes.nil)), rfl, z33_1run (lst dGNet n2 e3) (GNet.mk a4 a5 a6 a7 a8 a9 a10) x hx⟩
  · cases h

noncomputable def z17i0 : List Code := items (bodyOf Try.f17)
noncomputable def z17i1 : List Code := items (inside (inside (nthI z17i0 4)))
noncomputable def z17i2 : List Code := items (inside (inside (nthI z17i0 6)))
noncomputable def z17i3 : List Code := items (inside (inside (nthI z17i0 9)))
def conversion_Convert_out (x_1 : (List GNet)) : Out := .own true 28 7 (x_1).length (lsEl eGNet zGNet x_1)
def z17R (x_1 : (List GNet)) : St := { tm := [sv 2 (.row 0 7 0 x_1.length)], hp := [(0, some (.row 28 7 x_1.length (lsEl eGNet zGNet x_1)))], nx := 1 }
theorem z17Rok (x_1 : (List GNet)) : retK Try.prog [.tmp 2] (OutOk (conversion_Convert_out x_1)) .ret (z17R x_1) :=
  retK.intro (v := (.row 0 7 0 x_1.length)) (by kernel_rfl) (⟨_, _, _, rfl, rfl, rfl, fun _ _ => rfl, fun _ i hi d hd => scal_GNet _ d hd⟩)
def z17l1S (l : (List GNet)) (amounts : (List Int)) (left : (List Bool)) (s : ((List Int) × Int)) : St := match s with | (amounts_1, t22) => { tm := [sv 0 (.c (.sl 7 l.length (lsEl eGNet zGNet l))), sv 3 (.row 0 1 0 amounts_1.length), sv 4 (.row 1 1 0 left.length), sv 20 (.c (.sl 7 l.length (lsEl eGNet zGNet l))), sv 21 (i64 ((l.length : Nat) : Int)), sv 22 (i64 t22)], hp := [(0, some (.row 3 1 amounts_1.length (lsEl eI64 (0 : Int) amounts_1))), (1, some (.row 4 1 left.length (lsEl eBool false left)))], nx := 2 }
def z17l1C0 (l : (List GNet)) (amounts : (List Int)) (left : (List Bool)) (s : (List Int)) : St := match s with | amounts_2 => { tm := [sv 0 (.c (.sl 7 l.length (lsEl eGNet zGNet l))), sv 3 (.row 0 1 0 amounts_2.length), sv 4 (.row 1 1 0 left.length)], hp := [(0, some (.row 3 1 amounts_2.length (lsEl eI64 (0 : Int) amounts_2))), (1, some (.row 4 1 left.length (lsEl eBool false left)))], nx := 2 }
def z17l1E (l : (List GNet)) (amounts : (List Int)) (left : (List Bool)) (r : (((List Int)))) (K : KT) : Prop := match r with | s => K (.exit 0) (z17l1C0 l amounts left s)
def z17p0S (l : (List GNet)) (amounts_1 : (List Int)) (left : (List Bool)) (t22 : Int) : St := { tm := [sv 0 (.c (.sl 7 l.length (lsEl eGNet zGNet l))), sv 3 (.row 0 1 0 amounts_1.length), sv 4 (.row 1 1 0 left.length), sv 20 (.c (.sl 7 l.length (lsEl eGNet zGNet l))), sv 21 (i64 ((l.length : Nat) : Int)), sv 22 (i64 t22)], hp := [(0, some (.row 3 1 amounts_1.length (lsEl eI64 (0 : Int) amounts_1))), (1, some (.row 4 1 left.length (lsEl eBool false left)))], nx := 2 }
noncomputable def conversion_Convert_p0 (l : (List GNet)) (amounts_1 : (List Int)) (left : (List Bool)) (t22 : Int) : Option (((List Int) × Int) ⊕ (((List Int)))) := (bif (decide (t22 < ((l.length : Nat) : Int))) then gd ((0 : Int) ≤ t22 ∧ t22 < ((l.length : Nat) : Int)) (gd ((0 : Int) ≤ t22 ∧ t22 < ((amounts_1.length : Nat) : Int)) ((some (Sum.inl ((amounts_1.set (0 + (Int.toNat t22)) (l.getD (Int.toNat t22) zGNet).Amount), (w64 (t22 + (1 : Int)))))))) else (some (Sum.inr amounts_1)))
theorem z17p0ok (l : (List GNet)) (amounts_1 : (List Int)) (left : (List Bool)) (t22 : Int) (amounts : (List Int)) (K : KT) (h : W (conversion_Convert_p0 l amounts_1 left t22) (nE (z17l1S l amounts left) (z17l1E l amounts left) K)) : EvL Try.prog 89 (List.drop 0 z17i1) K (z17p0S l amounts_1 left t22) :=
  EvL.pE mixed (lookC_ok (l := []) trivial) [0, 3, 4, 20, 21, 22] 0 4 (.nf (X := fun K => (bif (decide (t22 < ((l.length : Nat) : Int))) then ((0 : Int) ≤ t22) ∧ (t22 < ((l.length : Nat) : Int)) ∧ (((0 : Int) ≤ t22) ∧ (t22 < ((amounts_1.length : Nat) : Int)) ∧ (wK K .normal ({ tm := [sv 0 (.c (.sl 7 l.length (lsEl eGNet zGNet l))), sv 3 (.row 0 1 0 amounts_1.length), sv 4 (.row 1 1 0 left.length), sv 20 (.c (.sl 7 l.length (lsEl eGNet zGNet l))), sv 21 (i64 ((l.length : Nat) : Int)), sv 22 (i64 (w64 (t22 + (1 : Int))))], hp := [(0, some (.row 3 1 amounts_1.length (fun q => bif Nat.beq q (0 + (Int.toNat t22)) then [(di (l.getD (Int.toNat t22) zGNet).Amount)] else (lsEl eI64 (0 : Int) amounts_1) q))), (1, some (.row 4 1 left.length (lsEl eBool false left)))], nx := 2 }))) else wK K (.exit 0) ({ tm := [sv 0 (.c (.sl 7 l.length (lsEl eGNet zGNet l))), sv 3 (.row 0 1 0 amounts_1.length), sv 4 (.row 1 1 0 left.length), sv 20 (.c (.sl 7 l.length (lsEl eGNet zGNet l))), sv 21 (i64 ((l.length : Nat) : Int)), sv 22 (i64 t22)], hp := [(0, some (.row 3 1 amounts_1.length (lsEl eI64 (0 : Int) amounts_1))), (1, some (.row 4 1 left.length (lsEl eBool false left)))], nx := 2 }))) (fun K => by kernel_rfl) (W_bif h (fun _ h => (W_gd2 h fun hp0 h => (W_gd2 h fun hp1 h => ⟨(z17l1S l amounts left ((amounts_1.set (0 + (Int.toNat t22)) (l.getD (Int.toNat t22) zGNet).Amount), (w64 (t22 + (1 : Int))))), (.of (.q rfl (.cons rfl (.rown (len_set rfl)) (.q rfl (.q rfl (.q rfl (.q rfl .nil)))))) (.row rfl (RowIs.set (RowIs.ls eI64 (0 : Int) amounts_1) (0 + (Int.toNat t22)) (l.getD (Int.toNat t22) zGNet).Amount rfl) (.same rfl .nil) rfl) rfl), h⟩))) (fun _ h => ⟨(z17l1C0 l amounts left amounts_1), (.of (.q rfl (.q rfl (.q rfl .nil))) (.same rfl (.same rfl .nil)) rfl), h⟩)))
noncomputable def conversion_Convert_l1 (l : (List GNet)) (amounts : (List Int)) (left : (List Bool)) (s : ((List Int) × Int)) : Option (((List Int) × Int) ⊕ (((List Int)))) := match s with | (amounts_1, t22) => conversion_Convert_p0 l amounts_1 left t22
theorem z17l1ok (l : (List GNet)) (amounts : (List Int)) (left : (List Bool)) (s : ((List Int) × Int)) : Pp Try.prog 89 (List.drop 0 z17i1) (z17l1S l amounts left s) (conversion_Convert_l1 l amounts left s) (nextE (z17l1S l amounts left) (z17l1E l amounts left)) := fun K h => match s, h with | (amounts_1, t22), h => (z17p0ok l amounts_1 left t22 amounts _ h)
theorem z17l1Ethen (l : (List GNet)) (amounts : (List Int)) (left : (List Bool)) : ∀ (r : (((List Int)))) (J : St → Prop) (K : KT), z17l1E l amounts left r K → z17l1E l amounts left r (thenK J K)
  | s, _, _, h => h
def z17l2S (l : (List GNet)) (amounts_5 : (List Int)) (left : (List Bool)) (s : ((List Int) × (List Bool) × Int)) : St := match s with | (amounts_4, left_1, t35) => { tm := [sv 0 (.c (.sl 7 l.length (lsEl eGNet zGNet l))), sv 3 (.row 0 1 0 amounts_4.length), sv 4 (.row 1 1 0 left_1.length), sv 33 (.c (.sl 7 l.length (lsEl eGNet zGNet l))), sv 34 (i64 ((l.length : Nat) : Int)), sv 35 (i64 t35)], hp := [(0, some (.row 3 1 amounts_4.length (lsEl eI64 (0 : Int) amounts_4))), (1, some (.row 4 1 left_1.length (lsEl eBool false left_1)))], nx := 2 }
def z17l2C0 (l : (List GNet)) (amounts_5 : (List Int)) (left : (List Bool)) (s : (List Int) × (List Bool)) : St := match s with | (amounts_6, left_2) => { tm := [sv 0 (.c (.sl 7 l.length (lsEl eGNet zGNet l))), sv 3 (.row 0 1 0 amounts_6.length), sv 4 (.row 1 1 0 left_2.length)], hp := [(0, some (.row 3 1 amounts_6.length (lsEl eI64 (0 : Int) amounts_6))), (1, some (.row 4 1 left_2.length (lsEl eBool false left_2)))], nx := 2 }
def z17l2E (l : (List GNet)) (amounts_5 : (List Int)) (left : (List Bool)) (r : (((List Int) × (List Bool)))) (K : KT) : Prop := match r with | s => K (.exit 2) (z17l2C0 l amounts_5 left s)
def z17p1S (l : (List GNet)) (amounts_4 : (List Int)) (left_1 : (List Bool)) (t35 : Int) : St := { tm := [sv 0 (.c (.sl 7 l.length (lsEl eGNet zGNet l))), sv 3 (.row 0 1 0 amounts_4.length), sv 4 (.row 1 1 0 left_1.length), sv 33 (.c (.sl 7 l.length (lsEl eGNet zGNet l))), sv 34 (i64 ((l.length : Nat) : Int)), sv 35 (i64 t35)], hp := [(0, some (.row 3 1 amounts_4.length (lsEl eI64 (0 : Int) amounts_4))), (1, some (.row 4 1 left_1.length (lsEl eBool false left_1)))], nx := 2 }
noncomputable def conversion_Convert_p1 (l : (List GNet)) (amounts_4 : (List Int)) (left_1 : (List Bool)) (t35 : Int) : Option (((List Int) × (List Bool) × Int) ⊕ (((List Int) × (List Bool)))) := (bif (decide (t35 < ((l.length : Nat) : Int))) then gd ((0 : Int) ≤ t35 ∧ t35 < ((l.length : Nat) : Int)) ((slices_IndexFunc_api_Net_api_Net_Convert_1 l (l.getD (Int.toNat t35) zGNet)).bind fun r_1 => ((bif (r_1 != t35) then (some (Sum.inl (amounts_4, left_1, (w64 (t35 + (1 : Int)))))) else (slices_IndexFunc_api_Net_api_Net_Convert_2 l (l.getD (Int.toNat t35) zGNet)).bind fun r_2 => ((bif (decide ((0 : Int) ≤ r_2)) then gd ((0 : Int) ≤ r_2 ∧ r_2 < ((l.length : Nat) : Int)) (gd ((0 : Int) ≤ t35 ∧ t35 < ((amounts_4.length : Nat) : Int)) (gd ((0 : Int) ≤ r_2 ∧ r_2 < ((left_1.length : Nat) : Int)) ((some (Sum.inl ((amounts_4.set (0 + (Int.toNat t35)) (if (l.getD (Int.toNat t35) zGNet).Amount < (l.getD (Int.toNat r_2) zGNet).Amount then (l.getD (Int.toNat r_2) zGNet).Amount else (l.getD (Int.toNat t35) zGNet).Amount)), (left_1.set (0 + (Int.toNat r_2)) true), (w64 (t35 + (1 : Int))))))))) else (some (Sum.inl (amounts_4, left_1, (w64 (t35 + (1 : Int))))))))))) else (some (Sum.inr (amounts_4, left_1))))
theorem z17p1nf (l : (List GNet)) (amounts_4 : (List Int)) (left_1 : (List Bool)) (t35 : Int) (amounts_5 : (List Int)) (left : (List Bool)) (K : KT) (L1_ : List GNet) (hL1_ : lst dGNet l.length (lsEl eGNet zGNet l) = L1_) (L2_ : List GNet) (hL2_ : lst dGNet l.length (lsEl eGNet zGNet l) = L2_) :
    ev Try.prog (lookC [(33, .pure (orC slices_IndexFunc_api_Net_api_Net_Convert_1_C slices_IndexFunc_api_Net_api_Net_Convert_2_C))]) 89 (ofItems ((List.drop 0 z17i2).take 4)) (cN [0, 3, 4, 33, 34, 35] K) (z17p1S l amounts_4 left_1 t35) =
    ((bif (decide (t35 < ((l.length : Nat) : Int))) then ((0 : Int) ≤ t35) ∧ (t35 < ((l.length : Nat) : Int)) ∧ ((LstOk eGNet dGNet 7 7 l.length (lsEl eGNet zGNet l)) ∧ ((slices_IndexFunc_api_Net_api_Net_Convert_1 L1_ (l.getD (Int.toNat t35) zGNet)).isSome = true) ∧ ((bif (((slices_IndexFunc_api_Net_api_Net_Convert_1 L1_ (l.getD (Int.toNat t35) zGNet)).getD (0 : Int)) != t35) then wK K .normal (z17l2S l amounts_5 left (amounts_4, left_1, (w64 (t35 + (1 : Int))))) else (LstOk eGNet dGNet 7 7 l.length (lsEl eGNet zGNet l)) ∧ ((slices_IndexFunc_api_Net_api_Net_Convert_2 L2_ (l.getD (Int.toNat t35) zGNet)).isSome = true) ∧ ((bif (decide ((0 : Int) ≤ ((slices_IndexFunc_api_Net_api_Net_Convert_2 L2_ (l.getD (Int.toNat t35) zGNet)).getD (0 : Int)))) then ((0 : Int) ≤ ((slices_IndexFunc_api_Net_api_Net_Convert_2 L2_ (l.getD (Int.toNat t35) zGNet)).getD (0 : Int))) ∧ (((slices_IndexFunc_api_Net_api_Net_Convert_2 L2_ (l.getD (Int.toNat t35) zGNet)).getD (0 : Int)) < ((l.length : Nat) : Int)) ∧ ((0 : Int) ≤ t35) ∧ (t35 < ((amounts_4.length : Nat) : Int)) ∧ ((0 : Int) ≤ ((slices_IndexFunc_api_Net_api_Net_Convert_2 L2_ (l.getD (Int.toNat t35) zGNet)).getD (0 : Int))) ∧ (((slices_IndexFunc_api_Net_api_Net_Convert_2 L2_ (l.getD (Int.toNat t35) zGNet)).getD (0 : Int)) < ((left_1.length : Nat) : Int)) ∧ (wK K .normal ({ tm := [sv 0 (.c (.sl 7 l.length (lsEl eGNet zGNet l))), sv 3 (.row 0 1 0 amounts_4.length), sv 4 (.row 1 1 0 left_1.length), sv 33 (.c (.sl 7 l.length (lsEl eGNet zGNet l))), sv 34 (i64 ((l.length : Nat) : Int)), sv 35 (i64 (w64 (t35 + (1 : Int))))], hp := [(0, some (.row 3 1 amounts_4.length (fun q => bif Nat.beq q (0 + (Int.toNat t35)) then [(di (if (l.getD (Int.toNat t35) zGNet).Amount < (l.getD (Int.toNat ((slices_IndexFunc_api_Net_api_Net_Convert_2 L2_ (l.getD (Int.toNat t35) zGNet)).getD (0 : Int))) zGNet).Amount then (l.getD (Int.toNat ((slices_IndexFunc_api_Net_api_Net_Convert_2 L2_ (l.getD (Int.toNat t35) zGNet)).getD (0 : Int))) zGNet).Amount else (l.getD (Int.toNat t35) zGNet).Amount))] else (lsEl eI64 (0 : Int) amounts_4) q))), (1, some (.row 4 1 left_1.length (fun q => bif Nat.beq q (0 + (Int.toNat ((slices_IndexFunc_api_Net_api_Net_Convert_2 L2_ (l.getD (Int.toNat t35) zGNet)).getD (0 : Int)))) then [(db true)] else (lsEl eBool false left_1) q)))], nx := 2 })) else wK K .normal (z17l2S l amounts_5 left (amounts_4, left_1, (w64 (t35 + (1 : Int)))))))))) else wK K (.exit 2) ({ tm := [sv 0 (.c (.sl 7 l.length (lsEl eGNet zGNet l))), sv 3 (.row 0 1 0 amounts_4.length), sv 4 (.row 1 1 0 left_1.length), sv 33 (.c (.sl 7 l.length (lsEl eGNet zGNet l))), sv 34 (i64 ((l.length : Nat) : Int)), sv 35 (i64 t35)], hp := [(0, some (.row 3 1 amounts_4.length (lsEl eI64 (0 : Int) amounts_4))), (1, some (.row 4 1 left_1.length (lsEl eBool false left_1)))], nx := 2 }))) := by subst hL1_ hL2_; kernel_rfl
theorem z17p1ok (l : (List GNet)) (amounts_4 : (List Int)) (left_1 : (List Bool)) (t35 : Int) (amounts_5 : (List Int)) (left : (List Bool)) (K : KT) (h : W (conversion_Convert_p1 l amounts_4 left_1 t35) (nE (z17l2S l amounts_5 left) (z17l2E l amounts_5 left) K)) : EvL Try.prog 89 (List.drop 0 z17i2) K (z17p1S l amounts_4 left_1 t35) :=
  EvL.pE mixed (lookC_ok (l := [(33, .pure (orC slices_IndexFunc_api_Net_api_Net_Convert_1_C slices_IndexFunc_api_Net_api_Net_Convert_2_C))]) ⟨(Meets.or slices_IndexFunc_api_Net_api_Net_Convert_1_ok slices_IndexFunc_api_Net_api_Net_Convert_2_ok), trivial⟩) [0, 3, 4, 33, 34, 35] 0 4 (.of (z17p1nf l amounts_4 left_1 t35 amounts_5 left _ _ (RowIs.lst dGNet_eGNet (RowIs.ls eGNet zGNet l)) _ (RowIs.lst dGNet_eGNet (RowIs.ls eGNet zGNet l))) (W_bif h (fun _ h => (W_gd2 h fun hp0 h => ⟨RowIs.ok dGNet_eGNet (RowIs.ls eGNet zGNet l), (W_bind (0 : Int) h fun hp1 h => (W_bif h (fun _ h => ⟨_, .refl _, h⟩) (fun _ h => ⟨RowIs.ok dGNet_eGNet (RowIs.ls eGNet zGNet l), (W_bind (0 : Int) h fun hp2 h => (W_bif h (fun _ h => (W_gd2 h fun hp3 h => (W_gd2 h fun hp4 h => (W_gd2 h fun hp5 h => ⟨(z17l2S l amounts_5 left ((amounts_4.set (0 + (Int.toNat t35)) (if (l.getD (Int.toNat t35) zGNet).Amount < (l.getD (Int.toNat ((slices_IndexFunc_api_Net_api_Net_Convert_2 l (l.getD (Int.toNat t35) zGNet)).getD (0 : Int))) zGNet).Amount then (l.getD (Int.toNat ((slices_IndexFunc_api_Net_api_Net_Convert_2 l (l.getD (Int.toNat t35) zGNet)).getD (0 : Int))) zGNet).Amount else (l.getD (Int.toNat t35) zGNet).Amount)), (left_1.set (0 + (Int.toNat ((slices_IndexFunc_api_Net_api_Net_Convert_2 l (l.getD (Int.toNat t35) zGNet)).getD (0 : Int)))) true), (w64 (t35 + (1 : Int))))), (.of (.q rfl (.cons rfl (.rown (len_set rfl)) (.cons rfl (.rown (len_set rfl)) (.q rfl (.q rfl (.q rfl .nil)))))) (.row rfl (RowIs.set (RowIs.ls eI64 (0 : Int) amounts_4) (0 + (Int.toNat t35)) (if (l.getD (Int.toNat t35) zGNet).Amount < (l.getD (Int.toNat ((slices_IndexFunc_api_Net_api_Net_Convert_2 l (l.getD (Int.toNat t35) zGNet)).getD (0 : Int))) zGNet).Amount then (l.getD (Int.toNat ((slices_IndexFunc_api_Net_api_Net_Convert_2 l (l.getD (Int.toNat t35) zGNet)).getD (0 : Int))) zGNet).Amount else (l.getD (Int.toNat t35) zGNet).Amount) rfl) (.row rfl (RowIs.set (RowIs.ls eBool false left_1) (0 + (Int.toNat ((slices_IndexFunc_api_Net_api_Net_Convert_2 l (l.getD (Int.toNat t35) zGNet)).getD (0 : Int)))) true rfl) .nil rfl) rfl) rfl), h⟩)))) (fun _ h => ⟨_, .refl _, h⟩)))⟩)))⟩)) (fun _ h => ⟨(z17l2C0 l amounts_5 left (amounts_4, left_1)), (.of (.q rfl (.q rfl (.q rfl .nil))) (.same rfl (.same rfl .nil)) rfl), h⟩)))
noncomputable def conversion_Convert_l2 (l : (List GNet)) (amounts_5 : (List Int)) (left : (List Bool)) (s : ((List Int) × (List Bool) × Int)) : Option (((List Int) × (List Bool) × Int) ⊕ (((List Int) × (List Bool)))) := match s with | (amounts_4, left_1, t35) => conversion_Convert_p1 l amounts_4 left_1 t35
theorem z17l2ok (l : (List GNet)) (amounts_5 : (List Int)) (left : (List Bool)) (s : ((List Int) × (List Bool) × Int)) : Pp Try.prog 89 (List.drop 0 z17i2) (z17l2S l amounts_5 left s) (conversion_Convert_l2 l amounts_5 left s) (nextE (z17l2S l amounts_5 left) (z17l2E l amounts_5 left)) := fun K h => match s, h with | (amounts_4, left_1, t35), h => (z17p1ok l amounts_4 left_1 t35 amounts_5 left _ h)
theorem z17l2Ethen (l : (List GNet)) (amounts_5 : (List Int)) (left : (List Bool)) : ∀ (r : (((List Int) × (List Bool)))) (J : St → Prop) (K : KT), z17l2E l amounts_5 left r K → z17l2E l amounts_5 left r (thenK J K)
  | s, _, _, h => h
def z17l3S (amounts_8 : (List Int)) (left_4 : (List Bool)) (l : (List GNet)) (s : ((List Int) × (List Bool) × (List GNet) × Int)) : St := match s with | (amounts_9, left_5, out_1, t68) => { tm := [sv 3 (.row 0 1 0 amounts_9.length), sv 4 (.row 1 1 0 left_5.length), sv 11 (.row 2 7 0 out_1.length), sv 66 (.c (.sl 7 l.length (lsEl eGNet zGNet l))), sv 67 (i64 ((l.length : Nat) : Int)), sv 68 (i64 t68)], hp := [(0, some (.row 3 1 amounts_9.length (lsEl eI64 (0 : Int) amounts_9))), (1, some (.row 4 1 left_5.length (lsEl eBool false left_5))), (2, some (.row 28 7 out_1.length (lsEl eGNet zGNet out_1)))], nx := 3 }
def z17l3C0 (amounts_8 : (List Int)) (left_4 : (List Bool)) (l : (List GNet)) (s : (List GNet)) : St := match s with | out_2 => { tm := [sv 11 (.row 0 7 0 out_2.length)], hp := [(0, some (.row 28 7 out_2.length (lsEl eGNet zGNet out_2)))], nx := 1 }
def z17l3E (amounts_8 : (List Int)) (left_4 : (List Bool)) (l : (List GNet)) (r : (((List GNet)))) (K : KT) : Prop := match r with | s => K (.exit 4) (z17l3C0 amounts_8 left_4 l s)
def z17p2S (amounts_9 : (List Int)) (left_5 : (List Bool)) (out_1 l : (List GNet)) (t68 : Int) : St := { tm := [sv 3 (.row 0 1 0 amounts_9.length), sv 4 (.row 1 1 0 left_5.length), sv 11 (.row 2 7 0 out_1.length), sv 66 (.c (.sl 7 l.length (lsEl eGNet zGNet l))), sv 67 (i64 ((l.length : Nat) : Int)), sv 68 (i64 t68)], hp := [(0, some (.row 3 1 amounts_9.length (lsEl eI64 (0 : Int) amounts_9))), (1, some (.row 4 1 left_5.length (lsEl eBool false left_5))), (2, some (.row 28 7 out_1.length (lsEl eGNet zGNet out_1)))], nx := 3 }
noncomputable def conversion_Convert_p2 (amounts_9 : (List Int)) (left_5 : (List Bool)) (out_1 l : (List GNet)) (t68 : Int) : Option (((List Int) × (List Bool) × (List GNet) × Int) ⊕ (((List GNet)))) := (bif (decide (t68 < ((l.length : Nat) : Int))) then gd ((0 : Int) ≤ t68 ∧ t68 < ((l.length : Nat) : Int)) (gd ((0 : Int) ≤ t68 ∧ t68 < ((left_5.length : Nat) : Int)) ((bif (!(left_5.getD (0 + (Int.toNat t68)) false)) then gd ((0 : Int) ≤ t68 ∧ t68 < ((amounts_9.length : Nat) : Int)) (gd (capB (out_1.length + 1) 56) ((some (Sum.inl (amounts_9, left_5, (out_1 ++ ([(GNet.mk (l.getD (Int.toNat t68) zGNet).State (l.getD (Int.toNat t68) zGNet).Benefit (l.getD (Int.toNat t68) zGNet).Currency (l.getD (Int.toNat t68) zGNet).Independent (l.getD (Int.toNat t68) zGNet).ProRata (l.getD (Int.toNat t68) zGNet).Deducted (amounts_9.getD (0 + (Int.toNat t68)) (0 : Int)))] : List GNet)), (w64 (t68 + (1 : Int)))))))) else (some (Sum.inl (amounts_9, left_5, out_1, (w64 (t68 + (1 : Int))))))))) else (some (Sum.inr out_1)))
theorem z17p2ok (amounts_9 : (List Int)) (left_5 : (List Bool)) (out_1 l : (List GNet)) (t68 : Int) (amounts_8 : (List Int)) (left_4 : (List Bool)) (K : KT) (h : W (conversion_Convert_p2 amounts_9 left_5 out_1 l t68) (nE (z17l3S amounts_8 left_4 l) (z17l3E amounts_8 left_4 l) K)) : EvL Try.prog 89 (List.drop 0 z17i3) K (z17p2S amounts_9 left_5 out_1 l t68) :=
  EvL.pE mixed (lookC_ok (l := []) trivial) [3, 4, 11, 66, 67, 68] 0 4 (.nf (X := fun K => (bif (decide (t68 < ((l.length : Nat) : Int))) then ((0 : Int) ≤ t68) ∧ (t68 < ((l.length : Nat) : Int)) ∧ (((0 : Int) ≤ t68) ∧ (t68 < ((left_5.length : Nat) : Int)) ∧ ((bif (!(left_5.getD (0 + (Int.toNat t68)) false)) then ((0 : Int) ≤ t68) ∧ (t68 < ((amounts_9.length : Nat) : Int)) ∧ ((out_1.length = out_1.length) ∧ ((out_1.length + 1) * 56 ≤ 70368744177664) ∧ ((out_1.length + 1) ≤ 70368744177664) ∧ (wK K .normal ({ tm := [sv 3 (.row 0 1 0 amounts_9.length), sv 4 (.row 1 1 0 left_5.length), sv 11 (.row 2 7 0 (out_1.length + 1)), sv 66 (.c (.sl 7 l.length (lsEl eGNet zGNet l))), sv 67 (i64 ((l.length : Nat) : Int)), sv 68 (i64 (w64 (t68 + (1 : Int))))], hp := [(0, some (.row 3 1 amounts_9.length (lsEl eI64 (0 : Int) amounts_9))), (1, some (.row 4 1 left_5.length (lsEl eBool false left_5))), (2, some (.row 28 7 (out_1.length + 1) (fun i => bif Nat.blt i out_1.length then (lsEl eGNet zGNet out_1) i else (fun i => (litE 7 (eGNet (GNet.s_Amount (l.getD (Int.toNat t68) zGNet) (amounts_9.getD (0 + (Int.toNat t68)) (0 : Int))))) (0 + i)) (i - out_1.length))))], nx := 3 }))) else wK K .normal (z17l3S amounts_8 left_4 l (amounts_9, left_5, out_1, (w64 (t68 + (1 : Int)))))))) else wK K (.exit 4) ({ tm := [sv 3 (.row 0 1 0 amounts_9.length), sv 4 (.row 1 1 0 left_5.length), sv 11 (.row 2 7 0 out_1.length), sv 66 (.c (.sl 7 l.length (lsEl eGNet zGNet l))), sv 67 (i64 ((l.length : Nat) : Int)), sv 68 (i64 t68)], hp := [(0, some (.row 3 1 amounts_9.length (lsEl eI64 (0 : Int) amounts_9))), (1, some (.row 4 1 left_5.length (lsEl eBool false left_5))), (2, some (.row 28 7 out_1.length (lsEl eGNet zGNet out_1)))], nx := 3 }))) (fun K => by kernel_rfl) (W_bif h (fun _ h => (W_gd2 h fun hp0 h => (W_gd2 h fun hp1 h => (W_bif h (fun _ h => (W_gd2 h fun hp2 h => ⟨rfl, (W_gd2 h fun hp3 h => ⟨(z17l3S amounts_8 left_4 l (amounts_9, left_5, (out_1 ++ ([(GNet.s_Amount (l.getD (Int.toNat t68) zGNet) (amounts_9.getD (0 + (Int.toNat t68)) (0 : Int)))] : List GNet)), (w64 (t68 + (1 : Int))))), (.of (.q rfl (.q rfl (.cons rfl (.rown (len_app rfl rfl)) (.q rfl (.q rfl (.q rfl .nil)))))) (.same rfl (.same rfl (.row rfl (RowIs.app (RowIs.ls eGNet zGNet out_1) (RowIs.zero (RowIs.l1 (enc := eGNet) (z := zGNet) 7 (GNet.s_Amount (l.getD (Int.toNat t68) zGNet) (amounts_9.getD (0 + (Int.toNat t68)) (0 : Int))) rfl))) .nil rfl))) rfl), h⟩)⟩)) (fun _ h => ⟨_, .refl _, h⟩))))) (fun _ h => ⟨(z17l3C0 amounts_8 left_4 l out_1), (.cn [11]), h⟩)))
noncomputable def conversion_Convert_l3 (amounts_8 : (List Int)) (left_4 : (List Bool)) (l : (List GNet)) (s : ((List Int) × (List Bool) × (List GNet) × Int)) : Option (((List Int) × (List Bool) × (List GNet) × Int) ⊕ (((List GNet)))) := match s with | (amounts_9, left_5, out_1, t68) => conversion_Convert_p2 amounts_9 left_5 out_1 l t68
theorem z17l3ok (amounts_8 : (List Int)) (left_4 : (List Bool)) (l : (List GNet)) (s : ((List Int) × (List Bool) × (List GNet) × Int)) : Pp Try.prog 89 (List.drop 0 z17i3) (z17l3S amounts_8 left_4 l s) (conversion_Convert_l3 amounts_8 left_4 l s) (nextE (z17l3S amounts_8 left_4 l) (z17l3E amounts_8 left_4 l)) := fun K h => match s, h with | (amounts_9, left_5, out_1, t68), h => (z17p2ok amounts_9 left_5 out_1 l t68 amounts_8 left_4 _ h)
theorem z17l3Ethen (amounts_8 : (List Int)) (left_4 : (List Bool)) (l : (List GNet)) : ∀ (r : (((List GNet)))) (J : St → Prop) (K : KT), z17l3E amounts_8 left_4 l r K → z17l3E amounts_8 left_4 l r (thenK J K)
  | s, _, _, h => h
def z17p3S (out_3 : (List GNet)) : St := { tm := [sv 11 (.row 0 7 0 out_3.length)], hp := [(0, some (.row 28 7 out_3.length (lsEl eGNet zGNet out_3)))], nx := 1 }
noncomputable def conversion_Convert_p3 (out_3 : (List GNet)) : Option ((List GNet)) := (some out_3)
theorem z17p3ok (out_3 : (List GNet)) (K : KT) (h : W (conversion_Convert_p3 out_3) (rE z17R K)) : EvL Try.prog 89 (List.drop 10 z17i0) K (z17p3S out_3) :=
  EvL.pE mixed (lookC_ok (l := []) trivial) [2] 10 2 (.nf (X := fun K => wK K .ret (z17R out_3)) (fun K => by kernel_rfl) (⟨_, .refl _, h⟩))
def z17p4S (amounts_8 : (List Int)) (left_4 : (List Bool)) (l : (List GNet)) : St := { tm := [sv 3 (.row 0 1 0 amounts_8.length), sv 4 (.row 1 1 0 left_4.length), sv 11 (.c .nil), sv 66 (.c (.sl 7 l.length (lsEl eGNet zGNet l))), sv 67 (i64 ((l.length : Nat) : Int)), sv 68 (i64 (0 : Int))], hp := [(0, some (.row 3 1 amounts_8.length (lsEl eI64 (0 : Int) amounts_8))), (1, some (.row 4 1 left_4.length (lsEl eBool false left_4)))], nx := 2 }
noncomputable def conversion_Convert_p4_g (amounts_8 : (List Int)) (left_4 : (List Bool)) (l : (List GNet)) (r : (((List GNet)))) : Option ((List GNet)) := match r with | out_2 => (conversion_Convert_p3 out_2)
noncomputable def conversion_Convert_p4 (amounts_8 : (List Int)) (left_4 : (List Bool)) (l : (List GNet)) : Option ((List GNet)) := (fixL (conversion_Convert_l3 amounts_8 left_4 l) (amounts_8, left_4, ([] : List GNet), (0 : Int))).bind (conversion_Convert_p4_g amounts_8 left_4 l)
theorem z17p4at : List.drop 9 z17i0 = .block 4 (.loop (inside (inside (nthI z17i0 9)))) :: List.drop 10 z17i0 := by kernel_rfl
theorem z17p4k (amounts_8 : (List Int)) (left_4 : (List Bool)) (l : (List GNet)) (K : KT) : ∀ r : (((List GNet))), W (conversion_Convert_p4_g amounts_8 left_4 l r) (rE z17R K) → z17l3E amounts_8 left_4 l r (wK (blockK 4 (thenK (EvL Try.prog 89 (List.drop 10 z17i0) K) K)))
  | out_2, h => ⟨(z17p3S out_2), (.refl _), (z17p3ok out_2 _ h)⟩
theorem z17p4ok (amounts_8 : (List Int)) (left_4 : (List Bool)) (l : (List GNet)) (K : KT) (h : W (conversion_Convert_p4 amounts_8 left_4 l) (rE z17R K)) : EvL Try.prog 89 (List.drop 9 z17i0) K (z17p4S amounts_8 left_4 l) :=
  EvL.at_ z17p4at (EvL.cons_loop (EvOk.weak (EvOk.ent (.trans (.nilrow 11 2 28 7 (lsEl eGNet zGNet []) (Nat.le_of_ble_eq_true rfl) rfl) (.cn [3, 4, 11, 66, 67, 68])) (EvOk.loopF (x := inside (inside (nthI z17i0 9))) (f := conversion_Convert_l3 amounts_8 left_4 l) (emb := z17l3S amounts_8 left_4 l) (E := z17l3E amounts_8 left_4 l) (z17l3ok amounts_8 left_4 l) (z17l3Ethen amounts_8 left_4 l) (W_loop h (z17p4k amounts_8 left_4 l K))))))
def z17p5S (l : (List GNet)) (amounts_7 : (List Int)) (left_3 : (List Bool)) : St := { tm := [sv 0 (.c (.sl 7 l.length (lsEl eGNet zGNet l))), sv 3 (.row 0 1 0 amounts_7.length), sv 4 (.row 1 1 0 left_3.length)], hp := [(0, some (.row 3 1 amounts_7.length (lsEl eI64 (0 : Int) amounts_7))), (1, some (.row 4 1 left_3.length (lsEl eBool false left_3)))], nx := 2 }
noncomputable def conversion_Convert_p5 (l : (List GNet)) (amounts_7 : (List Int)) (left_3 : (List Bool)) : Option ((List GNet)) := (conversion_Convert_p4 amounts_7 left_3 l)
theorem z17p5ok (l : (List GNet)) (amounts_7 : (List Int)) (left_3 : (List Bool)) (K : KT) (h : W (conversion_Convert_p5 l amounts_7 left_3) (rE z17R K)) : EvL Try.prog 89 (List.drop 7 z17i0) K (z17p5S l amounts_7 left_3) :=
  EvL.pD mixed (lookC_ok (l := []) trivial) [3, 4, 11, 66, 67, 68] 7 2 9 (.nf (X := fun K => wK K .normal (z17p4S amounts_7 left_3 l)) (fun K => by kernel_rfl) (⟨_, .refl _, (z17p4ok amounts_7 left_3 l _ h)⟩))
def z17p6S (l : (List GNet)) (amounts_5 : (List Int)) (left : (List Bool)) : St := { tm := [sv 0 (.c (.sl 7 l.length (lsEl eGNet zGNet l))), sv 3 (.row 0 1 0 amounts_5.length), sv 4 (.row 1 1 0 left.length), sv 33 (.c (.sl 7 l.length (lsEl eGNet zGNet l))), sv 34 (i64 ((l.length : Nat) : Int)), sv 35 (i64 (0 : Int))], hp := [(0, some (.row 3 1 amounts_5.length (lsEl eI64 (0 : Int) amounts_5))), (1, some (.row 4 1 left.length (lsEl eBool false left)))], nx := 2 }
noncomputable def conversion_Convert_p6_g (l : (List GNet)) (amounts_5 : (List Int)) (left : (List Bool)) (r : (((List Int) × (List Bool)))) : Option ((List GNet)) := match r with | (amounts_6, left_2) => (conversion_Convert_p5 l amounts_6 left_2)
noncomputable def conversion_Convert_p6 (l : (List GNet)) (amounts_5 : (List Int)) (left : (List Bool)) : Option ((List GNet)) := (fixL (conversion_Convert_l2 l amounts_5 left) (amounts_5, left, (0 : Int))).bind (conversion_Convert_p6_g l amounts_5 left)
theorem z17p6at : List.drop 6 z17i0 = .block 2 (.loop (inside (inside (nthI z17i0 6)))) :: List.drop 7 z17i0 := by kernel_rfl
theorem z17p6k (l : (List GNet)) (amounts_5 : (List Int)) (left : (List Bool)) (K : KT) : ∀ r : (((List Int) × (List Bool))), W (conversion_Convert_p6_g l amounts_5 left r) (rE z17R K) → z17l2E l amounts_5 left r (wK (blockK 2 (thenK (EvL Try.prog 89 (List.drop 7 z17i0) K) K)))
  | (amounts_6, left_2), h => ⟨(z17p5S l amounts_6 left_2), (.refl _), (z17p5ok l amounts_6 left_2 _ h)⟩
theorem z17p6ok (l : (List GNet)) (amounts_5 : (List Int)) (left : (List Bool)) (K : KT) (h : W (conversion_Convert_p6 l amounts_5 left) (rE z17R K)) : EvL Try.prog 89 (List.drop 6 z17i0) K (z17p6S l amounts_5 left) :=
  EvL.at_ z17p6at (EvL.cons_loop (EvOk.weak (EvOk.ent (.refl _) (EvOk.loopF (x := inside (inside (nthI z17i0 6))) (f := conversion_Convert_l2 l amounts_5 left) (emb := z17l2S l amounts_5 left) (E := z17l2E l amounts_5 left) (z17l2ok l amounts_5 left) (z17l2Ethen l amounts_5 left) (W_loop h (z17p6k l amounts_5 left K))))))
def z17p7S (l : (List GNet)) (amounts_3 : (List Int)) (left : (List Bool)) : St := { tm := [sv 0 (.c (.sl 7 l.length (lsEl eGNet zGNet l))), sv 3 (.row 0 1 0 amounts_3.length), sv 4 (.row 1 1 0 left.length)], hp := [(0, some (.row 3 1 amounts_3.length (lsEl eI64 (0 : Int) amounts_3))), (1, some (.row 4 1 left.length (lsEl eBool false left)))], nx := 2 }
noncomputable def conversion_Convert_p7 (l : (List GNet)) (amounts_3 : (List Int)) (left : (List Bool)) : Option ((List GNet)) := (conversion_Convert_p6 l amounts_3 left)
theorem z17p7ok (l : (List GNet)) (amounts_3 : (List Int)) (left : (List Bool)) (K : KT) (h : W (conversion_Convert_p7 l amounts_3 left) (rE z17R K)) : EvL Try.prog 89 (List.drop 5 z17i0) K (z17p7S l amounts_3 left) :=
  EvL.pD mixed (lookC_ok (l := []) trivial) [0, 3, 4, 33, 34, 35] 5 1 6 (.nf (X := fun K => wK K .normal (z17p6S l amounts_3 left)) (fun K => by kernel_rfl) (⟨_, .refl _, (z17p6ok l amounts_3 left _ h)⟩))
def z17p8S (l : (List GNet)) (amounts : (List Int)) (left : (List Bool)) : St := { tm := [sv 0 (.c (.sl 7 l.length (lsEl eGNet zGNet l))), sv 3 (.row 0 1 0 amounts.length), sv 4 (.row 1 1 0 left.length), sv 20 (.c (.sl 7 l.length (lsEl eGNet zGNet l))), sv 21 (i64 ((l.length : Nat) : Int)), sv 22 (i64 (0 : Int))], hp := [(0, some (.row 3 1 amounts.length (lsEl eI64 (0 : Int) amounts))), (1, some (.row 4 1 left.length (lsEl eBool false left)))], nx := 2 }
noncomputable def conversion_Convert_p8_g (l : (List GNet)) (amounts : (List Int)) (left : (List Bool)) (r : (((List Int)))) : Option ((List GNet)) := match r with | amounts_2 => (conversion_Convert_p7 l amounts_2 left)
noncomputable def conversion_Convert_p8 (l : (List GNet)) (amounts : (List Int)) (left : (List Bool)) : Option ((List GNet)) := (fixL (conversion_Convert_l1 l amounts left) (amounts, (0 : Int))).bind (conversion_Convert_p8_g l amounts left)
theorem z17p8at : List.drop 4 z17i0 = .block 0 (.loop (inside (inside (nthI z17i0 4)))) :: List.drop 5 z17i0 := by kernel_rfl
theorem z17p8k (l : (List GNet)) (amounts : (List Int)) (left : (List Bool)) (K : KT) : ∀ r : (((List Int))), W (conversion_Convert_p8_g l amounts left r) (rE z17R K) → z17l1E l amounts left r (wK (blockK 0 (thenK (EvL Try.prog 89 (List.drop 5 z17i0) K) K)))
  | amounts_2, h => ⟨(z17p7S l amounts_2 left), (.refl _), (z17p7ok l amounts_2 left _ h)⟩
theorem z17p8ok (l : (List GNet)) (amounts : (List Int)) (left : (List Bool)) (K : KT) (h : W (conversion_Convert_p8 l amounts left) (rE z17R K)) : EvL Try.prog 89 (List.drop 4 z17i0) K (z17p8S l amounts left) :=
  EvL.at_ z17p8at (EvL.cons_loop (EvOk.weak (EvOk.ent (.refl _) (EvOk.loopF (x := inside (inside (nthI z17i0 4))) (f := conversion_Convert_l1 l amounts left) (emb := z17l1S l amounts left) (E := z17l1E l amounts left) (z17l1ok l amounts left) (z17l1Ethen l amounts left) (W_loop h (z17p8k l amounts left K))))))
def z17p9S (l : (List GNet)) : St := { tm := [sv 0 (.c (.sl 7 l.length (lsEl eGNet zGNet l)))], hp := [], nx := 0 }
noncomputable def conversion_Convert_p9 (l : (List GNet)) : Option ((List GNet)) := gd ((0 : Int) ≤ ((l.length : Nat) : Int) ∧ ((l.length : Nat) : Int) ≤ ((l.length : Nat) : Int) ∧ ((l.length : Nat) : Int) * 8 ≤ (70368744177664 : Int)) (gd ((0 : Int) ≤ ((l.length : Nat) : Int) ∧ ((l.length : Nat) : Int) ≤ ((l.length : Nat) : Int) ∧ ((l.length : Nat) : Int) * 1 ≤ (70368744177664 : Int)) ((conversion_Convert_p8 l (List.replicate l.length (0 : Int)) (List.replicate l.length false))))
theorem z17p9ok (l : (List GNet)) (K : KT) (h : W (conversion_Convert_p9 l) (rE z17R K)) : EvL Try.prog 89 (List.drop 0 z17i0) K (z17p9S l) :=
  EvL.pD mixed (lookC_ok (l := []) trivial) [0, 3, 4, 20, 21, 22] 0 4 4 (.nf (X := fun K => ((0 : Int) ≤ ((l.length : Nat) : Int)) ∧ (((l.length : Nat) : Int) ≤ ((l.length : Nat) : Int)) ∧ (((l.length : Nat) : Int) * 8 ≤ (70368744177664 : Int)) ∧ (((0 : Int) ≤ ((l.length : Nat) : Int)) ∧ (((l.length : Nat) : Int) ≤ ((l.length : Nat) : Int)) ∧ (((l.length : Nat) : Int) * 1 ≤ (70368744177664 : Int)) ∧ (wK K .normal ({ tm := [sv 0 (.c (.sl 7 l.length (lsEl eGNet zGNet l))), sv 3 (.row 0 1 0 l.length), sv 4 (.row 1 1 0 l.length), sv 20 (.c (.sl 7 l.length (lsEl eGNet zGNet l))), sv 21 (i64 ((l.length : Nat) : Int)), sv 22 (i64 (0 : Int))], hp := [(0, some (.row 3 1 l.length (fun _ => [(di (0 : Int))]))), (1, some (.row 4 1 l.length (fun _ => [(db false)])))], nx := 2 })))) (fun K => by kernel_rfl) (W_gd3 h fun hp0 h => (W_gd3 h fun hp1 h => ⟨(z17p8S l (List.replicate l.length (0 : Int)) (List.replicate l.length false)), (.of (.q rfl (.cons rfl (.rown len_rep) (.cons rfl (.rown len_rep) (.q rfl (.q rfl (.q rfl .nil)))))) (.row rfl (RowIs.rep (0 : Int) rfl l.length) (.row rfl (RowIs.rep false rfl l.length) .nil rfl) rfl) rfl), (z17p8ok l (List.replicate l.length (0 : Int)) (List.replicate l.length false) _ h)⟩)))
noncomputable def conversion_Convert (l : (List GNet)) : Option ((List GNet)) := conversion_Convert_p9 l
theorem z17run (l : (List GNet)) (y_ : (List GNet)) (h : conversion_Convert l = some y_) : EvL Try.prog 89 (items (bodyOf Try.f17)) (retK Try.prog [.tmp 2] (OutOk (conversion_Convert_out y_))) (z17p9S l) :=
  z17p9ok l _ (W_iff.2 ⟨y_, h, z17Rok y_⟩)
noncomputable def conversion_Convert_C : Con
  | [(.c (.sl k1 n2 e3))] => some ([LstOk eGNet dGNet 7 k1 n2 e3, (conversion_Convert (lst dGNet n2 e3)).isSome = true], (conversion_Convert_out ((conversion_Convert (lst dGNet n2 e3)).getD ([] : List GNet))))
  | _ => none
theorem conversion_Convert_ok : Meets Try.prog 17 conversion_Convert_C := by
  refine meets_fun (fn := Try.f17) (c := bodyOf Try.f17) (by kernel_rfl) (by kernel_rfl) (by kernel_rfl) (rs := [.tmp 2]) (by kernel_rfl) (nt := 89) (by kernel_rfl) fun vs p out h hp => ?_
  unfold conversion_Convert_C at h
  split at h
  · next k1 n2 e3 =>
    cases h
    obtain ⟨g0, hp⟩ := allq hp
    obtain ⟨g, hp⟩ := allq hp
    obtain ⟨x, hx⟩ := Option.isSome_iff_exists.1 g
    rw [hx]
    exact ⟨[(.c (.sl 7 ((lst dGNet n2 e3)).length (lsEl eGNet zGNet (lst dGNet n2 e3))))], (VLes.cons (VLe.slk g0.1 (RowIs.of_ok g0)) VLes.nil), rfl, z17run (lst dGNet n2 e3) x hx⟩
  · cases h

end Go.Ax
