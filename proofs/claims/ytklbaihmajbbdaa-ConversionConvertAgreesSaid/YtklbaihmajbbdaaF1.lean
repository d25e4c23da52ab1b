import Derived.Test.YtklbaihmajbbdaaA6
import Derived.Test.YtklbaihmajbbdaaRows
/- Types of the program, and functions of it: printed by a program, checked by the kernel. -/
set_option linter.all false
set_option maxRecDepth 100000
namespace Go.Ax
open Go.Proofs Go.Proofs.Ytklbaihmajbbdaa
theorem mixed : Try.prog.follows .mixedOrders = true := by kernel_rfl
theorem dI64_eI64 (x : Int) : dI64 (eI64 x) = x := rfl
theorem scal_I64 (x : Int) (d : D) (h : d ∈ eI64 x) : d.scal = true := by
  simp only [eI64, List.mem_singleton] at h; subst h; rfl
theorem dU64_eU64 (x : Int) : dU64 (eU64 x) = x := rfl
theorem scal_U64 (x : Int) (d : D) (h : d ∈ eU64 x) : d.scal = true := by
  simp only [eU64, List.mem_singleton] at h; subst h; rfl
theorem dU8_eU8 (x : Int) : dU8 (eU8 x) = x := rfl
theorem scal_U8 (x : Int) (d : D) (h : d ∈ eU8 x) : d.scal = true := by
  simp only [eU8, List.mem_singleton] at h; subst h; rfl
theorem dI32_eI32 (x : Int) : dI32 (eI32 x) = x := rfl
theorem scal_I32 (x : Int) (d : D) (h : d ∈ eI32 x) : d.scal = true := by
  simp only [eI32, List.mem_singleton] at h; subst h; rfl
theorem dU32_eU32 (x : Int) : dU32 (eU32 x) = x := rfl
theorem scal_U32 (x : Int) (d : D) (h : d ∈ eU32 x) : d.scal = true := by
  simp only [eU32, List.mem_singleton] at h; subst h; rfl
theorem dU16_eU16 (x : Int) : dU16 (eU16 x) = x := rfl
theorem scal_U16 (x : Int) (d : D) (h : d ∈ eU16 x) : d.scal = true := by
  simp only [eU16, List.mem_singleton] at h; subst h; rfl
theorem dI8_eI8 (x : Int) : dI8 (eI8 x) = x := rfl
theorem scal_I8 (x : Int) (d : D) (h : d ∈ eI8 x) : d.scal = true := by
  simp only [eI8, List.mem_singleton] at h; subst h; rfl
theorem dI16_eI16 (x : Int) : dI16 (eI16 x) = x := rfl
theorem scal_I16 (x : Int) (d : D) (h : d ∈ eI16 x) : d.scal = true := by
  simp only [eI16, List.mem_singleton] at h; subst h; rfl
theorem dBool_eBool (x : Bool) : dBool (eBool x) = x := rfl
theorem scal_Bool (x : Bool) (d : D) (h : d ∈ eBool x) : d.scal = true := by
  simp only [eBool, List.mem_singleton] at h; subst h; rfl
theorem dStr_eStr (x : ByteArray) : dStr (eStr x) = x := rfl
theorem scal_Str (x : ByteArray) (d : D) (h : d ∈ eStr x) : d.scal = true := by
  simp only [eStr, List.mem_singleton] at h; subst h; rfl
structure GNet where
  State : Int
  Benefit : Int
  Currency : Int
  Independent : Int
  ProRata : Int
  Deducted : Int
  Amount : Int
def zGNet : GNet := ⟨(0 : Int), (0 : Int), (0 : Int), (0 : Int), (0 : Int), (0 : Int), (0 : Int)⟩
def GNet.s_Amount (x : GNet) (v : Int) : GNet := ⟨x.State, x.Benefit, x.Currency, x.Independent, x.ProRata, x.Deducted, v⟩
def eGNet (x : GNet) : List D := [(di x.State), (di x.Benefit), (di x.Currency), (di x.Independent), (di x.ProRata), (di x.Deducted), (di x.Amount)]
def dGNet : List D → GNet
  | [.lit (.int .i64 a1), .lit (.int .i64 a2), .lit (.int .i64 a3), .lit (.int .i64 a4), .lit (.int .i64 a5), .lit (.int .i64 a6), .lit (.int .i64 a7)] => (GNet.mk a1 a2 a3 a4 a5 a6 a7)
  | _ => zGNet
theorem dGNet_eGNet (x : GNet) : dGNet (eGNet x) = x := rfl
theorem scal_GNet (x : GNet) (d : D) (h : d ∈ eGNet x) : d.scal = true := by
  have : (eGNet x).all D.scal = true := rfl
  exact List.all_eq_true.1 this d h
structure GPensionlaw22_Raw where
  A : Int
  B : Int
  C : Int
  D : Int
def zGPensionlaw22_Raw : GPensionlaw22_Raw := ⟨(0 : Int), (0 : Int), (0 : Int), (0 : Int)⟩
def eGPensionlaw22_Raw (x : GPensionlaw22_Raw) : List D := [(di x.A), (di x.B), (di x.C), (di x.D)]
def dGPensionlaw22_Raw : List D → GPensionlaw22_Raw
  | [.lit (.int .i64 a1), .lit (.int .i64 a2), .lit (.int .i64 a3), .lit (.int .i64 a4)] => (GPensionlaw22_Raw.mk a1 a2 a3 a4)
  | _ => zGPensionlaw22_Raw
theorem dGPensionlaw22_Raw_eGPensionlaw22_Raw (x : GPensionlaw22_Raw) : dGPensionlaw22_Raw (eGPensionlaw22_Raw x) = x := rfl
theorem scal_GPensionlaw22_Raw (x : GPensionlaw22_Raw) (d : D) (h : d ∈ eGPensionlaw22_Raw x) : d.scal = true := by
  have : (eGPensionlaw22_Raw x).all D.scal = true := rfl
  exact List.all_eq_true.1 this d h
structure GHeir where
  Person : Int
  Kind : Int
  Days : Int
def zGHeir : GHeir := ⟨(0 : Int), (0 : Int), (0 : Int)⟩
def eGHeir (x : GHeir) : List D := [(di x.Person), (di x.Kind), (di x.Days)]
def dGHeir : List D → GHeir
  | [.lit (.int .i64 a1), .lit (.int .i64 a2), .lit (.int .i64 a3)] => (GHeir.mk a1 a2 a3)
  | _ => zGHeir
theorem dGHeir_eGHeir (x : GHeir) : dGHeir (eGHeir x) = x := rfl
theorem scal_GHeir (x : GHeir) (d : D) (h : d ∈ eGHeir x) : d.scal = true := by
  have : (eGHeir x).all D.scal = true := rfl
  exact List.all_eq_true.1 this d h
structure GRational_wide where
  hi : Int
  lo : Int
def zGRational_wide : GRational_wide := ⟨(0 : Int), (0 : Int)⟩
def eGRational_wide (x : GRational_wide) : List D := [(.lit (.int .u64 x.hi)), (.lit (.int .u64 x.lo))]
def dGRational_wide : List D → GRational_wide
  | [.lit (.int .u64 a1), .lit (.int .u64 a2)] => (GRational_wide.mk a1 a2)
  | _ => zGRational_wide
theorem dGRational_wide_eGRational_wide (x : GRational_wide) : dGRational_wide (eGRational_wide x) = x := rfl
theorem scal_GRational_wide (x : GRational_wide) (d : D) (h : d ∈ eGRational_wide x) : d.scal = true := by
  have : (eGRational_wide x).all D.scal = true := rfl
  exact List.all_eq_true.1 this d h
structure GFraction where
  Num : Int
  Den : Int
def zGFraction : GFraction := ⟨(0 : Int), (0 : Int)⟩
def eGFraction (x : GFraction) : List D := [(di x.Num), (di x.Den)]
def dGFraction : List D → GFraction
  | [.lit (.int .i64 a1), .lit (.int .i64 a2)] => (GFraction.mk a1 a2)
  | _ => zGFraction
theorem dGFraction_eGFraction (x : GFraction) : dGFraction (eGFraction x) = x := rfl
theorem scal_GFraction (x : GFraction) (d : D) (h : d ∈ eGFraction x) : d.scal = true := by
  have : (eGFraction x).all D.scal = true := rfl
  exact List.all_eq_true.1 this d h
structure GPart where
  Person : Int
  Amount : Int
def zGPart : GPart := ⟨(0 : Int), (0 : Int)⟩
def GPart.s_Amount (x : GPart) (v : Int) : GPart := ⟨x.Person, v⟩
def eGPart (x : GPart) : List D := [(di x.Person), (di x.Amount)]
def dGPart : List D → GPart
  | [.lit (.int .i64 a1), .lit (.int .i64 a2)] => (GPart.mk a1 a2)
  | _ => zGPart
theorem dGPart_eGPart (x : GPart) : dGPart (eGPart x) = x := rfl
theorem scal_GPart (x : GPart) (d : D) (h : d ∈ eGPart x) : d.scal = true := by
  have : (eGPart x).all D.scal = true := rfl
  exact List.all_eq_true.1 this d h
structure GConversion_remainder where
  at_ : Int
  num : Int
  den : Int
def zGConversion_remainder : GConversion_remainder := ⟨(0 : Int), (0 : Int), (0 : Int)⟩
def eGConversion_remainder (x : GConversion_remainder) : List D := [(di x.at_), (di x.num), (di x.den)]
def dGConversion_remainder : List D → GConversion_remainder
  | [.lit (.int .i64 a1), .lit (.int .i64 a2), .lit (.int .i64 a3)] => (GConversion_remainder.mk a1 a2 a3)
  | _ => zGConversion_remainder
theorem dGConversion_remainder_eGConversion_remainder (x : GConversion_remainder) : dGConversion_remainder (eGConversion_remainder x) = x := rfl
theorem scal_GConversion_remainder (x : GConversion_remainder) (d : D) (h : d ∈ eGConversion_remainder x) : d.scal = true := by
  have : (eGConversion_remainder x).all D.scal = true := rfl
  exact List.all_eq_true.1 this d h
structure GPensionref1_wide where
  hi : Int
  lo : Int
def zGPensionref1_wide : GPensionref1_wide := ⟨(0 : Int), (0 : Int)⟩
def eGPensionref1_wide (x : GPensionref1_wide) : List D := [(.lit (.int .u64 x.hi)), (.lit (.int .u64 x.lo))]
def dGPensionref1_wide : List D → GPensionref1_wide
  | [.lit (.int .u64 a1), .lit (.int .u64 a2)] => (GPensionref1_wide.mk a1 a2)
  | _ => zGPensionref1_wide
theorem dGPensionref1_wide_eGPensionref1_wide (x : GPensionref1_wide) : dGPensionref1_wide (eGPensionref1_wide x) = x := rfl
theorem scal_GPensionref1_wide (x : GPensionref1_wide) (d : D) (h : d ∈ eGPensionref1_wide x) : d.scal = true := by
  have : (eGPensionref1_wide x).all D.scal = true := rfl
  exact List.all_eq_true.1 this d h

noncomputable def z21i0 : List Code := items (bodyOf Try.f21)
def plain_Mod_out (x_1 : Int) : Out := .data (i64 x_1)
def z21R (x_1 : Int) : St := { tm := [sv 4 (i64 x_1)], hp := [], nx := 0 }
theorem z21Rok (x_1 : Int) : retK Try.prog [.tmp 4] (OutOk (plain_Mod_out x_1)) .ret (z21R x_1) :=
  retK.intro (v := (i64 x_1)) (by kernel_rfl) ((VLe.rfl' _))
def z21p0S (n m : Int) : St := { tm := [sv 0 (i64 n), sv 1 (i64 m)], hp := [], nx := 0 }
noncomputable def plain_Mod_p0 (n m : Int) : Option (Int) := gd (m ≠ (0 : Int)) ((bif (decide ((Int.tmod n m) < (0 : Int))) then (some (w64 ((Int.tmod n m) + m))) else (some (Int.tmod n m))))
theorem z21p0ok (n m : Int) (K : KT) (h : W (plain_Mod_p0 n m) (rE z21R K)) : EvL Try.prog 15 (List.drop 0 z21i0) K (z21p0S n m) :=
  EvL.pE mixed (lookC_ok (l := []) trivial) [4] 0 6 (.nf (X := fun K => (m ≠ (0 : Int)) ∧ ((bif (decide ((Int.tmod n m) < (0 : Int))) then wK K .ret (z21R (w64 ((Int.tmod n m) + m))) else wK K .ret (z21R (Int.tmod n m))))) (fun K => by kernel_rfl) (W_gd h fun hp0 h => (W_bif h (fun _ h => ⟨_, .refl _, h⟩) (fun _ h => ⟨_, .refl _, h⟩))))
noncomputable def plain_Mod (n m : Int) : Option (Int) := plain_Mod_p0 n m
theorem z21run (n m : Int) (y_ : Int) (h : plain_Mod n m = some y_) : EvL Try.prog 15 (items (bodyOf Try.f21)) (retK Try.prog [.tmp 4] (OutOk (plain_Mod_out y_))) (z21p0S n m) :=
  z21p0ok n m _ (W_iff.2 ⟨y_, h, z21Rok y_⟩)
noncomputable def plain_Mod_C : Con
  | [(.c (.lit (.int .i64 a1))), (.c (.lit (.int .i64 a2)))] => some ([(plain_Mod a1 a2).isSome = true], (plain_Mod_out ((plain_Mod a1 a2).getD (0 : Int))))
  | _ => none
theorem plain_Mod_ok : Meets Try.prog 21 plain_Mod_C := by
  refine meets_fun (fn := Try.f21) (c := bodyOf Try.f21) (by kernel_rfl) (by kernel_rfl) (by kernel_rfl) (rs := [.tmp 4]) (by kernel_rfl) (nt := 15) (by kernel_rfl) fun vs p out h hp => ?_
  unfold plain_Mod_C at h
  split at h
  · next a1 a2 =>
    cases h
    obtain ⟨g, hp⟩ := allq hp
    obtain ⟨x, hx⟩ := Option.isSome_iff_exists.1 g
    rw [hx]
    exact ⟨[(i64 a1), (i64 a2)], (VLes.cons (VLe.rfl' _) (VLes.cons (VLe.rfl' _) VLes.nil)), rfl, z21run a1 a2 x hx⟩
  · cases h

noncomputable def z23i0 : List Code := items (bodyOf Try.f23)
def plain_Amount_out (x_1 : Int) : Out := .data (i64 x_1)
def z23R (x_1 : Int) : St := { tm := [sv 2 (i64 x_1)], hp := [], nx := 0 }
theorem z23Rok (x_1 : Int) : retK Try.prog [.tmp 2] (OutOk (plain_Amount_out x_1)) .ret (z23R x_1) :=
  retK.intro (v := (i64 x_1)) (by kernel_rfl) ((VLe.rfl' _))
def z23p0S (n : Int) : St := { tm := [sv 0 (i64 n)], hp := [], nx := 0 }
noncomputable def plain_Amount_p0 (n : Int) : Option (Int) := (plain_Mod n (8 : Int)).bind fun r_1 => ((bif (r_1 == (0 : Int)) then (some (0 : Int)) else (bif (r_1 == (1 : Int)) then (plain_Mod (w64 (Int.tdiv n (8 : Int))) (1000 : Int)).bind fun r_2 => ((some (w64 ((1000000000000 : Int) - r_2)))) else (bif (r_1 == (2 : Int)) then (plain_Mod (w64 (Int.tdiv n (8 : Int))) (1000000000001 : Int)).bind fun r_3 => ((some r_3)) else (plain_Mod (w64 (Int.tdiv n (8 : Int))) (5000 : Int)).bind fun r_4 => ((some r_4))))))
theorem z23p0ok (n : Int) (K : KT) (h : W (plain_Amount_p0 n) (rE z23R K)) : EvL Try.prog 21 (List.drop 0 z23i0) K (z23p0S n) :=
  EvL.pE mixed (lookC_ok (l := [(21, .pure plain_Mod_C)]) ⟨plain_Mod_ok, trivial⟩) [2] 0 5 (.nf (X := fun K => ((plain_Mod n (8 : Int)).isSome = true) ∧ ((bif (((plain_Mod n (8 : Int)).getD (0 : Int)) == (0 : Int)) then wK K .ret (z23R (0 : Int)) else (bif (((plain_Mod n (8 : Int)).getD (0 : Int)) == (1 : Int)) then ((8 : Int) ≠ (0 : Int)) ∧ ((plain_Mod (w64 (Int.tdiv n (8 : Int))) (1000 : Int)).isSome = true) ∧ (wK K .ret (z23R (w64 ((1000000000000 : Int) - ((plain_Mod (w64 (Int.tdiv n (8 : Int))) (1000 : Int)).getD (0 : Int)))))) else (bif (((plain_Mod n (8 : Int)).getD (0 : Int)) == (2 : Int)) then ((8 : Int) ≠ (0 : Int)) ∧ ((plain_Mod (w64 (Int.tdiv n (8 : Int))) (1000000000001 : Int)).isSome = true) ∧ (wK K .ret (z23R ((plain_Mod (w64 (Int.tdiv n (8 : Int))) (1000000000001 : Int)).getD (0 : Int)))) else ((8 : Int) ≠ (0 : Int)) ∧ ((plain_Mod (w64 (Int.tdiv n (8 : Int))) (5000 : Int)).isSome = true) ∧ (wK K .ret (z23R ((plain_Mod (w64 (Int.tdiv n (8 : Int))) (5000 : Int)).getD (0 : Int))))))))) (fun K => by kernel_rfl) (W_bind (0 : Int) h fun hp0 h => (W_bif h (fun _ h => ⟨_, .refl _, h⟩) (fun _ h => (W_bif h (fun _ h => ⟨(by decide), (W_bind (0 : Int) h fun hp1 h => ⟨_, .refl _, h⟩)⟩) (fun _ h => (W_bif h (fun _ h => ⟨(by decide), (W_bind (0 : Int) h fun hp2 h => ⟨_, .refl _, h⟩)⟩) (fun _ h => ⟨(by decide), (W_bind (0 : Int) h fun hp3 h => ⟨_, .refl _, h⟩)⟩))))))))
noncomputable def plain_Amount (n : Int) : Option (Int) := plain_Amount_p0 n
theorem z23run (n : Int) (y_ : Int) (h : plain_Amount n = some y_) : EvL Try.prog 21 (items (bodyOf Try.f23)) (retK Try.prog [.tmp 2] (OutOk (plain_Amount_out y_))) (z23p0S n) :=
  z23p0ok n _ (W_iff.2 ⟨y_, h, z23Rok y_⟩)
noncomputable def plain_Amount_C : Con
  | [(.c (.lit (.int .i64 a1)))] => some ([(plain_Amount a1).isSome = true], (plain_Amount_out ((plain_Amount a1).getD (0 : Int))))
  | _ => none
theorem plain_Amount_ok : Meets Try.prog 23 plain_Amount_C := by
  refine meets_fun (fn := Try.f23) (c := bodyOf Try.f23) (by kernel_rfl) (by kernel_rfl) (by kernel_rfl) (rs := [.tmp 2]) (by kernel_rfl) (nt := 21) (by kernel_rfl) fun vs p out h hp => ?_
  unfold plain_Amount_C at h
  split at h
  · next a1 =>
    cases h
    obtain ⟨g, hp⟩ := allq hp
    obtain ⟨x, hx⟩ := Option.isSome_iff_exists.1 g
    rw [hx]
    exact ⟨[(i64 a1)], (VLes.cons (VLe.rfl' _) VLes.nil), rfl, z23run a1 x hx⟩
  · cases h

noncomputable def z14i0 : List Code := items (bodyOf Try.f14)
noncomputable def z14i1 : List Code := items (inside (inside (nthI z14i0 3)))
noncomputable def z14i2 : List Code := items (inside (nthI z14i1 2))
noncomputable def z14i3 : List Code := items (inside (inside (nthI z14i2 5)))
def law22_Nets_out (x_1 : (List GNet)) : Out := .own true 28 7 (x_1).length (lsEl eGNet zGNet x_1)
def z14R (x_1 : (List GNet)) : St := { tm := [sv 4 (.row 0 7 0 x_1.length)], hp := [(0, some (.row 28 7 x_1.length (lsEl eGNet zGNet x_1)))], nx := 1 }
theorem z14Rok (x_1 : (List GNet)) : retK Try.prog [.tmp 4] (OutOk (law22_Nets_out x_1)) .ret (z14R x_1) :=
  retK.intro (v := (.row 0 7 0 x_1.length)) (by kernel_rfl) (⟨_, _, _, rfl, rfl, rfl, fun _ _ => rfl, fun _ i hi d hd => scal_GNet _ d hd⟩)
def z14l1S (l : (List GPensionlaw22_Raw)) (unique : Bool) (s : ((List GNet) × Int)) : St := match s with | (out_2, i_1) => { tm := [sv 0 (.c (.sl 4 l.length (lsEl eGPensionlaw22_Raw zGPensionlaw22_Raw l))), sv 1 (bl unique), sv 5 (.row 0 7 0 out_2.length), sv 6 (i64 i_1)], hp := [(0, some (.row 28 7 out_2.length (lsEl eGNet zGNet out_2)))], nx := 1 }
def z14l1C0 (l : (List GPensionlaw22_Raw)) (unique : Bool) (s : (List GNet)) : St := match s with | out_4 => { tm := [sv 5 (.row 0 7 0 out_4.length)], hp := [(0, some (.row 28 7 out_4.length (lsEl eGNet zGNet out_4)))], nx := 1 }
def z14l1E (l : (List GPensionlaw22_Raw)) (unique : Bool) (r : (((List GNet)))) (K : KT) : Prop := match r with | s => K (.exit 0) (z14l1C0 l unique s)
def z14l2S (l : (List GPensionlaw22_Raw)) (unique : Bool) (out_8 : (List GNet)) (i_5 : Int) (n : GNet) (s : ((List GNet) × Int × Bool × Int)) : St := match s with | (out_9, i_6, twice, k) => { tm := [sv 0 (.c (.sl 4 l.length (lsEl eGPensionlaw22_Raw zGPensionlaw22_Raw l))), sv 1 (bl unique), sv 5 (.row 0 7 0 out_9.length), sv 6 (i64 i_6), sv 7 (.ptr 1 7 0 0), sv 8 (bl twice), sv 9 (i64 k)], hp := [(0, some (.row 28 7 out_9.length (lsEl eGNet zGNet out_9))), (1, some (.box [(i64 n.State), (i64 n.Benefit), (i64 n.Currency), (i64 n.Independent), (i64 n.ProRata), (i64 n.Deducted), (i64 n.Amount)]))], nx := 2 }
def z14l2C0 (l : (List GPensionlaw22_Raw)) (unique : Bool) (out_8 : (List GNet)) (i_5 : Int) (n : GNet) (s : (List GNet) × Int × Bool) : St := match s with | (out_10, i_7, twice_1) => { tm := [sv 0 (.c (.sl 4 l.length (lsEl eGPensionlaw22_Raw zGPensionlaw22_Raw l))), sv 1 (bl unique), sv 5 (.row 0 7 0 out_10.length), sv 6 (i64 i_7), sv 7 (.ptr 1 7 0 0), sv 8 (bl twice_1)], hp := [(0, some (.row 28 7 out_10.length (lsEl eGNet zGNet out_10))), (1, some (.box [(i64 n.State), (i64 n.Benefit), (i64 n.Currency), (i64 n.Independent), (i64 n.ProRata), (i64 n.Deducted), (i64 n.Amount)]))], nx := 2 }
def z14l2E (l : (List GPensionlaw22_Raw)) (unique : Bool) (out_8 : (List GNet)) (i_5 : Int) (n : GNet) (r : (((List GNet) × Int × Bool))) (K : KT) : Prop := match r with | s => K (.exit 2) (z14l2C0 l unique out_8 i_5 n s)
def z14p0S (l : (List GPensionlaw22_Raw)) (unique : Bool) (out_9 : (List GNet)) (i_6 : Int) (twice : Bool) (k : Int) (n : GNet) : St := { tm := [sv 0 (.c (.sl 4 l.length (lsEl eGPensionlaw22_Raw zGPensionlaw22_Raw l))), sv 1 (bl unique), sv 5 (.row 0 7 0 out_9.length), sv 6 (i64 i_6), sv 7 (.ptr 1 7 0 0), sv 8 (bl twice), sv 9 (i64 k)], hp := [(0, some (.row 28 7 out_9.length (lsEl eGNet zGNet out_9))), (1, some (.box [(i64 n.State), (i64 n.Benefit), (i64 n.Currency), (i64 n.Independent), (i64 n.ProRata), (i64 n.Deducted), (i64 n.Amount)]))], nx := 2 }
noncomputable def law22_Nets_p0 (l : (List GPensionlaw22_Raw)) (unique : Bool) (out_9 : (List GNet)) (i_6 : Int) (twice : Bool) (k : Int) (n : GNet) : Option (((List GNet) × Int × Bool × Int) ⊕ (((List GNet) × Int × Bool))) := (bif (decide (k < ((out_9.length : Nat) : Int))) then gd (((!twice) && true) = true → (0 : Int) ≤ k) (gd (((!twice) && true) = true → k < ((out_9.length : Nat) : Int)) (gd ((((out_9.getD (0 + (Int.toNat k)) zGNet).State == n.State) && ((!twice) && true)) = true → (0 : Int) ≤ k) (gd ((((out_9.getD (0 + (Int.toNat k)) zGNet).State == n.State) && ((!twice) && true)) = true → k < ((out_9.length : Nat) : Int)) ((some (Sum.inl (out_9, i_6, (bif twice then true else (bif ((out_9.getD (0 + (Int.toNat k)) zGNet).State == n.State) then ((out_9.getD (0 + (Int.toNat k)) zGNet).Benefit == n.Benefit) else false)), (w64 (k + (1 : Int)))))))))) else (some (Sum.inr (out_9, i_6, twice))))
theorem z14p0ok (l : (List GPensionlaw22_Raw)) (unique : Bool) (out_9 : (List GNet)) (i_6 : Int) (twice : Bool) (k : Int) (n : GNet) (out_8 : (List GNet)) (i_5 : Int) (K : KT) (h : W (law22_Nets_p0 l unique out_9 i_6 twice k n) (nE (z14l2S l unique out_8 i_5 n) (z14l2E l unique out_8 i_5 n) K)) : EvL Try.prog 101 (List.drop 0 z14i3) K (z14p0S l unique out_9 i_6 twice k n) :=
  EvL.pE mixed (lookC_ok (l := []) trivial) [0, 1, 5, 6, 7, 8, 9, 15, 16, 17, 71, 72, 73, 74, 75, 76, 77, 78, 79, 80, 81, 82, 83, 84, 85, 86, 87, 88, 93, 94] 0 4 (.nf (X := fun K => (bif (decide (k < ((out_9.length : Nat) : Int))) then (((!twice) && true) = true → (0 : Int) ≤ k) ∧ (((!twice) && true) = true → k < ((out_9.length : Nat) : Int)) ∧ ((((out_9.getD (0 + (Int.toNat k)) zGNet).State == n.State) && ((!twice) && true)) = true → (0 : Int) ≤ k) ∧ ((((out_9.getD (0 + (Int.toNat k)) zGNet).State == n.State) && ((!twice) && true)) = true → k < ((out_9.length : Nat) : Int)) ∧ (wK K .normal ({ tm := [sv 0 (.c (.sl 4 l.length (lsEl eGPensionlaw22_Raw zGPensionlaw22_Raw l))), sv 1 (bl unique), sv 5 (.row 0 7 0 out_9.length), sv 6 (i64 i_6), sv 7 (.ptr 1 7 0 0), sv 8 (bl (bif twice then true else (bif ((out_9.getD (0 + (Int.toNat k)) zGNet).State == n.State) then ((out_9.getD (0 + (Int.toNat k)) zGNet).Benefit == n.Benefit) else false))), sv 9 (i64 (w64 (k + (1 : Int)))), sv 71 (.c .unk), sv 72 (.c .unk), sv 73 (.c .unk), sv 74 (.c .unk), sv 75 (.c .unk), sv 76 (.c .unk), sv 77 (.c .unk), sv 78 (.c .unk), sv 79 (.c .unk), sv 80 (.c .unk), sv 81 (.c .unk), sv 82 (.c .unk), sv 83 (.c .unk), sv 84 (.c .unk), sv 85 (.c .unk), sv 86 (.c .unk), sv 87 (.c .unk), sv 88 (.c .unk)], hp := [(0, some (.row 28 7 out_9.length (lsEl eGNet zGNet out_9))), (1, some (.box [(i64 n.State), (i64 n.Benefit), (i64 n.Currency), (i64 n.Independent), (i64 n.ProRata), (i64 n.Deducted), (i64 n.Amount)]))], nx := 2 })) else wK K (.exit 2) ({ tm := [sv 0 (.c (.sl 4 l.length (lsEl eGPensionlaw22_Raw zGPensionlaw22_Raw l))), sv 1 (bl unique), sv 5 (.row 0 7 0 out_9.length), sv 6 (i64 i_6), sv 7 (.ptr 1 7 0 0), sv 8 (bl twice), sv 9 (i64 k)], hp := [(0, some (.row 28 7 out_9.length (lsEl eGNet zGNet out_9))), (1, some (.box [(i64 n.State), (i64 n.Benefit), (i64 n.Currency), (i64 n.Independent), (i64 n.ProRata), (i64 n.Deducted), (i64 n.Amount)]))], nx := 2 }))) (fun K => by kernel_rfl) (W_bif h (fun _ h => (W_gd h fun hp0 h => (W_gd h fun hp1 h => (W_gd h fun hp2 h => (W_gd h fun hp3 h => ⟨(z14l2S l unique out_8 i_5 n (out_9, i_6, (bif twice then true else (bif ((out_9.getD (0 + (Int.toNat k)) zGNet).State == n.State) then ((out_9.getD (0 + (Int.toNat k)) zGNet).Benefit == n.Benefit) else false)), (w64 (k + (1 : Int))))), (.of (.q rfl (.q rfl (.q rfl (.q rfl (.q rfl (.q rfl (.q rfl .nil))))))) (.same rfl (.same rfl .nil)) rfl), h⟩))))) (fun _ h => ⟨(z14l2C0 l unique out_8 i_5 n (out_9, i_6, twice)), (.of (.q rfl (.q rfl (.q rfl (.q rfl (.q rfl (.q rfl .nil)))))) (.same rfl (.same rfl .nil)) rfl), h⟩)))
noncomputable def law22_Nets_l2 (l : (List GPensionlaw22_Raw)) (unique : Bool) (out_8 : (List GNet)) (i_5 : Int) (n : GNet) (s : ((List GNet) × Int × Bool × Int)) : Option (((List GNet) × Int × Bool × Int) ⊕ (((List GNet) × Int × Bool))) := match s with | (out_9, i_6, twice, k) => law22_Nets_p0 l unique out_9 i_6 twice k n
theorem z14l2ok (l : (List GPensionlaw22_Raw)) (unique : Bool) (out_8 : (List GNet)) (i_5 : Int) (n : GNet) (s : ((List GNet) × Int × Bool × Int)) : Pp Try.prog 101 (List.drop 0 z14i3) (z14l2S l unique out_8 i_5 n s) (law22_Nets_l2 l unique out_8 i_5 n s) (nextE (z14l2S l unique out_8 i_5 n) (z14l2E l unique out_8 i_5 n)) := fun K h => match s, h with | (out_9, i_6, twice, k), h => (z14p0ok l unique out_9 i_6 twice k n out_8 i_5 _ h)
theorem z14l2Ethen (l : (List GPensionlaw22_Raw)) (unique : Bool) (out_8 : (List GNet)) (i_5 : Int) (n : GNet) : ∀ (r : (((List GNet) × Int × Bool))) (J : St → Prop) (K : KT), z14l2E l unique out_8 i_5 n r K → z14l2E l unique out_8 i_5 n r (thenK J K)
  | s, _, _, h => h
def z14p1S (l : (List GPensionlaw22_Raw)) (unique : Bool) (out_1 : (List GNet)) (i_9 : Int) : St := { tm := [sv 0 (.c (.sl 4 l.length (lsEl eGPensionlaw22_Raw zGPensionlaw22_Raw l))), sv 1 (bl unique), sv 5 (.row 0 7 0 out_1.length), sv 6 (i64 i_9)], hp := [(0, some (.row 28 7 out_1.length (lsEl eGNet zGNet out_1)))], nx := 1 }
noncomputable def law22_Nets_p1 (l : (List GPensionlaw22_Raw)) (unique : Bool) (out_1 : (List GNet)) (i_9 : Int) : Option (((List GNet) × Int) ⊕ (((List GNet)))) := (some (Sum.inl (out_1, (w64 (i_9 + (1 : Int))))))
theorem z14p1ok (l : (List GPensionlaw22_Raw)) (unique : Bool) (out_1 : (List GNet)) (i_9 : Int) (K : KT) (h : W (law22_Nets_p1 l unique out_1 i_9) (nE (z14l1S l unique) (z14l1E l unique) K)) : EvL Try.prog 101 (List.drop 3 z14i1) K (z14p1S l unique out_1 i_9) :=
  EvL.pE mixed (lookC_ok (l := []) trivial) [0, 1, 5, 6, 15, 16, 17, 71, 72, 73, 74, 75, 76, 77, 78, 79, 80, 81, 82, 83, 84, 85, 86, 87, 88, 93, 94] 3 1 (.nf (X := fun K => wK K .normal (z14l1S l unique (out_1, (w64 (i_9 + (1 : Int)))))) (fun K => by kernel_rfl) (⟨_, .refl _, h⟩))
def z14p2S (l : (List GPensionlaw22_Raw)) (unique : Bool) (out_11 : (List GNet)) (i_8 : Int) (twice_2 : Bool) (n : GNet) : St := { tm := [sv 0 (.c (.sl 4 l.length (lsEl eGPensionlaw22_Raw zGPensionlaw22_Raw l))), sv 1 (bl unique), sv 5 (.row 0 7 0 out_11.length), sv 6 (i64 i_8), sv 7 (.ptr 1 7 0 0), sv 8 (bl twice_2)], hp := [(0, some (.row 28 7 out_11.length (lsEl eGNet zGNet out_11))), (1, some (.box [(i64 n.State), (i64 n.Benefit), (i64 n.Currency), (i64 n.Independent), (i64 n.ProRata), (i64 n.Deducted), (i64 n.Amount)]))], nx := 2 }
noncomputable def law22_Nets_p2 (l : (List GPensionlaw22_Raw)) (unique : Bool) (out_11 : (List GNet)) (i_8 : Int) (twice_2 : Bool) (n : GNet) : Option (((List GNet) × Int) ⊕ (((List GNet)))) := (bif (bif (!unique) then true else (!twice_2)) then gd (capB (out_11.length + 1) 56) ((law22_Nets_p1 l unique (out_11 ++ ([n] : List GNet)) i_8)) else (law22_Nets_p1 l unique out_11 i_8))
theorem z14p2ok (l : (List GPensionlaw22_Raw)) (unique : Bool) (out_11 : (List GNet)) (i_8 : Int) (twice_2 : Bool) (n : GNet) (K : KT) (h : W (law22_Nets_p2 l unique out_11 i_8 twice_2 n) (nE (z14l1S l unique) (z14l1E l unique) K)) : EvL Try.prog 101 (List.drop 6 z14i2) (blockK 1 (thenK (EvL Try.prog 101 (List.drop 3 z14i1) K) K)) (z14p2S l unique out_11 i_8 twice_2 n) :=
  EvL.pE mixed (lookC_ok (l := []) trivial) [0, 1, 5, 6, 15, 16, 17, 71, 72, 73, 74, 75, 76, 77, 78, 79, 80, 81, 82, 83, 84, 85, 86, 87, 88, 93, 94] 6 2 (.nf (X := fun K => (bif (bif (!unique) then true else (!twice_2)) then (out_11.length = out_11.length) ∧ ((out_11.length + 1) * 56 ≤ 140737488355328) ∧ ((out_11.length + 1) ≤ 140737488355328) ∧ (wK K .normal ({ tm := [sv 0 (.c (.sl 4 l.length (lsEl eGPensionlaw22_Raw zGPensionlaw22_Raw l))), sv 1 (bl unique), sv 5 (.row 0 7 0 (out_11.length + 1)), sv 6 (i64 i_8), sv 93 (.c .unk), sv 94 (.c .unk)], hp := [(0, some (.row 28 7 (out_11.length + 1) (fun i => bif Nat.blt i out_11.length then (lsEl eGNet zGNet out_11) i else (fun i => (litE 7 (eGNet n)) (0 + i)) (i - out_11.length))))], nx := 1 })) else wK K .normal ({ tm := [sv 0 (.c (.sl 4 l.length (lsEl eGPensionlaw22_Raw zGPensionlaw22_Raw l))), sv 1 (bl unique), sv 5 (.row 0 7 0 out_11.length), sv 6 (i64 i_8), sv 93 (.c .unk), sv 94 (.c .unk)], hp := [(0, some (.row 28 7 out_11.length (lsEl eGNet zGNet out_11)))], nx := 1 }))) (fun K => by kernel_rfl) (W_bif h (fun _ h => ⟨rfl, (W_gd2 h fun hp0 h => ⟨(z14p1S l unique (out_11 ++ ([n] : List GNet)) i_8), (.of (.q rfl (.q rfl (.cons rfl (.rown (len_app rfl rfl)) (.q rfl .nil)))) (.row rfl (RowIs.app (RowIs.ls eGNet zGNet out_11) (RowIs.zero (RowIs.l1 (enc := eGNet) (z := zGNet) 7 n rfl))) .nil rfl) rfl), (z14p1ok l unique (out_11 ++ ([n] : List GNet)) i_8 _ h)⟩)⟩) (fun _ h => ⟨(z14p1S l unique out_11 i_8), (.of (.q rfl (.q rfl (.q rfl (.q rfl .nil)))) (.same rfl .nil) rfl), (z14p1ok l unique out_11 i_8 _ h)⟩)))
def z14p3S (l : (List GPensionlaw22_Raw)) (unique : Bool) (out_8 : (List GNet)) (i_5 : Int) (n : GNet) : St := { tm := [sv 0 (.c (.sl 4 l.length (lsEl eGPensionlaw22_Raw zGPensionlaw22_Raw l))), sv 1 (bl unique), sv 5 (.row 0 7 0 out_8.length), sv 6 (i64 i_5), sv 7 (.ptr 1 7 0 0), sv 8 (bl false), sv 9 (i64 (0 : Int))], hp := [(0, some (.row 28 7 out_8.length (lsEl eGNet zGNet out_8))), (1, some (.box [(i64 n.State), (i64 n.Benefit), (i64 n.Currency), (i64 n.Independent), (i64 n.ProRata), (i64 n.Deducted), (i64 n.Amount)]))], nx := 2 }
noncomputable def law22_Nets_p3_g (l : (List GPensionlaw22_Raw)) (unique : Bool) (out_8 : (List GNet)) (i_5 : Int) (n : GNet) (r : (((List GNet) × Int × Bool))) : Option (((List GNet) × Int) ⊕ (((List GNet)))) := match r with | (out_10, i_7, twice_1) => (law22_Nets_p2 l unique out_10 i_7 twice_1 n)
noncomputable def law22_Nets_p3 (l : (List GPensionlaw22_Raw)) (unique : Bool) (out_8 : (List GNet)) (i_5 : Int) (n : GNet) : Option (((List GNet) × Int) ⊕ (((List GNet)))) := (fixL (law22_Nets_l2 l unique out_8 i_5 n) (out_8, i_5, false, (0 : Int))).bind (law22_Nets_p3_g l unique out_8 i_5 n)
theorem z14p3at : List.drop 5 z14i2 = .block 2 (.loop (inside (inside (nthI z14i2 5)))) :: List.drop 6 z14i2 := by kernel_rfl
theorem z14p3k (l : (List GPensionlaw22_Raw)) (unique : Bool) (out_8 : (List GNet)) (i_5 : Int) (n : GNet) (K : KT) : ∀ r : (((List GNet) × Int × Bool)), W (law22_Nets_p3_g l unique out_8 i_5 n r) (nE (z14l1S l unique) (z14l1E l unique) K) → z14l2E l unique out_8 i_5 n r (wK (blockK 2 (thenK (EvL Try.prog 101 (List.drop 6 z14i2) (blockK 1 (thenK (EvL Try.prog 101 (List.drop 3 z14i1) K) K))) (blockK 1 (thenK (EvL Try.prog 101 (List.drop 3 z14i1) K) K)))))
  | (out_10, i_7, twice_1), h => ⟨(z14p2S l unique out_10 i_7 twice_1 n), (.refl _), (z14p2ok l unique out_10 i_7 twice_1 n _ h)⟩
theorem z14p3ok (l : (List GPensionlaw22_Raw)) (unique : Bool) (out_8 : (List GNet)) (i_5 : Int) (n : GNet) (K : KT) (h : W (law22_Nets_p3 l unique out_8 i_5 n) (nE (z14l1S l unique) (z14l1E l unique) K)) : EvL Try.prog 101 (List.drop 5 z14i2) (blockK 1 (thenK (EvL Try.prog 101 (List.drop 3 z14i1) K) K)) (z14p3S l unique out_8 i_5 n) :=
  EvL.at_ z14p3at (EvL.cons_loop (EvOk.weak (EvOk.ent (.refl _) (EvOk.loopF (x := inside (inside (nthI z14i2 5))) (f := law22_Nets_l2 l unique out_8 i_5 n) (emb := z14l2S l unique out_8 i_5 n) (E := z14l2E l unique out_8 i_5 n) (z14l2ok l unique out_8 i_5 n) (z14l2Ethen l unique out_8 i_5 n) (W_loop h (z14p3k l unique out_8 i_5 n K))))))
def z14p4S (l : (List GPensionlaw22_Raw)) (unique : Bool) (out_7 : (List GNet)) (i_4 : Int) (n : GNet) : St := { tm := [sv 0 (.c (.sl 4 l.length (lsEl eGPensionlaw22_Raw zGPensionlaw22_Raw l))), sv 1 (bl unique), sv 5 (.row 0 7 0 out_7.length), sv 6 (i64 i_4), sv 7 (.ptr 1 7 0 0)], hp := [(0, some (.row 28 7 out_7.length (lsEl eGNet zGNet out_7))), (1, some (.box [(i64 n.State), (i64 n.Benefit), (i64 n.Currency), (i64 n.Independent), (i64 n.ProRata), (i64 n.Deducted), (i64 n.Amount)]))], nx := 2 }
noncomputable def law22_Nets_p4 (l : (List GPensionlaw22_Raw)) (unique : Bool) (out_7 : (List GNet)) (i_4 : Int) (n : GNet) : Option (((List GNet) × Int) ⊕ (((List GNet)))) := (law22_Nets_p3 l unique out_7 i_4 n)
theorem z14p4ok (l : (List GPensionlaw22_Raw)) (unique : Bool) (out_7 : (List GNet)) (i_4 : Int) (n : GNet) (K : KT) (h : W (law22_Nets_p4 l unique out_7 i_4 n) (nE (z14l1S l unique) (z14l1E l unique) K)) : EvL Try.prog 101 (List.drop 3 z14i2) (blockK 1 (thenK (EvL Try.prog 101 (List.drop 3 z14i1) K) K)) (z14p4S l unique out_7 i_4 n) :=
  EvL.pD mixed (lookC_ok (l := []) trivial) [0, 1, 5, 6, 7, 8, 9, 15, 16, 17, 71, 72, 73, 74, 75, 76, 77, 78, 79, 80, 81, 82, 83, 84, 85, 86, 87, 88, 93, 94] 3 2 5 (.nf (X := fun K => wK K .normal (z14p3S l unique out_7 i_4 n)) (fun K => by kernel_rfl) (⟨_, .refl _, (z14p3ok l unique out_7 i_4 n _ h)⟩))
def z14p5S (l : (List GPensionlaw22_Raw)) (unique : Bool) (out_5 : (List GNet)) (i_3 : Int) : St := { tm := [sv 0 (.c (.sl 4 l.length (lsEl eGPensionlaw22_Raw zGPensionlaw22_Raw l))), sv 1 (bl unique), sv 5 (.row 0 7 0 out_5.length), sv 6 (i64 i_3)], hp := [(0, some (.row 28 7 out_5.length (lsEl eGNet zGNet out_5)))], nx := 1 }
noncomputable def law22_Nets_p5 (l : (List GPensionlaw22_Raw)) (unique : Bool) (out_5 : (List GNet)) (i_3 : Int) : Option (((List GNet) × Int) ⊕ (((List GNet)))) := gd ((0 : Int) ≤ i_3 ∧ i_3 < ((l.length : Nat) : Int)) ((plain_Mod ((l.getD (Int.toNat i_3) zGPensionlaw22_Raw).A) (4 : Int)).bind fun r_1 => (gd ((0 : Int) ≤ i_3 ∧ i_3 < ((l.length : Nat) : Int)) ((plain_Mod ((l.getD (Int.toNat i_3) zGPensionlaw22_Raw).B) (3 : Int)).bind fun r_2 => (gd ((0 : Int) ≤ i_3 ∧ i_3 < ((l.length : Nat) : Int)) ((plain_Mod ((l.getD (Int.toNat i_3) zGPensionlaw22_Raw).A) (4 : Int)).bind fun r_3 => (gd ((0 : Int) ≤ i_3 ∧ i_3 < ((l.length : Nat) : Int)) ((plain_Amount ((l.getD (Int.toNat i_3) zGPensionlaw22_Raw).C)).bind fun r_4 => (gd ((0 : Int) ≤ i_3 ∧ i_3 < ((l.length : Nat) : Int)) ((plain_Mod ((l.getD (Int.toNat i_3) zGPensionlaw22_Raw).D) (100 : Int)).bind fun r_5 => (gd ((0 : Int) ≤ i_3 ∧ i_3 < ((l.length : Nat) : Int)) ((plain_Mod ((l.getD (Int.toNat i_3) zGPensionlaw22_Raw).D) (9 : Int)).bind fun r_6 => ((bif (r_6 == (8 : Int)) then (law22_Nets_p4 l unique out_5 i_3 (GNet.mk r_1 (w64 ((1 : Int) + r_2)) (3 : Int) (0 : Int) (0 : Int) r_5 r_4)) else (law22_Nets_p4 l unique out_5 i_3 (GNet.mk r_1 (w64 ((1 : Int) + r_2)) (w64 ((1 : Int) + (Int.tmod r_3 (2 : Int)))) (0 : Int) (0 : Int) r_5 r_4)))))))))))))))
theorem z14p5ok (l : (List GPensionlaw22_Raw)) (unique : Bool) (out_5 : (List GNet)) (i_3 : Int) (K : KT) (h : W (law22_Nets_p5 l unique out_5 i_3) (nE (z14l1S l unique) (z14l1E l unique) K)) : EvL Try.prog 101 (List.drop 0 z14i2) (blockK 1 (thenK (EvL Try.prog 101 (List.drop 3 z14i1) K) K)) (z14p5S l unique out_5 i_3) :=
  EvL.pD mixed (lookC_ok (l := [(21, .pure plain_Mod_C), (23, .pure plain_Amount_C)]) ⟨plain_Mod_ok, plain_Amount_ok, trivial⟩) [0, 1, 5, 6, 7, 15, 16, 17, 71, 72, 73, 74, 75, 76, 77, 78, 79, 80, 81, 82, 83, 84, 85, 86, 87, 88, 93, 94] 0 3 3 (.nf (X := fun K => ((0 : Int) ≤ i_3) ∧ (i_3 < ((l.length : Nat) : Int)) ∧ ((plain_Mod ((l.getD (Int.toNat i_3) zGPensionlaw22_Raw).A) (4 : Int)).isSome = true) ∧ ((0 : Int) ≤ i_3) ∧ (i_3 < ((l.length : Nat) : Int)) ∧ ((plain_Mod ((l.getD (Int.toNat i_3) zGPensionlaw22_Raw).B) (3 : Int)).isSome = true) ∧ ((0 : Int) ≤ i_3) ∧ (i_3 < ((l.length : Nat) : Int)) ∧ ((plain_Mod ((l.getD (Int.toNat i_3) zGPensionlaw22_Raw).A) (4 : Int)).isSome = true) ∧ ((2 : Int) ≠ (0 : Int)) ∧ ((0 : Int) ≤ i_3) ∧ (i_3 < ((l.length : Nat) : Int)) ∧ ((plain_Amount ((l.getD (Int.toNat i_3) zGPensionlaw22_Raw).C)).isSome = true) ∧ ((0 : Int) ≤ i_3) ∧ (i_3 < ((l.length : Nat) : Int)) ∧ ((plain_Mod ((l.getD (Int.toNat i_3) zGPensionlaw22_Raw).D) (100 : Int)).isSome = true) ∧ (((0 : Int) ≤ i_3) ∧ (i_3 < ((l.length : Nat) : Int)) ∧ ((plain_Mod ((l.getD (Int.toNat i_3) zGPensionlaw22_Raw).D) (9 : Int)).isSome = true) ∧ ((bif (((plain_Mod ((l.getD (Int.toNat i_3) zGPensionlaw22_Raw).D) (9 : Int)).getD (0 : Int)) == (8 : Int)) then wK K .normal (z14p4S l unique out_5 i_3 (GNet.mk ((plain_Mod ((l.getD (Int.toNat i_3) zGPensionlaw22_Raw).A) (4 : Int)).getD (0 : Int)) (w64 ((1 : Int) + ((plain_Mod ((l.getD (Int.toNat i_3) zGPensionlaw22_Raw).B) (3 : Int)).getD (0 : Int)))) (3 : Int) (0 : Int) (0 : Int) ((plain_Mod ((l.getD (Int.toNat i_3) zGPensionlaw22_Raw).D) (100 : Int)).getD (0 : Int)) ((plain_Amount ((l.getD (Int.toNat i_3) zGPensionlaw22_Raw).C)).getD (0 : Int)))) else wK K .normal (z14p4S l unique out_5 i_3 (GNet.mk ((plain_Mod ((l.getD (Int.toNat i_3) zGPensionlaw22_Raw).A) (4 : Int)).getD (0 : Int)) (w64 ((1 : Int) + ((plain_Mod ((l.getD (Int.toNat i_3) zGPensionlaw22_Raw).B) (3 : Int)).getD (0 : Int)))) (w64 ((1 : Int) + (Int.tmod ((plain_Mod ((l.getD (Int.toNat i_3) zGPensionlaw22_Raw).A) (4 : Int)).getD (0 : Int)) (2 : Int)))) (0 : Int) (0 : Int) ((plain_Mod ((l.getD (Int.toNat i_3) zGPensionlaw22_Raw).D) (100 : Int)).getD (0 : Int)) ((plain_Amount ((l.getD (Int.toNat i_3) zGPensionlaw22_Raw).C)).getD (0 : Int)))))))) (fun K => by kernel_rfl) (W_gd2 h fun hp0 h => (W_bind (0 : Int) h fun hp1 h => (W_gd2 h fun hp2 h => (W_bind (0 : Int) h fun hp3 h => (W_gd2 h fun hp4 h => (W_bind (0 : Int) h fun hp5 h => ⟨(by decide), (W_gd2 h fun hp6 h => (W_bind (0 : Int) h fun hp7 h => (W_gd2 h fun hp8 h => (W_bind (0 : Int) h fun hp9 h => (W_gd2 h fun hp10 h => (W_bind (0 : Int) h fun hp11 h => (W_bif h (fun _ h => ⟨_, .refl _, (z14p4ok l unique out_5 i_3 (GNet.mk ((plain_Mod (l.getD (Int.toNat i_3) zGPensionlaw22_Raw).A (4 : Int)).getD (0 : Int)) (w64 ((1 : Int) + ((plain_Mod (l.getD (Int.toNat i_3) zGPensionlaw22_Raw).B (3 : Int)).getD (0 : Int)))) (3 : Int) (0 : Int) (0 : Int) ((plain_Mod (l.getD (Int.toNat i_3) zGPensionlaw22_Raw).D (100 : Int)).getD (0 : Int)) ((plain_Amount (l.getD (Int.toNat i_3) zGPensionlaw22_Raw).C).getD (0 : Int))) _ h)⟩) (fun _ h => ⟨_, .refl _, (z14p4ok l unique out_5 i_3 (GNet.mk ((plain_Mod (l.getD (Int.toNat i_3) zGPensionlaw22_Raw).A (4 : Int)).getD (0 : Int)) (w64 ((1 : Int) + ((plain_Mod (l.getD (Int.toNat i_3) zGPensionlaw22_Raw).B (3 : Int)).getD (0 : Int)))) (w64 ((1 : Int) + (Int.tmod ((plain_Mod (l.getD (Int.toNat i_3) zGPensionlaw22_Raw).A (4 : Int)).getD (0 : Int)) (2 : Int)))) (0 : Int) (0 : Int) ((plain_Mod (l.getD (Int.toNat i_3) zGPensionlaw22_Raw).D (100 : Int)).getD (0 : Int)) ((plain_Amount (l.getD (Int.toNat i_3) zGPensionlaw22_Raw).C).getD (0 : Int))) _ h)⟩))))))))⟩)))))))
def z14p6S (l : (List GPensionlaw22_Raw)) (unique : Bool) (out_3 : (List GNet)) (i_2 : Int) : St := { tm := [sv 0 (.c (.sl 4 l.length (lsEl eGPensionlaw22_Raw zGPensionlaw22_Raw l))), sv 1 (bl unique), sv 5 (.row 0 7 0 out_3.length), sv 6 (i64 i_2)], hp := [(0, some (.row 28 7 out_3.length (lsEl eGNet zGNet out_3)))], nx := 1 }
noncomputable def law22_Nets_p6 (l : (List GPensionlaw22_Raw)) (unique : Bool) (out_3 : (List GNet)) (i_2 : Int) : Option (((List GNet) × Int) ⊕ (((List GNet)))) := (law22_Nets_p5 l unique out_3 i_2)
theorem z14p6at : List.drop 2 z14i1 = .block 1 (inside (nthI z14i1 2)) :: List.drop 3 z14i1 := by kernel_rfl
theorem z14p6ok (l : (List GPensionlaw22_Raw)) (unique : Bool) (out_3 : (List GNet)) (i_2 : Int) (K : KT) (h : W (law22_Nets_p6 l unique out_3 i_2) (nE (z14l1S l unique) (z14l1E l unique) K)) : EvL Try.prog 101 (List.drop 2 z14i1) K (z14p6S l unique out_3 i_2) :=
  EvL.at_ z14p6at (EvL.cons_block (EvL.ent (.refl _) (z14p5ok l unique out_3 i_2 _ h)))
def z14p7S (l : (List GPensionlaw22_Raw)) (unique : Bool) (out_2 : (List GNet)) (i_1 : Int) : St := { tm := [sv 0 (.c (.sl 4 l.length (lsEl eGPensionlaw22_Raw zGPensionlaw22_Raw l))), sv 1 (bl unique), sv 5 (.row 0 7 0 out_2.length), sv 6 (i64 i_1)], hp := [(0, some (.row 28 7 out_2.length (lsEl eGNet zGNet out_2)))], nx := 1 }
noncomputable def law22_Nets_p7 (l : (List GPensionlaw22_Raw)) (unique : Bool) (out_2 : (List GNet)) (i_1 : Int) : Option (((List GNet) × Int) ⊕ (((List GNet)))) := (bif (bif (decide (i_1 < ((l.length : Nat) : Int))) then (decide (((out_2.length : Nat) : Int) < (10 : Int))) else false) then (law22_Nets_p6 l unique out_2 i_1) else (some (Sum.inr out_2)))
theorem z14p7ok (l : (List GPensionlaw22_Raw)) (unique : Bool) (out_2 : (List GNet)) (i_1 : Int) (K : KT) (h : W (law22_Nets_p7 l unique out_2 i_1) (nE (z14l1S l unique) (z14l1E l unique) K)) : EvL Try.prog 101 (List.drop 0 z14i1) K (z14p7S l unique out_2 i_1) :=
  EvL.pD mixed (lookC_ok (l := []) trivial) [0, 1, 5, 6, 15, 16, 17, 71, 72, 73, 74, 75, 76, 77, 78, 79, 80, 81, 82, 83, 84, 85, 86, 87, 88, 93, 94] 0 2 2 (.nf (X := fun K => (bif (bif (decide (i_1 < ((l.length : Nat) : Int))) then (decide (((out_2.length : Nat) : Int) < (10 : Int))) else false) then wK K .normal ({ tm := [sv 0 (.c (.sl 4 l.length (lsEl eGPensionlaw22_Raw zGPensionlaw22_Raw l))), sv 1 (bl unique), sv 5 (.row 0 7 0 out_2.length), sv 6 (i64 i_1), sv 15 (.c .unk), sv 16 (.c .unk), sv 17 (.c .unk)], hp := [(0, some (.row 28 7 out_2.length (lsEl eGNet zGNet out_2)))], nx := 1 }) else wK K (.exit 0) ({ tm := [sv 0 (.c (.sl 4 l.length (lsEl eGPensionlaw22_Raw zGPensionlaw22_Raw l))), sv 1 (bl unique), sv 5 (.row 0 7 0 out_2.length), sv 6 (i64 i_1), sv 15 (.c .unk), sv 16 (.c .unk), sv 17 (.c .unk)], hp := [(0, some (.row 28 7 out_2.length (lsEl eGNet zGNet out_2)))], nx := 1 }))) (fun K => by kernel_rfl) (W_bif h (fun _ h => ⟨(z14p6S l unique out_2 i_1), (.of (.q rfl (.q rfl (.q rfl (.q rfl .nil)))) (.same rfl .nil) rfl), (z14p6ok l unique out_2 i_1 _ h)⟩) (fun _ h => ⟨(z14l1C0 l unique out_2), (.of (.q rfl .nil) (.same rfl .nil) rfl), h⟩)))
noncomputable def law22_Nets_l1 (l : (List GPensionlaw22_Raw)) (unique : Bool) (s : ((List GNet) × Int)) : Option (((List GNet) × Int) ⊕ (((List GNet)))) := match s with | (out_2, i_1) => law22_Nets_p7 l unique out_2 i_1
theorem z14l1ok (l : (List GPensionlaw22_Raw)) (unique : Bool) (s : ((List GNet) × Int)) : Pp Try.prog 101 (List.drop 0 z14i1) (z14l1S l unique s) (law22_Nets_l1 l unique s) (nextE (z14l1S l unique) (z14l1E l unique)) := fun K h => match s, h with | (out_2, i_1), h => (z14p7ok l unique out_2 i_1 _ h)
theorem z14l1Ethen (l : (List GPensionlaw22_Raw)) (unique : Bool) : ∀ (r : (((List GNet)))) (J : St → Prop) (K : KT), z14l1E l unique r K → z14l1E l unique r (thenK J K)
  | s, _, _, h => h
def z14p8S (out_6 : (List GNet)) : St := { tm := [sv 5 (.row 0 7 0 out_6.length)], hp := [(0, some (.row 28 7 out_6.length (lsEl eGNet zGNet out_6)))], nx := 1 }
noncomputable def law22_Nets_p8 (out_6 : (List GNet)) : Option ((List GNet)) := (some out_6)
theorem z14p8ok (out_6 : (List GNet)) (K : KT) (h : W (law22_Nets_p8 out_6) (rE z14R K)) : EvL Try.prog 101 (List.drop 4 z14i0) K (z14p8S out_6) :=
  EvL.pE mixed (lookC_ok (l := []) trivial) [4] 4 2 (.nf (X := fun K => wK K .ret (z14R out_6)) (fun K => by kernel_rfl) (⟨_, .refl _, h⟩))
def z14p9S (l : (List GPensionlaw22_Raw)) (unique : Bool) : St := { tm := [sv 0 (.c (.sl 4 l.length (lsEl eGPensionlaw22_Raw zGPensionlaw22_Raw l))), sv 1 (bl unique), sv 5 (.c .nil), sv 6 (i64 (0 : Int))], hp := [], nx := 0 }
noncomputable def law22_Nets_p9_g (l : (List GPensionlaw22_Raw)) (unique : Bool) (r : (((List GNet)))) : Option ((List GNet)) := match r with | out_4 => (law22_Nets_p8 out_4)
noncomputable def law22_Nets_p9 (l : (List GPensionlaw22_Raw)) (unique : Bool) : Option ((List GNet)) := (fixL (law22_Nets_l1 l unique) (([] : List GNet), (0 : Int))).bind (law22_Nets_p9_g l unique)
theorem z14p9at : List.drop 3 z14i0 = .block 0 (.loop (inside (inside (nthI z14i0 3)))) :: List.drop 4 z14i0 := by kernel_rfl
theorem z14p9k (l : (List GPensionlaw22_Raw)) (unique : Bool) (K : KT) : ∀ r : (((List GNet))), W (law22_Nets_p9_g l unique r) (rE z14R K) → z14l1E l unique r (wK (blockK 0 (thenK (EvL Try.prog 101 (List.drop 4 z14i0) K) K)))
  | out_4, h => ⟨(z14p8S out_4), (.refl _), (z14p8ok out_4 _ h)⟩
theorem z14p9ok (l : (List GPensionlaw22_Raw)) (unique : Bool) (K : KT) (h : W (law22_Nets_p9 l unique) (rE z14R K)) : EvL Try.prog 101 (List.drop 3 z14i0) K (z14p9S l unique) :=
  EvL.at_ z14p9at (EvL.cons_loop (EvOk.weak (EvOk.ent (.trans (.nilrow 5 0 28 7 (lsEl eGNet zGNet []) (Nat.le_of_ble_eq_true rfl) rfl) (.cn [0, 1, 5, 6])) (EvOk.loopF (x := inside (inside (nthI z14i0 3))) (f := law22_Nets_l1 l unique) (emb := z14l1S l unique) (E := z14l1E l unique) (z14l1ok l unique) (z14l1Ethen l unique) (W_loop h (z14p9k l unique K))))))
def z14p10S (l : (List GPensionlaw22_Raw)) (unique : Bool) : St := { tm := [sv 0 (.c (.sl 4 l.length (lsEl eGPensionlaw22_Raw zGPensionlaw22_Raw l))), sv 1 (bl unique)], hp := [], nx := 0 }
noncomputable def law22_Nets_p10 (l : (List GPensionlaw22_Raw)) (unique : Bool) : Option ((List GNet)) := (law22_Nets_p9 l unique)
theorem z14p10ok (l : (List GPensionlaw22_Raw)) (unique : Bool) (K : KT) (h : W (law22_Nets_p10 l unique) (rE z14R K)) : EvL Try.prog 101 (List.drop 0 z14i0) K (z14p10S l unique) :=
  EvL.pD mixed (lookC_ok (l := []) trivial) [0, 1, 5, 6, 15, 16, 17, 71, 72, 73, 74, 75, 76, 77, 78, 79, 80, 81, 82, 83, 84, 85, 86, 87, 88, 93, 94] 0 3 3 (.nf (X := fun K => wK K .normal (z14p9S l unique)) (fun K => by kernel_rfl) (⟨_, .refl _, (z14p9ok l unique _ h)⟩))
noncomputable def law22_Nets (l : (List GPensionlaw22_Raw)) (unique : Bool) : Option ((List GNet)) := law22_Nets_p10 l unique
theorem z14run (l : (List GPensionlaw22_Raw)) (unique : Bool) (y_ : (List GNet)) (h : law22_Nets l unique = some y_) : EvL Try.prog 101 (items (bodyOf Try.f14)) (retK Try.prog [.tmp 4] (OutOk (law22_Nets_out y_))) (z14p10S l unique) :=
  z14p10ok l unique _ (W_iff.2 ⟨y_, h, z14Rok y_⟩)
noncomputable def law22_Nets_C : Con
  | [(.c (.sl k1 n2 e3)), (.c (.lit (.bool a4)))] => some ([LstOk eGPensionlaw22_Raw dGPensionlaw22_Raw 4 k1 n2 e3, (law22_Nets (lst dGPensionlaw22_Raw n2 e3) a4).isSome = true], (law22_Nets_out ((law22_Nets (lst dGPensionlaw22_Raw n2 e3) a4).getD ([] : List GNet))))
  | _ => none
theorem law22_Nets_ok : Meets Try.prog 14 law22_Nets_C := by
  refine meets_fun (fn := Try.f14) (c := bodyOf Try.f14) (by kernel_rfl) (by kernel_rfl) (by kernel_rfl) (rs := [.tmp 4]) (by kernel_rfl) (nt := 101) (by kernel_rfl) fun vs p out h hp => ?_
  unfold law22_Nets_C at h
  split at h
  · next k1 n2 e3 a4 =>
    cases h
    obtain ⟨g0, hp⟩ := allq hp
    obtain ⟨g, hp⟩ := allq hp
    obtain ⟨x, hx⟩ := Option.isSome_iff_exists.1 g
    rw [hx]
    exact ⟨[(.c (.sl 4 ((lst dGPensionlaw22_Raw n2 e3)).length (lsEl eGPensionlaw22_Raw zGPensionlaw22_Raw (lst dGPensionlaw22_Raw n2 e3)))), (bl a4)], (VLes.cons (VLe.slk g0.1 (RowIs.of_ok g0)) (VLes.cons (VLe.rfl' _) VLes.nil)), rfl, z14run (lst dGPensionlaw22_Raw n2 e3) a4 x hx⟩
  · cases h

noncomputable def z37i0 : List Code := items (bodyOf Try.f37)
noncomputable def z37i1 : List Code := items (inside (inside (nthI z37i0 4)))
noncomputable def z37i2 : List Code := items (inside (nthI z37i1 2))
noncomputable def z37i3 : List Code := items (inside (inside (nthI z37i2 6)))
def conversion_valid_out (x_1 : Bool) : Out := .data (bl x_1)
def z37R (x_1 : Bool) : St := { tm := [sv 2 (bl x_1)], hp := [], nx := 0 }
theorem z37Rok (x_1 : Bool) : retK Try.prog [.tmp 2] (OutOk (conversion_valid_out x_1)) .ret (z37R x_1) :=
  retK.intro (v := (bl x_1)) (by kernel_rfl) ((VLe.rfl' _))
def z37l1S (l : (List GHeir)) (s : (Int)) : St := match s with | t12 => { tm := [sv 0 (.c (.sl 3 l.length (lsEl eGHeir zGHeir l))), sv 10 (.c (.sl 3 l.length (lsEl eGHeir zGHeir l))), sv 11 (i64 ((l.length : Nat) : Int)), sv 12 (i64 t12)], hp := [], nx := 0 }
def z37l1C0 (l : (List GHeir)) (s : Unit) : St := match s with | () => { tm := [], hp := [], nx := 0 }
def z37l1C1 (l : (List GHeir)) (s : Unit) : St := match s with | () => { tm := [sv 2 (bl false)], hp := [], nx := 0 }
def z37l1E (l : (List GHeir)) (r : ((Unit) ⊕ (Unit))) (K : KT) : Prop := match r with | (.inl s) => K (.exit 0) (z37l1C0 l s) | (.inr s) => K .ret (z37l1C1 l s)
def z37l2S (l : (List GHeir)) (t12_4 : Int) (t45 : (List GHeir)) (t46 : Int) (s_1 : GHeir) (s : (Int × Int × Int)) : St := match s with | (t12_5, t46_1, t47) => { tm := [sv 0 (.c (.sl 3 l.length (lsEl eGHeir zGHeir l))), sv 4 (.ptr 0 3 0 0), sv 10 (.c (.sl 3 l.length (lsEl eGHeir zGHeir l))), sv 11 (i64 ((l.length : Nat) : Int)), sv 12 (i64 t12_5), sv 45 (.c (.sl 3 t45.length (lsEl eGHeir zGHeir t45))), sv 46 (i64 t46_1), sv 47 (i64 t47)], hp := [(0, some (.box [(i64 s_1.Person), (i64 s_1.Kind), (i64 s_1.Days)]))], nx := 1 }
def z37l2C0 (l : (List GHeir)) (t12_4 : Int) (t45 : (List GHeir)) (t46 : Int) (s_1 : GHeir) (s : Int) : St := match s with | t12_6 => { tm := [sv 0 (.c (.sl 3 l.length (lsEl eGHeir zGHeir l))), sv 10 (.c (.sl 3 l.length (lsEl eGHeir zGHeir l))), sv 11 (i64 ((l.length : Nat) : Int)), sv 12 (i64 t12_6)], hp := [], nx := 0 }
def z37l2C1 (l : (List GHeir)) (t12_4 : Int) (t45 : (List GHeir)) (t46 : Int) (s_1 : GHeir) (s : Unit) : St := match s with | () => { tm := [sv 2 (bl false)], hp := [], nx := 0 }
def z37l2E (l : (List GHeir)) (t12_4 : Int) (t45 : (List GHeir)) (t46 : Int) (s_1 : GHeir) (r : ((Int) ⊕ (Unit))) (K : KT) : Prop := match r with | (.inl s) => K (.exit 3) (z37l2C0 l t12_4 t45 t46 s_1 s) | (.inr s) => K .ret (z37l2C1 l t12_4 t45 t46 s_1 s)
def z37p0S (l : (List GHeir)) (t12_5 : Int) (t45 : (List GHeir)) (t46_1 t47 : Int) (s_1 : GHeir) : St := { tm := [sv 0 (.c (.sl 3 l.length (lsEl eGHeir zGHeir l))), sv 4 (.ptr 0 3 0 0), sv 10 (.c (.sl 3 l.length (lsEl eGHeir zGHeir l))), sv 11 (i64 ((l.length : Nat) : Int)), sv 12 (i64 t12_5), sv 45 (.c (.sl 3 t45.length (lsEl eGHeir zGHeir t45))), sv 46 (i64 t46_1), sv 47 (i64 t47)], hp := [(0, some (.box [(i64 s_1.Person), (i64 s_1.Kind), (i64 s_1.Days)]))], nx := 1 }
noncomputable def conversion_valid_p0 (l : (List GHeir)) (t12_5 : Int) (t45 : (List GHeir)) (t46_1 t47 : Int) (s_1 : GHeir) : Option ((Int × Int × Int) ⊕ ((Int) ⊕ (Unit))) := (bif (decide (t47 < t46_1)) then gd ((0 : Int) ≤ t47 ∧ t47 < ((t45.length : Nat) : Int)) ((bif ((t45.getD (Int.toNat t47) zGHeir).Person == s_1.Person) then (some (Sum.inr (Sum.inr ()))) else (some (Sum.inl (t12_5, t46_1, (w64 (t47 + (1 : Int)))))))) else (some (Sum.inr (Sum.inl t12_5))))
theorem z37p0ok (l : (List GHeir)) (t12_5 : Int) (t45 : (List GHeir)) (t46_1 t47 : Int) (s_1 : GHeir) (t12_4 t46 : Int) (K : KT) (h : W (conversion_valid_p0 l t12_5 t45 t46_1 t47 s_1) (nE (z37l2S l t12_4 t45 t46 s_1) (z37l2E l t12_4 t45 t46 s_1) K)) : EvL Try.prog 58 (List.drop 0 z37i3) K (z37p0S l t12_5 t45 t46_1 t47 s_1) :=
  EvL.pE mixed (lookC_ok (l := []) trivial) [0, 2, 4, 10, 11, 12, 21, 22, 23, 33, 34, 35, 45, 46, 47] 0 4 (.nf (X := fun K => (bif (decide (t47 < t46_1)) then ((0 : Int) ≤ t47) ∧ (t47 < ((t45.length : Nat) : Int)) ∧ ((bif ((t45.getD (Int.toNat t47) zGHeir).Person == s_1.Person) then wK K .ret ({ tm := [sv 0 (.c (.sl 3 l.length (lsEl eGHeir zGHeir l))), sv 2 (bl false), sv 4 (.ptr 0 3 0 0), sv 10 (.c (.sl 3 l.length (lsEl eGHeir zGHeir l))), sv 11 (i64 ((l.length : Nat) : Int)), sv 12 (i64 t12_5), sv 45 (.c (.sl 3 t45.length (lsEl eGHeir zGHeir t45))), sv 46 (i64 t46_1), sv 47 (i64 t47)], hp := [(0, some (.box [(i64 s_1.Person), (i64 s_1.Kind), (i64 s_1.Days)]))], nx := 1 }) else wK K .normal (z37l2S l t12_4 t45 t46 s_1 (t12_5, t46_1, (w64 (t47 + (1 : Int))))))) else wK K (.exit 3) ({ tm := [sv 0 (.c (.sl 3 l.length (lsEl eGHeir zGHeir l))), sv 4 (.ptr 0 3 0 0), sv 10 (.c (.sl 3 l.length (lsEl eGHeir zGHeir l))), sv 11 (i64 ((l.length : Nat) : Int)), sv 12 (i64 t12_5), sv 45 (.c (.sl 3 t45.length (lsEl eGHeir zGHeir t45))), sv 46 (i64 t46_1), sv 47 (i64 t47)], hp := [(0, some (.box [(i64 s_1.Person), (i64 s_1.Kind), (i64 s_1.Days)]))], nx := 1 }))) (fun K => by kernel_rfl) (W_bif h (fun _ h => (W_gd2 h fun hp0 h => (W_bif h (fun _ h => ⟨(z37l2C1 l t12_4 t45 t46 s_1 ()), (.cn [2]), h⟩) (fun _ h => ⟨_, .refl _, h⟩)))) (fun _ h => ⟨(z37l2C0 l t12_4 t45 t46 s_1 t12_5), (.cn [0, 10, 11, 12]), h⟩)))
noncomputable def conversion_valid_l2 (l : (List GHeir)) (t12_4 : Int) (t45 : (List GHeir)) (t46 : Int) (s_1 : GHeir) (s : (Int × Int × Int)) : Option ((Int × Int × Int) ⊕ ((Int) ⊕ (Unit))) := match s with | (t12_5, t46_1, t47) => conversion_valid_p0 l t12_5 t45 t46_1 t47 s_1
theorem z37l2ok (l : (List GHeir)) (t12_4 : Int) (t45 : (List GHeir)) (t46 : Int) (s_1 : GHeir) (s : (Int × Int × Int)) : Pp Try.prog 58 (List.drop 0 z37i3) (z37l2S l t12_4 t45 t46 s_1 s) (conversion_valid_l2 l t12_4 t45 t46 s_1 s) (nextE (z37l2S l t12_4 t45 t46 s_1) (z37l2E l t12_4 t45 t46 s_1)) := fun K h => match s, h with | (t12_5, t46_1, t47), h => (z37p0ok l t12_5 t45 t46_1 t47 s_1 t12_4 t46 _ h)
theorem z37l2Ethen (l : (List GHeir)) (t12_4 : Int) (t45 : (List GHeir)) (t46 : Int) (s_1 : GHeir) : ∀ (r : ((Int) ⊕ (Unit))) (J : St → Prop) (K : KT), z37l2E l t12_4 t45 t46 s_1 r K → z37l2E l t12_4 t45 t46 s_1 r (thenK J K)
  | (.inl s), _, _, h => h
  | (.inr s), _, _, h => h
def z37p1S (l : (List GHeir)) (t12_7 : Int) : St := { tm := [sv 0 (.c (.sl 3 l.length (lsEl eGHeir zGHeir l))), sv 10 (.c (.sl 3 l.length (lsEl eGHeir zGHeir l))), sv 11 (i64 ((l.length : Nat) : Int)), sv 12 (i64 t12_7)], hp := [], nx := 0 }
noncomputable def conversion_valid_p1 (l : (List GHeir)) (t12_7 : Int) : Option ((Int) ⊕ ((Unit) ⊕ (Unit))) := (some (Sum.inl (w64 (t12_7 + (1 : Int)))))
theorem z37p1ok (l : (List GHeir)) (t12_7 : Int) (K : KT) (h : W (conversion_valid_p1 l t12_7) (nE (z37l1S l) (z37l1E l) K)) : EvL Try.prog 58 (List.drop 3 z37i1) K (z37p1S l t12_7) :=
  EvL.pE mixed (lookC_ok (l := []) trivial) [0, 10, 11, 12, 21, 22, 23, 33, 34, 35] 3 1 (.nf (X := fun K => wK K .normal (z37l1S l (w64 (t12_7 + (1 : Int))))) (fun K => by kernel_rfl) (⟨_, .refl _, h⟩))
def z37p2S (l : (List GHeir)) (t12_4 : Int) (t45 : (List GHeir)) (t46 : Int) (s_1 : GHeir) : St := { tm := [sv 0 (.c (.sl 3 l.length (lsEl eGHeir zGHeir l))), sv 4 (.ptr 0 3 0 0), sv 10 (.c (.sl 3 l.length (lsEl eGHeir zGHeir l))), sv 11 (i64 ((l.length : Nat) : Int)), sv 12 (i64 t12_4), sv 45 (.c (.sl 3 t45.length (lsEl eGHeir zGHeir t45))), sv 46 (i64 t46), sv 47 (i64 (0 : Int))], hp := [(0, some (.box [(i64 s_1.Person), (i64 s_1.Kind), (i64 s_1.Days)]))], nx := 1 }
noncomputable def conversion_valid_p2_g (l : (List GHeir)) (t12_4 : Int) (t45 : (List GHeir)) (t46 : Int) (s_1 : GHeir) (r : ((Int) ⊕ (Unit))) : Option ((Int) ⊕ ((Unit) ⊕ (Unit))) := match r with | (.inl t12_6) => (conversion_valid_p1 l t12_6) | (.inr ()) => (some (Sum.inr (Sum.inr ())))
noncomputable def conversion_valid_p2 (l : (List GHeir)) (t12_4 : Int) (t45 : (List GHeir)) (t46 : Int) (s_1 : GHeir) : Option ((Int) ⊕ ((Unit) ⊕ (Unit))) := (fixL (conversion_valid_l2 l t12_4 t45 t46 s_1) (t12_4, t46, (0 : Int))).bind (conversion_valid_p2_g l t12_4 t45 t46 s_1)
theorem z37p2at : List.drop 6 z37i2 = .block 3 (.loop (inside (inside (nthI z37i2 6)))) :: List.drop 7 z37i2 := by kernel_rfl
theorem z37p2k (l : (List GHeir)) (t12_4 : Int) (t45 : (List GHeir)) (t46 : Int) (s_1 : GHeir) (K : KT) : ∀ r : ((Int) ⊕ (Unit)), W (conversion_valid_p2_g l t12_4 t45 t46 s_1 r) (nE (z37l1S l) (z37l1E l) K) → z37l2E l t12_4 t45 t46 s_1 r (wK (blockK 3 (thenK (EvL Try.prog 58 (List.drop 7 z37i2) (blockK 1 (thenK (EvL Try.prog 58 (List.drop 3 z37i1) K) K))) (blockK 1 (thenK (EvL Try.prog 58 (List.drop 3 z37i1) K) K)))))
  | (.inl t12_6), h => ⟨(z37p1S l t12_6), (.refl _), (EvL.end_ (by kernel_rfl : List.drop 7 z37i2 = []) (z37p1ok l t12_6 _ h))⟩
  | (.inr ()), h => ⟨(z37l1C1 l ()), (.refl _), h⟩
theorem z37p2ok (l : (List GHeir)) (t12_4 : Int) (t45 : (List GHeir)) (t46 : Int) (s_1 : GHeir) (K : KT) (h : W (conversion_valid_p2 l t12_4 t45 t46 s_1) (nE (z37l1S l) (z37l1E l) K)) : EvL Try.prog 58 (List.drop 6 z37i2) (blockK 1 (thenK (EvL Try.prog 58 (List.drop 3 z37i1) K) K)) (z37p2S l t12_4 t45 t46 s_1) :=
  EvL.at_ z37p2at (EvL.cons_loop (EvOk.weak (EvOk.ent (.refl _) (EvOk.loopF (x := inside (inside (nthI z37i2 6))) (f := conversion_valid_l2 l t12_4 t45 t46 s_1) (emb := z37l2S l t12_4 t45 t46 s_1) (E := z37l2E l t12_4 t45 t46 s_1) (z37l2ok l t12_4 t45 t46 s_1) (z37l2Ethen l t12_4 t45 t46 s_1) (W_loop h (z37p2k l t12_4 t45 t46 s_1 K))))))
def z37p3S (l : (List GHeir)) (i_1 t12_3 : Int) (s_1 : GHeir) : St := { tm := [sv 0 (.c (.sl 3 l.length (lsEl eGHeir zGHeir l))), sv 3 (i64 i_1), sv 4 (.ptr 0 3 0 0), sv 10 (.c (.sl 3 l.length (lsEl eGHeir zGHeir l))), sv 11 (i64 ((l.length : Nat) : Int)), sv 12 (i64 t12_3)], hp := [(0, some (.box [(i64 s_1.Person), (i64 s_1.Kind), (i64 s_1.Days)]))], nx := 1 }
noncomputable def conversion_valid_p3 (l : (List GHeir)) (i_1 t12_3 : Int) (s_1 : GHeir) : Option ((Int) ⊕ ((Unit) ⊕ (Unit))) := gd ((0 : Int) ≤ (0 : Int) ∧ (0 : Int) ≤ i_1 ∧ i_1 ≤ ((l.length : Nat) : Int)) ((conversion_valid_p2 l t12_3 (subL zGHeir l 0 (Int.toNat (i_1 - (0 : Int)))) (((Int.toNat (i_1 - (0 : Int))) : Nat) : Int) s_1))
theorem z37p3ok (l : (List GHeir)) (i_1 t12_3 : Int) (s_1 : GHeir) (K : KT) (h : W (conversion_valid_p3 l i_1 t12_3 s_1) (nE (z37l1S l) (z37l1E l) K)) : EvL Try.prog 58 (List.drop 5 z37i2) (blockK 1 (thenK (EvL Try.prog 58 (List.drop 3 z37i1) K) K)) (z37p3S l i_1 t12_3 s_1) :=
  EvL.pD mixed (lookC_ok (l := []) trivial) [0, 4, 10, 11, 12, 21, 22, 23, 33, 34, 35, 45, 46, 47] 5 1 6 (.nf (X := fun K => ((0 : Int) ≤ (0 : Int)) ∧ ((0 : Int) ≤ i_1) ∧ (i_1 ≤ ((l.length : Nat) : Int)) ∧ (wK K .normal ({ tm := [sv 0 (.c (.sl 3 l.length (lsEl eGHeir zGHeir l))), sv 4 (.ptr 0 3 0 0), sv 10 (.c (.sl 3 l.length (lsEl eGHeir zGHeir l))), sv 11 (i64 ((l.length : Nat) : Int)), sv 12 (i64 t12_3), sv 45 (.c (.sl 3 (Int.toNat (i_1 - (0 : Int))) (fun i => (lsEl eGHeir zGHeir l) (0 + i)))), sv 46 (i64 (((Int.toNat (i_1 - (0 : Int))) : Nat) : Int)), sv 47 (i64 (0 : Int))], hp := [(0, some (.box [(i64 s_1.Person), (i64 s_1.Kind), (i64 s_1.Days)]))], nx := 1 }))) (fun K => by kernel_rfl) (W_gd3 h fun hp0 h => ⟨(z37p2S l t12_3 (subL zGHeir l 0 (Int.toNat (i_1 - (0 : Int)))) (((Int.toNat (i_1 - (0 : Int))) : Nat) : Int) s_1), (.of (.q rfl (.q rfl (.q rfl (.q rfl (.q rfl (.cons rfl (.sl (RowIs.sub eGHeir zGHeir l 0 (Int.toNat (i_1 - (0 : Int))))) (.q rfl (.q rfl .nil)))))))) (.same rfl .nil) rfl), (z37p2ok l t12_3 (subL zGHeir l 0 (Int.toNat (i_1 - (0 : Int)))) (((Int.toNat (i_1 - (0 : Int))) : Nat) : Int) s_1 _ h)⟩))
def z37p4S (l : (List GHeir)) (t12_2 : Int) : St := { tm := [sv 0 (.c (.sl 3 l.length (lsEl eGHeir zGHeir l))), sv 10 (.c (.sl 3 l.length (lsEl eGHeir zGHeir l))), sv 11 (i64 ((l.length : Nat) : Int)), sv 12 (i64 t12_2)], hp := [], nx := 0 }
noncomputable def conversion_valid_p4 (l : (List GHeir)) (t12_2 : Int) : Option ((Int) ⊕ ((Unit) ⊕ (Unit))) := gd ((0 : Int) ≤ t12_2 ∧ t12_2 < ((l.length : Nat) : Int)) ((bif (bif (decide ((l.getD (Int.toNat t12_2) zGHeir).Person < (1 : Int))) then true else (decide ((99 : Int) < (l.getD (Int.toNat t12_2) zGHeir).Person))) then (some (Sum.inr (Sum.inr ()))) else (bif ((l.getD (Int.toNat t12_2) zGHeir).Kind == (1 : Int)) then (bif (bif (decide ((l.getD (Int.toNat t12_2) zGHeir).Days < (1 : Int))) then true else (decide ((73049 : Int) < (l.getD (Int.toNat t12_2) zGHeir).Days))) then (some (Sum.inr (Sum.inr ()))) else (conversion_valid_p3 l t12_2 t12_2 (l.getD (Int.toNat t12_2) zGHeir))) else (bif ((l.getD (Int.toNat t12_2) zGHeir).Kind == (2 : Int)) then (bif ((l.getD (Int.toNat t12_2) zGHeir).Kind == (2 : Int)) then (bif ((l.getD (Int.toNat t12_2) zGHeir).Days != (0 : Int)) then (some (Sum.inr (Sum.inr ()))) else (conversion_valid_p3 l t12_2 t12_2 (l.getD (Int.toNat t12_2) zGHeir))) else (some (Sum.inr (Sum.inr ())))) else (bif ((l.getD (Int.toNat t12_2) zGHeir).Kind == (3 : Int)) then (bif ((l.getD (Int.toNat t12_2) zGHeir).Days != (0 : Int)) then (some (Sum.inr (Sum.inr ()))) else (conversion_valid_p3 l t12_2 t12_2 (l.getD (Int.toNat t12_2) zGHeir))) else (some (Sum.inr (Sum.inr ()))))))))
theorem z37p4ok (l : (List GHeir)) (t12_2 : Int) (K : KT) (h : W (conversion_valid_p4 l t12_2) (nE (z37l1S l) (z37l1E l) K)) : EvL Try.prog 58 (List.drop 0 z37i2) (blockK 1 (thenK (EvL Try.prog 58 (List.drop 3 z37i1) K) K)) (z37p4S l t12_2) :=
  EvL.pD mixed (lookC_ok (l := []) trivial) [0, 2, 3, 4, 10, 11, 12, 21, 22, 23, 33, 34, 35] 0 5 5 (.nf (X := fun K => ((0 : Int) ≤ t12_2) ∧ (t12_2 < ((l.length : Nat) : Int)) ∧ ((bif (bif (decide ((l.getD (Int.toNat t12_2) zGHeir).Person < (1 : Int))) then true else (decide ((99 : Int) < (l.getD (Int.toNat t12_2) zGHeir).Person))) then wK K .ret ({ tm := [sv 0 (.c (.sl 3 l.length (lsEl eGHeir zGHeir l))), sv 2 (bl false), sv 3 (i64 t12_2), sv 4 (.ptr 0 3 0 0), sv 10 (.c (.sl 3 l.length (lsEl eGHeir zGHeir l))), sv 11 (i64 ((l.length : Nat) : Int)), sv 12 (i64 t12_2), sv 21 (.c .unk), sv 22 (.c .unk), sv 23 (.c .unk)], hp := [(0, some (.box [(i64 (l.getD (Int.toNat t12_2) zGHeir).Person), (i64 (l.getD (Int.toNat t12_2) zGHeir).Kind), (i64 (l.getD (Int.toNat t12_2) zGHeir).Days)]))], nx := 1 }) else (bif ((l.getD (Int.toNat t12_2) zGHeir).Kind == (1 : Int)) then (bif (bif (decide ((l.getD (Int.toNat t12_2) zGHeir).Days < (1 : Int))) then true else (decide ((73049 : Int) < (l.getD (Int.toNat t12_2) zGHeir).Days))) then wK K .ret ({ tm := [sv 0 (.c (.sl 3 l.length (lsEl eGHeir zGHeir l))), sv 2 (bl false), sv 3 (i64 t12_2), sv 4 (.ptr 0 3 0 0), sv 10 (.c (.sl 3 l.length (lsEl eGHeir zGHeir l))), sv 11 (i64 ((l.length : Nat) : Int)), sv 12 (i64 t12_2), sv 21 (.c .unk), sv 22 (.c .unk), sv 23 (.c .unk), sv 33 (.c .unk), sv 34 (.c .unk), sv 35 (.c .unk)], hp := [(0, some (.box [(i64 (l.getD (Int.toNat t12_2) zGHeir).Person), (i64 (l.getD (Int.toNat t12_2) zGHeir).Kind), (i64 (l.getD (Int.toNat t12_2) zGHeir).Days)]))], nx := 1 }) else wK K .normal ({ tm := [sv 0 (.c (.sl 3 l.length (lsEl eGHeir zGHeir l))), sv 3 (i64 t12_2), sv 4 (.ptr 0 3 0 0), sv 10 (.c (.sl 3 l.length (lsEl eGHeir zGHeir l))), sv 11 (i64 ((l.length : Nat) : Int)), sv 12 (i64 t12_2), sv 21 (.c .unk), sv 22 (.c .unk), sv 23 (.c .unk), sv 33 (.c .unk), sv 34 (.c .unk), sv 35 (.c .unk)], hp := [(0, some (.box [(i64 (l.getD (Int.toNat t12_2) zGHeir).Person), (i64 (l.getD (Int.toNat t12_2) zGHeir).Kind), (i64 (l.getD (Int.toNat t12_2) zGHeir).Days)]))], nx := 1 })) else (bif ((l.getD (Int.toNat t12_2) zGHeir).Kind == (2 : Int)) then (bif ((l.getD (Int.toNat t12_2) zGHeir).Kind == (2 : Int)) then (bif ((l.getD (Int.toNat t12_2) zGHeir).Days != (0 : Int)) then wK K .ret ({ tm := [sv 0 (.c (.sl 3 l.length (lsEl eGHeir zGHeir l))), sv 2 (bl false), sv 3 (i64 t12_2), sv 4 (.ptr 0 3 0 0), sv 10 (.c (.sl 3 l.length (lsEl eGHeir zGHeir l))), sv 11 (i64 ((l.length : Nat) : Int)), sv 12 (i64 t12_2), sv 21 (.c .unk), sv 22 (.c .unk), sv 23 (.c .unk)], hp := [(0, some (.box [(i64 (l.getD (Int.toNat t12_2) zGHeir).Person), (i64 (l.getD (Int.toNat t12_2) zGHeir).Kind), (i64 (l.getD (Int.toNat t12_2) zGHeir).Days)]))], nx := 1 }) else wK K .normal ({ tm := [sv 0 (.c (.sl 3 l.length (lsEl eGHeir zGHeir l))), sv 3 (i64 t12_2), sv 4 (.ptr 0 3 0 0), sv 10 (.c (.sl 3 l.length (lsEl eGHeir zGHeir l))), sv 11 (i64 ((l.length : Nat) : Int)), sv 12 (i64 t12_2), sv 21 (.c .unk), sv 22 (.c .unk), sv 23 (.c .unk)], hp := [(0, some (.box [(i64 (l.getD (Int.toNat t12_2) zGHeir).Person), (i64 (l.getD (Int.toNat t12_2) zGHeir).Kind), (i64 (l.getD (Int.toNat t12_2) zGHeir).Days)]))], nx := 1 })) else wK K .ret ({ tm := [sv 0 (.c (.sl 3 l.length (lsEl eGHeir zGHeir l))), sv 2 (bl false), sv 3 (i64 t12_2), sv 4 (.ptr 0 3 0 0), sv 10 (.c (.sl 3 l.length (lsEl eGHeir zGHeir l))), sv 11 (i64 ((l.length : Nat) : Int)), sv 12 (i64 t12_2), sv 21 (.c .unk), sv 22 (.c .unk), sv 23 (.c .unk)], hp := [(0, some (.box [(i64 (l.getD (Int.toNat t12_2) zGHeir).Person), (i64 (l.getD (Int.toNat t12_2) zGHeir).Kind), (i64 (l.getD (Int.toNat t12_2) zGHeir).Days)]))], nx := 1 })) else (bif ((l.getD (Int.toNat t12_2) zGHeir).Kind == (3 : Int)) then (bif ((l.getD (Int.toNat t12_2) zGHeir).Days != (0 : Int)) then wK K .ret ({ tm := [sv 0 (.c (.sl 3 l.length (lsEl eGHeir zGHeir l))), sv 2 (bl false), sv 3 (i64 t12_2), sv 4 (.ptr 0 3 0 0), sv 10 (.c (.sl 3 l.length (lsEl eGHeir zGHeir l))), sv 11 (i64 ((l.length : Nat) : Int)), sv 12 (i64 t12_2), sv 21 (.c .unk), sv 22 (.c .unk), sv 23 (.c .unk)], hp := [(0, some (.box [(i64 (l.getD (Int.toNat t12_2) zGHeir).Person), (i64 (l.getD (Int.toNat t12_2) zGHeir).Kind), (i64 (l.getD (Int.toNat t12_2) zGHeir).Days)]))], nx := 1 }) else wK K .normal ({ tm := [sv 0 (.c (.sl 3 l.length (lsEl eGHeir zGHeir l))), sv 3 (i64 t12_2), sv 4 (.ptr 0 3 0 0), sv 10 (.c (.sl 3 l.length (lsEl eGHeir zGHeir l))), sv 11 (i64 ((l.length : Nat) : Int)), sv 12 (i64 t12_2), sv 21 (.c .unk), sv 22 (.c .unk), sv 23 (.c .unk)], hp := [(0, some (.box [(i64 (l.getD (Int.toNat t12_2) zGHeir).Person), (i64 (l.getD (Int.toNat t12_2) zGHeir).Kind), (i64 (l.getD (Int.toNat t12_2) zGHeir).Days)]))], nx := 1 })) else wK K .ret ({ tm := [sv 0 (.c (.sl 3 l.length (lsEl eGHeir zGHeir l))), sv 2 (bl false), sv 3 (i64 t12_2), sv 4 (.ptr 0 3 0 0), sv 10 (.c (.sl 3 l.length (lsEl eGHeir zGHeir l))), sv 11 (i64 ((l.length : Nat) : Int)), sv 12 (i64 t12_2), sv 21 (.c .unk), sv 22 (.c .unk), sv 23 (.c .unk)], hp := [(0, some (.box [(i64 (l.getD (Int.toNat t12_2) zGHeir).Person), (i64 (l.getD (Int.toNat t12_2) zGHeir).Kind), (i64 (l.getD (Int.toNat t12_2) zGHeir).Days)]))], nx := 1 }))))))) (fun K => by kernel_rfl) (W_gd2 h fun hp0 h => (W_bif h (fun _ h => ⟨(z37l1C1 l ()), (.cn [2]), h⟩) (fun _ h => (W_bif h (fun _ h => (W_bif h (fun _ h => ⟨(z37l1C1 l ()), (.cn [2]), h⟩) (fun _ h => ⟨(z37p3S l t12_2 t12_2 (l.getD (Int.toNat t12_2) zGHeir)), (.of (.q rfl (.q rfl (.q rfl (.q rfl (.q rfl (.q rfl .nil)))))) (.same rfl .nil) rfl), (z37p3ok l t12_2 t12_2 (l.getD (Int.toNat t12_2) zGHeir) _ h)⟩))) (fun _ h => (W_bif h (fun _ h => (W_bif h (fun _ h => (W_bif h (fun _ h => ⟨(z37l1C1 l ()), (.cn [2]), h⟩) (fun _ h => ⟨(z37p3S l t12_2 t12_2 (l.getD (Int.toNat t12_2) zGHeir)), (.of (.q rfl (.q rfl (.q rfl (.q rfl (.q rfl (.q rfl .nil)))))) (.same rfl .nil) rfl), (z37p3ok l t12_2 t12_2 (l.getD (Int.toNat t12_2) zGHeir) _ h)⟩))) (fun _ h => ⟨(z37l1C1 l ()), (.cn [2]), h⟩))) (fun _ h => (W_bif h (fun _ h => (W_bif h (fun _ h => ⟨(z37l1C1 l ()), (.cn [2]), h⟩) (fun _ h => ⟨(z37p3S l t12_2 t12_2 (l.getD (Int.toNat t12_2) zGHeir)), (.of (.q rfl (.q rfl (.q rfl (.q rfl (.q rfl (.q rfl .nil)))))) (.same rfl .nil) rfl), (z37p3ok l t12_2 t12_2 (l.getD (Int.toNat t12_2) zGHeir) _ h)⟩))) (fun _ h => ⟨(z37l1C1 l ()), (.cn [2]), h⟩))))))))))
def z37p5S (l : (List GHeir)) (t12_1 : Int) : St := { tm := [sv 0 (.c (.sl 3 l.length (lsEl eGHeir zGHeir l))), sv 10 (.c (.sl 3 l.length (lsEl eGHeir zGHeir l))), sv 11 (i64 ((l.length : Nat) : Int)), sv 12 (i64 t12_1)], hp := [], nx := 0 }
noncomputable def conversion_valid_p5 (l : (List GHeir)) (t12_1 : Int) : Option ((Int) ⊕ ((Unit) ⊕ (Unit))) := (conversion_valid_p4 l t12_1)
theorem z37p5at : List.drop 2 z37i1 = .block 1 (inside (nthI z37i1 2)) :: List.drop 3 z37i1 := by kernel_rfl
theorem z37p5ok (l : (List GHeir)) (t12_1 : Int) (K : KT) (h : W (conversion_valid_p5 l t12_1) (nE (z37l1S l) (z37l1E l) K)) : EvL Try.prog 58 (List.drop 2 z37i1) K (z37p5S l t12_1) :=
  EvL.at_ z37p5at (EvL.cons_block (EvL.ent (.refl _) (z37p4ok l t12_1 _ h)))
def z37p6S (l : (List GHeir)) (t12 : Int) : St := { tm := [sv 0 (.c (.sl 3 l.length (lsEl eGHeir zGHeir l))), sv 10 (.c (.sl 3 l.length (lsEl eGHeir zGHeir l))), sv 11 (i64 ((l.length : Nat) : Int)), sv 12 (i64 t12)], hp := [], nx := 0 }
noncomputable def conversion_valid_p6 (l : (List GHeir)) (t12 : Int) : Option ((Int) ⊕ ((Unit) ⊕ (Unit))) := (bif (decide (t12 < ((l.length : Nat) : Int))) then (conversion_valid_p5 l t12) else (some (Sum.inr (Sum.inl ()))))
theorem z37p6ok (l : (List GHeir)) (t12 : Int) (K : KT) (h : W (conversion_valid_p6 l t12) (nE (z37l1S l) (z37l1E l) K)) : EvL Try.prog 58 (List.drop 0 z37i1) K (z37p6S l t12) :=
  EvL.pD mixed (lookC_ok (l := []) trivial) [0, 10, 11, 12, 21, 22, 23, 33, 34, 35] 0 2 2 (.nf (X := fun K => (bif (decide (t12 < ((l.length : Nat) : Int))) then wK K .normal (z37p5S l t12) else wK K (.exit 0) ({ tm := [sv 0 (.c (.sl 3 l.length (lsEl eGHeir zGHeir l))), sv 10 (.c (.sl 3 l.length (lsEl eGHeir zGHeir l))), sv 11 (i64 ((l.length : Nat) : Int)), sv 12 (i64 t12)], hp := [], nx := 0 }))) (fun K => by kernel_rfl) (W_bif h (fun _ h => ⟨_, .refl _, (z37p5ok l t12 _ h)⟩) (fun _ h => ⟨(z37l1C0 l ()), (.of .nil .nil rfl), h⟩)))
noncomputable def conversion_valid_l1 (l : (List GHeir)) (s : (Int)) : Option ((Int) ⊕ ((Unit) ⊕ (Unit))) := match s with | t12 => conversion_valid_p6 l t12
theorem z37l1ok (l : (List GHeir)) (s : (Int)) : Pp Try.prog 58 (List.drop 0 z37i1) (z37l1S l s) (conversion_valid_l1 l s) (nextE (z37l1S l) (z37l1E l)) := fun K h => match s, h with | t12, h => (z37p6ok l t12 _ h)
theorem z37l1Ethen (l : (List GHeir)) : ∀ (r : ((Unit) ⊕ (Unit))) (J : St → Prop) (K : KT), z37l1E l r K → z37l1E l r (thenK J K)
  | (.inl s), _, _, h => h
  | (.inr s), _, _, h => h
def z37p7S : St := { tm := [], hp := [], nx := 0 }
noncomputable def conversion_valid_p7 : Option (Bool) := (some true)
theorem z37p7ok (K : KT) (h : W (conversion_valid_p7) (rE z37R K)) : EvL Try.prog 58 (List.drop 5 z37i0) K (z37p7S) :=
  EvL.pE mixed (lookC_ok (l := []) trivial) [2] 5 2 (.nf (X := fun K => wK K .ret (z37R true)) (fun K => by kernel_rfl) (⟨_, .refl _, h⟩))
def z37p8S (l : (List GHeir)) : St := { tm := [sv 0 (.c (.sl 3 l.length (lsEl eGHeir zGHeir l))), sv 10 (.c (.sl 3 l.length (lsEl eGHeir zGHeir l))), sv 11 (i64 ((l.length : Nat) : Int)), sv 12 (i64 (0 : Int))], hp := [], nx := 0 }
noncomputable def conversion_valid_p8_g (l : (List GHeir)) (r : ((Unit) ⊕ (Unit))) : Option (Bool) := match r with | (.inl ()) => conversion_valid_p7 | (.inr ()) => (some false)
noncomputable def conversion_valid_p8 (l : (List GHeir)) : Option (Bool) := (fixL (conversion_valid_l1 l) (0 : Int)).bind (conversion_valid_p8_g l)
theorem z37p8at : List.drop 4 z37i0 = .block 0 (.loop (inside (inside (nthI z37i0 4)))) :: List.drop 5 z37i0 := by kernel_rfl
theorem z37p8k (l : (List GHeir)) (K : KT) : ∀ r : ((Unit) ⊕ (Unit)), W (conversion_valid_p8_g l r) (rE z37R K) → z37l1E l r (wK (blockK 0 (thenK (EvL Try.prog 58 (List.drop 5 z37i0) K) K)))
  | (.inl ()), h => ⟨(z37p7S), (.refl _), (z37p7ok _ h)⟩
  | (.inr ()), h => ⟨(z37R false), (.refl _), h⟩
theorem z37p8ok (l : (List GHeir)) (K : KT) (h : W (conversion_valid_p8 l) (rE z37R K)) : EvL Try.prog 58 (List.drop 4 z37i0) K (z37p8S l) :=
  EvL.at_ z37p8at (EvL.cons_loop (EvOk.weak (EvOk.ent (.refl _) (EvOk.loopF (x := inside (inside (nthI z37i0 4))) (f := conversion_valid_l1 l) (emb := z37l1S l) (E := z37l1E l) (z37l1ok l) (z37l1Ethen l) (W_loop h (z37p8k l K))))))
def z37p9S (l : (List GHeir)) : St := { tm := [sv 0 (.c (.sl 3 l.length (lsEl eGHeir zGHeir l)))], hp := [], nx := 0 }
noncomputable def conversion_valid_p9 (l : (List GHeir)) : Option (Bool) := (bif (decide ((12 : Int) < ((l.length : Nat) : Int))) then (some false) else (conversion_valid_p8 l))
theorem z37p9ok (l : (List GHeir)) (K : KT) (h : W (conversion_valid_p9 l) (rE z37R K)) : EvL Try.prog 58 (List.drop 0 z37i0) K (z37p9S l) :=
  EvL.pD mixed (lookC_ok (l := []) trivial) [0, 2, 10, 11, 12, 21, 22, 23, 33, 34, 35] 0 4 4 (.nf (X := fun K => (bif (decide ((12 : Int) < ((l.length : Nat) : Int))) then wK K .ret ({ tm := [sv 0 (.c (.sl 3 l.length (lsEl eGHeir zGHeir l))), sv 2 (bl false)], hp := [], nx := 0 }) else wK K .normal ({ tm := [sv 0 (.c (.sl 3 l.length (lsEl eGHeir zGHeir l))), sv 2 (bl false), sv 10 (.c (.sl 3 l.length (lsEl eGHeir zGHeir l))), sv 11 (i64 ((l.length : Nat) : Int)), sv 12 (i64 (0 : Int))], hp := [], nx := 0 }))) (fun K => by kernel_rfl) (W_bif h (fun _ h => ⟨(z37R false), (.of (.q rfl .nil) .nil rfl), h⟩) (fun _ h => ⟨(z37p8S l), (.of (.q rfl (.q rfl (.q rfl (.q rfl .nil)))) .nil rfl), (z37p8ok l _ h)⟩)))
noncomputable def conversion_valid (l : (List GHeir)) : Option (Bool) := conversion_valid_p9 l
theorem z37run (l : (List GHeir)) (y_ : Bool) (h : conversion_valid l = some y_) : EvL Try.prog 58 (items (bodyOf Try.f37)) (retK Try.prog [.tmp 2] (OutOk (conversion_valid_out y_))) (z37p9S l) :=
  z37p9ok l _ (W_iff.2 ⟨y_, h, z37Rok y_⟩)
noncomputable def conversion_valid_C : Con
  | [(.c (.sl k1 n2 e3))] => some ([LstOk eGHeir dGHeir 3 k1 n2 e3, (conversion_valid (lst dGHeir n2 e3)).isSome = true], (conversion_valid_out ((conversion_valid (lst dGHeir n2 e3)).getD false)))
  | _ => none
theorem conversion_valid_ok : Meets Try.prog 37 conversion_valid_C := by
  refine meets_fun (fn := Try.f37) (c := bodyOf Try.f37) (by kernel_rfl) (by kernel_rfl) (by kernel_rfl) (rs := [.tmp 2]) (by kernel_rfl) (nt := 58) (by kernel_rfl) fun vs p out h hp => ?_
  unfold conversion_valid_C at h
  split at h
  · next k1 n2 e3 =>
    cases h
    obtain ⟨g0, hp⟩ := allq hp
    obtain ⟨g, hp⟩ := allq hp
    obtain ⟨x, hx⟩ := Option.isSome_iff_exists.1 g
    rw [hx]
    exact ⟨[(.c (.sl 3 ((lst dGHeir n2 e3)).length (lsEl eGHeir zGHeir (lst dGHeir n2 e3))))], (VLes.cons (VLe.slk g0.1 (RowIs.of_ok g0)) VLes.nil), rfl, z37run (lst dGHeir n2 e3) x hx⟩
  · cases h

noncomputable def z38i0 : List Code := items (bodyOf Try.f38)
noncomputable def z38i1 : List Code := items (inside (inside (nthI z38i0 2)))
def conversion_points_out (x_1 : (Int × Int)) : Out := .data (.tup [(i64 x_1.1), (i64 x_1.2)])
def z38R (x_1 : (Int × Int)) : St := { tm := [sv 2 (i64 x_1.1), sv 3 (i64 x_1.2)], hp := [], nx := 0 }
theorem z38Rok (x_1 : (Int × Int)) : retK Try.prog [.tmp 2, .tmp 3] (OutOk (conversion_points_out x_1)) .ret (z38R x_1) :=
  retK.intro (v := (.tup [(i64 x_1.1), (i64 x_1.2)])) (by kernel_rfl) (VLe.tup (VLes.cons (VLe.rfl' _) (VLes.cons (VLe.rfl' _) (VLes.nil))))
def z38l1S (l : (List GHeir)) (s : (Int × Int × Int)) : St := match s with | (sum_1, days_1, t8) => { tm := [sv 2 (i64 sum_1), sv 3 (i64 days_1), sv 6 (.c (.sl 3 l.length (lsEl eGHeir zGHeir l))), sv 7 (i64 ((l.length : Nat) : Int)), sv 8 (i64 t8)], hp := [], nx := 0 }
def z38l1C0 (l : (List GHeir)) (s : Int × Int) : St := match s with | (sum_2, days_2) => { tm := [sv 2 (i64 sum_2), sv 3 (i64 days_2)], hp := [], nx := 0 }
def z38l1E (l : (List GHeir)) (r : ((Int × Int))) (K : KT) : Prop := match r with | s => K (.exit 0) (z38l1C0 l s)
def z38p0S (sum days : Int) (l : (List GHeir)) (t8_1 : Int) : St := { tm := [sv 2 (i64 sum), sv 3 (i64 days), sv 6 (.c (.sl 3 l.length (lsEl eGHeir zGHeir l))), sv 7 (i64 ((l.length : Nat) : Int)), sv 8 (i64 t8_1)], hp := [], nx := 0 }
noncomputable def conversion_points_p0 (sum days : Int) (l : (List GHeir)) (t8_1 : Int) : Option ((Int × Int × Int) ⊕ ((Int × Int))) := (some (Sum.inl (sum, days, (w64 (t8_1 + (1 : Int))))))
theorem z38p0ok (sum days : Int) (l : (List GHeir)) (t8_1 : Int) (K : KT) (h : W (conversion_points_p0 sum days l t8_1) (nE (z38l1S l) (z38l1E l) K)) : EvL Try.prog 35 (List.drop 3 z38i1) K (z38p0S sum days l t8_1) :=
  EvL.pE mixed (lookC_ok (l := []) trivial) [2, 3, 6, 7, 8] 3 1 (.nf (X := fun K => wK K .normal (z38l1S l (sum, days, (w64 (t8_1 + (1 : Int)))))) (fun K => by kernel_rfl) (⟨_, .refl _, h⟩))
def z38p1S (sum_1 days_1 : Int) (l : (List GHeir)) (t8 : Int) : St := { tm := [sv 2 (i64 sum_1), sv 3 (i64 days_1), sv 6 (.c (.sl 3 l.length (lsEl eGHeir zGHeir l))), sv 7 (i64 ((l.length : Nat) : Int)), sv 8 (i64 t8)], hp := [], nx := 0 }
noncomputable def conversion_points_p1 (sum_1 days_1 : Int) (l : (List GHeir)) (t8 : Int) : Option ((Int × Int × Int) ⊕ ((Int × Int))) := (bif (decide (t8 < ((l.length : Nat) : Int))) then gd ((0 : Int) ≤ t8 ∧ t8 < ((l.length : Nat) : Int)) ((bif ((l.getD (Int.toNat t8) zGHeir).Kind == (1 : Int)) then (conversion_points_p0 sum_1 (w64 (days_1 + (l.getD (Int.toNat t8) zGHeir).Days)) l t8) else (bif ((l.getD (Int.toNat t8) zGHeir).Kind == (2 : Int)) then (conversion_points_p0 (w64 (sum_1 + (20 : Int))) days_1 l t8) else (bif ((l.getD (Int.toNat t8) zGHeir).Kind == (3 : Int)) then (conversion_points_p0 (w64 (sum_1 + (30 : Int))) days_1 l t8) else (conversion_points_p0 sum_1 days_1 l t8))))) else (some (Sum.inr (sum_1, days_1))))
theorem z38p1ok (sum_1 days_1 : Int) (l : (List GHeir)) (t8 : Int) (K : KT) (h : W (conversion_points_p1 sum_1 days_1 l t8) (nE (z38l1S l) (z38l1E l) K)) : EvL Try.prog 35 (List.drop 0 z38i1) K (z38p1S sum_1 days_1 l t8) :=
  EvL.pD mixed (lookC_ok (l := []) trivial) [2, 3, 6, 7, 8] 0 3 3 (.nf (X := fun K => (bif (decide (t8 < ((l.length : Nat) : Int))) then ((0 : Int) ≤ t8) ∧ (t8 < ((l.length : Nat) : Int)) ∧ ((bif ((l.getD (Int.toNat t8) zGHeir).Kind == (1 : Int)) then wK K .normal (z38p0S sum_1 (w64 (days_1 + (l.getD (Int.toNat t8) zGHeir).Days)) l t8) else (bif ((l.getD (Int.toNat t8) zGHeir).Kind == (2 : Int)) then wK K .normal (z38p0S (w64 (sum_1 + (20 : Int))) days_1 l t8) else (bif ((l.getD (Int.toNat t8) zGHeir).Kind == (3 : Int)) then wK K .normal (z38p0S (w64 (sum_1 + (30 : Int))) days_1 l t8) else wK K .normal (z38p0S sum_1 days_1 l t8))))) else wK K (.exit 0) ({ tm := [sv 2 (i64 sum_1), sv 3 (i64 days_1), sv 6 (.c (.sl 3 l.length (lsEl eGHeir zGHeir l))), sv 7 (i64 ((l.length : Nat) : Int)), sv 8 (i64 t8)], hp := [], nx := 0 }))) (fun K => by kernel_rfl) (W_bif h (fun _ h => (W_gd2 h fun hp0 h => (W_bif h (fun _ h => ⟨_, .refl _, (z38p0ok sum_1 (w64 (days_1 + (l.getD (Int.toNat t8) zGHeir).Days)) l t8 _ h)⟩) (fun _ h => (W_bif h (fun _ h => ⟨_, .refl _, (z38p0ok (w64 (sum_1 + (20 : Int))) days_1 l t8 _ h)⟩) (fun _ h => (W_bif h (fun _ h => ⟨_, .refl _, (z38p0ok (w64 (sum_1 + (30 : Int))) days_1 l t8 _ h)⟩) (fun _ h => ⟨_, .refl _, (z38p0ok sum_1 days_1 l t8 _ h)⟩)))))))) (fun _ h => ⟨(z38l1C0 l (sum_1, days_1)), (.of (.q rfl (.q rfl .nil)) .nil rfl), h⟩)))
noncomputable def conversion_points_l1 (l : (List GHeir)) (s : (Int × Int × Int)) : Option ((Int × Int × Int) ⊕ ((Int × Int))) := match s with | (sum_1, days_1, t8) => conversion_points_p1 sum_1 days_1 l t8
theorem z38l1ok (l : (List GHeir)) (s : (Int × Int × Int)) : Pp Try.prog 35 (List.drop 0 z38i1) (z38l1S l s) (conversion_points_l1 l s) (nextE (z38l1S l) (z38l1E l)) := fun K h => match s, h with | (sum_1, days_1, t8), h => (z38p1ok sum_1 days_1 l t8 _ h)
theorem z38l1Ethen (l : (List GHeir)) : ∀ (r : ((Int × Int))) (J : St → Prop) (K : KT), z38l1E l r K → z38l1E l r (thenK J K)
  | s, _, _, h => h
def z38p2S (sum_3 days_3 : Int) : St := { tm := [sv 2 (i64 sum_3), sv 3 (i64 days_3)], hp := [], nx := 0 }
noncomputable def conversion_points_p2 (sum_3 days_3 : Int) : Option ((Int × Int)) := (bif (decide ((0 : Int) < days_3)) then (some ((w64 (sum_3 + (60 : Int))), days_3)) else (some (sum_3, days_3)))
theorem z38p2ok (sum_3 days_3 : Int) (K : KT) (h : W (conversion_points_p2 sum_3 days_3) (rE z38R K)) : EvL Try.prog 35 (List.drop 3 z38i0) K (z38p2S sum_3 days_3) :=
  EvL.pE mixed (lookC_ok (l := []) trivial) [2, 3] 3 4 (.nf (X := fun K => (bif (decide ((0 : Int) < days_3)) then wK K .ret (z38R ((w64 (sum_3 + (60 : Int))), days_3)) else wK K .ret (z38R (sum_3, days_3)))) (fun K => by kernel_rfl) (W_bif h (fun _ h => ⟨_, .refl _, h⟩) (fun _ h => ⟨_, .refl _, h⟩)))
def z38p3S (l : (List GHeir)) : St := { tm := [sv 2 (i64 (0 : Int)), sv 3 (i64 (0 : Int)), sv 6 (.c (.sl 3 l.length (lsEl eGHeir zGHeir l))), sv 7 (i64 ((l.length : Nat) : Int)), sv 8 (i64 (0 : Int))], hp := [], nx := 0 }
noncomputable def conversion_points_p3_g (l : (List GHeir)) (r : ((Int × Int))) : Option ((Int × Int)) := match r with | (sum_2, days_2) => (conversion_points_p2 sum_2 days_2)
noncomputable def conversion_points_p3 (l : (List GHeir)) : Option ((Int × Int)) := (fixL (conversion_points_l1 l) ((0 : Int), (0 : Int), (0 : Int))).bind (conversion_points_p3_g l)
theorem z38p3at : List.drop 2 z38i0 = .block 0 (.loop (inside (inside (nthI z38i0 2)))) :: List.drop 3 z38i0 := by kernel_rfl
theorem z38p3k (l : (List GHeir)) (K : KT) : ∀ r : ((Int × Int)), W (conversion_points_p3_g l r) (rE z38R K) → z38l1E l r (wK (blockK 0 (thenK (EvL Try.prog 35 (List.drop 3 z38i0) K) K)))
  | (sum_2, days_2), h => ⟨(z38p2S sum_2 days_2), (.refl _), (z38p2ok sum_2 days_2 _ h)⟩
theorem z38p3ok (l : (List GHeir)) (K : KT) (h : W (conversion_points_p3 l) (rE z38R K)) : EvL Try.prog 35 (List.drop 2 z38i0) K (z38p3S l) :=
  EvL.at_ z38p3at (EvL.cons_loop (EvOk.weak (EvOk.ent (.refl _) (EvOk.loopF (x := inside (inside (nthI z38i0 2))) (f := conversion_points_l1 l) (emb := z38l1S l) (E := z38l1E l) (z38l1ok l) (z38l1Ethen l) (W_loop h (z38p3k l K))))))
def z38p4S (l : (List GHeir)) : St := { tm := [sv 0 (.c (.sl 3 l.length (lsEl eGHeir zGHeir l)))], hp := [], nx := 0 }
noncomputable def conversion_points_p4 (l : (List GHeir)) : Option ((Int × Int)) := (conversion_points_p3 l)
theorem z38p4ok (l : (List GHeir)) (K : KT) (h : W (conversion_points_p4 l) (rE z38R K)) : EvL Try.prog 35 (List.drop 0 z38i0) K (z38p4S l) :=
  EvL.pD mixed (lookC_ok (l := []) trivial) [2, 3, 6, 7, 8] 0 2 2 (.nf (X := fun K => wK K .normal (z38p3S l)) (fun K => by kernel_rfl) (⟨_, .refl _, (z38p3ok l _ h)⟩))
noncomputable def conversion_points (l : (List GHeir)) : Option ((Int × Int)) := conversion_points_p4 l
theorem z38run (l : (List GHeir)) (y_ : (Int × Int)) (h : conversion_points l = some y_) : EvL Try.prog 35 (items (bodyOf Try.f38)) (retK Try.prog [.tmp 2, .tmp 3] (OutOk (conversion_points_out y_))) (z38p4S l) :=
  z38p4ok l _ (W_iff.2 ⟨y_, h, z38Rok y_⟩)
noncomputable def conversion_points_C : Con
  | [(.c (.sl k1 n2 e3))] => some ([LstOk eGHeir dGHeir 3 k1 n2 e3, (conversion_points (lst dGHeir n2 e3)).isSome = true], (conversion_points_out ((conversion_points (lst dGHeir n2 e3)).getD ((0 : Int), (0 : Int)))))
  | _ => none
theorem conversion_points_ok : Meets Try.prog 38 conversion_points_C := by
  refine meets_fun (fn := Try.f38) (c := bodyOf Try.f38) (by kernel_rfl) (by kernel_rfl) (by kernel_rfl) (rs := [.tmp 2, .tmp 3]) (by kernel_rfl) (nt := 35) (by kernel_rfl) fun vs p out h hp => ?_
  unfold conversion_points_C at h
  split at h
  · next k1 n2 e3 =>
    cases h
    obtain ⟨g0, hp⟩ := allq hp
    obtain ⟨g, hp⟩ := allq hp
    obtain ⟨x, hx⟩ := Option.isSome_iff_exists.1 g
    rw [hx]
    exact ⟨[(.c (.sl 3 ((lst dGHeir n2 e3)).length (lsEl eGHeir zGHeir (lst dGHeir n2 e3))))], (VLes.cons (VLe.slk g0.1 (RowIs.of_ok g0)) VLes.nil), rfl, z38run (lst dGHeir n2 e3) x hx⟩
  · cases h

noncomputable def z57i0 : List Code := items (bodyOf Try.f57)
def rational_size_out (x_2 : Int) : Out := .data (.c (.lit (.int .u64 x_2)))
def z57R (x_2 : Int) : St := { tm := [sv 2 (.c (.lit (.int .u64 x_2)))], hp := [], nx := 0 }
theorem z57Rok (x_2 : Int) : retK Try.prog [.tmp 2] (OutOk (rational_size_out x_2)) .ret (z57R x_2) :=
  retK.intro (v := (.c (.lit (.int .u64 x_2)))) (by kernel_rfl) ((VLe.rfl' _))
def z57p0S (x_1 : Int) : St := { tm := [sv 0 (i64 x_1)], hp := [], nx := 0 }
noncomputable def rational_size_p0 (x_1 : Int) : Option (Int) := (bif (decide (x_1 < (0 : Int))) then (some (IntKind.u64.wrap ((0 : Int) - (IntKind.u64.wrap x_1)))) else (some (IntKind.u64.wrap x_1)))
theorem z57p0ok (x_1 : Int) (K : KT) (h : W (rational_size_p0 x_1) (rE z57R K)) : EvL Try.prog 10 (List.drop 0 z57i0) K (z57p0S x_1) :=
  EvL.pE mixed (lookC_ok (l := []) trivial) [2] 0 5 (.nf (X := fun K => (bif (decide (x_1 < (0 : Int))) then wK K .ret (z57R (IntKind.u64.wrap ((0 : Int) - (IntKind.u64.wrap x_1)))) else wK K .ret (z57R (IntKind.u64.wrap x_1)))) (fun K => by kernel_rfl) (W_bif h (fun _ h => ⟨_, .refl _, h⟩) (fun _ h => ⟨_, .refl _, h⟩)))
noncomputable def rational_size (x_1 : Int) : Option (Int) := rational_size_p0 x_1
theorem z57run (x_1 : Int) (y_ : Int) (h : rational_size x_1 = some y_) : EvL Try.prog 10 (items (bodyOf Try.f57)) (retK Try.prog [.tmp 2] (OutOk (rational_size_out y_))) (z57p0S x_1) :=
  z57p0ok x_1 _ (W_iff.2 ⟨y_, h, z57Rok y_⟩)
noncomputable def rational_size_C : Con
  | [(.c (.lit (.int .i64 a1)))] => some ([(rational_size a1).isSome = true], (rational_size_out ((rational_size a1).getD (0 : Int))))
  | _ => none
theorem rational_size_ok : Meets Try.prog 57 rational_size_C := by
  refine meets_fun (fn := Try.f57) (c := bodyOf Try.f57) (by kernel_rfl) (by kernel_rfl) (by kernel_rfl) (rs := [.tmp 2]) (by kernel_rfl) (nt := 10) (by kernel_rfl) fun vs p out h hp => ?_
  unfold rational_size_C at h
  split at h
  · next a1 =>
    cases h
    obtain ⟨g, hp⟩ := allq hp
    obtain ⟨x, hx⟩ := Option.isSome_iff_exists.1 g
    rw [hx]
    exact ⟨[(i64 a1)], (VLes.cons (VLe.rfl' _) VLes.nil), rfl, z57run a1 x hx⟩
  · cases h

noncomputable def z56i0 : List Code := items (bodyOf Try.f56)
noncomputable def z56i1 : List Code := items (inside (inside (nthI z56i0 1)))
def rational_gcd_out (x_1 : Int) : Out := .data (.c (.lit (.int .u64 x_1)))
def z56R (x_1 : Int) : St := { tm := [sv 4 (.c (.lit (.int .u64 x_1)))], hp := [], nx := 0 }
theorem z56Rok (x_1 : Int) : retK Try.prog [.tmp 4] (OutOk (rational_gcd_out x_1)) .ret (z56R x_1) :=
  retK.intro (v := (.c (.lit (.int .u64 x_1)))) (by kernel_rfl) ((VLe.rfl' _))
def z56l1S (a b : Int) (s : (Int × Int)) : St := match s with | (a_1, b_1) => { tm := [sv 0 (.c (.lit (.int .u64 a_1))), sv 1 (.c (.lit (.int .u64 b_1)))], hp := [], nx := 0 }
def z56l1C0 (a b : Int) (s : Int) : St := match s with | a_2 => { tm := [sv 0 (.c (.lit (.int .u64 a_2)))], hp := [], nx := 0 }
def z56l1E (a b : Int) (r : ((Int))) (K : KT) : Prop := match r with | s => K (.exit 0) (z56l1C0 a b s)
def z56p0S (a_1 b_1 : Int) : St := { tm := [sv 0 (.c (.lit (.int .u64 a_1))), sv 1 (.c (.lit (.int .u64 b_1)))], hp := [], nx := 0 }
noncomputable def rational_gcd_p0 (a_1 b_1 : Int) : Option ((Int × Int) ⊕ ((Int))) := (bif (b_1 != (0 : Int)) then gd (b_1 ≠ (0 : Int)) ((some (Sum.inl (b_1, (Int.tmod a_1 b_1))))) else (some (Sum.inr a_1)))
theorem z56p0ok (a_1 b_1 a b : Int) (K : KT) (h : W (rational_gcd_p0 a_1 b_1) (nE (z56l1S a b) (z56l1E a b) K)) : EvL Try.prog 12 (List.drop 0 z56i1) K (z56p0S a_1 b_1) :=
  EvL.pE mixed (lookC_ok (l := []) trivial) [0, 1] 0 3 (.nf (X := fun K => (bif (b_1 != (0 : Int)) then (b_1 ≠ (0 : Int)) ∧ (wK K .normal (z56l1S a b (b_1, (Int.tmod a_1 b_1)))) else wK K (.exit 0) ({ tm := [sv 0 (.c (.lit (.int .u64 a_1))), sv 1 (.c (.lit (.int .u64 b_1)))], hp := [], nx := 0 }))) (fun K => by kernel_rfl) (W_bif h (fun _ h => (W_gd h fun hp0 h => ⟨_, .refl _, h⟩)) (fun _ h => ⟨(z56l1C0 a b a_1), (.of (.q rfl .nil) .nil rfl), h⟩)))
noncomputable def rational_gcd_l1 (a b : Int) (s : (Int × Int)) : Option ((Int × Int) ⊕ ((Int))) := match s with | (a_1, b_1) => rational_gcd_p0 a_1 b_1
theorem z56l1ok (a b : Int) (s : (Int × Int)) : Pp Try.prog 12 (List.drop 0 z56i1) (z56l1S a b s) (rational_gcd_l1 a b s) (nextE (z56l1S a b) (z56l1E a b)) := fun K h => match s, h with | (a_1, b_1), h => (z56p0ok a_1 b_1 a b _ h)
theorem z56l1Ethen (a b : Int) : ∀ (r : ((Int))) (J : St → Prop) (K : KT), z56l1E a b r K → z56l1E a b r (thenK J K)
  | s, _, _, h => h
def z56p1S (a_3 : Int) : St := { tm := [sv 0 (.c (.lit (.int .u64 a_3)))], hp := [], nx := 0 }
noncomputable def rational_gcd_p1 (a_3 : Int) : Option (Int) := (some a_3)
theorem z56p1ok (a_3 : Int) (K : KT) (h : W (rational_gcd_p1 a_3) (rE z56R K)) : EvL Try.prog 12 (List.drop 2 z56i0) K (z56p1S a_3) :=
  EvL.pE mixed (lookC_ok (l := []) trivial) [4] 2 2 (.nf (X := fun K => wK K .ret (z56R a_3)) (fun K => by kernel_rfl) (⟨_, .refl _, h⟩))
def z56p2S (a b : Int) : St := { tm := [sv 0 (.c (.lit (.int .u64 a))), sv 1 (.c (.lit (.int .u64 b)))], hp := [], nx := 0 }
noncomputable def rational_gcd_p2_g (a b : Int) (r : ((Int))) : Option (Int) := match r with | a_2 => (rational_gcd_p1 a_2)
noncomputable def rational_gcd_p2 (a b : Int) : Option (Int) := (fixL (rational_gcd_l1 a b) (a, b)).bind (rational_gcd_p2_g a b)
theorem z56p2at : List.drop 1 z56i0 = .block 0 (.loop (inside (inside (nthI z56i0 1)))) :: List.drop 2 z56i0 := by kernel_rfl
theorem z56p2k (a b : Int) (K : KT) : ∀ r : ((Int)), W (rational_gcd_p2_g a b r) (rE z56R K) → z56l1E a b r (wK (blockK 0 (thenK (EvL Try.prog 12 (List.drop 2 z56i0) K) K)))
  | a_2, h => ⟨(z56p1S a_2), (.refl _), (z56p1ok a_2 _ h)⟩
theorem z56p2ok (a b : Int) (K : KT) (h : W (rational_gcd_p2 a b) (rE z56R K)) : EvL Try.prog 12 (List.drop 1 z56i0) K (z56p2S a b) :=
  EvL.at_ z56p2at (EvL.cons_loop (EvOk.weak (EvOk.ent (.refl _) (EvOk.loopF (x := inside (inside (nthI z56i0 1))) (f := rational_gcd_l1 a b) (emb := z56l1S a b) (E := z56l1E a b) (z56l1ok a b) (z56l1Ethen a b) (W_loop h (z56p2k a b K))))))
def z56p3S (a b : Int) : St := { tm := [sv 0 (.c (.lit (.int .u64 a))), sv 1 (.c (.lit (.int .u64 b)))], hp := [], nx := 0 }
noncomputable def rational_gcd_p3 (a b : Int) : Option (Int) := (rational_gcd_p2 a b)
theorem z56p3ok (a b : Int) (K : KT) (h : W (rational_gcd_p3 a b) (rE z56R K)) : EvL Try.prog 12 (List.drop 0 z56i0) K (z56p3S a b) :=
  EvL.pD mixed (lookC_ok (l := []) trivial) [0, 1] 0 1 1 (.nf (X := fun K => wK K .normal (z56p2S a b)) (fun K => by kernel_rfl) (⟨_, .refl _, (z56p2ok a b _ h)⟩))
noncomputable def rational_gcd (a b : Int) : Option (Int) := rational_gcd_p3 a b
theorem z56run (a b : Int) (y_ : Int) (h : rational_gcd a b = some y_) : EvL Try.prog 12 (items (bodyOf Try.f56)) (retK Try.prog [.tmp 4] (OutOk (rational_gcd_out y_))) (z56p3S a b) :=
  z56p3ok a b _ (W_iff.2 ⟨y_, h, z56Rok y_⟩)
noncomputable def rational_gcd_C : Con
  | [(.c (.lit (.int .u64 a1))), (.c (.lit (.int .u64 a2)))] => some ([(rational_gcd a1 a2).isSome = true], (rational_gcd_out ((rational_gcd a1 a2).getD (0 : Int))))
  | _ => none
theorem rational_gcd_ok : Meets Try.prog 56 rational_gcd_C := by
  refine meets_fun (fn := Try.f56) (c := bodyOf Try.f56) (by kernel_rfl) (by kernel_rfl) (by kernel_rfl) (rs := [.tmp 4]) (by kernel_rfl) (nt := 12) (by kernel_rfl) fun vs p out h hp => ?_
  unfold rational_gcd_C at h
  split at h
  · next a1 a2 =>
    cases h
    obtain ⟨g, hp⟩ := allq hp
    obtain ⟨x, hx⟩ := Option.isSome_iff_exists.1 g
    rw [hx]
    exact ⟨[(.c (.lit (.int .u64 a1))), (.c (.lit (.int .u64 a2)))], (VLes.cons (VLe.rfl' _) (VLes.cons (VLe.rfl' _) VLes.nil)), rfl, z56run a1 a2 x hx⟩
  · cases h

noncomputable def z58i0 : List Code := items (bodyOf Try.f58)
def rational_within_out (x_1 : (GFraction × Int)) : Out := .data (.tup [(.agg [(i64 x_1.1.Num), (i64 x_1.1.Den)]), (i64 x_1.2)])
def z58R (x_1 : (GFraction × Int)) : St := { tm := [sv 6 (.ptr 0 2 0 0), sv 7 (i64 x_1.2)], hp := [(0, some (.box [(i64 x_1.1.Num), (i64 x_1.1.Den)]))], nx := 1 }
theorem z58Rok (x_1 : (GFraction × Int)) : retK Try.prog [.cell 6 51, .tmp 7] (OutOk (rational_within_out x_1)) .ret (z58R x_1) :=
  retK.intro (v := (.tup [(.agg [(i64 x_1.1.Num), (i64 x_1.1.Den)]), (i64 x_1.2)])) (by kernel_rfl) (VLe.tup (VLes.cons (VLe.rfl' _) (VLes.cons (VLe.rfl' _) (VLes.nil))))
def z58p0S (negative : Bool) (num den : GRational_wide) : St := { tm := [sv 0 (bl negative), sv 1 (.ag (eGRational_wide num)), sv 2 (.ag (eGRational_wide den))], hp := [], nx := 0 }
noncomputable def rational_within_p0 (negative : Bool) (num den : GRational_wide) : Option ((GFraction × Int)) := (bif (bif (bif (bif (num.hi != (0 : Int)) then true else (decide ((1000000000000000 : Int) < num.lo))) then true else (den.hi != (0 : Int))) then true else (decide ((1000000000 : Int) < den.lo))) then (some ((GFraction.mk (0 : Int) (0 : Int)), (2 : Int))) else (bif negative then (some ((GFraction.mk (w64 ((0 : Int) - (w64 num.lo))) (w64 den.lo)), (0 : Int))) else (some ((GFraction.mk (w64 num.lo) (w64 den.lo)), (0 : Int)))))
theorem z58p0ok (negative : Bool) (num den : GRational_wide) (K : KT) (h : W (rational_within_p0 negative num den) (rE z58R K)) : EvL Try.prog 41 (List.drop 0 z58i0) K (z58p0S negative num den) :=
  EvL.pE mixed (lookC_ok (l := []) trivial) [6, 7] 0 8 (.nf (X := fun K => (bif (bif (bif (bif (num.hi != (0 : Int)) then true else (decide ((1000000000000000 : Int) < num.lo))) then true else (den.hi != (0 : Int))) then true else (decide ((1000000000 : Int) < den.lo))) then wK K .ret (z58R ((GFraction.mk (0 : Int) (0 : Int)), (2 : Int))) else (bif negative then wK K .ret (z58R ((GFraction.mk (w64 ((0 : Int) - (w64 num.lo))) (w64 den.lo)), (0 : Int))) else wK K .ret (z58R ((GFraction.mk (w64 num.lo) (w64 den.lo)), (0 : Int)))))) (fun K => by kernel_rfl) (W_bif h (fun _ h => ⟨_, .refl _, h⟩) (fun _ h => (W_bif h (fun _ h => ⟨_, .refl _, h⟩) (fun _ h => ⟨_, .refl _, h⟩)))))
noncomputable def rational_within (negative : Bool) (num den : GRational_wide) : Option ((GFraction × Int)) := rational_within_p0 negative num den
theorem z58run (negative : Bool) (num den : GRational_wide) (y_ : (GFraction × Int)) (h : rational_within negative num den = some y_) : EvL Try.prog 41 (items (bodyOf Try.f58)) (retK Try.prog [.cell 6 51, .tmp 7] (OutOk (rational_within_out y_))) (z58p0S negative num den) :=
  z58p0ok negative num den _ (W_iff.2 ⟨y_, h, z58Rok y_⟩)
noncomputable def rational_within_C : Con
  | [(.c (.lit (.bool a1))), (.agg [(.c (.lit (.int .u64 a2))), (.c (.lit (.int .u64 a3)))]), (.agg [(.c (.lit (.int .u64 a4))), (.c (.lit (.int .u64 a5)))])] => some ([(rational_within a1 (GRational_wide.mk a2 a3) (GRational_wide.mk a4 a5)).isSome = true], (rational_within_out ((rational_within a1 (GRational_wide.mk a2 a3) (GRational_wide.mk a4 a5)).getD (zGFraction, (0 : Int)))))
  | _ => none
theorem rational_within_ok : Meets Try.prog 58 rational_within_C := by
  refine meets_fun (fn := Try.f58) (c := bodyOf Try.f58) (by kernel_rfl) (by kernel_rfl) (by kernel_rfl) (rs := [.cell 6 51, .tmp 7]) (by kernel_rfl) (nt := 41) (by kernel_rfl) fun vs p out h hp => ?_
  unfold rational_within_C at h
  split at h
  · next a1 a2 a3 a4 a5 =>
    cases h
    obtain ⟨g, hp⟩ := allq hp
    obtain ⟨x, hx⟩ := Option.isSome_iff_exists.1 g
    rw [hx]
    exact ⟨[(bl a1), (.agg [(.c (.lit (.int .u64 (GRational_wide.mk a2 a3).hi))), (.c (.lit (.int .u64 (GRational_wide.mk a2 a3).lo)))]), (.agg [(.c (.lit (.int .u64 (GRational_wide.mk a4 a5).hi))), (.c (.lit (.int .u64 (GRational_wide.mk a4 a5).lo)))])], (VLes.cons (VLe.rfl' _) (VLes.cons (VLe.rfl' _) (VLes.cons (VLe.rfl' _) VLes.nil))), rfl, z58run a1 (GRational_wide.mk a2 a3) (GRational_wide.mk a4 a5) x hx⟩
  · cases h

noncomputable def z39i0 : List Code := items (bodyOf Try.f39)
def rational_Make_out (x_1 : (GFraction × Int)) : Out := .data (.tup [(.agg [(i64 x_1.1.Num), (i64 x_1.1.Den)]), (i64 x_1.2)])
def z39R (x_1 : (GFraction × Int)) : St := { tm := [sv 4 (.ptr 0 2 0 0), sv 5 (i64 x_1.2)], hp := [(0, some (.box [(i64 x_1.1.Num), (i64 x_1.1.Den)]))], nx := 1 }
theorem z39Rok (x_1 : (GFraction × Int)) : retK Try.prog [.cell 4 51, .tmp 5] (OutOk (rational_Make_out x_1)) .ret (z39R x_1) :=
  retK.intro (v := (.tup [(.agg [(i64 x_1.1.Num), (i64 x_1.1.Den)]), (i64 x_1.2)])) (by kernel_rfl) (VLe.tup (VLes.cons (VLe.rfl' _) (VLes.cons (VLe.rfl' _) (VLes.nil))))
def z39p0S (num den : Int) : St := { tm := [sv 0 (i64 num), sv 1 (i64 den)], hp := [], nx := 0 }
noncomputable def rational_Make_p0 (num den : Int) : Option ((GFraction × Int)) := (bif (den == (0 : Int)) then (some ((GFraction.mk (0 : Int) (0 : Int)), (3 : Int))) else (rational_size num).bind fun r_1 => ((rational_size den).bind fun r_2 => ((rational_gcd r_1 r_2).bind fun r_3 => (gd (r_3 ≠ (0 : Int)) (gd (r_3 ≠ (0 : Int)) ((rational_within (bif (!((decide (num < (0 : Int))) == (decide (den < (0 : Int))))) then (num != (0 : Int)) else false) (GRational_wide.mk (0 : Int) (IntKind.u64.wrap (Int.tdiv r_1 r_3))) (GRational_wide.mk (0 : Int) (IntKind.u64.wrap (Int.tdiv r_2 r_3)))).bind fun r_4 => ((some (r_4.1, r_4.2)))))))))
theorem z39p0ok (num den : Int) (K : KT) (h : W (rational_Make_p0 num den) (rE z39R K)) : EvL Try.prog 39 (List.drop 0 z39i0) K (z39p0S num den) :=
  EvL.pE mixed (lookC_ok (l := [(56, .pure rational_gcd_C), (57, .pure rational_size_C), (58, .pure rational_within_C)]) ⟨rational_gcd_ok, rational_size_ok, rational_within_ok, trivial⟩) [4, 5] 0 7 (.nf (X := fun K => (bif (den == (0 : Int)) then wK K .ret (z39R ((GFraction.mk (0 : Int) (0 : Int)), (3 : Int))) else ((rational_size num).isSome = true) ∧ ((rational_size den).isSome = true) ∧ (((rational_gcd ((rational_size num).getD (0 : Int)) ((rational_size den).getD (0 : Int))).isSome = true) ∧ ((((rational_gcd ((rational_size num).getD (0 : Int)) ((rational_size den).getD (0 : Int))).getD (0 : Int)) ≠ (0 : Int)) ∧ (((rational_gcd ((rational_size num).getD (0 : Int)) ((rational_size den).getD (0 : Int))).getD (0 : Int)) ≠ (0 : Int)) ∧ ((rational_within (bif (!((decide (num < (0 : Int))) == (decide (den < (0 : Int))))) then (num != (0 : Int)) else false) (GRational_wide.mk (0 : Int) (IntKind.u64.wrap (Int.tdiv ((rational_size num).getD (0 : Int)) ((rational_gcd ((rational_size num).getD (0 : Int)) ((rational_size den).getD (0 : Int))).getD (0 : Int))))) (GRational_wide.mk (0 : Int) (IntKind.u64.wrap (Int.tdiv ((rational_size den).getD (0 : Int)) ((rational_gcd ((rational_size num).getD (0 : Int)) ((rational_size den).getD (0 : Int))).getD (0 : Int)))))).isSome = true) ∧ (wK K .ret (z39R (((rational_within (bif (!((decide (num < (0 : Int))) == (decide (den < (0 : Int))))) then (num != (0 : Int)) else false) (GRational_wide.mk (0 : Int) (IntKind.u64.wrap (Int.tdiv ((rational_size num).getD (0 : Int)) ((rational_gcd ((rational_size num).getD (0 : Int)) ((rational_size den).getD (0 : Int))).getD (0 : Int))))) (GRational_wide.mk (0 : Int) (IntKind.u64.wrap (Int.tdiv ((rational_size den).getD (0 : Int)) ((rational_gcd ((rational_size num).getD (0 : Int)) ((rational_size den).getD (0 : Int))).getD (0 : Int)))))).getD (zGFraction, (0 : Int))).1, ((rational_within (bif (!((decide (num < (0 : Int))) == (decide (den < (0 : Int))))) then (num != (0 : Int)) else false) (GRational_wide.mk (0 : Int) (IntKind.u64.wrap (Int.tdiv ((rational_size num).getD (0 : Int)) ((rational_gcd ((rational_size num).getD (0 : Int)) ((rational_size den).getD (0 : Int))).getD (0 : Int))))) (GRational_wide.mk (0 : Int) (IntKind.u64.wrap (Int.tdiv ((rational_size den).getD (0 : Int)) ((rational_gcd ((rational_size num).getD (0 : Int)) ((rational_size den).getD (0 : Int))).getD (0 : Int)))))).getD (zGFraction, (0 : Int))).2))))))) (fun K => by kernel_rfl) (W_bif h (fun _ h => ⟨_, .refl _, h⟩) (fun _ h => (W_bind (0 : Int) h fun hp0 h => (W_bind (0 : Int) h fun hp1 h => (W_bind (0 : Int) h fun hp2 h => (W_gd h fun hp3 h => (W_gd h fun hp4 h => (W_bind (zGFraction, (0 : Int)) h fun hp5 h => ⟨_, .refl _, h⟩)))))))))
noncomputable def rational_Make (num den : Int) : Option ((GFraction × Int)) := rational_Make_p0 num den
theorem z39run (num den : Int) (y_ : (GFraction × Int)) (h : rational_Make num den = some y_) : EvL Try.prog 39 (items (bodyOf Try.f39)) (retK Try.prog [.cell 4 51, .tmp 5] (OutOk (rational_Make_out y_))) (z39p0S num den) :=
  z39p0ok num den _ (W_iff.2 ⟨y_, h, z39Rok y_⟩)
noncomputable def rational_Make_C : Con
  | [(.c (.lit (.int .i64 a1))), (.c (.lit (.int .i64 a2)))] => some ([(rational_Make a1 a2).isSome = true], (rational_Make_out ((rational_Make a1 a2).getD (zGFraction, (0 : Int)))))
  | _ => none
theorem rational_Make_ok : Meets Try.prog 39 rational_Make_C := by
  refine meets_fun (fn := Try.f39) (c := bodyOf Try.f39) (by kernel_rfl) (by kernel_rfl) (by kernel_rfl) (rs := [.cell 4 51, .tmp 5]) (by kernel_rfl) (nt := 39) (by kernel_rfl) fun vs p out h hp => ?_
  unfold rational_Make_C at h
  split at h
  · next a1 a2 =>
    cases h
    obtain ⟨g, hp⟩ := allq hp
    obtain ⟨x, hx⟩ := Option.isSome_iff_exists.1 g
    rw [hx]
    exact ⟨[(i64 a1), (i64 a2)], (VLes.cons (VLe.rfl' _) (VLes.cons (VLe.rfl' _) VLes.nil)), rfl, z39run a1 a2 x hx⟩
  · cases h

noncomputable def z20i0 : List Code := items (bodyOf Try.f20)
noncomputable def z20i1 : List Code := items (inside (inside (nthI z20i0 7)))
def conversion_Shares_out (x_1 : ((List GFraction) × Int)) : Out := .new (.tup [(.c (.sl 2 x_1.1.length (lsEl eGFraction zGFraction x_1.1))), (i64 x_1.2)])
def z20R (x_1 : ((List GFraction) × Int)) : St := { tm := [sv 2 (.row 0 2 0 x_1.1.length), sv 3 (i64 x_1.2)], hp := [(0, some (.row 51 2 x_1.1.length (lsEl eGFraction zGFraction x_1.1)))], nx := 1 }
theorem z20Rok (x_1 : ((List GFraction) × Int)) : retK Try.prog [.tmp 2, .tmp 3] (OutOk (conversion_Shares_out x_1)) .ret (z20R x_1) :=
  retK.intro (v := (.tup [(.row 0 2 0 x_1.1.length), (i64 x_1.2)])) (by kernel_rfl) (⟨VLe.tup (VLes.cons (VLe.sl (RowIs.ls0 eGFraction zGFraction x_1.1)) (VLes.cons (VLe.rfl' _) (VLes.nil))), ⟨⟨_, _, _, rfl, fun i hi d hd => scal_GFraction _ d hd⟩, rfl, trivial⟩⟩)
def z20l1S (days whole : Int) (l : (List GHeir)) (s : ((List GFraction) × Int)) : St := match s with | (out_1, t26) => { tm := [sv 5 (i64 days), sv 6 (i64 whole), sv 7 (.row 0 2 0 out_1.length), sv 24 (.c (.sl 3 l.length (lsEl eGHeir zGHeir l))), sv 25 (i64 ((l.length : Nat) : Int)), sv 26 (i64 t26)], hp := [(0, some (.row 51 2 out_1.length (lsEl eGFraction zGFraction out_1)))], nx := 1 }
def z20l1C0 (days whole : Int) (l : (List GHeir)) (s : (List GFraction)) : St := match s with | out_2 => { tm := [sv 7 (.row 0 2 0 out_2.length)], hp := [(0, some (.row 51 2 out_2.length (lsEl eGFraction zGFraction out_2)))], nx := 1 }
def z20l1E (days whole : Int) (l : (List GHeir)) (r : (((List GFraction)))) (K : KT) : Prop := match r with | s => K (.exit 0) (z20l1C0 days whole l s)
def z20p0S (days whole : Int) (out_1 : (List GFraction)) (l : (List GHeir)) (t26 : Int) : St := { tm := [sv 5 (i64 days), sv 6 (i64 whole), sv 7 (.row 0 2 0 out_1.length), sv 24 (.c (.sl 3 l.length (lsEl eGHeir zGHeir l))), sv 25 (i64 ((l.length : Nat) : Int)), sv 26 (i64 t26)], hp := [(0, some (.row 51 2 out_1.length (lsEl eGFraction zGFraction out_1)))], nx := 1 }
noncomputable def conversion_Shares_p0 (days whole : Int) (out_1 : (List GFraction)) (l : (List GHeir)) (t26 : Int) : Option (((List GFraction) × Int) ⊕ (((List GFraction)))) := (bif (decide (t26 < ((l.length : Nat) : Int))) then gd ((0 : Int) ≤ t26 ∧ t26 < ((l.length : Nat) : Int)) ((bif ((l.getD (Int.toNat t26) zGHeir).Kind == (1 : Int)) then (rational_Make (w64 ((60 : Int) * (l.getD (Int.toNat t26) zGHeir).Days)) (w64 (days * whole))).bind fun r_3 => (gd (capB (out_1.length + 1) 16) ((some (Sum.inl ((out_1 ++ ([r_3.1] : List GFraction)), (w64 (t26 + (1 : Int)))))))) else (bif ((l.getD (Int.toNat t26) zGHeir).Kind == (3 : Int)) then (rational_Make (30 : Int) whole).bind fun r_4 => (gd (capB (out_1.length + 1) 16) ((some (Sum.inl ((out_1 ++ ([r_4.1] : List GFraction)), (w64 (t26 + (1 : Int)))))))) else (rational_Make (20 : Int) whole).bind fun r_5 => (gd (capB (out_1.length + 1) 16) ((some (Sum.inl ((out_1 ++ ([r_5.1] : List GFraction)), (w64 (t26 + (1 : Int))))))))))) else (some (Sum.inr out_1)))
theorem z20p0ok (days whole : Int) (out_1 : (List GFraction)) (l : (List GHeir)) (t26 : Int) (K : KT) (h : W (conversion_Shares_p0 days whole out_1 l t26) (nE (z20l1S days whole l) (z20l1E days whole l) K)) : EvL Try.prog 55 (List.drop 0 z20i1) K (z20p0S days whole out_1 l t26) :=
  EvL.pE mixed (lookC_ok (l := [(39, .pure rational_Make_C)]) ⟨rational_Make_ok, trivial⟩) [5, 6, 7, 24, 25, 26] 0 4 (.nf (X := fun K => (bif (decide (t26 < ((l.length : Nat) : Int))) then ((0 : Int) ≤ t26) ∧ (t26 < ((l.length : Nat) : Int)) ∧ ((bif ((l.getD (Int.toNat t26) zGHeir).Kind == (1 : Int)) then ((rational_Make (w64 ((60 : Int) * (l.getD (Int.toNat t26) zGHeir).Days)) (w64 (days * whole))).isSome = true) ∧ ((out_1.length = out_1.length) ∧ ((out_1.length + 1) * 16 ≤ 140737488355328) ∧ ((out_1.length + 1) ≤ 140737488355328) ∧ (wK K .normal ({ tm := [sv 5 (i64 days), sv 6 (i64 whole), sv 7 (.row 0 2 0 (out_1.length + 1)), sv 24 (.c (.sl 3 l.length (lsEl eGHeir zGHeir l))), sv 25 (i64 ((l.length : Nat) : Int)), sv 26 (i64 (w64 (t26 + (1 : Int))))], hp := [(0, some (.row 51 2 (out_1.length + 1) (fun i => bif Nat.blt i out_1.length then (lsEl eGFraction zGFraction out_1) i else (fun i => (litE 2 (eGFraction (((rational_Make (w64 ((60 : Int) * (l.getD (Int.toNat t26) zGHeir).Days)) (w64 (days * whole))).getD (zGFraction, (0 : Int))).1))) (0 + i)) (i - out_1.length))))], nx := 1 }))) else (bif ((l.getD (Int.toNat t26) zGHeir).Kind == (3 : Int)) then ((rational_Make (30 : Int) whole).isSome = true) ∧ ((out_1.length = out_1.length) ∧ ((out_1.length + 1) * 16 ≤ 140737488355328) ∧ ((out_1.length + 1) ≤ 140737488355328) ∧ (wK K .normal ({ tm := [sv 5 (i64 days), sv 6 (i64 whole), sv 7 (.row 0 2 0 (out_1.length + 1)), sv 24 (.c (.sl 3 l.length (lsEl eGHeir zGHeir l))), sv 25 (i64 ((l.length : Nat) : Int)), sv 26 (i64 (w64 (t26 + (1 : Int))))], hp := [(0, some (.row 51 2 (out_1.length + 1) (fun i => bif Nat.blt i out_1.length then (lsEl eGFraction zGFraction out_1) i else (fun i => (litE 2 (eGFraction (((rational_Make (30 : Int) whole).getD (zGFraction, (0 : Int))).1))) (0 + i)) (i - out_1.length))))], nx := 1 }))) else ((rational_Make (20 : Int) whole).isSome = true) ∧ ((out_1.length = out_1.length) ∧ ((out_1.length + 1) * 16 ≤ 140737488355328) ∧ ((out_1.length + 1) ≤ 140737488355328) ∧ (wK K .normal ({ tm := [sv 5 (i64 days), sv 6 (i64 whole), sv 7 (.row 0 2 0 (out_1.length + 1)), sv 24 (.c (.sl 3 l.length (lsEl eGHeir zGHeir l))), sv 25 (i64 ((l.length : Nat) : Int)), sv 26 (i64 (w64 (t26 + (1 : Int))))], hp := [(0, some (.row 51 2 (out_1.length + 1) (fun i => bif Nat.blt i out_1.length then (lsEl eGFraction zGFraction out_1) i else (fun i => (litE 2 (eGFraction (((rational_Make (20 : Int) whole).getD (zGFraction, (0 : Int))).1))) (0 + i)) (i - out_1.length))))], nx := 1 })))))) else wK K (.exit 0) ({ tm := [sv 5 (i64 days), sv 6 (i64 whole), sv 7 (.row 0 2 0 out_1.length), sv 24 (.c (.sl 3 l.length (lsEl eGHeir zGHeir l))), sv 25 (i64 ((l.length : Nat) : Int)), sv 26 (i64 t26)], hp := [(0, some (.row 51 2 out_1.length (lsEl eGFraction zGFraction out_1)))], nx := 1 }))) (fun K => by kernel_rfl) (W_bif h (fun _ h => (W_gd2 h fun hp0 h => (W_bif h (fun _ h => (W_bind (zGFraction, (0 : Int)) h fun hp1 h => ⟨rfl, (W_gd2 h fun hp2 h => ⟨(z20l1S days whole l ((out_1 ++ ([((rational_Make (w64 ((60 : Int) * (l.getD (Int.toNat t26) zGHeir).Days)) (w64 (days * whole))).getD (zGFraction, (0 : Int))).1] : List GFraction)), (w64 (t26 + (1 : Int))))), (.of (.q rfl (.q rfl (.cons rfl (.rown (len_app rfl rfl)) (.q rfl (.q rfl (.q rfl .nil)))))) (.row rfl (RowIs.app (RowIs.ls eGFraction zGFraction out_1) (RowIs.zero (RowIs.l1 (enc := eGFraction) (z := zGFraction) 2 (((rational_Make (w64 ((60 : Int) * (l.getD (Int.toNat t26) zGHeir).Days)) (w64 (days * whole))).getD (zGFraction, (0 : Int))).1) rfl))) .nil rfl) rfl), h⟩)⟩)) (fun _ h => (W_bif h (fun _ h => (W_bind (zGFraction, (0 : Int)) h fun hp3 h => ⟨rfl, (W_gd2 h fun hp4 h => ⟨(z20l1S days whole l ((out_1 ++ ([((rational_Make (30 : Int) whole).getD (zGFraction, (0 : Int))).1] : List GFraction)), (w64 (t26 + (1 : Int))))), (.of (.q rfl (.q rfl (.cons rfl (.rown (len_app rfl rfl)) (.q rfl (.q rfl (.q rfl .nil)))))) (.row rfl (RowIs.app (RowIs.ls eGFraction zGFraction out_1) (RowIs.zero (RowIs.l1 (enc := eGFraction) (z := zGFraction) 2 (((rational_Make (30 : Int) whole).getD (zGFraction, (0 : Int))).1) rfl))) .nil rfl) rfl), h⟩)⟩)) (fun _ h => (W_bind (zGFraction, (0 : Int)) h fun hp5 h => ⟨rfl, (W_gd2 h fun hp6 h => ⟨(z20l1S days whole l ((out_1 ++ ([((rational_Make (20 : Int) whole).getD (zGFraction, (0 : Int))).1] : List GFraction)), (w64 (t26 + (1 : Int))))), (.of (.q rfl (.q rfl (.cons rfl (.rown (len_app rfl rfl)) (.q rfl (.q rfl (.q rfl .nil)))))) (.row rfl (RowIs.app (RowIs.ls eGFraction zGFraction out_1) (RowIs.zero (RowIs.l1 (enc := eGFraction) (z := zGFraction) 2 (((rational_Make (20 : Int) whole).getD (zGFraction, (0 : Int))).1) rfl))) .nil rfl) rfl), h⟩)⟩))))))) (fun _ h => ⟨(z20l1C0 days whole l out_1), (.of (.q rfl .nil) (.same rfl .nil) rfl), h⟩)))
noncomputable def conversion_Shares_l1 (days whole : Int) (l : (List GHeir)) (s : ((List GFraction) × Int)) : Option (((List GFraction) × Int) ⊕ (((List GFraction)))) := match s with | (out_1, t26) => conversion_Shares_p0 days whole out_1 l t26
theorem z20l1ok (days whole : Int) (l : (List GHeir)) (s : ((List GFraction) × Int)) : Pp Try.prog 55 (List.drop 0 z20i1) (z20l1S days whole l s) (conversion_Shares_l1 days whole l s) (nextE (z20l1S days whole l) (z20l1E days whole l)) := fun K h => match s, h with | (out_1, t26), h => (z20p0ok days whole out_1 l t26 _ h)
theorem z20l1Ethen (days whole : Int) (l : (List GHeir)) : ∀ (r : (((List GFraction)))) (J : St → Prop) (K : KT), z20l1E days whole l r K → z20l1E days whole l r (thenK J K)
  | s, _, _, h => h
def z20p1S (out_3 : (List GFraction)) : St := { tm := [sv 7 (.row 0 2 0 out_3.length)], hp := [(0, some (.row 51 2 out_3.length (lsEl eGFraction zGFraction out_3)))], nx := 1 }
noncomputable def conversion_Shares_p1 (out_3 : (List GFraction)) : Option (((List GFraction) × Int)) := (some (out_3, (0 : Int)))
theorem z20p1ok (out_3 : (List GFraction)) (K : KT) (h : W (conversion_Shares_p1 out_3) (rE z20R K)) : EvL Try.prog 55 (List.drop 8 z20i0) K (z20p1S out_3) :=
  EvL.pE mixed (lookC_ok (l := []) trivial) [2, 3] 8 2 (.nf (X := fun K => wK K .ret (z20R (out_3, (0 : Int)))) (fun K => by kernel_rfl) (⟨_, .refl _, h⟩))
def z20p2S (days whole : Int) (l : (List GHeir)) : St := { tm := [sv 5 (i64 days), sv 6 (i64 whole), sv 7 (.c .nil), sv 24 (.c (.sl 3 l.length (lsEl eGHeir zGHeir l))), sv 25 (i64 ((l.length : Nat) : Int)), sv 26 (i64 (0 : Int))], hp := [], nx := 0 }
noncomputable def conversion_Shares_p2_g (days whole : Int) (l : (List GHeir)) (r : (((List GFraction)))) : Option (((List GFraction) × Int)) := match r with | out_2 => (conversion_Shares_p1 out_2)
noncomputable def conversion_Shares_p2 (days whole : Int) (l : (List GHeir)) : Option (((List GFraction) × Int)) := (fixL (conversion_Shares_l1 days whole l) (([] : List GFraction), (0 : Int))).bind (conversion_Shares_p2_g days whole l)
theorem z20p2at : List.drop 7 z20i0 = .block 0 (.loop (inside (inside (nthI z20i0 7)))) :: List.drop 8 z20i0 := by kernel_rfl
theorem z20p2k (days whole : Int) (l : (List GHeir)) (K : KT) : ∀ r : (((List GFraction))), W (conversion_Shares_p2_g days whole l r) (rE z20R K) → z20l1E days whole l r (wK (blockK 0 (thenK (EvL Try.prog 55 (List.drop 8 z20i0) K) K)))
  | out_2, h => ⟨(z20p1S out_2), (.refl _), (z20p1ok out_2 _ h)⟩
theorem z20p2ok (days whole : Int) (l : (List GHeir)) (K : KT) (h : W (conversion_Shares_p2 days whole l) (rE z20R K)) : EvL Try.prog 55 (List.drop 7 z20i0) K (z20p2S days whole l) :=
  EvL.at_ z20p2at (EvL.cons_loop (EvOk.weak (EvOk.ent (.trans (.nilrow 7 0 51 2 (lsEl eGFraction zGFraction []) (Nat.le_of_ble_eq_true rfl) rfl) (.cn [5, 6, 7, 24, 25, 26])) (EvOk.loopF (x := inside (inside (nthI z20i0 7))) (f := conversion_Shares_l1 days whole l) (emb := z20l1S days whole l) (E := z20l1E days whole l) (z20l1ok days whole l) (z20l1Ethen days whole l) (W_loop h (z20p2k days whole l K))))))
def z20p3S (l : (List GHeir)) : St := { tm := [sv 0 (.c (.sl 3 l.length (lsEl eGHeir zGHeir l)))], hp := [], nx := 0 }
noncomputable def conversion_Shares_p3 (l : (List GHeir)) : Option (((List GFraction) × Int)) := (conversion_valid l).bind fun r_1 => ((bif (!r_1) then (some (([] : List GFraction), (1 : Int))) else (conversion_points l).bind fun r_2 => ((conversion_Shares_p2 r_2.2 (if (100 : Int) < r_2.1 then r_2.1 else (100 : Int)) l))))
theorem z20p3nf (l : (List GHeir)) (K : KT) (L1_ : List GHeir) (hL1_ : lst dGHeir l.length (lsEl eGHeir zGHeir l) = L1_) (L2_ : List GHeir) (hL2_ : lst dGHeir l.length (lsEl eGHeir zGHeir l) = L2_) :
    ev Try.prog (lookC [(37, .pure conversion_valid_C), (38, .pure conversion_points_C)]) 55 (ofItems ((List.drop 0 z20i0).take 7)) (cN [2, 3, 5, 6, 7, 24, 25, 26] K) (z20p3S l) =
    ((LstOk eGHeir dGHeir 3 3 l.length (lsEl eGHeir zGHeir l)) ∧ ((conversion_valid L1_).isSome = true) ∧ ((bif (!((conversion_valid L1_).getD false)) then wK K .ret ({ tm := [sv 2 (.c .nil), sv 3 (i64 (1 : Int))], hp := [], nx := 0 }) else (LstOk eGHeir dGHeir 3 3 l.length (lsEl eGHeir zGHeir l)) ∧ ((conversion_points L2_).isSome = true) ∧ (wK K .normal ({ tm := [sv 2 (.c .nil), sv 3 (i64 (0 : Int)), sv 5 (i64 ((conversion_points L2_).getD ((0 : Int), (0 : Int))).2), sv 6 (i64 (if (100 : Int) < ((conversion_points L2_).getD ((0 : Int), (0 : Int))).1 then ((conversion_points L2_).getD ((0 : Int), (0 : Int))).1 else (100 : Int))), sv 7 (.c .nil), sv 24 (.c (.sl 3 l.length (lsEl eGHeir zGHeir l))), sv 25 (i64 ((l.length : Nat) : Int)), sv 26 (i64 (0 : Int))], hp := [], nx := 0 }))))) := by subst hL1_ hL2_; kernel_rfl
theorem z20p3ok (l : (List GHeir)) (K : KT) (h : W (conversion_Shares_p3 l) (rE z20R K)) : EvL Try.prog 55 (List.drop 0 z20i0) K (z20p3S l) :=
  EvL.pD mixed (lookC_ok (l := [(37, .pure conversion_valid_C), (38, .pure conversion_points_C)]) ⟨conversion_valid_ok, conversion_points_ok, trivial⟩) [2, 3, 5, 6, 7, 24, 25, 26] 0 7 7 (.of (z20p3nf l _ _ (RowIs.lst dGHeir_eGHeir (RowIs.ls eGHeir zGHeir l)) _ (RowIs.lst dGHeir_eGHeir (RowIs.ls eGHeir zGHeir l))) (⟨RowIs.ok dGHeir_eGHeir (RowIs.ls eGHeir zGHeir l), (W_bind false h fun hp0 h => (W_bif h (fun _ h => ⟨(z20R (([] : List GFraction), (1 : Int))), (.trans (.nilrow 2 0 51 2 (lsEl eGFraction zGFraction []) (Nat.le_of_ble_eq_true rfl) rfl) (.cn [2, 3])), h⟩) (fun _ h => ⟨RowIs.ok dGHeir_eGHeir (RowIs.ls eGHeir zGHeir l), (W_bind ((0 : Int), (0 : Int)) h fun hp1 h => ⟨(z20p2S (((conversion_points l).getD ((0 : Int), (0 : Int))).2) (if (100 : Int) < ((conversion_points l).getD ((0 : Int), (0 : Int))).1 then ((conversion_points l).getD ((0 : Int), (0 : Int))).1 else (100 : Int)) l), (.of (.q rfl (.q rfl (.q rfl (.q rfl (.q rfl (.q rfl .nil)))))) .nil rfl), (z20p2ok (((conversion_points l).getD ((0 : Int), (0 : Int))).2) (if (100 : Int) < ((conversion_points l).getD ((0 : Int), (0 : Int))).1 then ((conversion_points l).getD ((0 : Int), (0 : Int))).1 else (100 : Int)) l _ h)⟩)⟩)))⟩))
noncomputable def conversion_Shares (l : (List GHeir)) : Option (((List GFraction) × Int)) := conversion_Shares_p3 l
theorem z20run (l : (List GHeir)) (y_ : ((List GFraction) × Int)) (h : conversion_Shares l = some y_) : EvL Try.prog 55 (items (bodyOf Try.f20)) (retK Try.prog [.tmp 2, .tmp 3] (OutOk (conversion_Shares_out y_))) (z20p3S l) :=
  z20p3ok l _ (W_iff.2 ⟨y_, h, z20Rok y_⟩)
noncomputable def conversion_Shares_C : Con
  | [(.c (.sl k1 n2 e3))] => some ([LstOk eGHeir dGHeir 3 k1 n2 e3, (conversion_Shares (lst dGHeir n2 e3)).isSome = true], (conversion_Shares_out ((conversion_Shares (lst dGHeir n2 e3)).getD (([] : List GFraction), (0 : Int)))))
  | _ => none
theorem conversion_Shares_ok : Meets Try.prog 20 conversion_Shares_C := by
  refine meets_fun (fn := Try.f20) (c := bodyOf Try.f20) (by kernel_rfl) (by kernel_rfl) (by kernel_rfl) (rs := [.tmp 2, .tmp 3]) (by kernel_rfl) (nt := 55) (by kernel_rfl) fun vs p out h hp => ?_
  unfold conversion_Shares_C at h
  split at h
  · next k1 n2 e3 =>
    cases h
    obtain ⟨g0, hp⟩ := allq hp
    obtain ⟨g, hp⟩ := allq hp
    obtain ⟨x, hx⟩ := Option.isSome_iff_exists.1 g
    rw [hx]
    exact ⟨[(.c (.sl 3 ((lst dGHeir n2 e3)).length (lsEl eGHeir zGHeir (lst dGHeir n2 e3))))], (VLes.cons (VLe.slk g0.1 (RowIs.of_ok g0)) VLes.nil), rfl, z20run (lst dGHeir n2 e3) x hx⟩
  · cases h

end Go.Ax
