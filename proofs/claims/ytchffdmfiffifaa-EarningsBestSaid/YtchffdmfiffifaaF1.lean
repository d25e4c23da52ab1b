import Derived.Test.YtchffdmfiffifaaA4
import Derived.Test.YtchffdmfiffifaaRows
/- Types of the program, and functions of it: printed by a program, checked by the kernel. -/
set_option linter.all false
set_option maxRecDepth 100000
namespace Go.Ax
open Go.Proofs Go.Proofs.Ytchffdmfiffifaa
theorem mixed : Try.prog.follows .mixedOrders = true := by kernel_rfl
theorem dI64_eI64 (x : Int) : dI64 (eI64 x) = x := rfl
theorem scal_I64 (x : Int) (d : D) (h : d ∈ eI64 x) : d.scal = true := by
  simp only [eI64, List.mem_singleton] at h; subst h; rfl
theorem dU64_eU64 (x : Int) : dU64 (eU64 x) = x := rfl
theorem scal_U64 (x : Int) (d : D) (h : d ∈ eU64 x) : d.scal = true := by
  simp only [eU64, List.mem_singleton] at h; subst h; rfl
theorem dU8_eU8 (x : Int) : dU8 (eU8 x) = x := rfl
theorem scal_U8 (x : Int) (d : D) (h : d ∈ eU8 x) : d.scal = true := by
  simp only [eU8, List.mem_singleton] at h; subst h; rfl
theorem dI32_eI32 (x : Int) : dI32 (eI32 x) = x := rfl
theorem scal_I32 (x : Int) (d : D) (h : d ∈ eI32 x) : d.scal = true := by
  simp only [eI32, List.mem_singleton] at h; subst h; rfl
theorem dU32_eU32 (x : Int) : dU32 (eU32 x) = x := rfl
theorem scal_U32 (x : Int) (d : D) (h : d ∈ eU32 x) : d.scal = true := by
  simp only [eU32, List.mem_singleton] at h; subst h; rfl
theorem dU16_eU16 (x : Int) : dU16 (eU16 x) = x := rfl
theorem scal_U16 (x : Int) (d : D) (h : d ∈ eU16 x) : d.scal = true := by
  simp only [eU16, List.mem_singleton] at h; subst h; rfl
theorem dI8_eI8 (x : Int) : dI8 (eI8 x) = x := rfl
theorem scal_I8 (x : Int) (d : D) (h : d ∈ eI8 x) : d.scal = true := by
  simp only [eI8, List.mem_singleton] at h; subst h; rfl
theorem dI16_eI16 (x : Int) : dI16 (eI16 x) = x := rfl
theorem scal_I16 (x : Int) (d : D) (h : d ∈ eI16 x) : d.scal = true := by
  simp only [eI16, List.mem_singleton] at h; subst h; rfl
theorem dBool_eBool (x : Bool) : dBool (eBool x) = x := rfl
theorem scal_Bool (x : Bool) (d : D) (h : d ∈ eBool x) : d.scal = true := by
  simp only [eBool, List.mem_singleton] at h; subst h; rfl
theorem dStr_eStr (x : ByteArray) : dStr (eStr x) = x := rfl
theorem scal_Str (x : ByteArray) (d : D) (h : d ∈ eStr x) : d.scal = true := by
  simp only [eStr, List.mem_singleton] at h; subst h; rfl
structure GPensionhand_Fact where
  Issuer : Int
  Number : Int
  Version : Int
  Withdrawn : Bool
  Person : Int
  Kind : Int
  State : Int
  Seat : Int
  From : Int
  Length : Int
  Share : Int
  Amount : Int
  Ref : Int
def zGPensionhand_Fact : GPensionhand_Fact := ⟨(0 : Int), (0 : Int), (0 : Int), false, (0 : Int), (0 : Int), (0 : Int), (0 : Int), (0 : Int), (0 : Int), (0 : Int), (0 : Int), (0 : Int)⟩
def eGPensionhand_Fact (x : GPensionhand_Fact) : List D := [(di x.Issuer), (di x.Number), (di x.Version), (db x.Withdrawn), (di x.Person), (di x.Kind), (di x.State), (di x.Seat), (di x.From), (di x.Length), (di x.Share), (di x.Amount), (di x.Ref)]
def dGPensionhand_Fact : List D → GPensionhand_Fact
  | [.lit (.int .i64 a1), .lit (.int .i64 a2), .lit (.int .i64 a3), .lit (.bool a4), .lit (.int .i64 a5), .lit (.int .i64 a6), .lit (.int .i64 a7), .lit (.int .i64 a8), .lit (.int .i64 a9), .lit (.int .i64 a10), .lit (.int .i64 a11), .lit (.int .i64 a12), .lit (.int .i64 a13)] => (GPensionhand_Fact.mk a1 a2 a3 a4 a5 a6 a7 a8 a9 a10 a11 a12 a13)
  | _ => zGPensionhand_Fact
theorem dGPensionhand_Fact_eGPensionhand_Fact (x : GPensionhand_Fact) : dGPensionhand_Fact (eGPensionhand_Fact x) = x := rfl
theorem scal_GPensionhand_Fact (x : GPensionhand_Fact) (d : D) (h : d ∈ eGPensionhand_Fact x) : d.scal = true := by
  have : (eGPensionhand_Fact x).all D.scal = true := rfl
  exact List.all_eq_true.1 this d h
structure GSpan where
  From : Int
  To : Int
def zGSpan : GSpan := ⟨(0 : Int), (0 : Int)⟩
def eGSpan (x : GSpan) : List D := [(di x.From), (di x.To)]
def dGSpan : List D → GSpan
  | [.lit (.int .i64 a1), .lit (.int .i64 a2)] => (GSpan.mk a1 a2)
  | _ => zGSpan
theorem dGSpan_eGSpan (x : GSpan) : dGSpan (eGSpan x) = x := rfl
theorem scal_GSpan (x : GSpan) (d : D) (h : d ∈ eGSpan x) : d.scal = true := by
  have : (eGSpan x).all D.scal = true := rfl
  exact List.all_eq_true.1 this d h
structure GFact where
  Issuer : Int
  Number : Int
  Version : Int
  Withdrawn : Bool
  Person : Int
  Kind : Int
  State : Int
  Span : GSpan
  Seat : Int
  Share : Int
  Currency : Int
  Amount : Int
  Ref : Int
def zGFact : GFact := ⟨(0 : Int), (0 : Int), (0 : Int), false, (0 : Int), (0 : Int), (0 : Int), zGSpan, (0 : Int), (0 : Int), (0 : Int), (0 : Int), (0 : Int)⟩
def GFact.s_State (x : GFact) (v : Int) : GFact := ⟨x.Issuer, x.Number, x.Version, x.Withdrawn, x.Person, x.Kind, v, x.Span, x.Seat, x.Share, x.Currency, x.Amount, x.Ref⟩
def GFact.s_Span (x : GFact) (v : GSpan) : GFact := ⟨x.Issuer, x.Number, x.Version, x.Withdrawn, x.Person, x.Kind, x.State, v, x.Seat, x.Share, x.Currency, x.Amount, x.Ref⟩
def GFact.s_Seat (x : GFact) (v : Int) : GFact := ⟨x.Issuer, x.Number, x.Version, x.Withdrawn, x.Person, x.Kind, x.State, x.Span, v, x.Share, x.Currency, x.Amount, x.Ref⟩
def GFact.s_Share (x : GFact) (v : Int) : GFact := ⟨x.Issuer, x.Number, x.Version, x.Withdrawn, x.Person, x.Kind, x.State, x.Span, x.Seat, v, x.Currency, x.Amount, x.Ref⟩
def GFact.s_Currency (x : GFact) (v : Int) : GFact := ⟨x.Issuer, x.Number, x.Version, x.Withdrawn, x.Person, x.Kind, x.State, x.Span, x.Seat, x.Share, v, x.Amount, x.Ref⟩
def GFact.s_Amount (x : GFact) (v : Int) : GFact := ⟨x.Issuer, x.Number, x.Version, x.Withdrawn, x.Person, x.Kind, x.State, x.Span, x.Seat, x.Share, x.Currency, v, x.Ref⟩
def GFact.s_Ref (x : GFact) (v : Int) : GFact := ⟨x.Issuer, x.Number, x.Version, x.Withdrawn, x.Person, x.Kind, x.State, x.Span, x.Seat, x.Share, x.Currency, x.Amount, v⟩
def eGFact (x : GFact) : List D := [(di x.Issuer), (di x.Number), (di x.Version), (db x.Withdrawn), (di x.Person), (di x.Kind), (di x.State), (di x.Span.From), (di x.Span.To), (di x.Seat), (di x.Share), (di x.Currency), (di x.Amount), (di x.Ref)]
def dGFact : List D → GFact
  | [.lit (.int .i64 a1), .lit (.int .i64 a2), .lit (.int .i64 a3), .lit (.bool a4), .lit (.int .i64 a5), .lit (.int .i64 a6), .lit (.int .i64 a7), .lit (.int .i64 a8), .lit (.int .i64 a9), .lit (.int .i64 a10), .lit (.int .i64 a11), .lit (.int .i64 a12), .lit (.int .i64 a13), .lit (.int .i64 a14)] => (GFact.mk a1 a2 a3 a4 a5 a6 a7 (GSpan.mk a8 a9) a10 a11 a12 a13 a14)
  | _ => zGFact
theorem dGFact_eGFact (x : GFact) : dGFact (eGFact x) = x := rfl
theorem scal_GFact (x : GFact) (d : D) (h : d ∈ eGFact x) : d.scal = true := by
  have : (eGFact x).all D.scal = true := rfl
  exact List.all_eq_true.1 this d h
structure GFraction where
  Num : Int
  Den : Int
def zGFraction : GFraction := ⟨(0 : Int), (0 : Int)⟩
def eGFraction (x : GFraction) : List D := [(di x.Num), (di x.Den)]
def dGFraction : List D → GFraction
  | [.lit (.int .i64 a1), .lit (.int .i64 a2)] => (GFraction.mk a1 a2)
  | _ => zGFraction
theorem dGFraction_eGFraction (x : GFraction) : dGFraction (eGFraction x) = x := rfl
theorem scal_GFraction (x : GFraction) (d : D) (h : d ∈ eGFraction x) : d.scal = true := by
  have : (eGFraction x).all D.scal = true := rfl
  exact List.all_eq_true.1 this d h
structure GRational_wide where
  hi : Int
  lo : Int
def zGRational_wide : GRational_wide := ⟨(0 : Int), (0 : Int)⟩
def eGRational_wide (x : GRational_wide) : List D := [(.lit (.int .u64 x.hi)), (.lit (.int .u64 x.lo))]
def dGRational_wide : List D → GRational_wide
  | [.lit (.int .u64 a1), .lit (.int .u64 a2)] => (GRational_wide.mk a1 a2)
  | _ => zGRational_wide
theorem dGRational_wide_eGRational_wide (x : GRational_wide) : dGRational_wide (eGRational_wide x) = x := rfl
theorem scal_GRational_wide (x : GRational_wide) (d : D) (h : d ∈ eGRational_wide x) : d.scal = true := by
  have : (eGRational_wide x).all D.scal = true := rfl
  exact List.all_eq_true.1 this d h
structure GPensionref1_wide where
  hi : Int
  lo : Int
def zGPensionref1_wide : GPensionref1_wide := ⟨(0 : Int), (0 : Int)⟩
def eGPensionref1_wide (x : GPensionref1_wide) : List D := [(.lit (.int .u64 x.hi)), (.lit (.int .u64 x.lo))]
def dGPensionref1_wide : List D → GPensionref1_wide
  | [.lit (.int .u64 a1), .lit (.int .u64 a2)] => (GPensionref1_wide.mk a1 a2)
  | _ => zGPensionref1_wide
theorem dGPensionref1_wide_eGPensionref1_wide (x : GPensionref1_wide) : dGPensionref1_wide (eGPensionref1_wide x) = x := rfl
theorem scal_GPensionref1_wide (x : GPensionref1_wide) (d : D) (h : d ∈ eGPensionref1_wide x) : d.scal = true := by
  have : (eGPensionref1_wide x).all D.scal = true := rfl
  exact List.all_eq_true.1 this d h

noncomputable def z74i0 : List Code := items (bodyOf Try.f74)
def z74R (x_1 : Int) : St := { tm := [sv 4 (i64 x_1)], hp := [], nx := 0 }
def plain_Mod_out (x_1 : Int) : Out := .data (i64 x_1)
theorem z74Rok (x_1 : Int) : retK Try.prog [.tmp 4] (OutOk (plain_Mod_out x_1)) .ret (z74R x_1) :=
  retK.intro (v := (i64 x_1)) (by kernel_rfl) ((VLe.rfl' _))
def z74p0S (n m : Int) : St := { tm := [sv 0 (i64 n), sv 1 (i64 m)], hp := [], nx := 0 }
noncomputable def plain_Mod_p0 (n m : Int) : Option (Int) := gd (m ≠ (0 : Int)) ((bif (decide ((Int.tmod n m) < (0 : Int))) then (some (w64 ((Int.tmod n m) + m))) else (some (Int.tmod n m))))
theorem z74p0ok (n m : Int) (K : KT) (h : W (plain_Mod_p0 n m) (rE z74R K)) : EvL Try.prog 15 (List.drop 0 z74i0) K (z74p0S n m) :=
  EvL.pE mixed (lookC_ok (l := []) trivial) [4] 0 6 (.nf (X := fun K => (m ≠ (0 : Int)) ∧ ((bif (decide ((Int.tmod n m) < (0 : Int))) then wK K .ret (z74R (w64 ((Int.tmod n m) + m))) else wK K .ret (z74R (Int.tmod n m))))) (fun K => by kernel_rfl) (W_gd h fun hp0 h => (W_bif h (fun _ h => ⟨_, .refl _, h⟩) (fun _ h => ⟨_, .refl _, h⟩))))
noncomputable def plain_Mod (n m : Int) : Option (Int) := plain_Mod_p0 n m
theorem z74run (n m : Int) (y_ : Int) (h : plain_Mod n m = some y_) : EvL Try.prog 15 (items (bodyOf Try.f74)) (retK Try.prog [.tmp 4] (OutOk (plain_Mod_out y_))) (z74p0S n m) :=
  z74p0ok n m _ (W_iff.2 ⟨y_, h, z74Rok y_⟩)
noncomputable def plain_Mod_C : Con
  | [(.c (.lit (.int .i64 a1))), (.c (.lit (.int .i64 a2)))] => some ([(plain_Mod a1 a2).isSome = true], (plain_Mod_out ((plain_Mod a1 a2).getD (0 : Int))))
  | _ => none
theorem plain_Mod_ok : Meets Try.prog 74 plain_Mod_C := by
  refine meets_fun (fn := Try.f74) (c := bodyOf Try.f74) (by kernel_rfl) (by kernel_rfl) (by kernel_rfl) (rs := [.tmp 4]) (by kernel_rfl) (nt := 15) (by kernel_rfl) fun vs p out h hp => ?_
  unfold plain_Mod_C at h
  split at h
  · next a1 a2 =>
    cases h
    obtain ⟨g, hp⟩ := allq hp
    obtain ⟨x, hx⟩ := Option.isSome_iff_exists.1 g
    rw [hx]
    exact ⟨[(i64 a1), (i64 a2)], (VLes.cons (VLe.rfl' _) (VLes.cons (VLe.rfl' _) VLes.nil)), rfl, z74run a1 a2 x hx⟩
  · cases h

noncomputable def z75i0 : List Code := items (bodyOf Try.f75)
def z75R (x_1 : Int) : St := { tm := [sv 2 (i64 x_1)], hp := [], nx := 0 }
def hand_length_out (x_1 : Int) : Out := .data (i64 x_1)
theorem z75Rok (x_1 : Int) : retK Try.prog [.tmp 2] (OutOk (hand_length_out x_1)) .ret (z75R x_1) :=
  retK.intro (v := (i64 x_1)) (by kernel_rfl) ((VLe.rfl' _))
def z75p0S (n : Int) : St := { tm := [sv 0 (i64 n)], hp := [], nx := 0 }
noncomputable def hand_length_p0 (n : Int) : Option (Int) := (plain_Mod n (4 : Int)).bind fun r_1 => ((bif (r_1 == (0 : Int)) then (plain_Mod (w64 (Int.tdiv n (4 : Int))) (9000 : Int)).bind fun r_2 => ((some (w64 ((1 : Int) + r_2)))) else (bif (r_1 == (1 : Int)) then (plain_Mod (w64 (Int.tdiv n (4 : Int))) (1200 : Int)).bind fun r_3 => ((some (w64 ((1 : Int) + r_3)))) else (bif (r_1 == (2 : Int)) then (plain_Mod (w64 (Int.tdiv n (4 : Int))) (120 : Int)).bind fun r_4 => ((some (w64 ((1 : Int) + r_4)))) else (plain_Mod (w64 (Int.tdiv n (4 : Int))) (12 : Int)).bind fun r_5 => ((some (w64 ((1 : Int) + r_5))))))))
theorem z75p0ok (n : Int) (K : KT) (h : W (hand_length_p0 n) (rE z75R K)) : EvL Try.prog 27 (List.drop 0 z75i0) K (z75p0S n) :=
  EvL.pE mixed (lookC_ok (l := [(74, .pure plain_Mod_C)]) ⟨plain_Mod_ok, trivial⟩) [2] 0 5 (.nf (X := fun K => ((plain_Mod n (4 : Int)).isSome = true) ∧ ((bif (((plain_Mod n (4 : Int)).getD (0 : Int)) == (0 : Int)) then ((4 : Int) ≠ (0 : Int)) ∧ ((plain_Mod (w64 (Int.tdiv n (4 : Int))) (9000 : Int)).isSome = true) ∧ (wK K .ret (z75R (w64 ((1 : Int) + ((plain_Mod (w64 (Int.tdiv n (4 : Int))) (9000 : Int)).getD (0 : Int)))))) else (bif (((plain_Mod n (4 : Int)).getD (0 : Int)) == (1 : Int)) then ((4 : Int) ≠ (0 : Int)) ∧ ((plain_Mod (w64 (Int.tdiv n (4 : Int))) (1200 : Int)).isSome = true) ∧ (wK K .ret (z75R (w64 ((1 : Int) + ((plain_Mod (w64 (Int.tdiv n (4 : Int))) (1200 : Int)).getD (0 : Int)))))) else (bif (((plain_Mod n (4 : Int)).getD (0 : Int)) == (2 : Int)) then ((4 : Int) ≠ (0 : Int)) ∧ ((plain_Mod (w64 (Int.tdiv n (4 : Int))) (120 : Int)).isSome = true) ∧ (wK K .ret (z75R (w64 ((1 : Int) + ((plain_Mod (w64 (Int.tdiv n (4 : Int))) (120 : Int)).getD (0 : Int)))))) else ((4 : Int) ≠ (0 : Int)) ∧ ((plain_Mod (w64 (Int.tdiv n (4 : Int))) (12 : Int)).isSome = true) ∧ (wK K .ret (z75R (w64 ((1 : Int) + ((plain_Mod (w64 (Int.tdiv n (4 : Int))) (12 : Int)).getD (0 : Int))))))))))) (fun K => by kernel_rfl) (W_bind (0 : Int) h fun hp0 h => (W_bif h (fun _ h => ⟨(by decide), (W_bind (0 : Int) h fun hp1 h => ⟨_, .refl _, h⟩)⟩) (fun _ h => (W_bif h (fun _ h => ⟨(by decide), (W_bind (0 : Int) h fun hp2 h => ⟨_, .refl _, h⟩)⟩) (fun _ h => (W_bif h (fun _ h => ⟨(by decide), (W_bind (0 : Int) h fun hp3 h => ⟨_, .refl _, h⟩)⟩) (fun _ h => ⟨(by decide), (W_bind (0 : Int) h fun hp4 h => ⟨_, .refl _, h⟩)⟩))))))))
noncomputable def hand_length (n : Int) : Option (Int) := hand_length_p0 n
theorem z75run (n : Int) (y_ : Int) (h : hand_length n = some y_) : EvL Try.prog 27 (items (bodyOf Try.f75)) (retK Try.prog [.tmp 2] (OutOk (hand_length_out y_))) (z75p0S n) :=
  z75p0ok n _ (W_iff.2 ⟨y_, h, z75Rok y_⟩)
noncomputable def hand_length_C : Con
  | [(.c (.lit (.int .i64 a1)))] => some ([(hand_length a1).isSome = true], (hand_length_out ((hand_length a1).getD (0 : Int))))
  | _ => none
theorem hand_length_ok : Meets Try.prog 75 hand_length_C := by
  refine meets_fun (fn := Try.f75) (c := bodyOf Try.f75) (by kernel_rfl) (by kernel_rfl) (by kernel_rfl) (rs := [.tmp 2]) (by kernel_rfl) (nt := 27) (by kernel_rfl) fun vs p out h hp => ?_
  unfold hand_length_C at h
  split at h
  · next a1 =>
    cases h
    obtain ⟨g, hp⟩ := allq hp
    obtain ⟨x, hx⟩ := Option.isSome_iff_exists.1 g
    rw [hx]
    exact ⟨[(i64 a1)], (VLes.cons (VLe.rfl' _) VLes.nil), rfl, z75run a1 x hx⟩
  · cases h

noncomputable def z76i0 : List Code := items (bodyOf Try.f76)
def z76R (x_1 : ByteArray) : St := { tm := [sv 2 (str x_1)], hp := [], nx := 0 }
def ref12_Uses_out (x_1 : ByteArray) : Out := .data (str x_1)
theorem z76Rok (x_1 : ByteArray) : retK Try.prog [.tmp 2] (OutOk (ref12_Uses_out x_1)) .ret (z76R x_1) :=
  retK.intro (v := (str x_1)) (by kernel_rfl) ((VLe.rfl' _))
def z76p0S (kind : Int) : St := { tm := [sv 0 (i64 kind), sv 3 (.row 0 1 0 15)], hp := [(0, some (.row 9 1 15 (lsEl eStr (bstr []) ([(bstr []), (bstr [83, 80, 84, 72, 67, 65]), (bstr [83, 80, 72, 67, 65]), (bstr [83, 80, 72, 67, 65]), (bstr [83, 80, 84]), (bstr [83, 80]), (bstr [83, 80, 67, 65]), (bstr [83, 80]), (bstr [83, 80]), (bstr [83, 80]), (bstr [83, 80, 82]), (bstr [80]), (bstr [80]), (bstr [80]), (bstr [80, 82])] : List ByteArray))))], nx := 1 }
noncomputable def ref12_Uses_p0 (kind : Int) : Option (ByteArray) := gd ((0 : Int) ≤ kind ∧ kind < ((15 : Nat) : Int)) ((some (([(bstr []), (bstr [83, 80, 84, 72, 67, 65]), (bstr [83, 80, 72, 67, 65]), (bstr [83, 80, 72, 67, 65]), (bstr [83, 80, 84]), (bstr [83, 80]), (bstr [83, 80, 67, 65]), (bstr [83, 80]), (bstr [83, 80]), (bstr [83, 80]), (bstr [83, 80, 82]), (bstr [80]), (bstr [80]), (bstr [80]), (bstr [80, 82])] : List ByteArray).getD (0 + (Int.toNat kind)) (bstr []))))
theorem z76p0ok (kind : Int) (K : KT) (h : W (ref12_Uses_p0 kind) (rE z76R K)) : EvL Try.prog 17 (List.drop 4 z76i0) K (z76p0S kind) :=
  EvL.pE mixed (lookC_ok (l := []) trivial) [2] 4 2 (.nf (X := fun K => ((0 : Int) ≤ kind) ∧ (kind < ((15 : Nat) : Int)) ∧ (wK K .ret (z76R (([(bstr []), (bstr [83, 80, 84, 72, 67, 65]), (bstr [83, 80, 72, 67, 65]), (bstr [83, 80, 72, 67, 65]), (bstr [83, 80, 84]), (bstr [83, 80]), (bstr [83, 80, 67, 65]), (bstr [83, 80]), (bstr [83, 80]), (bstr [83, 80]), (bstr [83, 80, 82]), (bstr [80]), (bstr [80]), (bstr [80]), (bstr [80, 82])] : List ByteArray).getD (0 + (Int.toNat kind)) (bstr []))))) (fun K => by kernel_rfl) (W_gd2 h fun hp0 h => ⟨_, .refl _, h⟩))
def z76p1S (kind : Int) : St := { tm := [sv 0 (i64 kind)], hp := [], nx := 0 }
noncomputable def ref12_Uses_p1 (kind : Int) : Option (ByteArray) := (bif (bif (decide (kind < (1 : Int))) then true else (decide ((15 : Int) ≤ kind))) then (some (bstr [])) else (ref12_Uses_p0 kind))
theorem z76p1ok (kind : Int) (K : KT) (h : W (ref12_Uses_p1 kind) (rE z76R K)) : EvL Try.prog 17 (List.drop 0 z76i0) K (z76p1S kind) :=
  EvL.pD mixed (lookC_ok (l := []) trivial) [0, 2, 3] 0 4 4 (.nf (X := fun K => (bif (bif (decide (kind < (1 : Int))) then true else (decide ((15 : Int) ≤ kind))) then wK K .ret ({ tm := [sv 0 (i64 kind), sv 2 (str (bstr [])), sv 3 (.row 0 1 0 15)], hp := [(0, some (.row 9 1 15 (fun i => (List.take 1 (List.drop (i * 1) [(ds (bstr [])), (ds (bstr [83, 80, 84, 72, 67, 65])), (ds (bstr [83, 80, 72, 67, 65])), (ds (bstr [83, 80, 72, 67, 65])), (ds (bstr [83, 80, 84])), (ds (bstr [83, 80])), (ds (bstr [83, 80, 67, 65])), (ds (bstr [83, 80])), (ds (bstr [83, 80])), (ds (bstr [83, 80])), (ds (bstr [83, 80, 82])), (ds (bstr [80])), (ds (bstr [80])), (ds (bstr [80])), (ds (bstr [80, 82]))])))))], nx := 1 }) else wK K .normal ({ tm := [sv 0 (i64 kind), sv 2 (str (bstr [])), sv 3 (.row 0 1 0 15)], hp := [(0, some (.row 9 1 15 (fun i => (List.take 1 (List.drop (i * 1) [(ds (bstr [])), (ds (bstr [83, 80, 84, 72, 67, 65])), (ds (bstr [83, 80, 72, 67, 65])), (ds (bstr [83, 80, 72, 67, 65])), (ds (bstr [83, 80, 84])), (ds (bstr [83, 80])), (ds (bstr [83, 80, 67, 65])), (ds (bstr [83, 80])), (ds (bstr [83, 80])), (ds (bstr [83, 80])), (ds (bstr [83, 80, 82])), (ds (bstr [80])), (ds (bstr [80])), (ds (bstr [80])), (ds (bstr [80, 82]))])))))], nx := 1 }))) (fun K => by kernel_rfl) (W_bif h (fun _ h => ⟨(z76R (bstr [])), (.cn [2]), h⟩) (fun _ h => ⟨(z76p0S kind), (.of (.q rfl (.q rfl .nil)) (.row rfl (RowIs.lits (el := (fun i => (List.take 1 (List.drop (i * 1) [(ds (bstr [])), (ds (bstr [83, 80, 84, 72, 67, 65])), (ds (bstr [83, 80, 72, 67, 65])), (ds (bstr [83, 80, 72, 67, 65])), (ds (bstr [83, 80, 84])), (ds (bstr [83, 80])), (ds (bstr [83, 80, 67, 65])), (ds (bstr [83, 80])), (ds (bstr [83, 80])), (ds (bstr [83, 80])), (ds (bstr [83, 80, 82])), (ds (bstr [80])), (ds (bstr [80])), (ds (bstr [80])), (ds (bstr [80, 82]))])))) (z := (bstr [])) (l := ([(bstr []), (bstr [83, 80, 84, 72, 67, 65]), (bstr [83, 80, 72, 67, 65]), (bstr [83, 80, 72, 67, 65]), (bstr [83, 80, 84]), (bstr [83, 80]), (bstr [83, 80, 67, 65]), (bstr [83, 80]), (bstr [83, 80]), (bstr [83, 80]), (bstr [83, 80, 82]), (bstr [80]), (bstr [80]), (bstr [80]), (bstr [80, 82])] : List ByteArray)) ⟨rfl, rfl, rfl, rfl, rfl, rfl, rfl, rfl, rfl, rfl, rfl, rfl, rfl, rfl, rfl, trivial⟩) .nil rfl) rfl), (z76p0ok kind _ h)⟩)))
noncomputable def ref12_Uses (kind : Int) : Option (ByteArray) := ref12_Uses_p1 kind
theorem z76run (kind : Int) (y_ : ByteArray) (h : ref12_Uses kind = some y_) : EvL Try.prog 17 (items (bodyOf Try.f76)) (retK Try.prog [.tmp 2] (OutOk (ref12_Uses_out y_))) (z76p1S kind) :=
  z76p1ok kind _ (W_iff.2 ⟨y_, h, z76Rok y_⟩)
noncomputable def ref12_Uses_C : Con
  | [(.c (.lit (.int .i64 a1)))] => some ([(ref12_Uses a1).isSome = true], (ref12_Uses_out ((ref12_Uses a1).getD (bstr []))))
  | _ => none
theorem ref12_Uses_ok : Meets Try.prog 76 ref12_Uses_C := by
  refine meets_fun (fn := Try.f76) (c := bodyOf Try.f76) (by kernel_rfl) (by kernel_rfl) (by kernel_rfl) (rs := [.tmp 2]) (by kernel_rfl) (nt := 17) (by kernel_rfl) fun vs p out h hp => ?_
  unfold ref12_Uses_C at h
  split at h
  · next a1 =>
    cases h
    obtain ⟨g, hp⟩ := allq hp
    obtain ⟨x, hx⟩ := Option.isSome_iff_exists.1 g
    rw [hx]
    exact ⟨[(i64 a1)], (VLes.cons (VLe.rfl' _) VLes.nil), rfl, z76run a1 x hx⟩
  · cases h

noncomputable def z22i0 : List Code := items (bodyOf Try.f22)
noncomputable def z22i1 : List Code := items (inside (inside (nthI z22i0 9)))
def z22R (x_1 : GFact) : St := { tm := [sv 2 (.ptr 0 14 0 0)], hp := [(0, some (.box [(i64 x_1.Issuer), (i64 x_1.Number), (i64 x_1.Version), (bl x_1.Withdrawn), (i64 x_1.Person), (i64 x_1.Kind), (i64 x_1.State), (i64 x_1.Span.From), (i64 x_1.Span.To), (i64 x_1.Seat), (i64 x_1.Share), (i64 x_1.Currency), (i64 x_1.Amount), (i64 x_1.Ref)]))], nx := 1 }
def hand_Make_out (x_1 : GFact) : Out := .data (.agg [(i64 x_1.Issuer), (i64 x_1.Number), (i64 x_1.Version), (bl x_1.Withdrawn), (i64 x_1.Person), (i64 x_1.Kind), (i64 x_1.State), (i64 x_1.Span.From), (i64 x_1.Span.To), (i64 x_1.Seat), (i64 x_1.Share), (i64 x_1.Currency), (i64 x_1.Amount), (i64 x_1.Ref)])
theorem z22Rok (x_1 : GFact) : retK Try.prog [.cell 2 27] (OutOk (hand_Make_out x_1)) .ret (z22R x_1) :=
  retK.intro (v := (.agg [(i64 x_1.Issuer), (i64 x_1.Number), (i64 x_1.Version), (bl x_1.Withdrawn), (i64 x_1.Person), (i64 x_1.Kind), (i64 x_1.State), (i64 x_1.Span.From), (i64 x_1.Span.To), (i64 x_1.Seat), (i64 x_1.Share), (i64 x_1.Currency), (i64 x_1.Amount), (i64 x_1.Ref)])) (by kernel_rfl) ((VLe.rfl' _))
def z22l1S (from_1 to_1 : Int) (u : ByteArray) (r_1 : GPensionhand_Fact) (f : GFact) (s : (Int × GFact)) : St := match s with | (i_1, f_2) => { tm := [sv 1 (.ptr 0 13 0 0), sv 2 (.ptr 1 14 0 0), sv 3 (.ptr 2 14 0 0), sv 4 (i64 from_1), sv 5 (i64 to_1), sv 6 (str u), sv 7 (i64 i_1)], hp := [(0, some (.box [(i64 r_1.Issuer), (i64 r_1.Number), (i64 r_1.Version), (bl r_1.Withdrawn), (i64 r_1.Person), (i64 r_1.Kind), (i64 r_1.State), (i64 r_1.Seat), (i64 r_1.From), (i64 r_1.Length), (i64 r_1.Share), (i64 r_1.Amount), (i64 r_1.Ref)])), (1, some (.box [(i64 (0 : Int)), (i64 (0 : Int)), (i64 (0 : Int)), (bl false), (i64 (0 : Int)), (i64 (0 : Int)), (i64 (0 : Int)), (i64 (0 : Int)), (i64 (0 : Int)), (i64 (0 : Int)), (i64 (0 : Int)), (i64 (0 : Int)), (i64 (0 : Int)), (i64 (0 : Int))])), (2, some (.box [(i64 f_2.Issuer), (i64 f_2.Number), (i64 f_2.Version), (bl f_2.Withdrawn), (i64 f_2.Person), (i64 f_2.Kind), (i64 f_2.State), (i64 f_2.Span.From), (i64 f_2.Span.To), (i64 f_2.Seat), (i64 f_2.Share), (i64 f_2.Currency), (i64 f_2.Amount), (i64 f_2.Ref)]))], nx := 3 }
def z22l1C0 (from_1 to_1 : Int) (u : ByteArray) (r_1 : GPensionhand_Fact) (f : GFact) (s : GFact) : St := match s with | f_4 => { tm := [sv 2 (.ptr 0 14 0 0), sv 3 (.ptr 1 14 0 0)], hp := [(0, some (.box [(i64 (0 : Int)), (i64 (0 : Int)), (i64 (0 : Int)), (bl false), (i64 (0 : Int)), (i64 (0 : Int)), (i64 (0 : Int)), (i64 (0 : Int)), (i64 (0 : Int)), (i64 (0 : Int)), (i64 (0 : Int)), (i64 (0 : Int)), (i64 (0 : Int)), (i64 (0 : Int))])), (1, some (.box [(i64 f_4.Issuer), (i64 f_4.Number), (i64 f_4.Version), (bl f_4.Withdrawn), (i64 f_4.Person), (i64 f_4.Kind), (i64 f_4.State), (i64 f_4.Span.From), (i64 f_4.Span.To), (i64 f_4.Seat), (i64 f_4.Share), (i64 f_4.Currency), (i64 f_4.Amount), (i64 f_4.Ref)]))], nx := 2 }
def z22l1E (from_1 to_1 : Int) (u : ByteArray) (r_1 : GPensionhand_Fact) (f : GFact) (r : ((GFact))) (K : KT) : Prop := match r with | s => K (.exit 1) (z22l1C0 from_1 to_1 u r_1 f s)
def z22p0S (from_1 to_1 : Int) (u : ByteArray) (i_3 : Int) (r_1 : GPensionhand_Fact) (f_1 : GFact) : St := { tm := [sv 1 (.ptr 0 13 0 0), sv 2 (.ptr 1 14 0 0), sv 3 (.ptr 2 14 0 0), sv 4 (i64 from_1), sv 5 (i64 to_1), sv 6 (str u), sv 7 (i64 i_3)], hp := [(0, some (.box [(i64 r_1.Issuer), (i64 r_1.Number), (i64 r_1.Version), (bl r_1.Withdrawn), (i64 r_1.Person), (i64 r_1.Kind), (i64 r_1.State), (i64 r_1.Seat), (i64 r_1.From), (i64 r_1.Length), (i64 r_1.Share), (i64 r_1.Amount), (i64 r_1.Ref)])), (1, some (.box [(i64 (0 : Int)), (i64 (0 : Int)), (i64 (0 : Int)), (bl false), (i64 (0 : Int)), (i64 (0 : Int)), (i64 (0 : Int)), (i64 (0 : Int)), (i64 (0 : Int)), (i64 (0 : Int)), (i64 (0 : Int)), (i64 (0 : Int)), (i64 (0 : Int)), (i64 (0 : Int))])), (2, some (.box [(i64 f_1.Issuer), (i64 f_1.Number), (i64 f_1.Version), (bl f_1.Withdrawn), (i64 f_1.Person), (i64 f_1.Kind), (i64 f_1.State), (i64 f_1.Span.From), (i64 f_1.Span.To), (i64 f_1.Seat), (i64 f_1.Share), (i64 f_1.Currency), (i64 f_1.Amount), (i64 f_1.Ref)]))], nx := 3 }
noncomputable def hand_Make_p0 (from_1 to_1 : Int) (u : ByteArray) (i_3 : Int) (r_1 : GPensionhand_Fact) (f_1 : GFact) : Option ((Int × GFact) ⊕ ((GFact))) := (some (Sum.inl ((w64 (i_3 + (1 : Int))), f_1)))
theorem z22p0ok (from_1 to_1 : Int) (u : ByteArray) (i_3 : Int) (r_1 : GPensionhand_Fact) (f_1 f : GFact) (K : KT) (h : W (hand_Make_p0 from_1 to_1 u i_3 r_1 f_1) (nE (z22l1S from_1 to_1 u r_1 f) (z22l1E from_1 to_1 u r_1 f) K)) : EvL Try.prog 156 (List.drop 3 z22i1) K (z22p0S from_1 to_1 u i_3 r_1 f_1) :=
  EvL.pE mixed (lookC_ok (l := []) trivial) [1, 2, 3, 4, 5, 6, 7, 120, 121, 122, 123, 124] 3 1 (.nf (X := fun K => wK K .normal (z22l1S from_1 to_1 u r_1 f ((w64 (i_3 + (1 : Int))), f_1))) (fun K => by kernel_rfl) (⟨_, .refl _, h⟩))
def z22p1S (from_1 to_1 : Int) (u : ByteArray) (i_2 : Int) (r_1 : GPensionhand_Fact) (f_3 : GFact) : St := { tm := [sv 1 (.ptr 0 13 0 0), sv 2 (.ptr 1 14 0 0), sv 3 (.ptr 2 14 0 0), sv 4 (i64 from_1), sv 5 (i64 to_1), sv 6 (str u), sv 7 (i64 i_2)], hp := [(0, some (.box [(i64 r_1.Issuer), (i64 r_1.Number), (i64 r_1.Version), (bl r_1.Withdrawn), (i64 r_1.Person), (i64 r_1.Kind), (i64 r_1.State), (i64 r_1.Seat), (i64 r_1.From), (i64 r_1.Length), (i64 r_1.Share), (i64 r_1.Amount), (i64 r_1.Ref)])), (1, some (.box [(i64 (0 : Int)), (i64 (0 : Int)), (i64 (0 : Int)), (bl false), (i64 (0 : Int)), (i64 (0 : Int)), (i64 (0 : Int)), (i64 (0 : Int)), (i64 (0 : Int)), (i64 (0 : Int)), (i64 (0 : Int)), (i64 (0 : Int)), (i64 (0 : Int)), (i64 (0 : Int))])), (2, some (.box [(i64 f_3.Issuer), (i64 f_3.Number), (i64 f_3.Version), (bl f_3.Withdrawn), (i64 f_3.Person), (i64 f_3.Kind), (i64 f_3.State), (i64 f_3.Span.From), (i64 f_3.Span.To), (i64 f_3.Seat), (i64 f_3.Share), (i64 f_3.Currency), (i64 f_3.Amount), (i64 f_3.Ref)]))], nx := 3 }
noncomputable def hand_Make_p1 (from_1 to_1 : Int) (u : ByteArray) (i_2 : Int) (r_1 : GPensionhand_Fact) (f_3 : GFact) : Option ((Int × GFact) ⊕ ((GFact))) := gd ((0 : Int) ≤ i_2 ∧ i_2 < ((u.size : Nat) : Int)) ((bif (((u.data.getD (Int.toNat i_2) 0).toNat : Int) == (83 : Int)) then (plain_Mod r_1.State (3 : Int)).bind fun r_11 => ((hand_Make_p0 from_1 to_1 u i_2 r_1 (GFact.mk f_3.Issuer f_3.Number f_3.Version f_3.Withdrawn f_3.Person f_3.Kind r_11 f_3.Span f_3.Seat f_3.Share f_3.Currency f_3.Amount f_3.Ref))) else (bif (((u.data.getD (Int.toNat i_2) 0).toNat : Int) == (80 : Int)) then (hand_Make_p0 from_1 to_1 u i_2 r_1 (GFact.mk f_3.Issuer f_3.Number f_3.Version f_3.Withdrawn f_3.Person f_3.Kind f_3.State (GSpan.mk from_1 to_1) f_3.Seat f_3.Share f_3.Currency f_3.Amount f_3.Ref)) else (bif (((u.data.getD (Int.toNat i_2) 0).toNat : Int) == (84 : Int)) then (plain_Mod r_1.Seat (3 : Int)).bind fun r_12 => ((bif (bif (f_3.Kind == (4 : Int)) then (r_12 == f_3.State) else false) then (plain_Mod (w64 (f_3.State + (1 : Int))) (3 : Int)).bind fun r_13 => ((hand_Make_p0 from_1 to_1 u i_2 r_1 (GFact.mk f_3.Issuer f_3.Number f_3.Version f_3.Withdrawn f_3.Person f_3.Kind f_3.State f_3.Span r_13 f_3.Share f_3.Currency f_3.Amount f_3.Ref))) else (hand_Make_p0 from_1 to_1 u i_2 r_1 (GFact.mk f_3.Issuer f_3.Number f_3.Version f_3.Withdrawn f_3.Person f_3.Kind f_3.State f_3.Span r_12 f_3.Share f_3.Currency f_3.Amount f_3.Ref)))) else (bif (((u.data.getD (Int.toNat i_2) 0).toNat : Int) == (72 : Int)) then (plain_Mod r_1.Share (100 : Int)).bind fun r_14 => ((hand_Make_p0 from_1 to_1 u i_2 r_1 (GFact.mk f_3.Issuer f_3.Number f_3.Version f_3.Withdrawn f_3.Person f_3.Kind f_3.State f_3.Span f_3.Seat (w64 ((1 : Int) + r_14)) f_3.Currency f_3.Amount f_3.Ref))) else (bif (((u.data.getD (Int.toNat i_2) 0).toNat : Int) == (67 : Int)) then (plain_Mod (w64 (r_1.Seat + (Int.tmod r_1.State (3 : Int)))) (3 : Int)).bind fun r_15 => ((hand_Make_p0 from_1 to_1 u i_2 r_1 (GFact.mk f_3.Issuer f_3.Number f_3.Version f_3.Withdrawn f_3.Person f_3.Kind f_3.State f_3.Span f_3.Seat f_3.Share (w64 ((1 : Int) + r_15)) f_3.Amount f_3.Ref))) else (bif (((u.data.getD (Int.toNat i_2) 0).toNat : Int) == (65 : Int)) then (plain_Mod r_1.Amount (3000000 : Int)).bind fun r_16 => ((hand_Make_p0 from_1 to_1 u i_2 r_1 (GFact.mk f_3.Issuer f_3.Number f_3.Version f_3.Withdrawn f_3.Person f_3.Kind f_3.State f_3.Span f_3.Seat f_3.Share f_3.Currency r_16 f_3.Ref))) else (plain_Mod r_1.Ref (4 : Int)).bind fun r_17 => ((bif ((w64 ((1 : Int) + r_17)) == f_3.Person) then (plain_Mod f_3.Person (4 : Int)).bind fun r_18 => ((hand_Make_p0 from_1 to_1 u i_2 r_1 (GFact.mk f_3.Issuer f_3.Number f_3.Version f_3.Withdrawn f_3.Person f_3.Kind f_3.State f_3.Span f_3.Seat f_3.Share f_3.Currency f_3.Amount (w64 ((1 : Int) + r_18))))) else (hand_Make_p0 from_1 to_1 u i_2 r_1 (GFact.mk f_3.Issuer f_3.Number f_3.Version f_3.Withdrawn f_3.Person f_3.Kind f_3.State f_3.Span f_3.Seat f_3.Share f_3.Currency f_3.Amount (w64 ((1 : Int) + r_17)))))))))))))
theorem z22p1ok (from_1 to_1 : Int) (u : ByteArray) (i_2 : Int) (r_1 : GPensionhand_Fact) (f_3 f : GFact) (K : KT) (h : W (hand_Make_p1 from_1 to_1 u i_2 r_1 f_3) (nE (z22l1S from_1 to_1 u r_1 f) (z22l1E from_1 to_1 u r_1 f) K)) : EvL Try.prog 156 (List.drop 2 z22i1) K (z22p1S from_1 to_1 u i_2 r_1 f_3) :=
  EvL.pD mixed (lookC_ok (l := [(74, .pure plain_Mod_C)]) ⟨plain_Mod_ok, trivial⟩) [1, 2, 3, 4, 5, 6, 7, 120, 121, 122, 123, 124] 2 1 3 (.nf (X := fun K => ((0 : Int) ≤ i_2) ∧ (i_2 < ((u.size : Nat) : Int)) ∧ ((bif (((u.data.getD (Int.toNat i_2) 0).toNat : Int) == (83 : Int)) then ((plain_Mod r_1.State (3 : Int)).isSome = true) ∧ (wK K .normal (z22p0S from_1 to_1 u i_2 r_1 (GFact.s_State f_3 ((plain_Mod r_1.State (3 : Int)).getD (0 : Int))))) else (bif (((u.data.getD (Int.toNat i_2) 0).toNat : Int) == (80 : Int)) then wK K .normal (z22p0S from_1 to_1 u i_2 r_1 (GFact.s_Span f_3 (GSpan.mk from_1 to_1))) else (bif (((u.data.getD (Int.toNat i_2) 0).toNat : Int) == (84 : Int)) then ((plain_Mod r_1.Seat (3 : Int)).isSome = true) ∧ ((bif (bif (f_3.Kind == (4 : Int)) then (((plain_Mod r_1.Seat (3 : Int)).getD (0 : Int)) == f_3.State) else false) then ((plain_Mod (w64 (f_3.State + (1 : Int))) (3 : Int)).isSome = true) ∧ (wK K .normal ({ tm := [sv 1 (.ptr 0 13 0 0), sv 2 (.ptr 1 14 0 0), sv 3 (.ptr 2 14 0 0), sv 4 (i64 from_1), sv 5 (i64 to_1), sv 6 (str u), sv 7 (i64 i_2), sv 120 (.c .unk), sv 121 (.c .unk), sv 122 (.c .unk), sv 123 (.c .unk), sv 124 (.c .unk)], hp := [(0, some (.box [(i64 r_1.Issuer), (i64 r_1.Number), (i64 r_1.Version), (bl r_1.Withdrawn), (i64 r_1.Person), (i64 r_1.Kind), (i64 r_1.State), (i64 r_1.Seat), (i64 r_1.From), (i64 r_1.Length), (i64 r_1.Share), (i64 r_1.Amount), (i64 r_1.Ref)])), (1, some (.box [(i64 (0 : Int)), (i64 (0 : Int)), (i64 (0 : Int)), (bl false), (i64 (0 : Int)), (i64 (0 : Int)), (i64 (0 : Int)), (i64 (0 : Int)), (i64 (0 : Int)), (i64 (0 : Int)), (i64 (0 : Int)), (i64 (0 : Int)), (i64 (0 : Int)), (i64 (0 : Int))])), (2, some (.box [(i64 f_3.Issuer), (i64 f_3.Number), (i64 f_3.Version), (bl f_3.Withdrawn), (i64 f_3.Person), (i64 f_3.Kind), (i64 f_3.State), (i64 f_3.Span.From), (i64 f_3.Span.To), (i64 ((plain_Mod (w64 (f_3.State + (1 : Int))) (3 : Int)).getD (0 : Int))), (i64 f_3.Share), (i64 f_3.Currency), (i64 f_3.Amount), (i64 f_3.Ref)]))], nx := 3 })) else wK K .normal ({ tm := [sv 1 (.ptr 0 13 0 0), sv 2 (.ptr 1 14 0 0), sv 3 (.ptr 2 14 0 0), sv 4 (i64 from_1), sv 5 (i64 to_1), sv 6 (str u), sv 7 (i64 i_2), sv 120 (.c .unk), sv 121 (.c .unk), sv 122 (.c .unk), sv 123 (.c .unk), sv 124 (.c .unk)], hp := [(0, some (.box [(i64 r_1.Issuer), (i64 r_1.Number), (i64 r_1.Version), (bl r_1.Withdrawn), (i64 r_1.Person), (i64 r_1.Kind), (i64 r_1.State), (i64 r_1.Seat), (i64 r_1.From), (i64 r_1.Length), (i64 r_1.Share), (i64 r_1.Amount), (i64 r_1.Ref)])), (1, some (.box [(i64 (0 : Int)), (i64 (0 : Int)), (i64 (0 : Int)), (bl false), (i64 (0 : Int)), (i64 (0 : Int)), (i64 (0 : Int)), (i64 (0 : Int)), (i64 (0 : Int)), (i64 (0 : Int)), (i64 (0 : Int)), (i64 (0 : Int)), (i64 (0 : Int)), (i64 (0 : Int))])), (2, some (.box [(i64 f_3.Issuer), (i64 f_3.Number), (i64 f_3.Version), (bl f_3.Withdrawn), (i64 f_3.Person), (i64 f_3.Kind), (i64 f_3.State), (i64 f_3.Span.From), (i64 f_3.Span.To), (i64 ((plain_Mod r_1.Seat (3 : Int)).getD (0 : Int))), (i64 f_3.Share), (i64 f_3.Currency), (i64 f_3.Amount), (i64 f_3.Ref)]))], nx := 3 }))) else (bif (((u.data.getD (Int.toNat i_2) 0).toNat : Int) == (72 : Int)) then ((plain_Mod r_1.Share (100 : Int)).isSome = true) ∧ (wK K .normal (z22p0S from_1 to_1 u i_2 r_1 (GFact.s_Share f_3 (w64 ((1 : Int) + ((plain_Mod r_1.Share (100 : Int)).getD (0 : Int))))))) else (bif (((u.data.getD (Int.toNat i_2) 0).toNat : Int) == (67 : Int)) then ((3 : Int) ≠ (0 : Int)) ∧ ((plain_Mod (w64 (r_1.Seat + (Int.tmod r_1.State (3 : Int)))) (3 : Int)).isSome = true) ∧ (wK K .normal (z22p0S from_1 to_1 u i_2 r_1 (GFact.s_Currency f_3 (w64 ((1 : Int) + ((plain_Mod (w64 (r_1.Seat + (Int.tmod r_1.State (3 : Int)))) (3 : Int)).getD (0 : Int))))))) else (bif (((u.data.getD (Int.toNat i_2) 0).toNat : Int) == (65 : Int)) then ((plain_Mod r_1.Amount (3000000 : Int)).isSome = true) ∧ (wK K .normal (z22p0S from_1 to_1 u i_2 r_1 (GFact.s_Amount f_3 ((plain_Mod r_1.Amount (3000000 : Int)).getD (0 : Int))))) else ((plain_Mod r_1.Ref (4 : Int)).isSome = true) ∧ ((bif ((w64 ((1 : Int) + ((plain_Mod r_1.Ref (4 : Int)).getD (0 : Int)))) == f_3.Person) then ((plain_Mod f_3.Person (4 : Int)).isSome = true) ∧ (wK K .normal (z22p0S from_1 to_1 u i_2 r_1 (GFact.s_Ref f_3 (w64 ((1 : Int) + ((plain_Mod f_3.Person (4 : Int)).getD (0 : Int))))))) else wK K .normal (z22p0S from_1 to_1 u i_2 r_1 (GFact.s_Ref f_3 (w64 ((1 : Int) + ((plain_Mod r_1.Ref (4 : Int)).getD (0 : Int)))))))))))))))) (fun K => by kernel_rfl) (W_gd2 h fun hp0 h => (W_bif h (fun _ h => (W_bind (0 : Int) h fun hp1 h => ⟨_, .refl _, (z22p0ok from_1 to_1 u i_2 r_1 (GFact.s_State f_3 ((plain_Mod r_1.State (3 : Int)).getD (0 : Int))) f _ h)⟩)) (fun _ h => (W_bif h (fun _ h => ⟨_, .refl _, (z22p0ok from_1 to_1 u i_2 r_1 (GFact.s_Span f_3 (GSpan.mk from_1 to_1)) f _ h)⟩) (fun _ h => (W_bif h (fun _ h => (W_bind (0 : Int) h fun hp2 h => (W_bif h (fun _ h => (W_bind (0 : Int) h fun hp3 h => ⟨(z22p0S from_1 to_1 u i_2 r_1 (GFact.s_Seat f_3 ((plain_Mod (w64 (f_3.State + (1 : Int))) (3 : Int)).getD (0 : Int)))), (.of (.q rfl (.q rfl (.q rfl (.q rfl (.q rfl (.q rfl (.q rfl .nil))))))) (.same rfl (.same rfl (.same rfl .nil))) rfl), (z22p0ok from_1 to_1 u i_2 r_1 (GFact.s_Seat f_3 ((plain_Mod (w64 (f_3.State + (1 : Int))) (3 : Int)).getD (0 : Int))) f _ h)⟩)) (fun _ h => ⟨(z22p0S from_1 to_1 u i_2 r_1 (GFact.s_Seat f_3 ((plain_Mod r_1.Seat (3 : Int)).getD (0 : Int)))), (.of (.q rfl (.q rfl (.q rfl (.q rfl (.q rfl (.q rfl (.q rfl .nil))))))) (.same rfl (.same rfl (.same rfl .nil))) rfl), (z22p0ok from_1 to_1 u i_2 r_1 (GFact.s_Seat f_3 ((plain_Mod r_1.Seat (3 : Int)).getD (0 : Int))) f _ h)⟩)))) (fun _ h => (W_bif h (fun _ h => (W_bind (0 : Int) h fun hp4 h => ⟨_, .refl _, (z22p0ok from_1 to_1 u i_2 r_1 (GFact.s_Share f_3 (w64 ((1 : Int) + ((plain_Mod r_1.Share (100 : Int)).getD (0 : Int))))) f _ h)⟩)) (fun _ h => (W_bif h (fun _ h => ⟨(by decide), (W_bind (0 : Int) h fun hp5 h => ⟨_, .refl _, (z22p0ok from_1 to_1 u i_2 r_1 (GFact.s_Currency f_3 (w64 ((1 : Int) + ((plain_Mod (w64 (r_1.Seat + (Int.tmod r_1.State (3 : Int)))) (3 : Int)).getD (0 : Int))))) f _ h)⟩)⟩) (fun _ h => (W_bif h (fun _ h => (W_bind (0 : Int) h fun hp6 h => ⟨_, .refl _, (z22p0ok from_1 to_1 u i_2 r_1 (GFact.s_Amount f_3 ((plain_Mod r_1.Amount (3000000 : Int)).getD (0 : Int))) f _ h)⟩)) (fun _ h => (W_bind (0 : Int) h fun hp7 h => (W_bif h (fun _ h => (W_bind (0 : Int) h fun hp8 h => ⟨_, .refl _, (z22p0ok from_1 to_1 u i_2 r_1 (GFact.s_Ref f_3 (w64 ((1 : Int) + ((plain_Mod f_3.Person (4 : Int)).getD (0 : Int))))) f _ h)⟩)) (fun _ h => ⟨_, .refl _, (z22p0ok from_1 to_1 u i_2 r_1 (GFact.s_Ref f_3 (w64 ((1 : Int) + ((plain_Mod r_1.Ref (4 : Int)).getD (0 : Int))))) f _ h)⟩)))))))))))))))))
def z22p2S (from_1 to_1 : Int) (u : ByteArray) (i_1 : Int) (r_1 : GPensionhand_Fact) (f_2 : GFact) : St := { tm := [sv 1 (.ptr 0 13 0 0), sv 2 (.ptr 1 14 0 0), sv 3 (.ptr 2 14 0 0), sv 4 (i64 from_1), sv 5 (i64 to_1), sv 6 (str u), sv 7 (i64 i_1)], hp := [(0, some (.box [(i64 r_1.Issuer), (i64 r_1.Number), (i64 r_1.Version), (bl r_1.Withdrawn), (i64 r_1.Person), (i64 r_1.Kind), (i64 r_1.State), (i64 r_1.Seat), (i64 r_1.From), (i64 r_1.Length), (i64 r_1.Share), (i64 r_1.Amount), (i64 r_1.Ref)])), (1, some (.box [(i64 (0 : Int)), (i64 (0 : Int)), (i64 (0 : Int)), (bl false), (i64 (0 : Int)), (i64 (0 : Int)), (i64 (0 : Int)), (i64 (0 : Int)), (i64 (0 : Int)), (i64 (0 : Int)), (i64 (0 : Int)), (i64 (0 : Int)), (i64 (0 : Int)), (i64 (0 : Int))])), (2, some (.box [(i64 f_2.Issuer), (i64 f_2.Number), (i64 f_2.Version), (bl f_2.Withdrawn), (i64 f_2.Person), (i64 f_2.Kind), (i64 f_2.State), (i64 f_2.Span.From), (i64 f_2.Span.To), (i64 f_2.Seat), (i64 f_2.Share), (i64 f_2.Currency), (i64 f_2.Amount), (i64 f_2.Ref)]))], nx := 3 }
noncomputable def hand_Make_p2 (from_1 to_1 : Int) (u : ByteArray) (i_1 : Int) (r_1 : GPensionhand_Fact) (f_2 : GFact) : Option ((Int × GFact) ⊕ ((GFact))) := (bif (decide (i_1 < ((u.size : Nat) : Int))) then (hand_Make_p1 from_1 to_1 u i_1 r_1 f_2) else (some (Sum.inr f_2)))
theorem z22p2ok (from_1 to_1 : Int) (u : ByteArray) (i_1 : Int) (r_1 : GPensionhand_Fact) (f_2 f : GFact) (K : KT) (h : W (hand_Make_p2 from_1 to_1 u i_1 r_1 f_2) (nE (z22l1S from_1 to_1 u r_1 f) (z22l1E from_1 to_1 u r_1 f) K)) : EvL Try.prog 156 (List.drop 0 z22i1) K (z22p2S from_1 to_1 u i_1 r_1 f_2) :=
  EvL.pD mixed (lookC_ok (l := []) trivial) [1, 2, 3, 4, 5, 6, 7, 120, 121, 122, 123, 124] 0 2 2 (.nf (X := fun K => (bif (decide (i_1 < ((u.size : Nat) : Int))) then wK K .normal (z22p1S from_1 to_1 u i_1 r_1 f_2) else wK K (.exit 1) ({ tm := [sv 1 (.ptr 0 13 0 0), sv 2 (.ptr 1 14 0 0), sv 3 (.ptr 2 14 0 0), sv 4 (i64 from_1), sv 5 (i64 to_1), sv 6 (str u), sv 7 (i64 i_1)], hp := [(0, some (.box [(i64 r_1.Issuer), (i64 r_1.Number), (i64 r_1.Version), (bl r_1.Withdrawn), (i64 r_1.Person), (i64 r_1.Kind), (i64 r_1.State), (i64 r_1.Seat), (i64 r_1.From), (i64 r_1.Length), (i64 r_1.Share), (i64 r_1.Amount), (i64 r_1.Ref)])), (1, some (.box [(i64 (0 : Int)), (i64 (0 : Int)), (i64 (0 : Int)), (bl false), (i64 (0 : Int)), (i64 (0 : Int)), (i64 (0 : Int)), (i64 (0 : Int)), (i64 (0 : Int)), (i64 (0 : Int)), (i64 (0 : Int)), (i64 (0 : Int)), (i64 (0 : Int)), (i64 (0 : Int))])), (2, some (.box [(i64 f_2.Issuer), (i64 f_2.Number), (i64 f_2.Version), (bl f_2.Withdrawn), (i64 f_2.Person), (i64 f_2.Kind), (i64 f_2.State), (i64 f_2.Span.From), (i64 f_2.Span.To), (i64 f_2.Seat), (i64 f_2.Share), (i64 f_2.Currency), (i64 f_2.Amount), (i64 f_2.Ref)]))], nx := 3 }))) (fun K => by kernel_rfl) (W_bif h (fun _ h => ⟨_, .refl _, (z22p1ok from_1 to_1 u i_1 r_1 f_2 f _ h)⟩) (fun _ h => ⟨(z22l1C0 from_1 to_1 u r_1 f f_2), (.cn [2, 3]), h⟩)))
noncomputable def hand_Make_l1 (from_1 to_1 : Int) (u : ByteArray) (r_1 : GPensionhand_Fact) (f : GFact) (s : (Int × GFact)) : Option ((Int × GFact) ⊕ ((GFact))) := match s with | (i_1, f_2) => hand_Make_p2 from_1 to_1 u i_1 r_1 f_2
theorem z22l1ok (from_1 to_1 : Int) (u : ByteArray) (r_1 : GPensionhand_Fact) (f : GFact) (s : (Int × GFact)) : Pp Try.prog 156 (List.drop 0 z22i1) (z22l1S from_1 to_1 u r_1 f s) (hand_Make_l1 from_1 to_1 u r_1 f s) (nextE (z22l1S from_1 to_1 u r_1 f) (z22l1E from_1 to_1 u r_1 f)) := fun K h => match s, h with | (i_1, f_2), h => (z22p2ok from_1 to_1 u i_1 r_1 f_2 f _ h)
theorem z22l1Ethen (from_1 to_1 : Int) (u : ByteArray) (r_1 : GPensionhand_Fact) (f : GFact) : ∀ (r : ((GFact))) (J : St → Prop) (K : KT), z22l1E from_1 to_1 u r_1 f r K → z22l1E from_1 to_1 u r_1 f r (thenK J K)
  | s, _, _, h => h
def z22p3S (f_5 : GFact) : St := { tm := [sv 2 (.ptr 0 14 0 0), sv 3 (.ptr 1 14 0 0)], hp := [(0, some (.box [(i64 (0 : Int)), (i64 (0 : Int)), (i64 (0 : Int)), (bl false), (i64 (0 : Int)), (i64 (0 : Int)), (i64 (0 : Int)), (i64 (0 : Int)), (i64 (0 : Int)), (i64 (0 : Int)), (i64 (0 : Int)), (i64 (0 : Int)), (i64 (0 : Int)), (i64 (0 : Int))])), (1, some (.box [(i64 f_5.Issuer), (i64 f_5.Number), (i64 f_5.Version), (bl f_5.Withdrawn), (i64 f_5.Person), (i64 f_5.Kind), (i64 f_5.State), (i64 f_5.Span.From), (i64 f_5.Span.To), (i64 f_5.Seat), (i64 f_5.Share), (i64 f_5.Currency), (i64 f_5.Amount), (i64 f_5.Ref)]))], nx := 2 }
noncomputable def hand_Make_p3 (f_5 : GFact) : Option (GFact) := (some f_5)
theorem z22p3ok (f_5 : GFact) (K : KT) (h : W (hand_Make_p3 f_5) (rE z22R K)) : EvL Try.prog 156 (List.drop 10 z22i0) K (z22p3S f_5) :=
  EvL.pE mixed (lookC_ok (l := []) trivial) [2] 10 2 (.nf (X := fun K => wK K .ret (z22R f_5)) (fun K => by kernel_rfl) (⟨_, .refl _, h⟩))
def z22p4S (from_1 to_1 : Int) (u : ByteArray) (r_1 : GPensionhand_Fact) (f : GFact) : St := { tm := [sv 1 (.ptr 0 13 0 0), sv 2 (.ptr 1 14 0 0), sv 3 (.ptr 2 14 0 0), sv 4 (i64 from_1), sv 5 (i64 to_1), sv 6 (str u), sv 7 (i64 (0 : Int))], hp := [(0, some (.box [(i64 r_1.Issuer), (i64 r_1.Number), (i64 r_1.Version), (bl r_1.Withdrawn), (i64 r_1.Person), (i64 r_1.Kind), (i64 r_1.State), (i64 r_1.Seat), (i64 r_1.From), (i64 r_1.Length), (i64 r_1.Share), (i64 r_1.Amount), (i64 r_1.Ref)])), (1, some (.box [(i64 (0 : Int)), (i64 (0 : Int)), (i64 (0 : Int)), (bl false), (i64 (0 : Int)), (i64 (0 : Int)), (i64 (0 : Int)), (i64 (0 : Int)), (i64 (0 : Int)), (i64 (0 : Int)), (i64 (0 : Int)), (i64 (0 : Int)), (i64 (0 : Int)), (i64 (0 : Int))])), (2, some (.box [(i64 f.Issuer), (i64 f.Number), (i64 f.Version), (bl f.Withdrawn), (i64 f.Person), (i64 f.Kind), (i64 f.State), (i64 f.Span.From), (i64 f.Span.To), (i64 f.Seat), (i64 f.Share), (i64 f.Currency), (i64 f.Amount), (i64 f.Ref)]))], nx := 3 }
noncomputable def hand_Make_p4_g (from_1 to_1 : Int) (u : ByteArray) (r_1 : GPensionhand_Fact) (f : GFact) (r : ((GFact))) : Option (GFact) := match r with | f_4 => (hand_Make_p3 f_4)
noncomputable def hand_Make_p4 (from_1 to_1 : Int) (u : ByteArray) (r_1 : GPensionhand_Fact) (f : GFact) : Option (GFact) := (fixL (hand_Make_l1 from_1 to_1 u r_1 f) ((0 : Int), f)).bind (hand_Make_p4_g from_1 to_1 u r_1 f)
theorem z22p4at : List.drop 9 z22i0 = .block 1 (.loop (inside (inside (nthI z22i0 9)))) :: List.drop 10 z22i0 := by kernel_rfl
theorem z22p4k (from_1 to_1 : Int) (u : ByteArray) (r_1 : GPensionhand_Fact) (f : GFact) (K : KT) : ∀ r : ((GFact)), W (hand_Make_p4_g from_1 to_1 u r_1 f r) (rE z22R K) → z22l1E from_1 to_1 u r_1 f r (wK (blockK 1 (thenK (EvL Try.prog 156 (List.drop 10 z22i0) K) K)))
  | f_4, h => ⟨(z22p3S f_4), (.refl _), (z22p3ok f_4 _ h)⟩
theorem z22p4ok (from_1 to_1 : Int) (u : ByteArray) (r_1 : GPensionhand_Fact) (f : GFact) (K : KT) (h : W (hand_Make_p4 from_1 to_1 u r_1 f) (rE z22R K)) : EvL Try.prog 156 (List.drop 9 z22i0) K (z22p4S from_1 to_1 u r_1 f) :=
  EvL.at_ z22p4at (EvL.cons_loop (EvOk.weak (EvOk.ent (.refl _) (EvOk.loopF (x := inside (inside (nthI z22i0 9))) (f := hand_Make_l1 from_1 to_1 u r_1 f) (emb := z22l1S from_1 to_1 u r_1 f) (E := z22l1E from_1 to_1 u r_1 f) (z22l1ok from_1 to_1 u r_1 f) (z22l1Ethen from_1 to_1 u r_1 f) (W_loop h (z22p4k from_1 to_1 u r_1 f K))))))
def z22p5S (from_1 to_1 : Int) (r_1 : GPensionhand_Fact) (f : GFact) : St := { tm := [sv 1 (.ptr 0 13 0 0), sv 2 (.ptr 1 14 0 0), sv 3 (.ptr 2 14 0 0), sv 4 (i64 from_1), sv 5 (i64 to_1)], hp := [(0, some (.box [(i64 r_1.Issuer), (i64 r_1.Number), (i64 r_1.Version), (bl r_1.Withdrawn), (i64 r_1.Person), (i64 r_1.Kind), (i64 r_1.State), (i64 r_1.Seat), (i64 r_1.From), (i64 r_1.Length), (i64 r_1.Share), (i64 r_1.Amount), (i64 r_1.Ref)])), (1, some (.box [(i64 (0 : Int)), (i64 (0 : Int)), (i64 (0 : Int)), (bl false), (i64 (0 : Int)), (i64 (0 : Int)), (i64 (0 : Int)), (i64 (0 : Int)), (i64 (0 : Int)), (i64 (0 : Int)), (i64 (0 : Int)), (i64 (0 : Int)), (i64 (0 : Int)), (i64 (0 : Int))])), (2, some (.box [(i64 f.Issuer), (i64 f.Number), (i64 f.Version), (bl f.Withdrawn), (i64 f.Person), (i64 f.Kind), (i64 f.State), (i64 f.Span.From), (i64 f.Span.To), (i64 f.Seat), (i64 f.Share), (i64 f.Currency), (i64 f.Amount), (i64 f.Ref)]))], nx := 3 }
noncomputable def hand_Make_p5 (from_1 to_1 : Int) (r_1 : GPensionhand_Fact) (f : GFact) : Option (GFact) := (ref12_Uses f.Kind).bind fun r_10 => ((hand_Make_p4 from_1 to_1 r_10 r_1 f))
theorem z22p5ok (from_1 to_1 : Int) (r_1 : GPensionhand_Fact) (f : GFact) (K : KT) (h : W (hand_Make_p5 from_1 to_1 r_1 f) (rE z22R K)) : EvL Try.prog 156 (List.drop 7 z22i0) K (z22p5S from_1 to_1 r_1 f) :=
  EvL.pD mixed (lookC_ok (l := [(76, .pure ref12_Uses_C)]) ⟨ref12_Uses_ok, trivial⟩) [1, 2, 3, 4, 5, 6, 7, 120, 121, 122, 123, 124] 7 2 9 (.nf (X := fun K => ((ref12_Uses f.Kind).isSome = true) ∧ (wK K .normal (z22p4S from_1 to_1 ((ref12_Uses f.Kind).getD (bstr [])) r_1 f))) (fun K => by kernel_rfl) (W_bind (bstr []) h fun hp0 h => ⟨_, .refl _, (z22p4ok from_1 to_1 ((ref12_Uses f.Kind).getD (bstr [])) r_1 f _ h)⟩))
def z22p6S (r_1 : GPensionhand_Fact) : St := { tm := [sv 0 (.ag (eGPensionhand_Fact r_1))], hp := [], nx := 0 }
noncomputable def hand_Make_p6 (r_1 : GPensionhand_Fact) : Option (GFact) := (plain_Mod r_1.Issuer (3 : Int)).bind fun r_2 => ((plain_Mod r_1.Number (20 : Int)).bind fun r_3 => ((plain_Mod r_1.Version (3 : Int)).bind fun r_4 => ((plain_Mod r_1.Person (4 : Int)).bind fun r_5 => ((plain_Mod r_1.Kind (14 : Int)).bind fun r_6 => ((plain_Mod r_1.From (16000 : Int)).bind fun r_7 => ((hand_length r_1.Length).bind fun r_8 => ((bif ((w64 ((1 : Int) + r_6)) == (11 : Int)) then (plain_Mod r_1.From (5000 : Int)).bind fun r_9 => ((hand_Make_p5 (w64 ((12000 : Int) + r_9)) (w64 ((w64 ((12000 : Int) + r_9)) + (1 : Int))) r_1 (GFact.mk r_2 (w64 ((1 : Int) + r_3)) (w64 ((1 : Int) + r_4)) r_1.Withdrawn (w64 ((1 : Int) + r_5)) (w64 ((1 : Int) + r_6)) (0 : Int) (GSpan.mk (0 : Int) (0 : Int)) (0 : Int) (0 : Int) (0 : Int) (0 : Int) (0 : Int)))) else (bif ((w64 ((1 : Int) + r_6)) == (12 : Int)) then (plain_Mod r_1.From (6000 : Int)).bind fun r_19 => ((hand_Make_p5 (w64 ((34000 : Int) + r_19)) (w64 ((w64 ((34000 : Int) + r_19)) + (1 : Int))) r_1 (GFact.mk r_2 (w64 ((1 : Int) + r_3)) (w64 ((1 : Int) + r_4)) r_1.Withdrawn (w64 ((1 : Int) + r_5)) (w64 ((1 : Int) + r_6)) (0 : Int) (GSpan.mk (0 : Int) (0 : Int)) (0 : Int) (0 : Int) (0 : Int) (0 : Int) (0 : Int)))) else (bif ((w64 ((1 : Int) + r_6)) == (8 : Int)) then (plain_Mod r_1.From (4000 : Int)).bind fun r_20 => ((plain_Mod r_1.Length (700 : Int)).bind fun r_21 => ((hand_Make_p5 (w64 ((34000 : Int) + r_20)) (w64 ((w64 ((w64 ((34000 : Int) + r_20)) + (1 : Int))) + r_21)) r_1 (GFact.mk r_2 (w64 ((1 : Int) + r_3)) (w64 ((1 : Int) + r_4)) r_1.Withdrawn (w64 ((1 : Int) + r_5)) (w64 ((1 : Int) + r_6)) (0 : Int) (GSpan.mk (0 : Int) (0 : Int)) (0 : Int) (0 : Int) (0 : Int) (0 : Int) (0 : Int))))) else (hand_Make_p5 (w64 ((21900 : Int) + r_7)) (w64 ((w64 ((21900 : Int) + r_7)) + r_8)) r_1 (GFact.mk r_2 (w64 ((1 : Int) + r_3)) (w64 ((1 : Int) + r_4)) r_1.Withdrawn (w64 ((1 : Int) + r_5)) (w64 ((1 : Int) + r_6)) (0 : Int) (GSpan.mk (0 : Int) (0 : Int)) (0 : Int) (0 : Int) (0 : Int) (0 : Int) (0 : Int)))))))))))))
theorem z22p6ok (r_1 : GPensionhand_Fact) (K : KT) (h : W (hand_Make_p6 r_1) (rE z22R K)) : EvL Try.prog 156 (List.drop 0 z22i0) K (z22p6S r_1) :=
  EvL.pD mixed (lookC_ok (l := [(74, .pure plain_Mod_C), (75, .pure hand_length_C)]) ⟨plain_Mod_ok, hand_length_ok, trivial⟩) [1, 2, 3, 4, 5, 120, 121, 122, 123, 124] 0 7 7 (.nf (X := fun K => ((plain_Mod r_1.Issuer (3 : Int)).isSome = true) ∧ ((plain_Mod r_1.Number (20 : Int)).isSome = true) ∧ ((plain_Mod r_1.Version (3 : Int)).isSome = true) ∧ (((plain_Mod r_1.Person (4 : Int)).isSome = true) ∧ ((plain_Mod r_1.Kind (14 : Int)).isSome = true) ∧ (((plain_Mod r_1.From (16000 : Int)).isSome = true) ∧ (((hand_length r_1.Length).isSome = true) ∧ ((bif ((w64 ((1 : Int) + ((plain_Mod r_1.Kind (14 : Int)).getD (0 : Int)))) == (11 : Int)) then ((plain_Mod r_1.From (5000 : Int)).isSome = true) ∧ (wK K .normal (z22p5S (w64 ((12000 : Int) + ((plain_Mod r_1.From (5000 : Int)).getD (0 : Int)))) (w64 ((w64 ((12000 : Int) + ((plain_Mod r_1.From (5000 : Int)).getD (0 : Int)))) + (1 : Int))) r_1 (GFact.mk ((plain_Mod r_1.Issuer (3 : Int)).getD (0 : Int)) (w64 ((1 : Int) + ((plain_Mod r_1.Number (20 : Int)).getD (0 : Int)))) (w64 ((1 : Int) + ((plain_Mod r_1.Version (3 : Int)).getD (0 : Int)))) r_1.Withdrawn (w64 ((1 : Int) + ((plain_Mod r_1.Person (4 : Int)).getD (0 : Int)))) (w64 ((1 : Int) + ((plain_Mod r_1.Kind (14 : Int)).getD (0 : Int)))) (0 : Int) (GSpan.mk (0 : Int) (0 : Int)) (0 : Int) (0 : Int) (0 : Int) (0 : Int) (0 : Int)))) else (bif ((w64 ((1 : Int) + ((plain_Mod r_1.Kind (14 : Int)).getD (0 : Int)))) == (12 : Int)) then ((plain_Mod r_1.From (6000 : Int)).isSome = true) ∧ (wK K .normal (z22p5S (w64 ((34000 : Int) + ((plain_Mod r_1.From (6000 : Int)).getD (0 : Int)))) (w64 ((w64 ((34000 : Int) + ((plain_Mod r_1.From (6000 : Int)).getD (0 : Int)))) + (1 : Int))) r_1 (GFact.mk ((plain_Mod r_1.Issuer (3 : Int)).getD (0 : Int)) (w64 ((1 : Int) + ((plain_Mod r_1.Number (20 : Int)).getD (0 : Int)))) (w64 ((1 : Int) + ((plain_Mod r_1.Version (3 : Int)).getD (0 : Int)))) r_1.Withdrawn (w64 ((1 : Int) + ((plain_Mod r_1.Person (4 : Int)).getD (0 : Int)))) (w64 ((1 : Int) + ((plain_Mod r_1.Kind (14 : Int)).getD (0 : Int)))) (0 : Int) (GSpan.mk (0 : Int) (0 : Int)) (0 : Int) (0 : Int) (0 : Int) (0 : Int) (0 : Int)))) else (bif ((w64 ((1 : Int) + ((plain_Mod r_1.Kind (14 : Int)).getD (0 : Int)))) == (8 : Int)) then ((plain_Mod r_1.From (4000 : Int)).isSome = true) ∧ (((plain_Mod r_1.Length (700 : Int)).isSome = true) ∧ (wK K .normal (z22p5S (w64 ((34000 : Int) + ((plain_Mod r_1.From (4000 : Int)).getD (0 : Int)))) (w64 ((w64 ((w64 ((34000 : Int) + ((plain_Mod r_1.From (4000 : Int)).getD (0 : Int)))) + (1 : Int))) + ((plain_Mod r_1.Length (700 : Int)).getD (0 : Int)))) r_1 (GFact.mk ((plain_Mod r_1.Issuer (3 : Int)).getD (0 : Int)) (w64 ((1 : Int) + ((plain_Mod r_1.Number (20 : Int)).getD (0 : Int)))) (w64 ((1 : Int) + ((plain_Mod r_1.Version (3 : Int)).getD (0 : Int)))) r_1.Withdrawn (w64 ((1 : Int) + ((plain_Mod r_1.Person (4 : Int)).getD (0 : Int)))) (w64 ((1 : Int) + ((plain_Mod r_1.Kind (14 : Int)).getD (0 : Int)))) (0 : Int) (GSpan.mk (0 : Int) (0 : Int)) (0 : Int) (0 : Int) (0 : Int) (0 : Int) (0 : Int))))) else wK K .normal (z22p5S (w64 ((21900 : Int) + ((plain_Mod r_1.From (16000 : Int)).getD (0 : Int)))) (w64 ((w64 ((21900 : Int) + ((plain_Mod r_1.From (16000 : Int)).getD (0 : Int)))) + ((hand_length r_1.Length).getD (0 : Int)))) r_1 (GFact.mk ((plain_Mod r_1.Issuer (3 : Int)).getD (0 : Int)) (w64 ((1 : Int) + ((plain_Mod r_1.Number (20 : Int)).getD (0 : Int)))) (w64 ((1 : Int) + ((plain_Mod r_1.Version (3 : Int)).getD (0 : Int)))) r_1.Withdrawn (w64 ((1 : Int) + ((plain_Mod r_1.Person (4 : Int)).getD (0 : Int)))) (w64 ((1 : Int) + ((plain_Mod r_1.Kind (14 : Int)).getD (0 : Int)))) (0 : Int) (GSpan.mk (0 : Int) (0 : Int)) (0 : Int) (0 : Int) (0 : Int) (0 : Int) (0 : Int))))))))))) (fun K => by kernel_rfl) (W_bind (0 : Int) h fun hp0 h => (W_bind (0 : Int) h fun hp1 h => (W_bind (0 : Int) h fun hp2 h => (W_bind (0 : Int) h fun hp3 h => (W_bind (0 : Int) h fun hp4 h => (W_bind (0 : Int) h fun hp5 h => (W_bind (0 : Int) h fun hp6 h => (W_bif h (fun _ h => (W_bind (0 : Int) h fun hp7 h => ⟨_, .refl _, (z22p5ok (w64 ((12000 : Int) + ((plain_Mod r_1.From (5000 : Int)).getD (0 : Int)))) (w64 ((w64 ((12000 : Int) + ((plain_Mod r_1.From (5000 : Int)).getD (0 : Int)))) + (1 : Int))) r_1 (GFact.mk ((plain_Mod r_1.Issuer (3 : Int)).getD (0 : Int)) (w64 ((1 : Int) + ((plain_Mod r_1.Number (20 : Int)).getD (0 : Int)))) (w64 ((1 : Int) + ((plain_Mod r_1.Version (3 : Int)).getD (0 : Int)))) r_1.Withdrawn (w64 ((1 : Int) + ((plain_Mod r_1.Person (4 : Int)).getD (0 : Int)))) (w64 ((1 : Int) + ((plain_Mod r_1.Kind (14 : Int)).getD (0 : Int)))) (0 : Int) (GSpan.mk (0 : Int) (0 : Int)) (0 : Int) (0 : Int) (0 : Int) (0 : Int) (0 : Int)) _ h)⟩)) (fun _ h => (W_bif h (fun _ h => (W_bind (0 : Int) h fun hp8 h => ⟨_, .refl _, (z22p5ok (w64 ((34000 : Int) + ((plain_Mod r_1.From (6000 : Int)).getD (0 : Int)))) (w64 ((w64 ((34000 : Int) + ((plain_Mod r_1.From (6000 : Int)).getD (0 : Int)))) + (1 : Int))) r_1 (GFact.mk ((plain_Mod r_1.Issuer (3 : Int)).getD (0 : Int)) (w64 ((1 : Int) + ((plain_Mod r_1.Number (20 : Int)).getD (0 : Int)))) (w64 ((1 : Int) + ((plain_Mod r_1.Version (3 : Int)).getD (0 : Int)))) r_1.Withdrawn (w64 ((1 : Int) + ((plain_Mod r_1.Person (4 : Int)).getD (0 : Int)))) (w64 ((1 : Int) + ((plain_Mod r_1.Kind (14 : Int)).getD (0 : Int)))) (0 : Int) (GSpan.mk (0 : Int) (0 : Int)) (0 : Int) (0 : Int) (0 : Int) (0 : Int) (0 : Int)) _ h)⟩)) (fun _ h => (W_bif h (fun _ h => (W_bind (0 : Int) h fun hp9 h => (W_bind (0 : Int) h fun hp10 h => ⟨_, .refl _, (z22p5ok (w64 ((34000 : Int) + ((plain_Mod r_1.From (4000 : Int)).getD (0 : Int)))) (w64 ((w64 ((w64 ((34000 : Int) + ((plain_Mod r_1.From (4000 : Int)).getD (0 : Int)))) + (1 : Int))) + ((plain_Mod r_1.Length (700 : Int)).getD (0 : Int)))) r_1 (GFact.mk ((plain_Mod r_1.Issuer (3 : Int)).getD (0 : Int)) (w64 ((1 : Int) + ((plain_Mod r_1.Number (20 : Int)).getD (0 : Int)))) (w64 ((1 : Int) + ((plain_Mod r_1.Version (3 : Int)).getD (0 : Int)))) r_1.Withdrawn (w64 ((1 : Int) + ((plain_Mod r_1.Person (4 : Int)).getD (0 : Int)))) (w64 ((1 : Int) + ((plain_Mod r_1.Kind (14 : Int)).getD (0 : Int)))) (0 : Int) (GSpan.mk (0 : Int) (0 : Int)) (0 : Int) (0 : Int) (0 : Int) (0 : Int) (0 : Int)) _ h)⟩))) (fun _ h => ⟨_, .refl _, (z22p5ok (w64 ((21900 : Int) + ((plain_Mod r_1.From (16000 : Int)).getD (0 : Int)))) (w64 ((w64 ((21900 : Int) + ((plain_Mod r_1.From (16000 : Int)).getD (0 : Int)))) + ((hand_length r_1.Length).getD (0 : Int)))) r_1 (GFact.mk ((plain_Mod r_1.Issuer (3 : Int)).getD (0 : Int)) (w64 ((1 : Int) + ((plain_Mod r_1.Number (20 : Int)).getD (0 : Int)))) (w64 ((1 : Int) + ((plain_Mod r_1.Version (3 : Int)).getD (0 : Int)))) r_1.Withdrawn (w64 ((1 : Int) + ((plain_Mod r_1.Person (4 : Int)).getD (0 : Int)))) (w64 ((1 : Int) + ((plain_Mod r_1.Kind (14 : Int)).getD (0 : Int)))) (0 : Int) (GSpan.mk (0 : Int) (0 : Int)) (0 : Int) (0 : Int) (0 : Int) (0 : Int) (0 : Int)) _ h)⟩))))))))))))))
noncomputable def hand_Make (r_1 : GPensionhand_Fact) : Option (GFact) := hand_Make_p6 r_1
theorem z22run (r_1 : GPensionhand_Fact) (y_ : GFact) (h : hand_Make r_1 = some y_) : EvL Try.prog 156 (items (bodyOf Try.f22)) (retK Try.prog [.cell 2 27] (OutOk (hand_Make_out y_))) (z22p6S r_1) :=
  z22p6ok r_1 _ (W_iff.2 ⟨y_, h, z22Rok y_⟩)
noncomputable def hand_Make_C : Con
  | [(.agg [(.c (.lit (.int .i64 a1))), (.c (.lit (.int .i64 a2))), (.c (.lit (.int .i64 a3))), (.c (.lit (.bool a4))), (.c (.lit (.int .i64 a5))), (.c (.lit (.int .i64 a6))), (.c (.lit (.int .i64 a7))), (.c (.lit (.int .i64 a8))), (.c (.lit (.int .i64 a9))), (.c (.lit (.int .i64 a10))), (.c (.lit (.int .i64 a11))), (.c (.lit (.int .i64 a12))), (.c (.lit (.int .i64 a13)))])] => some ([(hand_Make (GPensionhand_Fact.mk a1 a2 a3 a4 a5 a6 a7 a8 a9 a10 a11 a12 a13)).isSome = true], (hand_Make_out ((hand_Make (GPensionhand_Fact.mk a1 a2 a3 a4 a5 a6 a7 a8 a9 a10 a11 a12 a13)).getD zGFact)))
  | _ => none
theorem hand_Make_ok : Meets Try.prog 22 hand_Make_C := by
  refine meets_fun (fn := Try.f22) (c := bodyOf Try.f22) (by kernel_rfl) (by kernel_rfl) (by kernel_rfl) (rs := [.cell 2 27]) (by kernel_rfl) (nt := 156) (by kernel_rfl) fun vs p out h hp => ?_
  unfold hand_Make_C at h
  split at h
  · next a1 a2 a3 a4 a5 a6 a7 a8 a9 a10 a11 a12 a13 =>
    cases h
    obtain ⟨g, hp⟩ := allq hp
    obtain ⟨x, hx⟩ := Option.isSome_iff_exists.1 g
    rw [hx]
    exact ⟨[(.agg [(i64 (GPensionhand_Fact.mk a1 a2 a3 a4 a5 a6 a7 a8 a9 a10 a11 a12 a13).Issuer), (i64 (GPensionhand_Fact.mk a1 a2 a3 a4 a5 a6 a7 a8 a9 a10 a11 a12 a13).Number), (i64 (GPensionhand_Fact.mk a1 a2 a3 a4 a5 a6 a7 a8 a9 a10 a11 a12 a13).Version), (bl (GPensionhand_Fact.mk a1 a2 a3 a4 a5 a6 a7 a8 a9 a10 a11 a12 a13).Withdrawn), (i64 (GPensionhand_Fact.mk a1 a2 a3 a4 a5 a6 a7 a8 a9 a10 a11 a12 a13).Person), (i64 (GPensionhand_Fact.mk a1 a2 a3 a4 a5 a6 a7 a8 a9 a10 a11 a12 a13).Kind), (i64 (GPensionhand_Fact.mk a1 a2 a3 a4 a5 a6 a7 a8 a9 a10 a11 a12 a13).State), (i64 (GPensionhand_Fact.mk a1 a2 a3 a4 a5 a6 a7 a8 a9 a10 a11 a12 a13).Seat), (i64 (GPensionhand_Fact.mk a1 a2 a3 a4 a5 a6 a7 a8 a9 a10 a11 a12 a13).From), (i64 (GPensionhand_Fact.mk a1 a2 a3 a4 a5 a6 a7 a8 a9 a10 a11 a12 a13).Length), (i64 (GPensionhand_Fact.mk a1 a2 a3 a4 a5 a6 a7 a8 a9 a10 a11 a12 a13).Share), (i64 (GPensionhand_Fact.mk a1 a2 a3 a4 a5 a6 a7 a8 a9 a10 a11 a12 a13).Amount), (i64 (GPensionhand_Fact.mk a1 a2 a3 a4 a5 a6 a7 a8 a9 a10 a11 a12 a13).Ref)])], (VLes.cons (VLe.rfl' _) VLes.nil), rfl, z22run (GPensionhand_Fact.mk a1 a2 a3 a4 a5 a6 a7 a8 a9 a10 a11 a12 a13) x hx⟩
  · cases h

noncomputable def z23i0 : List Code := items (bodyOf Try.f23)
def z23R (x_1 : Int) : St := { tm := [sv 4 (i64 x_1)], hp := [], nx := 0 }
def made_Pick_out (x_1 : Int) : Out := .data (i64 x_1)
theorem z23Rok (x_1 : Int) : retK Try.prog [.tmp 4] (OutOk (made_Pick_out x_1)) .ret (z23R x_1) :=
  retK.intro (v := (i64 x_1)) (by kernel_rfl) ((VLe.rfl' _))
def z23p0S (n k : Int) : St := { tm := [sv 0 (i64 n), sv 1 (i64 k)], hp := [], nx := 0 }
noncomputable def made_Pick_p0 (n k : Int) : Option (Int) := (bif (decide (k < (1 : Int))) then (some (0 : Int)) else gd (k ≠ (0 : Int)) (gd (k ≠ (0 : Int)) ((some (Int.tmod (w64 ((Int.tmod n k) + k)) k)))))
theorem z23p0ok (n k : Int) (K : KT) (h : W (made_Pick_p0 n k) (rE z23R K)) : EvL Try.prog 14 (List.drop 0 z23i0) K (z23p0S n k) :=
  EvL.pE mixed (lookC_ok (l := []) trivial) [4] 0 5 (.nf (X := fun K => (bif (decide (k < (1 : Int))) then wK K .ret (z23R (0 : Int)) else (k ≠ (0 : Int)) ∧ (k ≠ (0 : Int)) ∧ (wK K .ret (z23R (Int.tmod (w64 ((Int.tmod n k) + k)) k))))) (fun K => by kernel_rfl) (W_bif h (fun _ h => ⟨_, .refl _, h⟩) (fun _ h => (W_gd h fun hp0 h => (W_gd h fun hp1 h => ⟨_, .refl _, h⟩)))))
noncomputable def made_Pick (n k : Int) : Option (Int) := made_Pick_p0 n k
theorem z23run (n k : Int) (y_ : Int) (h : made_Pick n k = some y_) : EvL Try.prog 14 (items (bodyOf Try.f23)) (retK Try.prog [.tmp 4] (OutOk (made_Pick_out y_))) (z23p0S n k) :=
  z23p0ok n k _ (W_iff.2 ⟨y_, h, z23Rok y_⟩)
noncomputable def made_Pick_C : Con
  | [(.c (.lit (.int .i64 a1))), (.c (.lit (.int .i64 a2)))] => some ([(made_Pick a1 a2).isSome = true], (made_Pick_out ((made_Pick a1 a2).getD (0 : Int))))
  | _ => none
theorem made_Pick_ok : Meets Try.prog 23 made_Pick_C := by
  refine meets_fun (fn := Try.f23) (c := bodyOf Try.f23) (by kernel_rfl) (by kernel_rfl) (by kernel_rfl) (rs := [.tmp 4]) (by kernel_rfl) (nt := 14) (by kernel_rfl) fun vs p out h hp => ?_
  unfold made_Pick_C at h
  split at h
  · next a1 a2 =>
    cases h
    obtain ⟨g, hp⟩ := allq hp
    obtain ⟨x, hx⟩ := Option.isSome_iff_exists.1 g
    rw [hx]
    exact ⟨[(i64 a1), (i64 a2)], (VLes.cons (VLe.rfl' _) (VLes.cons (VLe.rfl' _) VLes.nil)), rfl, z23run a1 a2 x hx⟩
  · cases h

noncomputable def z122i0 : List Code := items (bodyOf Try.f122)
def z122R (x_1 : ByteArray) : St := { tm := [sv 2 (str x_1)], hp := [], nx := 0 }
def fact_Uses_out (x_1 : ByteArray) : Out := .data (str x_1)
theorem z122Rok (x_1 : ByteArray) : retK Try.prog [.tmp 2] (OutOk (fact_Uses_out x_1)) .ret (z122R x_1) :=
  retK.intro (v := (str x_1)) (by kernel_rfl) ((VLe.rfl' _))
def z122p0S : St := { tm := [], hp := [], nx := 0 }
noncomputable def fact_Uses_p0 : Option (ByteArray) := (some (bstr []))
theorem z122p0ok (K : KT) (h : W (fact_Uses_p0) (rE z122R K)) : EvL Try.prog 26 (List.drop 3 z122i0) K (z122p0S) :=
  EvL.pE mixed (lookC_ok (l := []) trivial) [2] 3 2 (.nf (X := fun K => wK K .ret (z122R (bstr []))) (fun K => by kernel_rfl) (⟨_, .refl _, h⟩))
def z122p1S (kind : Int) : St := { tm := [sv 0 (i64 kind)], hp := [], nx := 0 }
noncomputable def fact_Uses_p1 (kind : Int) : Option (ByteArray) := (bif (kind == (1 : Int)) then (some (bstr [83, 80, 84, 72, 67, 65])) else (bif (kind == (2 : Int)) then (bif (kind == (2 : Int)) then (some (bstr [83, 80, 72, 67, 65])) else (bif (kind == (4 : Int)) then (some (bstr [83, 80, 84])) else (bif (kind == (5 : Int)) then (bif (kind == (5 : Int)) then (some (bstr [83, 80])) else (bif (kind == (6 : Int)) then (some (bstr [83, 80, 67, 65])) else (bif (kind == (10 : Int)) then (some (bstr [83, 80, 82])) else (bif (kind == (11 : Int)) then (bif (kind == (11 : Int)) then (some (bstr [80])) else (bif (kind == (14 : Int)) then (some (bstr [80, 82])) else fact_Uses_p0)) else (bif (kind == (12 : Int)) then (bif (kind == (12 : Int)) then (some (bstr [80])) else (bif (kind == (14 : Int)) then (some (bstr [80, 82])) else fact_Uses_p0)) else (bif (kind == (13 : Int)) then (some (bstr [80])) else (bif (kind == (14 : Int)) then (some (bstr [80, 82])) else fact_Uses_p0))))))) else (bif (kind == (7 : Int)) then (bif (kind == (7 : Int)) then (some (bstr [83, 80])) else (bif (kind == (6 : Int)) then (some (bstr [83, 80, 67, 65])) else (bif (kind == (10 : Int)) then (some (bstr [83, 80, 82])) else (bif (kind == (11 : Int)) then (bif (kind == (11 : Int)) then (some (bstr [80])) else (bif (kind == (14 : Int)) then (some (bstr [80, 82])) else fact_Uses_p0)) else (bif (kind == (12 : Int)) then (bif (kind == (12 : Int)) then (some (bstr [80])) else (bif (kind == (14 : Int)) then (some (bstr [80, 82])) else fact_Uses_p0)) else (bif (kind == (13 : Int)) then (some (bstr [80])) else (bif (kind == (14 : Int)) then (some (bstr [80, 82])) else fact_Uses_p0))))))) else (bif (kind == (8 : Int)) then (bif (kind == (8 : Int)) then (some (bstr [83, 80])) else (bif (kind == (6 : Int)) then (some (bstr [83, 80, 67, 65])) else (bif (kind == (10 : Int)) then (some (bstr [83, 80, 82])) else (bif (kind == (11 : Int)) then (bif (kind == (11 : Int)) then (some (bstr [80])) else (bif (kind == (14 : Int)) then (some (bstr [80, 82])) else fact_Uses_p0)) else (bif (kind == (12 : Int)) then (bif (kind == (12 : Int)) then (some (bstr [80])) else (bif (kind == (14 : Int)) then (some (bstr [80, 82])) else fact_Uses_p0)) else (bif (kind == (13 : Int)) then (some (bstr [80])) else (bif (kind == (14 : Int)) then (some (bstr [80, 82])) else fact_Uses_p0))))))) else (bif (kind == (9 : Int)) then (some (bstr [83, 80])) else (bif (kind == (6 : Int)) then (some (bstr [83, 80, 67, 65])) else (bif (kind == (10 : Int)) then (some (bstr [83, 80, 82])) else (bif (kind == (11 : Int)) then (bif (kind == (11 : Int)) then (some (bstr [80])) else (bif (kind == (14 : Int)) then (some (bstr [80, 82])) else fact_Uses_p0)) else (bif (kind == (12 : Int)) then (bif (kind == (12 : Int)) then (some (bstr [80])) else (bif (kind == (14 : Int)) then (some (bstr [80, 82])) else fact_Uses_p0)) else (bif (kind == (13 : Int)) then (some (bstr [80])) else (bif (kind == (14 : Int)) then (some (bstr [80, 82])) else fact_Uses_p0)))))))))))) else (bif (kind == (3 : Int)) then (some (bstr [83, 80, 72, 67, 65])) else (bif (kind == (4 : Int)) then (some (bstr [83, 80, 84])) else (bif (kind == (5 : Int)) then (bif (kind == (5 : Int)) then (some (bstr [83, 80])) else (bif (kind == (6 : Int)) then (some (bstr [83, 80, 67, 65])) else (bif (kind == (10 : Int)) then (some (bstr [83, 80, 82])) else (bif (kind == (11 : Int)) then (bif (kind == (11 : Int)) then (some (bstr [80])) else (bif (kind == (14 : Int)) then (some (bstr [80, 82])) else fact_Uses_p0)) else (bif (kind == (12 : Int)) then (bif (kind == (12 : Int)) then (some (bstr [80])) else (bif (kind == (14 : Int)) then (some (bstr [80, 82])) else fact_Uses_p0)) else (bif (kind == (13 : Int)) then (some (bstr [80])) else (bif (kind == (14 : Int)) then (some (bstr [80, 82])) else fact_Uses_p0))))))) else (bif (kind == (7 : Int)) then (bif (kind == (7 : Int)) then (some (bstr [83, 80])) else (bif (kind == (6 : Int)) then (some (bstr [83, 80, 67, 65])) else (bif (kind == (10 : Int)) then (some (bstr [83, 80, 82])) else (bif (kind == (11 : Int)) then (bif (kind == (11 : Int)) then (some (bstr [80])) else (bif (kind == (14 : Int)) then (some (bstr [80, 82])) else fact_Uses_p0)) else (bif (kind == (12 : Int)) then (bif (kind == (12 : Int)) then (some (bstr [80])) else (bif (kind == (14 : Int)) then (some (bstr [80, 82])) else fact_Uses_p0)) else (bif (kind == (13 : Int)) then (some (bstr [80])) else (bif (kind == (14 : Int)) then (some (bstr [80, 82])) else fact_Uses_p0))))))) else (bif (kind == (8 : Int)) then (bif (kind == (8 : Int)) then (some (bstr [83, 80])) else (bif (kind == (6 : Int)) then (some (bstr [83, 80, 67, 65])) else (bif (kind == (10 : Int)) then (some (bstr [83, 80, 82])) else (bif (kind == (11 : Int)) then (bif (kind == (11 : Int)) then (some (bstr [80])) else (bif (kind == (14 : Int)) then (some (bstr [80, 82])) else fact_Uses_p0)) else (bif (kind == (12 : Int)) then (bif (kind == (12 : Int)) then (some (bstr [80])) else (bif (kind == (14 : Int)) then (some (bstr [80, 82])) else fact_Uses_p0)) else (bif (kind == (13 : Int)) then (some (bstr [80])) else (bif (kind == (14 : Int)) then (some (bstr [80, 82])) else fact_Uses_p0))))))) else (bif (kind == (9 : Int)) then (some (bstr [83, 80])) else (bif (kind == (6 : Int)) then (some (bstr [83, 80, 67, 65])) else (bif (kind == (10 : Int)) then (some (bstr [83, 80, 82])) else (bif (kind == (11 : Int)) then (bif (kind == (11 : Int)) then (some (bstr [80])) else (bif (kind == (14 : Int)) then (some (bstr [80, 82])) else fact_Uses_p0)) else (bif (kind == (12 : Int)) then (bif (kind == (12 : Int)) then (some (bstr [80])) else (bif (kind == (14 : Int)) then (some (bstr [80, 82])) else fact_Uses_p0)) else (bif (kind == (13 : Int)) then (some (bstr [80])) else (bif (kind == (14 : Int)) then (some (bstr [80, 82])) else fact_Uses_p0))))))))))))))
theorem z122p1ok (kind : Int) (K : KT) (h : W (fact_Uses_p1 kind) (rE z122R K)) : EvL Try.prog 26 (List.drop 0 z122i0) K (z122p1S kind) :=
  EvL.pD mixed (lookC_ok (l := []) trivial) [2] 0 3 3 (.nf (X := fun K => (bif (kind == (1 : Int)) then wK K .ret (z122R (bstr [83, 80, 84, 72, 67, 65])) else (bif (kind == (2 : Int)) then (bif (kind == (2 : Int)) then wK K .ret (z122R (bstr [83, 80, 72, 67, 65])) else (bif (kind == (4 : Int)) then wK K .ret (z122R (bstr [83, 80, 84])) else (bif (kind == (5 : Int)) then (bif (kind == (5 : Int)) then wK K .ret (z122R (bstr [83, 80])) else (bif (kind == (6 : Int)) then wK K .ret (z122R (bstr [83, 80, 67, 65])) else (bif (kind == (10 : Int)) then wK K .ret (z122R (bstr [83, 80, 82])) else (bif (kind == (11 : Int)) then (bif (kind == (11 : Int)) then wK K .ret (z122R (bstr [80])) else (bif (kind == (14 : Int)) then wK K .ret (z122R (bstr [80, 82])) else wK K .normal ({ tm := [sv 2 (str (bstr []))], hp := [], nx := 0 }))) else (bif (kind == (12 : Int)) then (bif (kind == (12 : Int)) then wK K .ret (z122R (bstr [80])) else (bif (kind == (14 : Int)) then wK K .ret (z122R (bstr [80, 82])) else wK K .normal ({ tm := [sv 2 (str (bstr []))], hp := [], nx := 0 }))) else (bif (kind == (13 : Int)) then wK K .ret (z122R (bstr [80])) else (bif (kind == (14 : Int)) then wK K .ret (z122R (bstr [80, 82])) else wK K .normal ({ tm := [sv 2 (str (bstr []))], hp := [], nx := 0 })))))))) else (bif (kind == (7 : Int)) then (bif (kind == (7 : Int)) then wK K .ret (z122R (bstr [83, 80])) else (bif (kind == (6 : Int)) then wK K .ret (z122R (bstr [83, 80, 67, 65])) else (bif (kind == (10 : Int)) then wK K .ret (z122R (bstr [83, 80, 82])) else (bif (kind == (11 : Int)) then (bif (kind == (11 : Int)) then wK K .ret (z122R (bstr [80])) else (bif (kind == (14 : Int)) then wK K .ret (z122R (bstr [80, 82])) else wK K .normal ({ tm := [sv 2 (str (bstr []))], hp := [], nx := 0 }))) else (bif (kind == (12 : Int)) then (bif (kind == (12 : Int)) then wK K .ret (z122R (bstr [80])) else (bif (kind == (14 : Int)) then wK K .ret (z122R (bstr [80, 82])) else wK K .normal ({ tm := [sv 2 (str (bstr []))], hp := [], nx := 0 }))) else (bif (kind == (13 : Int)) then wK K .ret (z122R (bstr [80])) else (bif (kind == (14 : Int)) then wK K .ret (z122R (bstr [80, 82])) else wK K .normal ({ tm := [sv 2 (str (bstr []))], hp := [], nx := 0 })))))))) else (bif (kind == (8 : Int)) then (bif (kind == (8 : Int)) then wK K .ret (z122R (bstr [83, 80])) else (bif (kind == (6 : Int)) then wK K .ret (z122R (bstr [83, 80, 67, 65])) else (bif (kind == (10 : Int)) then wK K .ret (z122R (bstr [83, 80, 82])) else (bif (kind == (11 : Int)) then (bif (kind == (11 : Int)) then wK K .ret (z122R (bstr [80])) else (bif (kind == (14 : Int)) then wK K .ret (z122R (bstr [80, 82])) else wK K .normal ({ tm := [sv 2 (str (bstr []))], hp := [], nx := 0 }))) else (bif (kind == (12 : Int)) then (bif (kind == (12 : Int)) then wK K .ret (z122R (bstr [80])) else (bif (kind == (14 : Int)) then wK K .ret (z122R (bstr [80, 82])) else wK K .normal ({ tm := [sv 2 (str (bstr []))], hp := [], nx := 0 }))) else (bif (kind == (13 : Int)) then wK K .ret (z122R (bstr [80])) else (bif (kind == (14 : Int)) then wK K .ret (z122R (bstr [80, 82])) else wK K .normal ({ tm := [sv 2 (str (bstr []))], hp := [], nx := 0 })))))))) else (bif (kind == (9 : Int)) then wK K .ret (z122R (bstr [83, 80])) else (bif (kind == (6 : Int)) then wK K .ret (z122R (bstr [83, 80, 67, 65])) else (bif (kind == (10 : Int)) then wK K .ret (z122R (bstr [83, 80, 82])) else (bif (kind == (11 : Int)) then (bif (kind == (11 : Int)) then wK K .ret (z122R (bstr [80])) else (bif (kind == (14 : Int)) then wK K .ret (z122R (bstr [80, 82])) else wK K .normal ({ tm := [sv 2 (str (bstr []))], hp := [], nx := 0 }))) else (bif (kind == (12 : Int)) then (bif (kind == (12 : Int)) then wK K .ret (z122R (bstr [80])) else (bif (kind == (14 : Int)) then wK K .ret (z122R (bstr [80, 82])) else wK K .normal ({ tm := [sv 2 (str (bstr []))], hp := [], nx := 0 }))) else (bif (kind == (13 : Int)) then wK K .ret (z122R (bstr [80])) else (bif (kind == (14 : Int)) then wK K .ret (z122R (bstr [80, 82])) else wK K .normal ({ tm := [sv 2 (str (bstr []))], hp := [], nx := 0 }))))))))))))) else (bif (kind == (3 : Int)) then wK K .ret (z122R (bstr [83, 80, 72, 67, 65])) else (bif (kind == (4 : Int)) then wK K .ret (z122R (bstr [83, 80, 84])) else (bif (kind == (5 : Int)) then (bif (kind == (5 : Int)) then wK K .ret (z122R (bstr [83, 80])) else (bif (kind == (6 : Int)) then wK K .ret (z122R (bstr [83, 80, 67, 65])) else (bif (kind == (10 : Int)) then wK K .ret (z122R (bstr [83, 80, 82])) else (bif (kind == (11 : Int)) then (bif (kind == (11 : Int)) then wK K .ret (z122R (bstr [80])) else (bif (kind == (14 : Int)) then wK K .ret (z122R (bstr [80, 82])) else wK K .normal ({ tm := [sv 2 (str (bstr []))], hp := [], nx := 0 }))) else (bif (kind == (12 : Int)) then (bif (kind == (12 : Int)) then wK K .ret (z122R (bstr [80])) else (bif (kind == (14 : Int)) then wK K .ret (z122R (bstr [80, 82])) else wK K .normal ({ tm := [sv 2 (str (bstr []))], hp := [], nx := 0 }))) else (bif (kind == (13 : Int)) then wK K .ret (z122R (bstr [80])) else (bif (kind == (14 : Int)) then wK K .ret (z122R (bstr [80, 82])) else wK K .normal ({ tm := [sv 2 (str (bstr []))], hp := [], nx := 0 })))))))) else (bif (kind == (7 : Int)) then (bif (kind == (7 : Int)) then wK K .ret (z122R (bstr [83, 80])) else (bif (kind == (6 : Int)) then wK K .ret (z122R (bstr [83, 80, 67, 65])) else (bif (kind == (10 : Int)) then wK K .ret (z122R (bstr [83, 80, 82])) else (bif (kind == (11 : Int)) then (bif (kind == (11 : Int)) then wK K .ret (z122R (bstr [80])) else (bif (kind == (14 : Int)) then wK K .ret (z122R (bstr [80, 82])) else wK K .normal ({ tm := [sv 2 (str (bstr []))], hp := [], nx := 0 }))) else (bif (kind == (12 : Int)) then (bif (kind == (12 : Int)) then wK K .ret (z122R (bstr [80])) else (bif (kind == (14 : Int)) then wK K .ret (z122R (bstr [80, 82])) else wK K .normal ({ tm := [sv 2 (str (bstr []))], hp := [], nx := 0 }))) else (bif (kind == (13 : Int)) then wK K .ret (z122R (bstr [80])) else (bif (kind == (14 : Int)) then wK K .ret (z122R (bstr [80, 82])) else wK K .normal ({ tm := [sv 2 (str (bstr []))], hp := [], nx := 0 })))))))) else (bif (kind == (8 : Int)) then (bif (kind == (8 : Int)) then wK K .ret (z122R (bstr [83, 80])) else (bif (kind == (6 : Int)) then wK K .ret (z122R (bstr [83, 80, 67, 65])) else (bif (kind == (10 : Int)) then wK K .ret (z122R (bstr [83, 80, 82])) else (bif (kind == (11 : Int)) then (bif (kind == (11 : Int)) then wK K .ret (z122R (bstr [80])) else (bif (kind == (14 : Int)) then wK K .ret (z122R (bstr [80, 82])) else wK K .normal ({ tm := [sv 2 (str (bstr []))], hp := [], nx := 0 }))) else (bif (kind == (12 : Int)) then (bif (kind == (12 : Int)) then wK K .ret (z122R (bstr [80])) else (bif (kind == (14 : Int)) then wK K .ret (z122R (bstr [80, 82])) else wK K .normal ({ tm := [sv 2 (str (bstr []))], hp := [], nx := 0 }))) else (bif (kind == (13 : Int)) then wK K .ret (z122R (bstr [80])) else (bif (kind == (14 : Int)) then wK K .ret (z122R (bstr [80, 82])) else wK K .normal ({ tm := [sv 2 (str (bstr []))], hp := [], nx := 0 })))))))) else (bif (kind == (9 : Int)) then wK K .ret (z122R (bstr [83, 80])) else (bif (kind == (6 : Int)) then wK K .ret (z122R (bstr [83, 80, 67, 65])) else (bif (kind == (10 : Int)) then wK K .ret (z122R (bstr [83, 80, 82])) else (bif (kind == (11 : Int)) then (bif (kind == (11 : Int)) then wK K .ret (z122R (bstr [80])) else (bif (kind == (14 : Int)) then wK K .ret (z122R (bstr [80, 82])) else wK K .normal ({ tm := [sv 2 (str (bstr []))], hp := [], nx := 0 }))) else (bif (kind == (12 : Int)) then (bif (kind == (12 : Int)) then wK K .ret (z122R (bstr [80])) else (bif (kind == (14 : Int)) then wK K .ret (z122R (bstr [80, 82])) else wK K .normal ({ tm := [sv 2 (str (bstr []))], hp := [], nx := 0 }))) else (bif (kind == (13 : Int)) then wK K .ret (z122R (bstr [80])) else (bif (kind == (14 : Int)) then wK K .ret (z122R (bstr [80, 82])) else wK K .normal ({ tm := [sv 2 (str (bstr []))], hp := [], nx := 0 })))))))))))))))) (fun K => by kernel_rfl) (W_bif h (fun _ h => ⟨_, .refl _, h⟩) (fun _ h => (W_bif h (fun _ h => (W_bif h (fun _ h => ⟨_, .refl _, h⟩) (fun _ h => (W_bif h (fun _ h => ⟨_, .refl _, h⟩) (fun _ h => (W_bif h (fun _ h => (W_bif h (fun _ h => ⟨_, .refl _, h⟩) (fun _ h => (W_bif h (fun _ h => ⟨_, .refl _, h⟩) (fun _ h => (W_bif h (fun _ h => ⟨_, .refl _, h⟩) (fun _ h => (W_bif h (fun _ h => (W_bif h (fun _ h => ⟨_, .refl _, h⟩) (fun _ h => (W_bif h (fun _ h => ⟨_, .refl _, h⟩) (fun _ h => ⟨(z122p0S), (.of .nil .nil rfl), (z122p0ok _ h)⟩))))) (fun _ h => (W_bif h (fun _ h => (W_bif h (fun _ h => ⟨_, .refl _, h⟩) (fun _ h => (W_bif h (fun _ h => ⟨_, .refl _, h⟩) (fun _ h => ⟨(z122p0S), (.of .nil .nil rfl), (z122p0ok _ h)⟩))))) (fun _ h => (W_bif h (fun _ h => ⟨_, .refl _, h⟩) (fun _ h => (W_bif h (fun _ h => ⟨_, .refl _, h⟩) (fun _ h => ⟨(z122p0S), (.of .nil .nil rfl), (z122p0ok _ h)⟩))))))))))))))) (fun _ h => (W_bif h (fun _ h => (W_bif h (fun _ h => ⟨_, .refl _, h⟩) (fun _ h => (W_bif h (fun _ h => ⟨_, .refl _, h⟩) (fun _ h => (W_bif h (fun _ h => ⟨_, .refl _, h⟩) (fun _ h => (W_bif h (fun _ h => (W_bif h (fun _ h => ⟨_, .refl _, h⟩) (fun _ h => (W_bif h (fun _ h => ⟨_, .refl _, h⟩) (fun _ h => ⟨(z122p0S), (.of .nil .nil rfl), (z122p0ok _ h)⟩))))) (fun _ h => (W_bif h (fun _ h => (W_bif h (fun _ h => ⟨_, .refl _, h⟩) (fun _ h => (W_bif h (fun _ h => ⟨_, .refl _, h⟩) (fun _ h => ⟨(z122p0S), (.of .nil .nil rfl), (z122p0ok _ h)⟩))))) (fun _ h => (W_bif h (fun _ h => ⟨_, .refl _, h⟩) (fun _ h => (W_bif h (fun _ h => ⟨_, .refl _, h⟩) (fun _ h => ⟨(z122p0S), (.of .nil .nil rfl), (z122p0ok _ h)⟩))))))))))))))) (fun _ h => (W_bif h (fun _ h => (W_bif h (fun _ h => ⟨_, .refl _, h⟩) (fun _ h => (W_bif h (fun _ h => ⟨_, .refl _, h⟩) (fun _ h => (W_bif h (fun _ h => ⟨_, .refl _, h⟩) (fun _ h => (W_bif h (fun _ h => (W_bif h (fun _ h => ⟨_, .refl _, h⟩) (fun _ h => (W_bif h (fun _ h => ⟨_, .refl _, h⟩) (fun _ h => ⟨(z122p0S), (.of .nil .nil rfl), (z122p0ok _ h)⟩))))) (fun _ h => (W_bif h (fun _ h => (W_bif h (fun _ h => ⟨_, .refl _, h⟩) (fun _ h => (W_bif h (fun _ h => ⟨_, .refl _, h⟩) (fun _ h => ⟨(z122p0S), (.of .nil .nil rfl), (z122p0ok _ h)⟩))))) (fun _ h => (W_bif h (fun _ h => ⟨_, .refl _, h⟩) (fun _ h => (W_bif h (fun _ h => ⟨_, .refl _, h⟩) (fun _ h => ⟨(z122p0S), (.of .nil .nil rfl), (z122p0ok _ h)⟩))))))))))))))) (fun _ h => (W_bif h (fun _ h => ⟨_, .refl _, h⟩) (fun _ h => (W_bif h (fun _ h => ⟨_, .refl _, h⟩) (fun _ h => (W_bif h (fun _ h => ⟨_, .refl _, h⟩) (fun _ h => (W_bif h (fun _ h => (W_bif h (fun _ h => ⟨_, .refl _, h⟩) (fun _ h => (W_bif h (fun _ h => ⟨_, .refl _, h⟩) (fun _ h => ⟨(z122p0S), (.of .nil .nil rfl), (z122p0ok _ h)⟩))))) (fun _ h => (W_bif h (fun _ h => (W_bif h (fun _ h => ⟨_, .refl _, h⟩) (fun _ h => (W_bif h (fun _ h => ⟨_, .refl _, h⟩) (fun _ h => ⟨(z122p0S), (.of .nil .nil rfl), (z122p0ok _ h)⟩))))) (fun _ h => (W_bif h (fun _ h => ⟨_, .refl _, h⟩) (fun _ h => (W_bif h (fun _ h => ⟨_, .refl _, h⟩) (fun _ h => ⟨(z122p0S), (.of .nil .nil rfl), (z122p0ok _ h)⟩))))))))))))))))))))))))) (fun _ h => (W_bif h (fun _ h => ⟨_, .refl _, h⟩) (fun _ h => (W_bif h (fun _ h => ⟨_, .refl _, h⟩) (fun _ h => (W_bif h (fun _ h => (W_bif h (fun _ h => ⟨_, .refl _, h⟩) (fun _ h => (W_bif h (fun _ h => ⟨_, .refl _, h⟩) (fun _ h => (W_bif h (fun _ h => ⟨_, .refl _, h⟩) (fun _ h => (W_bif h (fun _ h => (W_bif h (fun _ h => ⟨_, .refl _, h⟩) (fun _ h => (W_bif h (fun _ h => ⟨_, .refl _, h⟩) (fun _ h => ⟨(z122p0S), (.of .nil .nil rfl), (z122p0ok _ h)⟩))))) (fun _ h => (W_bif h (fun _ h => (W_bif h (fun _ h => ⟨_, .refl _, h⟩) (fun _ h => (W_bif h (fun _ h => ⟨_, .refl _, h⟩) (fun _ h => ⟨(z122p0S), (.of .nil .nil rfl), (z122p0ok _ h)⟩))))) (fun _ h => (W_bif h (fun _ h => ⟨_, .refl _, h⟩) (fun _ h => (W_bif h (fun _ h => ⟨_, .refl _, h⟩) (fun _ h => ⟨(z122p0S), (.of .nil .nil rfl), (z122p0ok _ h)⟩))))))))))))))) (fun _ h => (W_bif h (fun _ h => (W_bif h (fun _ h => ⟨_, .refl _, h⟩) (fun _ h => (W_bif h (fun _ h => ⟨_, .refl _, h⟩) (fun _ h => (W_bif h (fun _ h => ⟨_, .refl _, h⟩) (fun _ h => (W_bif h (fun _ h => (W_bif h (fun _ h => ⟨_, .refl _, h⟩) (fun _ h => (W_bif h (fun _ h => ⟨_, .refl _, h⟩) (fun _ h => ⟨(z122p0S), (.of .nil .nil rfl), (z122p0ok _ h)⟩))))) (fun _ h => (W_bif h (fun _ h => (W_bif h (fun _ h => ⟨_, .refl _, h⟩) (fun _ h => (W_bif h (fun _ h => ⟨_, .refl _, h⟩) (fun _ h => ⟨(z122p0S), (.of .nil .nil rfl), (z122p0ok _ h)⟩))))) (fun _ h => (W_bif h (fun _ h => ⟨_, .refl _, h⟩) (fun _ h => (W_bif h (fun _ h => ⟨_, .refl _, h⟩) (fun _ h => ⟨(z122p0S), (.of .nil .nil rfl), (z122p0ok _ h)⟩))))))))))))))) (fun _ h => (W_bif h (fun _ h => (W_bif h (fun _ h => ⟨_, .refl _, h⟩) (fun _ h => (W_bif h (fun _ h => ⟨_, .refl _, h⟩) (fun _ h => (W_bif h (fun _ h => ⟨_, .refl _, h⟩) (fun _ h => (W_bif h (fun _ h => (W_bif h (fun _ h => ⟨_, .refl _, h⟩) (fun _ h => (W_bif h (fun _ h => ⟨_, .refl _, h⟩) (fun _ h => ⟨(z122p0S), (.of .nil .nil rfl), (z122p0ok _ h)⟩))))) (fun _ h => (W_bif h (fun _ h => (W_bif h (fun _ h => ⟨_, .refl _, h⟩) (fun _ h => (W_bif h (fun _ h => ⟨_, .refl _, h⟩) (fun _ h => ⟨(z122p0S), (.of .nil .nil rfl), (z122p0ok _ h)⟩))))) (fun _ h => (W_bif h (fun _ h => ⟨_, .refl _, h⟩) (fun _ h => (W_bif h (fun _ h => ⟨_, .refl _, h⟩) (fun _ h => ⟨(z122p0S), (.of .nil .nil rfl), (z122p0ok _ h)⟩))))))))))))))) (fun _ h => (W_bif h (fun _ h => ⟨_, .refl _, h⟩) (fun _ h => (W_bif h (fun _ h => ⟨_, .refl _, h⟩) (fun _ h => (W_bif h (fun _ h => ⟨_, .refl _, h⟩) (fun _ h => (W_bif h (fun _ h => (W_bif h (fun _ h => ⟨_, .refl _, h⟩) (fun _ h => (W_bif h (fun _ h => ⟨_, .refl _, h⟩) (fun _ h => ⟨(z122p0S), (.of .nil .nil rfl), (z122p0ok _ h)⟩))))) (fun _ h => (W_bif h (fun _ h => (W_bif h (fun _ h => ⟨_, .refl _, h⟩) (fun _ h => (W_bif h (fun _ h => ⟨_, .refl _, h⟩) (fun _ h => ⟨(z122p0S), (.of .nil .nil rfl), (z122p0ok _ h)⟩))))) (fun _ h => (W_bif h (fun _ h => ⟨_, .refl _, h⟩) (fun _ h => (W_bif h (fun _ h => ⟨_, .refl _, h⟩) (fun _ h => ⟨(z122p0S), (.of .nil .nil rfl), (z122p0ok _ h)⟩)))))))))))))))))))))))))))))
noncomputable def fact_Uses (kind : Int) : Option (ByteArray) := fact_Uses_p1 kind
theorem z122run (kind : Int) (y_ : ByteArray) (h : fact_Uses kind = some y_) : EvL Try.prog 26 (items (bodyOf Try.f122)) (retK Try.prog [.tmp 2] (OutOk (fact_Uses_out y_))) (z122p1S kind) :=
  z122p1ok kind _ (W_iff.2 ⟨y_, h, z122Rok y_⟩)
noncomputable def fact_Uses_C : Con
  | [(.c (.lit (.int .i64 a1)))] => some ([(fact_Uses a1).isSome = true], (fact_Uses_out ((fact_Uses a1).getD (bstr []))))
  | _ => none
theorem fact_Uses_ok : Meets Try.prog 122 fact_Uses_C := by
  refine meets_fun (fn := Try.f122) (c := bodyOf Try.f122) (by kernel_rfl) (by kernel_rfl) (by kernel_rfl) (rs := [.tmp 2]) (by kernel_rfl) (nt := 26) (by kernel_rfl) fun vs p out h hp => ?_
  unfold fact_Uses_C at h
  split at h
  · next a1 =>
    cases h
    obtain ⟨g, hp⟩ := allq hp
    obtain ⟨x, hx⟩ := Option.isSome_iff_exists.1 g
    rw [hx]
    exact ⟨[(i64 a1)], (VLes.cons (VLe.rfl' _) VLes.nil), rfl, z122run a1 x hx⟩
  · cases h

noncomputable def z125i0 : List Code := items (bodyOf Try.f125)
def z125R (x_2 : Bool) : St := { tm := [sv 6 (bl x_2)], hp := [], nx := 0 }
def fact_within_out (x_2 : Bool) : Out := .data (bl x_2)
theorem z125Rok (x_2 : Bool) : retK Try.prog [.tmp 6] (OutOk (fact_within_out x_2)) .ret (z125R x_2) :=
  retK.intro (v := (bl x_2)) (by kernel_rfl) ((VLe.rfl' _))
def z125p0S (x_1 low high : Int) : St := { tm := [sv 0 (i64 x_1), sv 1 (i64 low), sv 2 (i64 high)], hp := [], nx := 0 }
noncomputable def fact_within_p0 (x_1 low high : Int) : Option (Bool) := (some (bif (decide (low ≤ x_1)) then (decide (x_1 ≤ high)) else false))
theorem z125p0ok (x_1 low high : Int) (K : KT) (h : W (fact_within_p0 x_1 low high) (rE z125R K)) : EvL Try.prog 15 (List.drop 0 z125i0) K (z125p0S x_1 low high) :=
  EvL.pE mixed (lookC_ok (l := []) trivial) [6] 0 3 (.nf (X := fun K => wK K .ret (z125R (bif (decide (low ≤ x_1)) then (decide (x_1 ≤ high)) else false))) (fun K => by kernel_rfl) (⟨_, .refl _, h⟩))
noncomputable def fact_within (x_1 low high : Int) : Option (Bool) := fact_within_p0 x_1 low high
theorem z125run (x_1 low high : Int) (y_ : Bool) (h : fact_within x_1 low high = some y_) : EvL Try.prog 15 (items (bodyOf Try.f125)) (retK Try.prog [.tmp 6] (OutOk (fact_within_out y_))) (z125p0S x_1 low high) :=
  z125p0ok x_1 low high _ (W_iff.2 ⟨y_, h, z125Rok y_⟩)
noncomputable def fact_within_C : Con
  | [(.c (.lit (.int .i64 a1))), (.c (.lit (.int .i64 a2))), (.c (.lit (.int .i64 a3)))] => some ([(fact_within a1 a2 a3).isSome = true], (fact_within_out ((fact_within a1 a2 a3).getD false)))
  | _ => none
theorem fact_within_ok : Meets Try.prog 125 fact_within_C := by
  refine meets_fun (fn := Try.f125) (c := bodyOf Try.f125) (by kernel_rfl) (by kernel_rfl) (by kernel_rfl) (rs := [.tmp 6]) (by kernel_rfl) (nt := 15) (by kernel_rfl) fun vs p out h hp => ?_
  unfold fact_within_C at h
  split at h
  · next a1 a2 a3 =>
    cases h
    obtain ⟨g, hp⟩ := allq hp
    obtain ⟨x, hx⟩ := Option.isSome_iff_exists.1 g
    rw [hx]
    exact ⟨[(i64 a1), (i64 a2), (i64 a3)], (VLes.cons (VLe.rfl' _) (VLes.cons (VLe.rfl' _) (VLes.cons (VLe.rfl' _) VLes.nil))), rfl, z125run a1 a2 a3 x hx⟩
  · cases h


/-- Where a byte stands first. -/
def bytealg_IndexByteString (s : ByteArray) (c : Int) : Option Int := some (firstIdx s c.toNat.toUInt8)
def bytealg_IndexByteString_C : Con
  | [.c (.lit (.string s)), .c (.lit (.int .u8 c))] => some ([(bytealg_IndexByteString s c).isSome = true], .data (i64 ((bytealg_IndexByteString s c).getD (0 : Int))))
  | _ => none
theorem bytealg_IndexByteString_ok : Meets Try.prog 251 bytealg_IndexByteString_C := by
  intro ok w xs vs p out hx hok hcon hp
  unfold bytealg_IndexByteString_C at hcon
  split at hcon
  · next s c =>
    cases hcon
    obtain ⟨x, y, rfl⟩ : ∃ x y, xs = [x, y] := by
      have := hx.1
      match xs, this with
      | [x, y], _ => exact ⟨x, y, rfl⟩
    have e1 := (hx.2 0 x _ rfl rfl).lit_inv
    have e2 := (hx.2 1 y _ rfl rfl).lit_inv
    subst e1 e2
    refine .inr ⟨.int .i64 (firstIdx s c.toNat.toUInt8), w, ?_, .refl _ _, .lit _⟩
    rw [run_callFunc_extern (fn := Try.f251) (e := Extern.BytealgIndexByte.indexByte) (by kernel_rfl) (by kernel_rfl) (by kernel_rfl) (by kernel_rfl) (by kernel_rfl)]
    have := run_indexByte_string (P := Try.prog) s c w
    rw [show [Value.string s, Value.int .u8 c].toArray = #[Value.string s, Value.int .u8 c] from rfl, this]
    rfl
  · cases hcon

noncomputable def z238i0 : List Code := items (bodyOf Try.f238)
def z238R (x_1 : Int) : St := { tm := [sv 4 (i64 x_1)], hp := [], nx := 0 }
def internal_stringslite_IndexByte_out (x_1 : Int) : Out := .data (i64 x_1)
theorem z238Rok (x_1 : Int) : retK Try.prog [.tmp 4] (OutOk (internal_stringslite_IndexByte_out x_1)) .ret (z238R x_1) :=
  retK.intro (v := (i64 x_1)) (by kernel_rfl) ((VLe.rfl' _))
def z238p0S (s_1 : ByteArray) (c : Int) : St := { tm := [sv 0 (str s_1), sv 1 (.c (.lit (.int .u8 c)))], hp := [], nx := 0 }
noncomputable def internal_stringslite_IndexByte_p0 (s_1 : ByteArray) (c : Int) : Option (Int) := (bytealg_IndexByteString s_1 c).bind fun r_1 => ((some r_1))
theorem z238p0ok (s_1 : ByteArray) (c : Int) (K : KT) (h : W (internal_stringslite_IndexByte_p0 s_1 c) (rE z238R K)) : EvL Try.prog 8 (List.drop 0 z238i0) K (z238p0S s_1 c) :=
  EvL.pE mixed (lookC_ok (l := [(251, .pure bytealg_IndexByteString_C)]) ⟨bytealg_IndexByteString_ok, trivial⟩) [4] 0 3 (.nf (X := fun K => ((bytealg_IndexByteString s_1 c).isSome = true) ∧ (wK K .ret (z238R ((bytealg_IndexByteString s_1 c).getD (0 : Int))))) (fun K => by kernel_rfl) (W_bind (0 : Int) h fun hp0 h => ⟨_, .refl _, h⟩))
noncomputable def internal_stringslite_IndexByte (s_1 : ByteArray) (c : Int) : Option (Int) := internal_stringslite_IndexByte_p0 s_1 c
theorem z238run (s_1 : ByteArray) (c : Int) (y_ : Int) (h : internal_stringslite_IndexByte s_1 c = some y_) : EvL Try.prog 8 (items (bodyOf Try.f238)) (retK Try.prog [.tmp 4] (OutOk (internal_stringslite_IndexByte_out y_))) (z238p0S s_1 c) :=
  z238p0ok s_1 c _ (W_iff.2 ⟨y_, h, z238Rok y_⟩)
noncomputable def internal_stringslite_IndexByte_C : Con
  | [(.c (.lit (.string a1))), (.c (.lit (.int .u8 a2)))] => some ([(internal_stringslite_IndexByte a1 a2).isSome = true], (internal_stringslite_IndexByte_out ((internal_stringslite_IndexByte a1 a2).getD (0 : Int))))
  | _ => none
theorem internal_stringslite_IndexByte_ok : Meets Try.prog 238 internal_stringslite_IndexByte_C := by
  refine meets_fun (fn := Try.f238) (c := bodyOf Try.f238) (by kernel_rfl) (by kernel_rfl) (by kernel_rfl) (rs := [.tmp 4]) (by kernel_rfl) (nt := 8) (by kernel_rfl) fun vs p out h hp => ?_
  unfold internal_stringslite_IndexByte_C at h
  split at h
  · next a1 a2 =>
    cases h
    obtain ⟨g, hp⟩ := allq hp
    obtain ⟨x, hx⟩ := Option.isSome_iff_exists.1 g
    rw [hx]
    exact ⟨[(str a1), (.c (.lit (.int .u8 a2)))], (VLes.cons (VLe.rfl' _) (VLes.cons (VLe.rfl' _) VLes.nil)), rfl, z238run a1 a2 x hx⟩
  · cases h

noncomputable def z206i0 : List Code := items (bodyOf Try.f206)
def z206R (x_1 : Int) : St := { tm := [sv 4 (i64 x_1)], hp := [], nx := 0 }
def internal_stringslite_Index_out (x_1 : Int) : Out := .data (i64 x_1)
theorem z206Rok (x_1 : Int) : retK Try.prog [.tmp 4] (OutOk (internal_stringslite_Index_out x_1)) .ret (z206R x_1) :=
  retK.intro (v := (i64 x_1)) (by kernel_rfl) ((VLe.rfl' _))
def z206p0S (s_1 substr : ByteArray) : St := { tm := [sv 0 (str s_1), sv 1 (str substr)], hp := [], nx := 0 }
noncomputable def internal_stringslite_Index_p0 (s_1 substr : ByteArray) : Option (Int) := (bif (bif (((substr.size : Nat) : Int) == (0 : Int)) then true else (substr.toList == s_1.toList)) then (some (0 : Int)) else (bif (((substr.size : Nat) : Int) == (1 : Int)) then gd ((0 : Int) ≤ (0 : Int) ∧ (0 : Int) < ((substr.size : Nat) : Int)) ((internal_stringslite_IndexByte s_1 ((substr.data.getD 0 0).toNat : Int)).bind fun r_1 => ((some r_1))) else (bif (decide (((s_1.size : Nat) : Int) ≤ ((substr.size : Nat) : Int))) then (some (-1 : Int)) else none)))
theorem z206p0ok (s_1 substr : ByteArray) (K : KT) (h : W (internal_stringslite_Index_p0 s_1 substr) (rE z206R K)) : EvL Try.prog 143 (List.drop 0 z206i0) K (z206p0S s_1 substr) :=
  EvL.pD mixed (lookC_ok (l := [(238, .pure internal_stringslite_IndexByte_C)]) ⟨internal_stringslite_IndexByte_ok, trivial⟩) [0, 1, 4, 5, 85, 86, 87, 88, 89, 90, 91, 92, 103, 104, 105, 106, 122, 123, 124, 125, 126, 129, 130, 131] 0 3 3 (.nf (X := fun K => (bif (bif (((substr.size : Nat) : Int) == (0 : Int)) then true else (substr.toList == s_1.toList)) then wK K .ret ({ tm := [sv 0 (str s_1), sv 1 (str substr), sv 4 (i64 (0 : Int)), sv 5 (i64 ((substr.size : Nat) : Int))], hp := [], nx := 0 }) else (bif (((substr.size : Nat) : Int) == (1 : Int)) then ((0 : Int) ≤ (0 : Int)) ∧ ((0 : Int) < ((substr.size : Nat) : Int)) ∧ ((internal_stringslite_IndexByte s_1 ((substr.data.getD 0 0).toNat : Int)).isSome = true) ∧ (wK K .ret ({ tm := [sv 0 (str s_1), sv 1 (str substr), sv 4 (i64 ((internal_stringslite_IndexByte s_1 ((substr.data.getD 0 0).toNat : Int)).getD (0 : Int))), sv 5 (i64 ((substr.size : Nat) : Int))], hp := [], nx := 0 })) else (bif (decide (((s_1.size : Nat) : Int) ≤ ((substr.size : Nat) : Int))) then wK K .ret ({ tm := [sv 0 (str s_1), sv 1 (str substr), sv 4 (i64 (-1 : Int)), sv 5 (i64 ((substr.size : Nat) : Int))], hp := [], nx := 0 }) else False)))) (fun K => by kernel_rfl) (W_bif h (fun _ h => ⟨(z206R (0 : Int)), (.of (.q rfl .nil) .nil rfl), h⟩) (fun _ h => (W_bif h (fun _ h => (W_gd2 h fun hp0 h => (W_bind (0 : Int) h fun hp1 h => ⟨(z206R ((internal_stringslite_IndexByte s_1 ((substr.data.getD 0 0).toNat : Int)).getD (0 : Int))), (.of (.q rfl .nil) .nil rfl), h⟩))) (fun _ h => (W_bif h (fun _ h => ⟨(z206R (-1 : Int)), (.of (.q rfl .nil) .nil rfl), h⟩) (fun _ h => h)))))))
noncomputable def internal_stringslite_Index (s_1 substr : ByteArray) : Option (Int) := internal_stringslite_Index_p0 s_1 substr
theorem z206run (s_1 substr : ByteArray) (y_ : Int) (h : internal_stringslite_Index s_1 substr = some y_) : EvL Try.prog 143 (items (bodyOf Try.f206)) (retK Try.prog [.tmp 4] (OutOk (internal_stringslite_Index_out y_))) (z206p0S s_1 substr) :=
  z206p0ok s_1 substr _ (W_iff.2 ⟨y_, h, z206Rok y_⟩)
noncomputable def internal_stringslite_Index_C : Con
  | [(.c (.lit (.string a1))), (.c (.lit (.string a2)))] => some ([(internal_stringslite_Index a1 a2).isSome = true], (internal_stringslite_Index_out ((internal_stringslite_Index a1 a2).getD (0 : Int))))
  | _ => none
theorem internal_stringslite_Index_ok : Meets Try.prog 206 internal_stringslite_Index_C := by
  refine meets_fun (fn := Try.f206) (c := bodyOf Try.f206) (by kernel_rfl) (by kernel_rfl) (by kernel_rfl) (rs := [.tmp 4]) (by kernel_rfl) (nt := 143) (by kernel_rfl) fun vs p out h hp => ?_
  unfold internal_stringslite_Index_C at h
  split at h
  · next a1 a2 =>
    cases h
    obtain ⟨g, hp⟩ := allq hp
    obtain ⟨x, hx⟩ := Option.isSome_iff_exists.1 g
    rw [hx]
    exact ⟨[(str a1), (str a2)], (VLes.cons (VLe.rfl' _) (VLes.cons (VLe.rfl' _) VLes.nil)), rfl, z206run a1 a2 x hx⟩
  · cases h

noncomputable def z167i0 : List Code := items (bodyOf Try.f167)
def z167R (x_1 : Int) : St := { tm := [sv 4 (i64 x_1)], hp := [], nx := 0 }
def strings_Index_out (x_1 : Int) : Out := .data (i64 x_1)
theorem z167Rok (x_1 : Int) : retK Try.prog [.tmp 4] (OutOk (strings_Index_out x_1)) .ret (z167R x_1) :=
  retK.intro (v := (i64 x_1)) (by kernel_rfl) ((VLe.rfl' _))
def z167p0S (s_1 substr : ByteArray) : St := { tm := [sv 0 (str s_1), sv 1 (str substr)], hp := [], nx := 0 }
noncomputable def strings_Index_p0 (s_1 substr : ByteArray) : Option (Int) := (internal_stringslite_Index s_1 substr).bind fun r_1 => ((some r_1))
theorem z167p0ok (s_1 substr : ByteArray) (K : KT) (h : W (strings_Index_p0 s_1 substr) (rE z167R K)) : EvL Try.prog 8 (List.drop 0 z167i0) K (z167p0S s_1 substr) :=
  EvL.pE mixed (lookC_ok (l := [(206, .pure internal_stringslite_Index_C)]) ⟨internal_stringslite_Index_ok, trivial⟩) [4] 0 3 (.nf (X := fun K => ((internal_stringslite_Index s_1 substr).isSome = true) ∧ (wK K .ret (z167R ((internal_stringslite_Index s_1 substr).getD (0 : Int))))) (fun K => by kernel_rfl) (W_bind (0 : Int) h fun hp0 h => ⟨_, .refl _, h⟩))
noncomputable def strings_Index (s_1 substr : ByteArray) : Option (Int) := strings_Index_p0 s_1 substr
theorem z167run (s_1 substr : ByteArray) (y_ : Int) (h : strings_Index s_1 substr = some y_) : EvL Try.prog 8 (items (bodyOf Try.f167)) (retK Try.prog [.tmp 4] (OutOk (strings_Index_out y_))) (z167p0S s_1 substr) :=
  z167p0ok s_1 substr _ (W_iff.2 ⟨y_, h, z167Rok y_⟩)
noncomputable def strings_Index_C : Con
  | [(.c (.lit (.string a1))), (.c (.lit (.string a2)))] => some ([(strings_Index a1 a2).isSome = true], (strings_Index_out ((strings_Index a1 a2).getD (0 : Int))))
  | _ => none
theorem strings_Index_ok : Meets Try.prog 167 strings_Index_C := by
  refine meets_fun (fn := Try.f167) (c := bodyOf Try.f167) (by kernel_rfl) (by kernel_rfl) (by kernel_rfl) (rs := [.tmp 4]) (by kernel_rfl) (nt := 8) (by kernel_rfl) fun vs p out h hp => ?_
  unfold strings_Index_C at h
  split at h
  · next a1 a2 =>
    cases h
    obtain ⟨g, hp⟩ := allq hp
    obtain ⟨x, hx⟩ := Option.isSome_iff_exists.1 g
    rw [hx]
    exact ⟨[(str a1), (str a2)], (VLes.cons (VLe.rfl' _) (VLes.cons (VLe.rfl' _) VLes.nil)), rfl, z167run a1 a2 x hx⟩
  · cases h

noncomputable def z124i0 : List Code := items (bodyOf Try.f124)
def z124R (x_1 : Bool) : St := { tm := [sv 4 (bl x_1)], hp := [], nx := 0 }
def strings_Contains_out (x_1 : Bool) : Out := .data (bl x_1)
theorem z124Rok (x_1 : Bool) : retK Try.prog [.tmp 4] (OutOk (strings_Contains_out x_1)) .ret (z124R x_1) :=
  retK.intro (v := (bl x_1)) (by kernel_rfl) ((VLe.rfl' _))
def z124p0S (s_1 substr : ByteArray) : St := { tm := [sv 0 (str s_1), sv 1 (str substr)], hp := [], nx := 0 }
noncomputable def strings_Contains_p0 (s_1 substr : ByteArray) : Option (Bool) := (strings_Index s_1 substr).bind fun r_1 => ((some (decide ((0 : Int) ≤ r_1))))
theorem z124p0ok (s_1 substr : ByteArray) (K : KT) (h : W (strings_Contains_p0 s_1 substr) (rE z124R K)) : EvL Try.prog 9 (List.drop 0 z124i0) K (z124p0S s_1 substr) :=
  EvL.pE mixed (lookC_ok (l := [(167, .pure strings_Index_C)]) ⟨strings_Index_ok, trivial⟩) [4] 0 3 (.nf (X := fun K => ((strings_Index s_1 substr).isSome = true) ∧ (wK K .ret (z124R (decide ((0 : Int) ≤ ((strings_Index s_1 substr).getD (0 : Int))))))) (fun K => by kernel_rfl) (W_bind (0 : Int) h fun hp0 h => ⟨_, .refl _, h⟩))
noncomputable def strings_Contains (s_1 substr : ByteArray) : Option (Bool) := strings_Contains_p0 s_1 substr
theorem z124run (s_1 substr : ByteArray) (y_ : Bool) (h : strings_Contains s_1 substr = some y_) : EvL Try.prog 9 (items (bodyOf Try.f124)) (retK Try.prog [.tmp 4] (OutOk (strings_Contains_out y_))) (z124p0S s_1 substr) :=
  z124p0ok s_1 substr _ (W_iff.2 ⟨y_, h, z124Rok y_⟩)
noncomputable def strings_Contains_C : Con
  | [(.c (.lit (.string a1))), (.c (.lit (.string a2)))] => some ([(strings_Contains a1 a2).isSome = true], (strings_Contains_out ((strings_Contains a1 a2).getD false)))
  | _ => none
theorem strings_Contains_ok : Meets Try.prog 124 strings_Contains_C := by
  refine meets_fun (fn := Try.f124) (c := bodyOf Try.f124) (by kernel_rfl) (by kernel_rfl) (by kernel_rfl) (rs := [.tmp 4]) (by kernel_rfl) (nt := 9) (by kernel_rfl) fun vs p out h hp => ?_
  unfold strings_Contains_C at h
  split at h
  · next a1 a2 =>
    cases h
    obtain ⟨g, hp⟩ := allq hp
    obtain ⟨x, hx⟩ := Option.isSome_iff_exists.1 g
    rw [hx]
    exact ⟨[(str a1), (str a2)], (VLes.cons (VLe.rfl' _) (VLes.cons (VLe.rfl' _) VLes.nil)), rfl, z124run a1 a2 x hx⟩
  · cases h

noncomputable def z123i0 : List Code := items (bodyOf Try.f123)
def z123R (x_1 : Bool) : St := { tm := [sv 3 (bl x_1)], hp := [], nx := 0 }
def fact_Valid_1_out (x_1 : Bool) : Out := .data (bl x_1)
theorem z123Rok (x_1 : Bool) : retK Try.prog [.tmp 3] (OutOk (fact_Valid_1_out x_1)) .ret (z123R x_1) :=
  retK.intro (v := (bl x_1)) (by kernel_rfl) ((VLe.rfl' _))
def z123p0S (letter t1 : ByteArray) : St := { tm := [sv 0 (str letter), sv 1 (.dptr 1 [(ds t1)] 0)], hp := [], nx := 0 }
noncomputable def fact_Valid_1_p0 (letter t1 : ByteArray) : Option (Bool) := (strings_Contains t1 letter).bind fun r_1 => ((some r_1))
theorem z123p0ok (letter t1 : ByteArray) (K : KT) (h : W (fact_Valid_1_p0 letter t1) (rE z123R K)) : EvL Try.prog 7 (List.drop 0 z123i0) K (z123p0S letter t1) :=
  EvL.pE mixed (lookC_ok (l := [(124, .pure strings_Contains_C)]) ⟨strings_Contains_ok, trivial⟩) [3] 0 3 (.nf (X := fun K => ((strings_Contains t1 letter).isSome = true) ∧ (wK K .ret (z123R ((strings_Contains t1 letter).getD false)))) (fun K => by kernel_rfl) (W_bind false h fun hp0 h => ⟨_, .refl _, h⟩))
noncomputable def fact_Valid_1 (letter t1 : ByteArray) : Option (Bool) := fact_Valid_1_p0 letter t1
theorem z123run (letter t1 : ByteArray) (y_ : Bool) (h : fact_Valid_1 letter t1 = some y_) : EvL Try.prog 7 (items (bodyOf Try.f123)) (retK Try.prog [.tmp 3] (OutOk (fact_Valid_1_out y_))) (z123p0S letter t1) :=
  z123p0ok letter t1 _ (W_iff.2 ⟨y_, h, z123Rok y_⟩)
noncomputable def fact_Valid_1_C : Con
  | [(.c (.lit (.string a1))), (.dptr 1 [(.lit (.string a2))] 0)] => some ([(fact_Valid_1 a1 a2).isSome = true], (fact_Valid_1_out ((fact_Valid_1 a1 a2).getD false)))
  | _ => none
theorem fact_Valid_1_ok : Meets Try.prog 123 fact_Valid_1_C := by
  refine meets_fun (fn := Try.f123) (c := bodyOf Try.f123) (by kernel_rfl) (by kernel_rfl) (by kernel_rfl) (rs := [.tmp 3]) (by kernel_rfl) (nt := 7) (by kernel_rfl) fun vs p out h hp => ?_
  unfold fact_Valid_1_C at h
  split at h
  · next a1 a2 =>
    cases h
    obtain ⟨g, hp⟩ := allq hp
    obtain ⟨x, hx⟩ := Option.isSome_iff_exists.1 g
    rw [hx]
    exact ⟨[(str a1), (.dptr 1 [(ds a2)] 0)], (VLes.cons (VLe.rfl' _) (VLes.cons (VLe.rfl' _) VLes.nil)), rfl, z123run a1 a2 x hx⟩
  · cases h

noncomputable def z126i0 : List Code := items (bodyOf Try.f126)
def z126R (x_2 : Bool) : St := { tm := [sv 8 (bl x_2)], hp := [], nx := 0 }
def fact_field_out (x_2 : Bool) : Out := .data (bl x_2)
theorem z126Rok (x_2 : Bool) : retK Try.prog [.tmp 8] (OutOk (fact_field_out x_2)) .ret (z126R x_2) :=
  retK.intro (v := (bl x_2)) (by kernel_rfl) ((VLe.rfl' _))
def z126p0S (used : Bool) (x_1 low high : Int) : St := { tm := [sv 0 (bl used), sv 1 (i64 x_1), sv 2 (i64 low), sv 3 (i64 high)], hp := [], nx := 0 }
noncomputable def fact_field_p0 (used : Bool) (x_1 low high : Int) : Option (Bool) := gd ((used && true) = true → (fact_within x_1 low high).isSome = true) ((some (bif (bif used then ((fact_within x_1 low high).getD false) else false) then true else (bif (!used) then (x_1 == (0 : Int)) else false))))
theorem z126p0ok (used : Bool) (x_1 low high : Int) (K : KT) (h : W (fact_field_p0 used x_1 low high) (rE z126R K)) : EvL Try.prog 24 (List.drop 0 z126i0) K (z126p0S used x_1 low high) :=
  EvL.pE mixed (lookC_ok (l := [(125, .pure fact_within_C)]) ⟨fact_within_ok, trivial⟩) [8] 0 3 (.nf (X := fun K => ((used && true) = true → (fact_within x_1 low high).isSome = true) ∧ (wK K .ret (z126R (bif (bif used then ((fact_within x_1 low high).getD false) else false) then true else (bif (!used) then (x_1 == (0 : Int)) else false))))) (fun K => by kernel_rfl) (W_gd h fun hp0 h => ⟨_, .refl _, h⟩))
noncomputable def fact_field (used : Bool) (x_1 low high : Int) : Option (Bool) := fact_field_p0 used x_1 low high
theorem z126run (used : Bool) (x_1 low high : Int) (y_ : Bool) (h : fact_field used x_1 low high = some y_) : EvL Try.prog 24 (items (bodyOf Try.f126)) (retK Try.prog [.tmp 8] (OutOk (fact_field_out y_))) (z126p0S used x_1 low high) :=
  z126p0ok used x_1 low high _ (W_iff.2 ⟨y_, h, z126Rok y_⟩)
noncomputable def fact_field_C : Con
  | [(.c (.lit (.bool a1))), (.c (.lit (.int .i64 a2))), (.c (.lit (.int .i64 a3))), (.c (.lit (.int .i64 a4)))] => some ([(fact_field a1 a2 a3 a4).isSome = true], (fact_field_out ((fact_field a1 a2 a3 a4).getD false)))
  | _ => none
theorem fact_field_ok : Meets Try.prog 126 fact_field_C := by
  refine meets_fun (fn := Try.f126) (c := bodyOf Try.f126) (by kernel_rfl) (by kernel_rfl) (by kernel_rfl) (rs := [.tmp 8]) (by kernel_rfl) (nt := 24) (by kernel_rfl) fun vs p out h hp => ?_
  unfold fact_field_C at h
  split at h
  · next a1 a2 a3 a4 =>
    cases h
    obtain ⟨g, hp⟩ := allq hp
    obtain ⟨x, hx⟩ := Option.isSome_iff_exists.1 g
    rw [hx]
    exact ⟨[(bl a1), (i64 a2), (i64 a3), (i64 a4)], (VLes.cons (VLe.rfl' _) (VLes.cons (VLe.rfl' _) (VLes.cons (VLe.rfl' _) (VLes.cons (VLe.rfl' _) VLes.nil)))), rfl, z126run a1 a2 a3 a4 x hx⟩
  · cases h

noncomputable def z127i0 : List Code := items (bodyOf Try.f127)
def z127R (x_1 : Bool) : St := { tm := [sv 2 (bl x_1)], hp := [], nx := 0 }
def fact_validSpan_out (x_1 : Bool) : Out := .data (bl x_1)
theorem z127Rok (x_1 : Bool) : retK Try.prog [.tmp 2] (OutOk (fact_validSpan_out x_1)) .ret (z127R x_1) :=
  retK.intro (v := (bl x_1)) (by kernel_rfl) ((VLe.rfl' _))
def z127p0S (s_1 : GSpan) : St := { tm := [sv 0 (.ag (eGSpan s_1))], hp := [], nx := 0 }
noncomputable def fact_validSpan_p0 (s_1 : GSpan) : Option (Bool) := (some (bif (bif (decide ((0 : Int) ≤ s_1.From)) then (decide (s_1.From < s_1.To)) else false) then (decide (s_1.To ≤ (73049 : Int))) else false))
theorem z127p0ok (s_1 : GSpan) (K : KT) (h : W (fact_validSpan_p0 s_1) (rE z127R K)) : EvL Try.prog 18 (List.drop 0 z127i0) K (z127p0S s_1) :=
  EvL.pE mixed (lookC_ok (l := []) trivial) [2] 0 3 (.nf (X := fun K => wK K .ret (z127R (bif (bif (decide ((0 : Int) ≤ s_1.From)) then (decide (s_1.From < s_1.To)) else false) then (decide (s_1.To ≤ (73049 : Int))) else false))) (fun K => by kernel_rfl) (⟨_, .refl _, h⟩))
noncomputable def fact_validSpan (s_1 : GSpan) : Option (Bool) := fact_validSpan_p0 s_1
theorem z127run (s_1 : GSpan) (y_ : Bool) (h : fact_validSpan s_1 = some y_) : EvL Try.prog 18 (items (bodyOf Try.f127)) (retK Try.prog [.tmp 2] (OutOk (fact_validSpan_out y_))) (z127p0S s_1) :=
  z127p0ok s_1 _ (W_iff.2 ⟨y_, h, z127Rok y_⟩)
noncomputable def fact_validSpan_C : Con
  | [(.agg [(.c (.lit (.int .i64 a1))), (.c (.lit (.int .i64 a2)))])] => some ([(fact_validSpan (GSpan.mk a1 a2)).isSome = true], (fact_validSpan_out ((fact_validSpan (GSpan.mk a1 a2)).getD false)))
  | _ => none
theorem fact_validSpan_ok : Meets Try.prog 127 fact_validSpan_C := by
  refine meets_fun (fn := Try.f127) (c := bodyOf Try.f127) (by kernel_rfl) (by kernel_rfl) (by kernel_rfl) (rs := [.tmp 2]) (by kernel_rfl) (nt := 18) (by kernel_rfl) fun vs p out h hp => ?_
  unfold fact_validSpan_C at h
  split at h
  · next a1 a2 =>
    cases h
    obtain ⟨g, hp⟩ := allq hp
    obtain ⟨x, hx⟩ := Option.isSome_iff_exists.1 g
    rw [hx]
    exact ⟨[(.agg [(i64 (GSpan.mk a1 a2).From), (i64 (GSpan.mk a1 a2).To)])], (VLes.cons (VLe.rfl' _) VLes.nil), rfl, z127run (GSpan.mk a1 a2) x hx⟩
  · cases h

end Go.Ax
