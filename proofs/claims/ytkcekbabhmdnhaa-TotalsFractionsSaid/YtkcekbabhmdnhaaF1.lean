import Derived.Test.YtkcekbabhmdnhaaA9
import Derived.Test.YtkcekbabhmdnhaaLay
import Derived.Test.YtkcekbabhmdnhaaRows
/- Types of the program, and functions of it: printed by a program, checked by the kernel. -/
set_option linter.all false
set_option maxRecDepth 100000
namespace Go.Ax
open Go.Proofs Go.Proofs.Ytkcekbabhmdnhaa
theorem mixed : Try.prog.follows .mixedOrders = true := by kernel_rfl
theorem dI64_eI64 (x : Int) : dI64 (eI64 x) = x := rfl
theorem scal_I64 (x : Int) (d : D) (h : d ∈ eI64 x) : d.scal = true := by
  simp only [eI64, List.mem_singleton] at h; subst h; rfl
theorem dU64_eU64 (x : Int) : dU64 (eU64 x) = x := rfl
theorem scal_U64 (x : Int) (d : D) (h : d ∈ eU64 x) : d.scal = true := by
  simp only [eU64, List.mem_singleton] at h; subst h; rfl
theorem dU8_eU8 (x : Int) : dU8 (eU8 x) = x := rfl
theorem scal_U8 (x : Int) (d : D) (h : d ∈ eU8 x) : d.scal = true := by
  simp only [eU8, List.mem_singleton] at h; subst h; rfl
theorem dI32_eI32 (x : Int) : dI32 (eI32 x) = x := rfl
theorem scal_I32 (x : Int) (d : D) (h : d ∈ eI32 x) : d.scal = true := by
  simp only [eI32, List.mem_singleton] at h; subst h; rfl
theorem dU32_eU32 (x : Int) : dU32 (eU32 x) = x := rfl
theorem scal_U32 (x : Int) (d : D) (h : d ∈ eU32 x) : d.scal = true := by
  simp only [eU32, List.mem_singleton] at h; subst h; rfl
theorem dU16_eU16 (x : Int) : dU16 (eU16 x) = x := rfl
theorem scal_U16 (x : Int) (d : D) (h : d ∈ eU16 x) : d.scal = true := by
  simp only [eU16, List.mem_singleton] at h; subst h; rfl
theorem dI8_eI8 (x : Int) : dI8 (eI8 x) = x := rfl
theorem scal_I8 (x : Int) (d : D) (h : d ∈ eI8 x) : d.scal = true := by
  simp only [eI8, List.mem_singleton] at h; subst h; rfl
theorem dI16_eI16 (x : Int) : dI16 (eI16 x) = x := rfl
theorem scal_I16 (x : Int) (d : D) (h : d ∈ eI16 x) : d.scal = true := by
  simp only [eI16, List.mem_singleton] at h; subst h; rfl
theorem dBool_eBool (x : Bool) : dBool (eBool x) = x := rfl
theorem scal_Bool (x : Bool) (d : D) (h : d ∈ eBool x) : d.scal = true := by
  simp only [eBool, List.mem_singleton] at h; subst h; rfl
theorem dStr_eStr (x : ByteArray) : dStr (eStr x) = x := rfl
theorem scal_Str (x : ByteArray) (d : D) (h : d ∈ eStr x) : d.scal = true := by
  simp only [eStr, List.mem_singleton] at h; subst h; rfl
structure GSpan where
  From : Int
  To : Int
def zGSpan : GSpan := ⟨(0 : Int), (0 : Int)⟩
def GSpan.s_To (x : GSpan) (v : Int) : GSpan := ⟨x.From, v⟩
def eGSpan (x : GSpan) : List D := [(di x.From), (di x.To)]
def dGSpan : List D → GSpan
  | [.lit (.int .i64 a1), .lit (.int .i64 a2)] => (GSpan.mk a1 a2)
  | _ => zGSpan
theorem dGSpan_eGSpan (x : GSpan) : dGSpan (eGSpan x) = x := rfl
theorem scal_GSpan (x : GSpan) (d : D) (h : d ∈ eGSpan x) : d.scal = true := by
  have : (eGSpan x).all D.scal = true := rfl
  exact List.all_eq_true.1 this d h
structure GCounted where
  Span : GSpan
  State : Int
  Rank : Int
def zGCounted : GCounted := ⟨zGSpan, (0 : Int), (0 : Int)⟩
def eGCounted (x : GCounted) : List D := [(di x.Span.From), (di x.Span.To), (di x.State), (di x.Rank)]
def dGCounted : List D → GCounted
  | [.lit (.int .i64 a1), .lit (.int .i64 a2), .lit (.int .i64 a3), .lit (.int .i64 a4)] => (GCounted.mk (GSpan.mk a1 a2) a3 a4)
  | _ => zGCounted
theorem dGCounted_eGCounted (x : GCounted) : dGCounted (eGCounted x) = x := rfl
theorem scal_GCounted (x : GCounted) (d : D) (h : d ∈ eGCounted x) : d.scal = true := by
  have : (eGCounted x).all D.scal = true := rfl
  exact List.all_eq_true.1 this d h
structure GArr6_I64 where
  a0 : Int
  a1 : Int
  a2 : Int
  a3 : Int
  a4 : Int
  a5 : Int
def zGArr6_I64 : GArr6_I64 := ⟨(0 : Int), (0 : Int), (0 : Int), (0 : Int), (0 : Int), (0 : Int)⟩
def GArr6_I64.at (x : GArr6_I64) (i : Nat) : Int := [x.a0, x.a1, x.a2, x.a3, x.a4, x.a5].getD i (0 : Int)
def GArr6_I64.set (x : GArr6_I64) (i : Nat) (v : Int) : GArr6_I64 := ⟨bif Nat.beq 0 i then v else x.a0, bif Nat.beq 1 i then v else x.a1, bif Nat.beq 2 i then v else x.a2, bif Nat.beq 3 i then v else x.a3, bif Nat.beq 4 i then v else x.a4, bif Nat.beq 5 i then v else x.a5⟩
def eGArr6_I64 (x : GArr6_I64) : List D := [(di x.a0), (di x.a1), (di x.a2), (di x.a3), (di x.a4), (di x.a5)]
def dGArr6_I64 : List D → GArr6_I64
  | [.lit (.int .i64 a1), .lit (.int .i64 a2), .lit (.int .i64 a3), .lit (.int .i64 a4), .lit (.int .i64 a5), .lit (.int .i64 a6)] => (GArr6_I64.mk a1 a2 a3 a4 a5 a6)
  | _ => zGArr6_I64
theorem dGArr6_I64_eGArr6_I64 (x : GArr6_I64) : dGArr6_I64 (eGArr6_I64 x) = x := rfl
theorem scal_GArr6_I64 (x : GArr6_I64) (d : D) (h : d ∈ eGArr6_I64 x) : d.scal = true := by
  have : (eGArr6_I64 x).all D.scal = true := rfl
  exact List.all_eq_true.1 this d h
structure GArr6_Bool where
  a0 : Bool
  a1 : Bool
  a2 : Bool
  a3 : Bool
  a4 : Bool
  a5 : Bool
def zGArr6_Bool : GArr6_Bool := ⟨false, false, false, false, false, false⟩
def GArr6_Bool.at (x : GArr6_Bool) (i : Nat) : Bool := [x.a0, x.a1, x.a2, x.a3, x.a4, x.a5].getD i false
def GArr6_Bool.set (x : GArr6_Bool) (i : Nat) (v : Bool) : GArr6_Bool := ⟨bif Nat.beq 0 i then v else x.a0, bif Nat.beq 1 i then v else x.a1, bif Nat.beq 2 i then v else x.a2, bif Nat.beq 3 i then v else x.a3, bif Nat.beq 4 i then v else x.a4, bif Nat.beq 5 i then v else x.a5⟩
def eGArr6_Bool (x : GArr6_Bool) : List D := [(db x.a0), (db x.a1), (db x.a2), (db x.a3), (db x.a4), (db x.a5)]
def dGArr6_Bool : List D → GArr6_Bool
  | [.lit (.bool a1), .lit (.bool a2), .lit (.bool a3), .lit (.bool a4), .lit (.bool a5), .lit (.bool a6)] => (GArr6_Bool.mk a1 a2 a3 a4 a5 a6)
  | _ => zGArr6_Bool
theorem dGArr6_Bool_eGArr6_Bool (x : GArr6_Bool) : dGArr6_Bool (eGArr6_Bool x) = x := rfl
theorem scal_GArr6_Bool (x : GArr6_Bool) (d : D) (h : d ∈ eGArr6_Bool x) : d.scal = true := by
  have : (eGArr6_Bool x).all D.scal = true := rfl
  exact List.all_eq_true.1 this d h
structure GTotal where
  Own : GArr6_I64
  Few : GArr6_Bool
  Sum : Int
  Base : Int
  Last : Int
def zGTotal : GTotal := ⟨zGArr6_I64, zGArr6_Bool, (0 : Int), (0 : Int), (0 : Int)⟩
def eGTotal (x : GTotal) : List D := [(di x.Own.a0), (di x.Own.a1), (di x.Own.a2), (di x.Own.a3), (di x.Own.a4), (di x.Own.a5), (db x.Few.a0), (db x.Few.a1), (db x.Few.a2), (db x.Few.a3), (db x.Few.a4), (db x.Few.a5), (di x.Sum), (di x.Base), (di x.Last)]
def dGTotal : List D → GTotal
  | [.lit (.int .i64 a1), .lit (.int .i64 a2), .lit (.int .i64 a3), .lit (.int .i64 a4), .lit (.int .i64 a5), .lit (.int .i64 a6), .lit (.bool a7), .lit (.bool a8), .lit (.bool a9), .lit (.bool a10), .lit (.bool a11), .lit (.bool a12), .lit (.int .i64 a13), .lit (.int .i64 a14), .lit (.int .i64 a15)] => (GTotal.mk (GArr6_I64.mk a1 a2 a3 a4 a5 a6) (GArr6_Bool.mk a7 a8 a9 a10 a11 a12) a13 a14 a15)
  | _ => zGTotal
theorem dGTotal_eGTotal (x : GTotal) : dGTotal (eGTotal x) = x := rfl
theorem scal_GTotal (x : GTotal) (d : D) (h : d ∈ eGTotal x) : d.scal = true := by
  have : (eGTotal x).all D.scal = true := rfl
  exact List.all_eq_true.1 this d h
structure GFraction where
  Num : Int
  Den : Int
def zGFraction : GFraction := ⟨(0 : Int), (0 : Int)⟩
def eGFraction (x : GFraction) : List D := [(di x.Num), (di x.Den)]
def dGFraction : List D → GFraction
  | [.lit (.int .i64 a1), .lit (.int .i64 a2)] => (GFraction.mk a1 a2)
  | _ => zGFraction
theorem dGFraction_eGFraction (x : GFraction) : dGFraction (eGFraction x) = x := rfl
theorem scal_GFraction (x : GFraction) (d : D) (h : d ∈ eGFraction x) : d.scal = true := by
  have : (eGFraction x).all D.scal = true := rfl
  exact List.all_eq_true.1 this d h
structure GPensionref1_wide where
  hi : Int
  lo : Int
def zGPensionref1_wide : GPensionref1_wide := ⟨(0 : Int), (0 : Int)⟩
def eGPensionref1_wide (x : GPensionref1_wide) : List D := [(.lit (.int .u64 x.hi)), (.lit (.int .u64 x.lo))]
def dGPensionref1_wide : List D → GPensionref1_wide
  | [.lit (.int .u64 a1), .lit (.int .u64 a2)] => (GPensionref1_wide.mk a1 a2)
  | _ => zGPensionref1_wide
theorem dGPensionref1_wide_eGPensionref1_wide (x : GPensionref1_wide) : dGPensionref1_wide (eGPensionref1_wide x) = x := rfl
theorem scal_GPensionref1_wide (x : GPensionref1_wide) (d : D) (h : d ∈ eGPensionref1_wide x) : d.scal = true := by
  have : (eGPensionref1_wide x).all D.scal = true := rfl
  exact List.all_eq_true.1 this d h
def eLeGSpan (x : (List GSpan)) : List D := [(.sl 2 x.length (lsEl eGSpan zGSpan x))]
def dLeGSpan : List D → (List GSpan)
  | [.sl _ n e] => (lst dGSpan n e)
  | _ => []
theorem dLeGSpan_eLeGSpan (x : (List GSpan)) : dLeGSpan (eLeGSpan x) = x := by
  simp only [eLeGSpan, dLeGSpan, RowIs.lst dGSpan_eGSpan (RowIs.ls eGSpan zGSpan _)]

noncomputable def z9i0 : List Code := items (bodyOf Try.f9)
def made_Pick_out (x_1 : Int) : Out := .data (i64 x_1)
def z9R (x_1 : Int) : St := { tm := [sv 4 (i64 x_1)], hp := [], nx := 0 }
theorem z9Rok (x_1 : Int) : retK Try.prog [.tmp 4] (OutOk (made_Pick_out x_1)) .ret (z9R x_1) :=
  retK.intro (v := (i64 x_1)) (by kernel_rfl) ((VLe.rfl' _))
def z9p0S (n k : Int) : St := { tm := [sv 0 (i64 n), sv 1 (i64 k)], hp := [], nx := 0 }
noncomputable def made_Pick_p0 (n k : Int) : Option (Int) := (bif (decide (k < (1 : Int))) then (some (0 : Int)) else gd (k ≠ (0 : Int)) (gd (k ≠ (0 : Int)) ((some (Int.tmod (w64 ((Int.tmod n k) + k)) k)))))
theorem z9p0ok (n k : Int) (K : KT) (h : W (made_Pick_p0 n k) (rE z9R K)) : EvL Try.prog 14 (List.drop 0 z9i0) K (z9p0S n k) :=
  EvL.pE mixed (lookC_ok (l := []) trivial) [4] 0 5 (.nf (X := fun K => (bif (decide (k < (1 : Int))) then wK K .ret (z9R (0 : Int)) else (k ≠ (0 : Int)) ∧ (k ≠ (0 : Int)) ∧ (wK K .ret (z9R (Int.tmod (w64 ((Int.tmod n k) + k)) k))))) (fun K => by kernel_rfl) (W_bif h (fun _ h => ⟨_, .refl _, h⟩) (fun _ h => (W_gd h fun hp0 h => (W_gd h fun hp1 h => ⟨_, .refl _, h⟩)))))
noncomputable def made_Pick (n k : Int) : Option (Int) := made_Pick_p0 n k
theorem z9run (n k : Int) (y_ : Int) (h : made_Pick n k = some y_) : EvL Try.prog 14 (items (bodyOf Try.f9)) (retK Try.prog [.tmp 4] (OutOk (made_Pick_out y_))) (z9p0S n k) :=
  z9p0ok n k _ (W_iff.2 ⟨y_, h, z9Rok y_⟩)
noncomputable def made_Pick_C : Con
  | [(.c (.lit (.int .i64 a1))), (.c (.lit (.int .i64 a2)))] => some ([(made_Pick a1 a2).isSome = true], (made_Pick_out ((made_Pick a1 a2).getD (0 : Int))))
  | _ => none
theorem made_Pick_ok : Meets Try.prog 9 made_Pick_C := by
  refine meets_fun (fn := Try.f9) (c := bodyOf Try.f9) (by kernel_rfl) (by kernel_rfl) (by kernel_rfl) (rs := [.tmp 4]) (by kernel_rfl) (nt := 14) (by kernel_rfl) fun vs p out h hp => ?_
  unfold made_Pick_C at h
  split at h
  · next a1 a2 =>
    cases h
    obtain ⟨g, hp⟩ := allq hp
    obtain ⟨x, hx⟩ := Option.isSome_iff_exists.1 g
    rw [hx]
    exact ⟨[(i64 a1), (i64 a2)], (VLes.cons (VLe.rfl' _) (VLes.cons (VLe.rfl' _) VLes.nil)), rfl, z9run a1 a2 x hx⟩
  · cases h

noncomputable def z8i0 : List Code := items (bodyOf Try.f8)
noncomputable def z8i1 : List Code := items (inside (inside (nthI z8i0 6)))
def law18_counted_2_out (x_1 : (List GCounted)) : Out := .data (.c (.sl 4 x_1.length (lsEl eGCounted zGCounted x_1)))
def z8R (x_1 : (List GCounted)) : St := { tm := [sv 4 (.row 0 4 0 x_1.length)], hp := [(0, some (.row 39 4 x_1.length (lsEl eGCounted zGCounted x_1)))], nx := 1 }
theorem z8Rok (x_1 : (List GCounted)) : retK Try.prog [.tmp 4] (OutOk (law18_counted_2_out x_1)) .ret (z8R x_1) :=
  retK.intro (v := (.row 0 4 0 x_1.length)) (by kernel_rfl) ((VLe.sl (RowIs.ls0 eGCounted zGCounted x_1)))
def z8R2 (x_1 : (List GCounted)) : St := { tm := [sv 4 (.c (.sl 4 x_1.length (lsEl eGCounted zGCounted x_1)))], hp := [], nx := 0 }
theorem z8R2ok (x_1 : (List GCounted)) : retK Try.prog [.tmp 4] (OutOk (law18_counted_2_out x_1)) .ret (z8R2 x_1) :=
  retK.intro (v := (.c (.sl 4 x_1.length (lsEl eGCounted zGCounted x_1)))) (by kernel_rfl) ((VLe.rfl' _))
def z8l1S (l : (List GCounted)) (s : ((List GCounted) × Int × Int)) : St := match s with | (out_1, at_1, i_1) => { tm := [sv 0 (.c (.sl 4 l.length (lsEl eGCounted zGCounted l))), sv 5 (.row 0 4 0 out_1.length), sv 6 (i64 at_1), sv 7 (i64 i_1)], hp := [(0, some (.row 39 4 out_1.length (lsEl eGCounted zGCounted out_1)))], nx := 1 }
def z8l1C0 (l : (List GCounted)) (s : (List GCounted)) : St := match s with | out_2 => { tm := [sv 5 (.row 0 4 0 out_2.length)], hp := [(0, some (.row 39 4 out_2.length (lsEl eGCounted zGCounted out_2)))], nx := 1 }
def z8l1E (l : (List GCounted)) (r : (((List GCounted)))) (K : KT) : Prop := match r with | s => K (.exit 0) (z8l1C0 l s)
def z8p0S (l out_1 : (List GCounted)) (at_1 i_1 : Int) : St := { tm := [sv 0 (.c (.sl 4 l.length (lsEl eGCounted zGCounted l))), sv 5 (.row 0 4 0 out_1.length), sv 6 (i64 at_1), sv 7 (i64 i_1)], hp := [(0, some (.row 39 4 out_1.length (lsEl eGCounted zGCounted out_1)))], nx := 1 }
noncomputable def law18_counted_2_p0 (l out_1 : (List GCounted)) (at_1 i_1 : Int) : Option (((List GCounted) × Int × Int) ⊕ (((List GCounted)))) := (bif (decide (i_1 < ((l.length : Nat) : Int))) then gd ((0 : Int) ≤ i_1 ∧ i_1 < ((l.length : Nat) : Int)) ((made_Pick (((l.getD (Int.toNat i_1) zGCounted).Span).From) (30 : Int)).bind fun r_1 => (gd ((0 : Int) ≤ i_1 ∧ i_1 < ((l.length : Nat) : Int)) ((made_Pick (((l.getD (Int.toNat i_1) zGCounted).Span).To) (400 : Int)).bind fun r_2 => (gd ((0 : Int) ≤ i_1 ∧ i_1 < ((l.length : Nat) : Int)) ((made_Pick ((l.getD (Int.toNat i_1) zGCounted).State) (5 : Int)).bind fun r_3 => (gd ((0 : Int) ≤ i_1 ∧ i_1 < ((l.length : Nat) : Int)) ((made_Pick ((l.getD (Int.toNat i_1) zGCounted).Rank) (7 : Int)).bind fun r_4 => (gd (capB (out_1.length + 1) 32) ((some (Sum.inl ((out_1 ++ ([(GCounted.mk (GSpan.mk (w64 (at_1 + r_1)) (w64 ((w64 ((w64 (at_1 + r_1)) + (1 : Int))) + r_2))) r_3 (w64 ((1 : Int) + r_4)))] : List GCounted)), (w64 ((w64 ((w64 (at_1 + r_1)) + (1 : Int))) + r_2)), (w64 (i_1 + (1 : Int))))))))))))))) else (some (Sum.inr out_1)))
theorem z8p0ok (l out_1 : (List GCounted)) (at_1 i_1 : Int) (K : KT) (h : W (law18_counted_2_p0 l out_1 at_1 i_1) (nE (z8l1S l) (z8l1E l) K)) : EvL Try.prog 57 (List.drop 0 z8i1) K (z8p0S l out_1 at_1 i_1) :=
  EvL.pE mixed (lookC_ok (l := [(9, .pure made_Pick_C)]) ⟨made_Pick_ok, trivial⟩) [0, 5, 6, 7] 0 4 (.nf (X := fun K => (bif (decide (i_1 < ((l.length : Nat) : Int))) then ((0 : Int) ≤ i_1) ∧ (i_1 < ((l.length : Nat) : Int)) ∧ ((made_Pick (((l.getD (Int.toNat i_1) zGCounted).Span).From) (30 : Int)).isSome = true) ∧ (((0 : Int) ≤ i_1) ∧ (i_1 < ((l.length : Nat) : Int)) ∧ ((made_Pick (((l.getD (Int.toNat i_1) zGCounted).Span).To) (400 : Int)).isSome = true) ∧ (((0 : Int) ≤ i_1) ∧ (i_1 < ((l.length : Nat) : Int)) ∧ ((made_Pick ((l.getD (Int.toNat i_1) zGCounted).State) (5 : Int)).isSome = true) ∧ ((0 : Int) ≤ i_1) ∧ (i_1 < ((l.length : Nat) : Int)) ∧ ((made_Pick ((l.getD (Int.toNat i_1) zGCounted).Rank) (7 : Int)).isSome = true) ∧ (out_1.length = out_1.length) ∧ ((out_1.length + 1) * 32 ≤ 140737488355328) ∧ ((out_1.length + 1) ≤ 140737488355328) ∧ (wK K .normal ({ tm := [sv 0 (.c (.sl 4 l.length (lsEl eGCounted zGCounted l))), sv 5 (.row 0 4 0 (out_1.length + 1)), sv 6 (i64 (w64 ((w64 ((w64 (at_1 + ((made_Pick (((l.getD (Int.toNat i_1) zGCounted).Span).From) (30 : Int)).getD (0 : Int)))) + (1 : Int))) + ((made_Pick (((l.getD (Int.toNat i_1) zGCounted).Span).To) (400 : Int)).getD (0 : Int))))), sv 7 (i64 (w64 (i_1 + (1 : Int))))], hp := [(0, some (.row 39 4 (out_1.length + 1) (fun i => bif Nat.blt i out_1.length then (lsEl eGCounted zGCounted out_1) i else (fun i => (litE 4 (eGCounted (GCounted.mk (GSpan.mk (w64 (at_1 + ((made_Pick (((l.getD (Int.toNat i_1) zGCounted).Span).From) (30 : Int)).getD (0 : Int)))) (w64 ((w64 ((w64 (at_1 + ((made_Pick (((l.getD (Int.toNat i_1) zGCounted).Span).From) (30 : Int)).getD (0 : Int)))) + (1 : Int))) + ((made_Pick (((l.getD (Int.toNat i_1) zGCounted).Span).To) (400 : Int)).getD (0 : Int))))) ((made_Pick ((l.getD (Int.toNat i_1) zGCounted).State) (5 : Int)).getD (0 : Int)) (w64 ((1 : Int) + ((made_Pick ((l.getD (Int.toNat i_1) zGCounted).Rank) (7 : Int)).getD (0 : Int))))))) (0 + i)) (i - out_1.length))))], nx := 1 })))) else wK K (.exit 0) ({ tm := [sv 0 (.c (.sl 4 l.length (lsEl eGCounted zGCounted l))), sv 5 (.row 0 4 0 out_1.length), sv 6 (i64 at_1), sv 7 (i64 i_1)], hp := [(0, some (.row 39 4 out_1.length (lsEl eGCounted zGCounted out_1)))], nx := 1 }))) (fun K => by kernel_rfl) (W_bif h (fun _ h => (W_gd2 h fun hp0 h => (W_bind (0 : Int) h fun hp1 h => (W_gd2 h fun hp2 h => (W_bind (0 : Int) h fun hp3 h => (W_gd2 h fun hp4 h => (W_bind (0 : Int) h fun hp5 h => (W_gd2 h fun hp6 h => (W_bind (0 : Int) h fun hp7 h => ⟨rfl, (W_gd2 h fun hp8 h => ⟨(z8l1S l ((out_1 ++ ([(GCounted.mk (GSpan.mk (w64 (at_1 + ((made_Pick ((l.getD (Int.toNat i_1) zGCounted).Span).From (30 : Int)).getD (0 : Int)))) (w64 ((w64 ((w64 (at_1 + ((made_Pick ((l.getD (Int.toNat i_1) zGCounted).Span).From (30 : Int)).getD (0 : Int)))) + (1 : Int))) + ((made_Pick ((l.getD (Int.toNat i_1) zGCounted).Span).To (400 : Int)).getD (0 : Int))))) ((made_Pick (l.getD (Int.toNat i_1) zGCounted).State (5 : Int)).getD (0 : Int)) (w64 ((1 : Int) + ((made_Pick (l.getD (Int.toNat i_1) zGCounted).Rank (7 : Int)).getD (0 : Int)))))] : List GCounted)), (w64 ((w64 ((w64 (at_1 + ((made_Pick ((l.getD (Int.toNat i_1) zGCounted).Span).From (30 : Int)).getD (0 : Int)))) + (1 : Int))) + ((made_Pick ((l.getD (Int.toNat i_1) zGCounted).Span).To (400 : Int)).getD (0 : Int)))), (w64 (i_1 + (1 : Int))))), (.of (.q rfl (.cons rfl (.rown (len_app rfl rfl)) (.q rfl (.q rfl .nil)))) (.row rfl (RowIs.app (RowIs.ls eGCounted zGCounted out_1) (RowIs.zero (RowIs.l1 (enc := eGCounted) (z := zGCounted) 4 (GCounted.mk (GSpan.mk (w64 (at_1 + ((made_Pick ((l.getD (Int.toNat i_1) zGCounted).Span).From (30 : Int)).getD (0 : Int)))) (w64 ((w64 ((w64 (at_1 + ((made_Pick ((l.getD (Int.toNat i_1) zGCounted).Span).From (30 : Int)).getD (0 : Int)))) + (1 : Int))) + ((made_Pick ((l.getD (Int.toNat i_1) zGCounted).Span).To (400 : Int)).getD (0 : Int))))) ((made_Pick (l.getD (Int.toNat i_1) zGCounted).State (5 : Int)).getD (0 : Int)) (w64 ((1 : Int) + ((made_Pick (l.getD (Int.toNat i_1) zGCounted).Rank (7 : Int)).getD (0 : Int))))) rfl))) .nil rfl) rfl), h⟩)⟩))))))))) (fun _ h => ⟨(z8l1C0 l out_1), (.of (.q rfl .nil) (.same rfl .nil) rfl), h⟩)))
noncomputable def law18_counted_2_l1 (l : (List GCounted)) (s : ((List GCounted) × Int × Int)) : Option (((List GCounted) × Int × Int) ⊕ (((List GCounted)))) := match s with | (out_1, at_1, i_1) => law18_counted_2_p0 l out_1 at_1 i_1
theorem z8l1ok (l : (List GCounted)) (s : ((List GCounted) × Int × Int)) : Pp Try.prog 57 (List.drop 0 z8i1) (z8l1S l s) (law18_counted_2_l1 l s) (nextE (z8l1S l) (z8l1E l)) := fun K h => match s, h with | (out_1, at_1, i_1), h => (z8p0ok l out_1 at_1 i_1 _ h)
theorem z8l1Ethen (l : (List GCounted)) : ∀ (r : (((List GCounted)))) (J : St → Prop) (K : KT), z8l1E l r K → z8l1E l r (thenK J K)
  | s, _, _, h => h
def z8p1S (out_3 : (List GCounted)) : St := { tm := [sv 5 (.row 0 4 0 out_3.length)], hp := [(0, some (.row 39 4 out_3.length (lsEl eGCounted zGCounted out_3)))], nx := 1 }
noncomputable def law18_counted_2_p1 (out_3 : (List GCounted)) : Option ((List GCounted)) := (some out_3)
theorem z8p1ok (out_3 : (List GCounted)) (K : KT) (h : W (law18_counted_2_p1 out_3) (rE2 z8R z8R2 K)) : EvL Try.prog 57 (List.drop 7 z8i0) K (z8p1S out_3) :=
  EvL.pE mixed (lookC_ok (l := []) trivial) [4] 7 2 (.nf (X := fun K => wK K .ret (z8R out_3)) (fun K => by kernel_rfl) (⟨_, .refl _, (And.left h)⟩))
def z8p2S (l : (List GCounted)) : St := { tm := [sv 0 (.c (.sl 4 l.length (lsEl eGCounted zGCounted l))), sv 5 (.c .nil), sv 6 (i64 (0 : Int)), sv 7 (i64 (0 : Int))], hp := [], nx := 0 }
noncomputable def law18_counted_2_p2_g (l : (List GCounted)) (r : (((List GCounted)))) : Option ((List GCounted)) := match r with | out_2 => (law18_counted_2_p1 out_2)
noncomputable def law18_counted_2_p2 (l : (List GCounted)) : Option ((List GCounted)) := (fixL (law18_counted_2_l1 l) (([] : List GCounted), (0 : Int), (0 : Int))).bind (law18_counted_2_p2_g l)
theorem z8p2at : List.drop 6 z8i0 = .block 0 (.loop (inside (inside (nthI z8i0 6)))) :: List.drop 7 z8i0 := by kernel_rfl
theorem z8p2k (l : (List GCounted)) (K : KT) : ∀ r : (((List GCounted))), W (law18_counted_2_p2_g l r) (rE2 z8R z8R2 K) → z8l1E l r (wK (blockK 0 (thenK (EvL Try.prog 57 (List.drop 7 z8i0) K) K)))
  | out_2, h => ⟨(z8p1S out_2), (.refl _), (z8p1ok out_2 _ h)⟩
theorem z8p2ok (l : (List GCounted)) (K : KT) (h : W (law18_counted_2_p2 l) (rE2 z8R z8R2 K)) : EvL Try.prog 57 (List.drop 6 z8i0) K (z8p2S l) :=
  EvL.at_ z8p2at (EvL.cons_loop (EvOk.weak (EvOk.ent (.trans (.nilrow 5 0 39 4 (lsEl eGCounted zGCounted []) (Nat.le_of_ble_eq_true rfl) rfl) (.cn [0, 5, 6, 7])) (EvOk.loopF (x := inside (inside (nthI z8i0 6))) (f := law18_counted_2_l1 l) (emb := z8l1S l) (E := z8l1E l) (z8l1ok l) (z8l1Ethen l) (W_loop h (z8p2k l K))))))
def z8p3S (l : (List GCounted)) (raw : Bool) : St := { tm := [sv 0 (.c (.sl 4 l.length (lsEl eGCounted zGCounted l))), sv 1 (bl raw)], hp := [], nx := 0 }
noncomputable def law18_counted_2_p3 (l : (List GCounted)) (raw : Bool) : Option ((List GCounted)) := (bif raw then (some l) else (law18_counted_2_p2 l))
theorem z8p3ok (l : (List GCounted)) (raw : Bool) (K : KT) (h : W (law18_counted_2_p3 l raw) (rE2 z8R z8R2 K)) : EvL Try.prog 57 (List.drop 0 z8i0) K (z8p3S l raw) :=
  EvL.pD mixed (lookC_ok (l := []) trivial) [0, 4, 5, 6, 7] 0 6 6 (.nf (X := fun K => (bif raw then wK K .ret ({ tm := [sv 0 (.c (.sl 4 l.length (lsEl eGCounted zGCounted l))), sv 4 (.c (.sl 4 l.length (lsEl eGCounted zGCounted l)))], hp := [], nx := 0 }) else wK K .normal ({ tm := [sv 0 (.c (.sl 4 l.length (lsEl eGCounted zGCounted l))), sv 4 (.c .nil), sv 5 (.c .nil), sv 6 (i64 (0 : Int)), sv 7 (i64 (0 : Int))], hp := [], nx := 0 }))) (fun K => by kernel_rfl) (W_bif h (fun _ h => ⟨(z8R2 l), (.of (.q rfl .nil) .nil rfl), (And.right h)⟩) (fun _ h => ⟨(z8p2S l), (.of (.q rfl (.q rfl (.q rfl (.q rfl .nil)))) .nil rfl), (z8p2ok l _ h)⟩)))
noncomputable def law18_counted_2 (l : (List GCounted)) (raw : Bool) : Option ((List GCounted)) := law18_counted_2_p3 l raw
theorem z8run (l : (List GCounted)) (raw : Bool) (y_ : (List GCounted)) (h : law18_counted_2 l raw = some y_) : EvL Try.prog 57 (items (bodyOf Try.f8)) (retK Try.prog [.tmp 4] (OutOk (law18_counted_2_out y_))) (z8p3S l raw) :=
  z8p3ok l raw _ (W_iff.2 ⟨y_, h, ⟨z8Rok y_, z8R2ok y_⟩⟩)
noncomputable def law18_counted_2_C : Con
  | [(.c (.sl k1 n2 e3)), (.c (.lit (.bool a4)))] => some ([LstOk eGCounted dGCounted 4 k1 n2 e3, (law18_counted_2 (lst dGCounted n2 e3) a4).isSome = true], (law18_counted_2_out ((law18_counted_2 (lst dGCounted n2 e3) a4).getD ([] : List GCounted))))
  | _ => none
theorem law18_counted_2_ok : Meets Try.prog 8 law18_counted_2_C := by
  refine meets_fun (fn := Try.f8) (c := bodyOf Try.f8) (by kernel_rfl) (by kernel_rfl) (by kernel_rfl) (rs := [.tmp 4]) (by kernel_rfl) (nt := 57) (by kernel_rfl) fun vs p out h hp => ?_
  unfold law18_counted_2_C at h
  split at h
  · next k1 n2 e3 a4 =>
    cases h
    obtain ⟨g0, hp⟩ := allq hp
    obtain ⟨g, hp⟩ := allq hp
    obtain ⟨x, hx⟩ := Option.isSome_iff_exists.1 g
    rw [hx]
    exact ⟨[(.c (.sl 4 ((lst dGCounted n2 e3)).length (lsEl eGCounted zGCounted (lst dGCounted n2 e3)))), (bl a4)], (VLes.cons (VLe.slk g0.1 (RowIs.of_ok g0)) (VLes.cons (VLe.rfl' _) VLes.nil)), rfl, z8run (lst dGCounted n2 e3) a4 x hx⟩
  · cases h

noncomputable def z41i0 : List Code := items (bodyOf Try.f41)
def spans_clamp_out (x_1 : GSpan) : Out := .data (.agg [(i64 x_1.From), (i64 x_1.To)])
def z41R (x_1 : GSpan) : St := { tm := [sv 2 (.ptr 0 2 0 0)], hp := [(0, some (.box [(i64 x_1.From), (i64 x_1.To)]))], nx := 1 }
theorem z41Rok (x_1 : GSpan) : retK Try.prog [.cell 2 37] (OutOk (spans_clamp_out x_1)) .ret (z41R x_1) :=
  retK.intro (v := (.agg [(i64 x_1.From), (i64 x_1.To)])) (by kernel_rfl) ((VLe.rfl' _))
def z41p0S (s_1 : GSpan) : St := { tm := [sv 0 (.ag (eGSpan s_1))], hp := [], nx := 0 }
noncomputable def spans_clamp_p0 (s_1 : GSpan) : Option (GSpan) := (some (GSpan.mk (if s_1.From < (0 : Int) then (0 : Int) else s_1.From) (if (73049 : Int) < s_1.To then (73049 : Int) else s_1.To)))
theorem z41p0ok (s_1 : GSpan) (K : KT) (h : W (spans_clamp_p0 s_1) (rE z41R K)) : EvL Try.prog 10 (List.drop 0 z41i0) K (z41p0S s_1) :=
  EvL.pE mixed (lookC_ok (l := []) trivial) [2] 0 3 (.nf (X := fun K => wK K .ret (z41R (GSpan.mk (if s_1.From < (0 : Int) then (0 : Int) else s_1.From) (if (73049 : Int) < s_1.To then (73049 : Int) else s_1.To)))) (fun K => by kernel_rfl) (⟨_, .refl _, h⟩))
noncomputable def spans_clamp (s_1 : GSpan) : Option (GSpan) := spans_clamp_p0 s_1
theorem z41run (s_1 : GSpan) (y_ : GSpan) (h : spans_clamp s_1 = some y_) : EvL Try.prog 10 (items (bodyOf Try.f41)) (retK Try.prog [.cell 2 37] (OutOk (spans_clamp_out y_))) (z41p0S s_1) :=
  z41p0ok s_1 _ (W_iff.2 ⟨y_, h, z41Rok y_⟩)
noncomputable def spans_clamp_C : Con
  | [(.agg [(.c (.lit (.int .i64 a1))), (.c (.lit (.int .i64 a2)))])] => some ([(spans_clamp (GSpan.mk a1 a2)).isSome = true], (spans_clamp_out ((spans_clamp (GSpan.mk a1 a2)).getD zGSpan)))
  | _ => none
theorem spans_clamp_ok : Meets Try.prog 41 spans_clamp_C := by
  refine meets_fun (fn := Try.f41) (c := bodyOf Try.f41) (by kernel_rfl) (by kernel_rfl) (by kernel_rfl) (rs := [.cell 2 37]) (by kernel_rfl) (nt := 10) (by kernel_rfl) fun vs p out h hp => ?_
  unfold spans_clamp_C at h
  split at h
  · next a1 a2 =>
    cases h
    obtain ⟨g, hp⟩ := allq hp
    obtain ⟨x, hx⟩ := Option.isSome_iff_exists.1 g
    rw [hx]
    exact ⟨[(.agg [(i64 (GSpan.mk a1 a2).From), (i64 (GSpan.mk a1 a2).To)])], (VLes.cons (VLe.rfl' _) VLes.nil), rfl, z41run (GSpan.mk a1 a2) x hx⟩
  · cases h


instance : Inhabited GSpan := ⟨zGSpan⟩
/-- Which of two stands first. -/
def sort_Slice_lt (a b : GSpan) : Bool := decide (a.From < b.From)
theorem sort_Slice_swo : Go.Sort.SWO sort_Slice_lt := ⟨fun x => by simp [sort_Slice_lt], fun x y z h1 h2 => by simp [sort_Slice_lt] at *; omega, fun x y z h1 h2 => by simp [sort_Slice_lt] at *; omega⟩
/-- An element's words. -/
def sort_Slice_enc (x : GSpan) : List Value := [.int .i64 x.From, .int .i64 x.To]
theorem sort_Slice_one (x : GSpan) (v : Value) (hv : v ∈ sort_Slice_enc x) : v.oneCell' = true := by
  unfold sort_Slice_enc at hv
  simp only [List.mem_cons, List.not_mem_nil, or_false] at hv
  rcases hv with rfl | rfl <;> rfl
/-- sort.Slice, in the order in which it leaves the list. -/
noncomputable def sort_Slice (l : List GSpan) : Option (List GSpan) := gd (l.length < 4611686018427387904) (some (sortL sort_Slice_lt l))
noncomputable def sort_Slice_C : Heap → Nat → List V → Option Res := sortC eGSpan dGSpan zGSpan 35 37 2 43 sort_Slice
section
open Go.Shelf Go.RowKit Go.Lib Go.Sort
set_option maxHeartbeats 2000000 in
theorem sort_Slice_walk (W : World) (blk off c Bs size : Nat) (G : Nat → Int) (hs : W.cell? ⟨Bs, 0, none⟩ = some (.slice (some ⟨blk, off, none⟩) size c))
    (hc : ∀ t, t < size → W.cell? ⟨blk, off + t * 2, none⟩ = some (.int .i64 (G t))) (i j : Nat) (hi : i < size) (hj : j < size) (_hsz : size < 4611686018427387904) :
    Calls Try.prog 43 #[.int .i64 i, .int .i64 j, .pointer (some ⟨Bs, 0, none⟩)] W fun e w' => e = .returned (.bool (decide (G i < G j))) ∧ ∃ q, w' = W.drewN q := by
  have ci := hc i hi
  have cj := hc j hj
  go_enter Try.func43, Try.ntmps43
  go_wp2
  go_quiet (fail)
  go_wp2
  go_ret
  exact ⟨rfl, nq, rfl⟩
theorem sort_Slice_less (W : World) (blk c Bs : Nat) (d : Array GSpan) (hH : HoldsK sort_Slice_enc 2 W blk 0 d) (hsz : d.size < 4611686018427387904) (hs : W.cell? ⟨Bs, 0, none⟩ = some (.slice (some ⟨blk, 0, none⟩) d.size c)) (i j : Nat) (hi : i < d.size) (hj : j < d.size) :
    Calls Try.prog 43 #[.int .i64 i, .int .i64 j, .pointer (some ⟨Bs, 0, none⟩)] W fun e w' => e = .returned (.bool (sort_Slice_lt d[i]! d[j]!)) ∧ ∃ q, w' = W.drewN q :=
  sort_Slice_walk W blk 0 c Bs d.size (fun t => d[t]!.From) hs (fun t ht => (hH.cell (i := t) (c := 0) ht (by omega)).1) i j hi hj hsz
noncomputable def sort_Slice_ti : TypeInfo := (Try.prog.info? 35).get (by kernel_rfl)
noncomputable def sort_Slice_ei : TypeInfo := (Try.prog.info? 37).get (by kernel_rfl)
theorem sort_Slice_run : SortRun Try.prog 42 35 43 2 sort_Slice_enc sort_Slice_lt := by
  have hp : sort_Slice_ei.hasPointers = false := by kernel_rfl
  have hb : sort_Slice_ei.bytes = 16 := by kernel_rfl
  exact sortRun_of (T := GSpan) (enc := sort_Slice_enc) (k := 2) (lt := sort_Slice_lt) (t := 35) (e := 37) (g := 43) (i := sort_Slice_ti) (ie := sort_Slice_ei) (s := 9) (f2 := 65) Try.sl (by kernel_rfl) (by kernel_rfl) (by kernel_rfl) (by kernel_rfl) (ke := 25) (fun _ => by kernel_rfl) (fun _ => rfl) (by kernel_rfl) (fun _ => by kernel_rfl) sort_Slice_one sort_Slice_swo
    (enters_of (c := bodyOf Try.f43) Try.func43 (by kernel_rfl) (by kernel_rfl)) (by kernel_rfl) (enters_of (c := bodyOf Try.f42) Try.func42 (by kernel_rfl) (by kernel_rfl)) (f0 := 57) (by kernel_rfl) (f1 := 58) (by kernel_rfl)
    (fun n h2 => by
      have c : (n == 0) = false := by simp; omega
      have d : (n == 1) = false := by simp; omega
      simp [Lib.swapperK, hp, hb, c, d]) (by kernel_rfl) (gS := false) (fun args W => run_callFunc_extern Try.func65 (by kernel_rfl) (by kernel_rfl) (by kernel_rfl) (e := Extern.ReflectliteSwapper.swap false) (by kernel_rfl) args W)
    sort_Slice_less
end
theorem sort_Slice_ok : MeetsC Try.prog 42 (.mut sort_Slice_C) :=
  sortC_meets sort_Slice_swo (by decide) (by kernel_rfl) (fun _ => rfl) (fun _ => rfl) sort_Slice_one (fun l x h => ⟨(gd_some.1 h).1, (Option.some.inj (gd_some.1 h).2).symm⟩) sort_Slice_run

noncomputable def z33i0 : List Code := items (bodyOf Try.f33)
noncomputable def z33i1 : List Code := items (inside (inside (nthI z33i0 3)))
noncomputable def z33i2 : List Code := items (inside (inside (nthI z33i0 7)))
def spans_Make_out (x_1 : (List GSpan)) : Out := .own true 37 2 (x_1).length (lsEl eGSpan zGSpan x_1)
def z33R (x_1 : (List GSpan)) : St := { tm := [sv 2 (.row 0 2 0 x_1.length)], hp := [(0, some (.row 37 2 x_1.length (lsEl eGSpan zGSpan x_1)))], nx := 1 }
theorem z33Rok (x_1 : (List GSpan)) : retK Try.prog [.tmp 2] (OutOk (spans_Make_out x_1)) .ret (z33R x_1) :=
  retK.intro (v := (.row 0 2 0 x_1.length)) (by kernel_rfl) (⟨_, _, _, rfl, rfl, rfl, fun _ _ => rfl, fun _ i hi d hd => scal_GSpan _ d hd⟩)
def z33l1S (l : (List GSpan)) (s : (Int × (List GSpan))) : St := match s with | (t12, sorted) => { tm := [sv 3 (.ptr 0 1 0 0), sv 10 (.c (.sl 2 l.length (lsEl eGSpan zGSpan l))), sv 11 (i64 ((l.length : Nat) : Int)), sv 12 (i64 t12)], hp := [(0, some (.box [(.row 1 2 0 sorted.length)])), (1, some (.row 37 2 sorted.length (lsEl eGSpan zGSpan sorted)))], nx := 2 }
def z33l1C0 (l : (List GSpan)) (s : (List GSpan)) : St := match s with | sorted_1 => { tm := [sv 3 (.ptr 0 1 0 0)], hp := [(0, some (.box [(.row 1 2 0 sorted_1.length)])), (1, some (.row 37 2 sorted_1.length (lsEl eGSpan zGSpan sorted_1)))], nx := 2 }
def z33l1E (l : (List GSpan)) (r : (((List GSpan)))) (K : KT) : Prop := match r with | s => K (.exit 0) (z33l1C0 l s)
def z33p0S (l : (List GSpan)) (t12 : Int) (sorted : (List GSpan)) : St := { tm := [sv 3 (.ptr 0 1 0 0), sv 10 (.c (.sl 2 l.length (lsEl eGSpan zGSpan l))), sv 11 (i64 ((l.length : Nat) : Int)), sv 12 (i64 t12)], hp := [(0, some (.box [(.row 1 2 0 sorted.length)])), (1, some (.row 37 2 sorted.length (lsEl eGSpan zGSpan sorted)))], nx := 2 }
noncomputable def spans_Make_p0 (l : (List GSpan)) (t12 : Int) (sorted : (List GSpan)) : Option ((Int × (List GSpan)) ⊕ (((List GSpan)))) := (bif (decide (t12 < ((l.length : Nat) : Int))) then gd ((0 : Int) ≤ t12 ∧ t12 < ((l.length : Nat) : Int)) ((spans_clamp (l.getD (Int.toNat t12) zGSpan)).bind fun r_1 => ((bif (decide (r_1.From < r_1.To)) then gd (capB (sorted.length + 1) 16) ((some (Sum.inl ((w64 (t12 + (1 : Int))), (sorted ++ ([r_1] : List GSpan)))))) else (some (Sum.inl ((w64 (t12 + (1 : Int))), sorted)))))) else (some (Sum.inr sorted)))
theorem z33p0ok (l : (List GSpan)) (t12 : Int) (sorted : (List GSpan)) (K : KT) (h : W (spans_Make_p0 l t12 sorted) (nE (z33l1S l) (z33l1E l) K)) : EvL Try.prog 73 (List.drop 0 z33i1) K (z33p0S l t12 sorted) :=
  EvL.pE mixed (lookC_ok (l := [(41, .pure spans_clamp_C)]) ⟨spans_clamp_ok, trivial⟩) [3, 10, 11, 12, 43, 44, 45, 46, 47, 48, 49, 50, 51] 0 4 (.nf (X := fun K => (bif (decide (t12 < ((l.length : Nat) : Int))) then ((0 : Int) ≤ t12) ∧ (t12 < ((l.length : Nat) : Int)) ∧ (((spans_clamp (l.getD (Int.toNat t12) zGSpan)).isSome = true) ∧ ((bif (decide (((spans_clamp (l.getD (Int.toNat t12) zGSpan)).getD zGSpan).From < ((spans_clamp (l.getD (Int.toNat t12) zGSpan)).getD zGSpan).To)) then (sorted.length = sorted.length) ∧ ((sorted.length + 1) * 16 ≤ 140737488355328) ∧ ((sorted.length + 1) ≤ 140737488355328) ∧ (wK K .normal ({ tm := [sv 3 (.ptr 0 1 0 0), sv 10 (.c (.sl 2 l.length (lsEl eGSpan zGSpan l))), sv 11 (i64 ((l.length : Nat) : Int)), sv 12 (i64 (w64 (t12 + (1 : Int))))], hp := [(0, some (.box [(.row 1 2 0 (sorted.length + 1))])), (1, some (.row 37 2 (sorted.length + 1) (fun i => bif Nat.blt i sorted.length then (lsEl eGSpan zGSpan sorted) i else (fun i => (litE 2 (eGSpan ((spans_clamp (l.getD (Int.toNat t12) zGSpan)).getD zGSpan))) (0 + i)) (i - sorted.length))))], nx := 2 })) else wK K .normal (z33l1S l ((w64 (t12 + (1 : Int))), sorted))))) else wK K (.exit 0) ({ tm := [sv 3 (.ptr 0 1 0 0), sv 10 (.c (.sl 2 l.length (lsEl eGSpan zGSpan l))), sv 11 (i64 ((l.length : Nat) : Int)), sv 12 (i64 t12)], hp := [(0, some (.box [(.row 1 2 0 sorted.length)])), (1, some (.row 37 2 sorted.length (lsEl eGSpan zGSpan sorted)))], nx := 2 }))) (fun K => by kernel_rfl) (W_bif h (fun _ h => (W_gd2 h fun hp0 h => (W_bind zGSpan h fun hp1 h => (W_bif h (fun _ h => ⟨rfl, (W_gd2 h fun hp2 h => ⟨(z33l1S l ((w64 (t12 + (1 : Int))), (sorted ++ ([((spans_clamp (l.getD (Int.toNat t12) zGSpan)).getD zGSpan)] : List GSpan)))), (.of (.q rfl (.q rfl (.q rfl (.q rfl .nil)))) (.box rfl (.cons (.rown (len_app rfl rfl)) .nil) (.row rfl (RowIs.app (RowIs.ls eGSpan zGSpan sorted) (RowIs.zero (RowIs.l1 (enc := eGSpan) (z := zGSpan) 2 ((spans_clamp (l.getD (Int.toNat t12) zGSpan)).getD zGSpan) rfl))) .nil rfl)) rfl), h⟩)⟩) (fun _ h => ⟨_, .refl _, h⟩))))) (fun _ h => ⟨(z33l1C0 l sorted), (.of (.q rfl .nil) (.same rfl (.same rfl .nil)) rfl), h⟩)))
noncomputable def spans_Make_l1 (l : (List GSpan)) (s : (Int × (List GSpan))) : Option ((Int × (List GSpan)) ⊕ (((List GSpan)))) := match s with | (t12, sorted) => spans_Make_p0 l t12 sorted
theorem z33l1ok (l : (List GSpan)) (s : (Int × (List GSpan))) : Pp Try.prog 73 (List.drop 0 z33i1) (z33l1S l s) (spans_Make_l1 l s) (nextE (z33l1S l) (z33l1E l)) := fun K h => match s, h with | (t12, sorted), h => (z33p0ok l t12 sorted _ h)
theorem z33l1Ethen (l : (List GSpan)) : ∀ (r : (((List GSpan)))) (J : St → Prop) (K : KT), z33l1E l r K → z33l1E l r (thenK J K)
  | s, _, _, h => h
def z33l2S (t32 : (List GSpan)) (t33 : Int) (s : ((List GSpan) × (List GSpan) × Int × Int)) : St := match s with | (out_1, t32_1, t33_1, t34) => { tm := [sv 6 (.row 0 2 0 out_1.length), sv 32 (.row 1 2 0 t32_1.length), sv 33 (i64 t33_1), sv 34 (i64 t34)], hp := [(0, some (.row 37 2 out_1.length (lsEl eGSpan zGSpan out_1))), (1, some (.row 37 2 t32_1.length (lsEl eGSpan zGSpan t32_1)))], nx := 2 }
def z33l2C0 (t32 : (List GSpan)) (t33 : Int) (s : (List GSpan)) : St := match s with | out_2 => { tm := [sv 6 (.row 0 2 0 out_2.length)], hp := [(0, some (.row 37 2 out_2.length (lsEl eGSpan zGSpan out_2)))], nx := 1 }
def z33l2E (t32 : (List GSpan)) (t33 : Int) (r : (((List GSpan)))) (K : KT) : Prop := match r with | s => K (.exit 2) (z33l2C0 t32 t33 s)
def z33p1S (out_1 t32_1 : (List GSpan)) (t33_1 t34 : Int) : St := { tm := [sv 6 (.row 0 2 0 out_1.length), sv 32 (.row 1 2 0 t32_1.length), sv 33 (i64 t33_1), sv 34 (i64 t34)], hp := [(0, some (.row 37 2 out_1.length (lsEl eGSpan zGSpan out_1))), (1, some (.row 37 2 t32_1.length (lsEl eGSpan zGSpan t32_1)))], nx := 2 }
noncomputable def spans_Make_p1 (out_1 t32_1 : (List GSpan)) (t33_1 t34 : Int) : Option (((List GSpan) × (List GSpan) × Int × Int) ⊕ (((List GSpan)))) := (bif (decide (t34 < t33_1)) then gd ((0 : Int) ≤ t34 ∧ t34 < ((t32_1.length : Nat) : Int)) (gd (((decide ((0 : Int) < ((out_1.length : Nat) : Int))) && true) = true → (0 : Int) ≤ (w64 (((out_1.length : Nat) : Int) - (1 : Int)))) (gd (((decide ((0 : Int) < ((out_1.length : Nat) : Int))) && true) = true → (w64 (((out_1.length : Nat) : Int) - (1 : Int))) < ((out_1.length : Nat) : Int)) ((bif (bif (decide ((0 : Int) < ((out_1.length : Nat) : Int))) then (decide ((t32_1.getD (0 + (Int.toNat t34)) zGSpan).From ≤ (out_1.getD (0 + (Int.toNat (w64 (((out_1.length : Nat) : Int) - (1 : Int))))) zGSpan).To)) else false) then gd ((0 : Int) ≤ (w64 (((out_1.length : Nat) : Int) - (1 : Int))) ∧ (w64 (((out_1.length : Nat) : Int) - (1 : Int))) < ((out_1.length : Nat) : Int)) (gd ((0 : Int) ≤ (w64 (((out_1.length : Nat) : Int) - (1 : Int))) ∧ (w64 (((out_1.length : Nat) : Int) - (1 : Int))) < ((out_1.length : Nat) : Int)) ((some (Sum.inl ((out_1.set (0 + (Int.toNat (w64 (((out_1.length : Nat) : Int) - (1 : Int))))) (GSpan.mk (out_1.getD (0 + (Int.toNat (w64 (((out_1.length : Nat) : Int) - (1 : Int))))) zGSpan).From (if (out_1.getD (0 + (Int.toNat (w64 (((out_1.length : Nat) : Int) - (1 : Int))))) zGSpan).To < (t32_1.getD (0 + (Int.toNat t34)) zGSpan).To then (t32_1.getD (0 + (Int.toNat t34)) zGSpan).To else (out_1.getD (0 + (Int.toNat (w64 (((out_1.length : Nat) : Int) - (1 : Int))))) zGSpan).To))), t32_1, t33_1, (w64 (t34 + (1 : Int)))))))) else gd (capB (out_1.length + 1) 16) ((some (Sum.inl ((out_1 ++ ([(t32_1.getD (0 + (Int.toNat t34)) zGSpan)] : List GSpan)), t32_1, t33_1, (w64 (t34 + (1 : Int))))))))))) else (some (Sum.inr out_1)))
theorem z33p1ok (out_1 t32_1 : (List GSpan)) (t33_1 t34 : Int) (t32 : (List GSpan)) (t33 : Int) (K : KT) (h : W (spans_Make_p1 out_1 t32_1 t33_1 t34) (nE (z33l2S t32 t33) (z33l2E t32 t33) K)) : EvL Try.prog 73 (List.drop 0 z33i2) K (z33p1S out_1 t32_1 t33_1 t34) :=
  EvL.pE mixed (lookC_ok (l := []) trivial) [6, 32, 33, 34, 43, 44, 45, 46, 47, 48, 49, 50, 51] 0 4 (.nf (X := fun K => (bif (decide (t34 < t33_1)) then ((0 : Int) ≤ t34) ∧ (t34 < ((t32_1.length : Nat) : Int)) ∧ ((((decide ((0 : Int) < ((out_1.length : Nat) : Int))) && true) = true → (0 : Int) ≤ (w64 (((out_1.length : Nat) : Int) - (1 : Int)))) ∧ (((decide ((0 : Int) < ((out_1.length : Nat) : Int))) && true) = true → (w64 (((out_1.length : Nat) : Int) - (1 : Int))) < ((out_1.length : Nat) : Int)) ∧ ((bif (bif (decide ((0 : Int) < ((out_1.length : Nat) : Int))) then (decide ((t32_1.getD (0 + (Int.toNat t34)) zGSpan).From ≤ (out_1.getD (0 + (Int.toNat (w64 (((out_1.length : Nat) : Int) - (1 : Int))))) zGSpan).To)) else false) then ((0 : Int) ≤ (w64 (((out_1.length : Nat) : Int) - (1 : Int)))) ∧ ((w64 (((out_1.length : Nat) : Int) - (1 : Int))) < ((out_1.length : Nat) : Int)) ∧ ((0 : Int) ≤ (w64 (((out_1.length : Nat) : Int) - (1 : Int)))) ∧ ((w64 (((out_1.length : Nat) : Int) - (1 : Int))) < ((out_1.length : Nat) : Int)) ∧ (wK K .normal ({ tm := [sv 6 (.row 0 2 0 out_1.length), sv 32 (.row 1 2 0 t32_1.length), sv 33 (i64 t33_1), sv 34 (i64 (w64 (t34 + (1 : Int)))), sv 43 (.c .unk), sv 44 (.c .unk), sv 45 (.c .unk), sv 46 (.c .unk), sv 47 (.c .unk), sv 48 (.c .unk), sv 49 (.c .unk), sv 50 (.c .unk), sv 51 (.c .unk)], hp := [(0, some (.row 37 2 out_1.length (fun q => bif Nat.beq q (0 + (Int.toNat (w64 (((out_1.length : Nat) : Int) - (1 : Int))))) then (eGSpan (GSpan.s_To (out_1.getD (0 + (Int.toNat (w64 (((out_1.length : Nat) : Int) - (1 : Int))))) zGSpan) (if (out_1.getD (0 + (Int.toNat (w64 (((out_1.length : Nat) : Int) - (1 : Int))))) zGSpan).To < (t32_1.getD (0 + (Int.toNat t34)) zGSpan).To then (t32_1.getD (0 + (Int.toNat t34)) zGSpan).To else (out_1.getD (0 + (Int.toNat (w64 (((out_1.length : Nat) : Int) - (1 : Int))))) zGSpan).To))) else (lsEl eGSpan zGSpan out_1) q))), (1, some (.row 37 2 t32_1.length (lsEl eGSpan zGSpan t32_1)))], nx := 2 })) else (out_1.length = out_1.length) ∧ ((out_1.length + 1) * 16 ≤ 140737488355328) ∧ ((out_1.length + 1) ≤ 140737488355328) ∧ (wK K .normal ({ tm := [sv 6 (.row 0 2 0 (out_1.length + 1)), sv 32 (.row 1 2 0 t32_1.length), sv 33 (i64 t33_1), sv 34 (i64 (w64 (t34 + (1 : Int)))), sv 43 (.c .unk), sv 44 (.c .unk), sv 45 (.c .unk), sv 46 (.c .unk), sv 47 (.c .unk), sv 48 (.c .unk), sv 49 (.c .unk), sv 50 (.c .unk), sv 51 (.c .unk)], hp := [(0, some (.row 37 2 (out_1.length + 1) (fun i => bif Nat.blt i out_1.length then (lsEl eGSpan zGSpan out_1) i else (fun i => (litE 2 (eGSpan (t32_1.getD (0 + (Int.toNat t34)) zGSpan))) (0 + i)) (i - out_1.length)))), (1, some (.row 37 2 t32_1.length (lsEl eGSpan zGSpan t32_1)))], nx := 2 }))))) else wK K (.exit 2) ({ tm := [sv 6 (.row 0 2 0 out_1.length), sv 32 (.row 1 2 0 t32_1.length), sv 33 (i64 t33_1), sv 34 (i64 t34)], hp := [(0, some (.row 37 2 out_1.length (lsEl eGSpan zGSpan out_1))), (1, some (.row 37 2 t32_1.length (lsEl eGSpan zGSpan t32_1)))], nx := 2 }))) (fun K => by kernel_rfl) (W_bif h (fun _ h => (W_gd2 h fun hp0 h => (W_gd h fun hp1 h => (W_gd h fun hp2 h => (W_bif h (fun _ h => (W_gd2 h fun hp3 h => (W_gd2 h fun hp4 h => ⟨(z33l2S t32 t33 ((out_1.set (0 + (Int.toNat (w64 (((out_1.length : Nat) : Int) - (1 : Int))))) (GSpan.s_To (out_1.getD (0 + (Int.toNat (w64 (((out_1.length : Nat) : Int) - (1 : Int))))) zGSpan) (if (out_1.getD (0 + (Int.toNat (w64 (((out_1.length : Nat) : Int) - (1 : Int))))) zGSpan).To < (t32_1.getD (0 + (Int.toNat t34)) zGSpan).To then (t32_1.getD (0 + (Int.toNat t34)) zGSpan).To else (out_1.getD (0 + (Int.toNat (w64 (((out_1.length : Nat) : Int) - (1 : Int))))) zGSpan).To))), t32_1, t33_1, (w64 (t34 + (1 : Int))))), (.of (.cons rfl (.rown (len_set rfl)) (.q rfl (.q rfl (.q rfl .nil)))) (.row rfl (RowIs.set (RowIs.ls eGSpan zGSpan out_1) (0 + (Int.toNat (w64 (((out_1.length : Nat) : Int) - (1 : Int))))) (GSpan.s_To (out_1.getD (0 + (Int.toNat (w64 (((out_1.length : Nat) : Int) - (1 : Int))))) zGSpan) (if (out_1.getD (0 + (Int.toNat (w64 (((out_1.length : Nat) : Int) - (1 : Int))))) zGSpan).To < (t32_1.getD (0 + (Int.toNat t34)) zGSpan).To then (t32_1.getD (0 + (Int.toNat t34)) zGSpan).To else (out_1.getD (0 + (Int.toNat (w64 (((out_1.length : Nat) : Int) - (1 : Int))))) zGSpan).To)) rfl) (.same rfl .nil) rfl) rfl), h⟩))) (fun _ h => ⟨rfl, (W_gd2 h fun hp5 h => ⟨(z33l2S t32 t33 ((out_1 ++ ([(t32_1.getD (0 + (Int.toNat t34)) zGSpan)] : List GSpan)), t32_1, t33_1, (w64 (t34 + (1 : Int))))), (.of (.cons rfl (.rown (len_app rfl rfl)) (.q rfl (.q rfl (.q rfl .nil)))) (.row rfl (RowIs.app (RowIs.ls eGSpan zGSpan out_1) (RowIs.zero (RowIs.l1 (enc := eGSpan) (z := zGSpan) 2 (t32_1.getD (0 + (Int.toNat t34)) zGSpan) rfl))) (.same rfl .nil) rfl) rfl), h⟩)⟩)))))) (fun _ h => ⟨(z33l2C0 t32 t33 out_1), (.cn [6]), h⟩)))
noncomputable def spans_Make_l2 (t32 : (List GSpan)) (t33 : Int) (s : ((List GSpan) × (List GSpan) × Int × Int)) : Option (((List GSpan) × (List GSpan) × Int × Int) ⊕ (((List GSpan)))) := match s with | (out_1, t32_1, t33_1, t34) => spans_Make_p1 out_1 t32_1 t33_1 t34
theorem z33l2ok (t32 : (List GSpan)) (t33 : Int) (s : ((List GSpan) × (List GSpan) × Int × Int)) : Pp Try.prog 73 (List.drop 0 z33i2) (z33l2S t32 t33 s) (spans_Make_l2 t32 t33 s) (nextE (z33l2S t32 t33) (z33l2E t32 t33)) := fun K h => match s, h with | (out_1, t32_1, t33_1, t34), h => (z33p1ok out_1 t32_1 t33_1 t34 t32 t33 _ h)
theorem z33l2Ethen (t32 : (List GSpan)) (t33 : Int) : ∀ (r : (((List GSpan)))) (J : St → Prop) (K : KT), z33l2E t32 t33 r K → z33l2E t32 t33 r (thenK J K)
  | s, _, _, h => h
def z33p2S (out_3 : (List GSpan)) : St := { tm := [sv 6 (.row 0 2 0 out_3.length)], hp := [(0, some (.row 37 2 out_3.length (lsEl eGSpan zGSpan out_3)))], nx := 1 }
noncomputable def spans_Make_p2 (out_3 : (List GSpan)) : Option ((List GSpan)) := (some out_3)
theorem z33p2ok (out_3 : (List GSpan)) (K : KT) (h : W (spans_Make_p2 out_3) (rE z33R K)) : EvL Try.prog 73 (List.drop 8 z33i0) K (z33p2S out_3) :=
  EvL.pE mixed (lookC_ok (l := []) trivial) [2] 8 2 (.nf (X := fun K => wK K .ret (z33R out_3)) (fun K => by kernel_rfl) (⟨_, .refl _, h⟩))
def z33p3S (t32 : (List GSpan)) (t33 : Int) : St := { tm := [sv 6 (.c .nil), sv 32 (.row 0 2 0 t32.length), sv 33 (i64 t33), sv 34 (i64 (0 : Int))], hp := [(0, some (.row 37 2 t32.length (lsEl eGSpan zGSpan t32)))], nx := 1 }
noncomputable def spans_Make_p3_g (t32 : (List GSpan)) (t33 : Int) (r : (((List GSpan)))) : Option ((List GSpan)) := match r with | out_2 => (spans_Make_p2 out_2)
noncomputable def spans_Make_p3 (t32 : (List GSpan)) (t33 : Int) : Option ((List GSpan)) := (fixL (spans_Make_l2 t32 t33) (([] : List GSpan), t32, t33, (0 : Int))).bind (spans_Make_p3_g t32 t33)
theorem z33p3at : List.drop 7 z33i0 = .block 2 (.loop (inside (inside (nthI z33i0 7)))) :: List.drop 8 z33i0 := by kernel_rfl
theorem z33p3k (t32 : (List GSpan)) (t33 : Int) (K : KT) : ∀ r : (((List GSpan))), W (spans_Make_p3_g t32 t33 r) (rE z33R K) → z33l2E t32 t33 r (wK (blockK 2 (thenK (EvL Try.prog 73 (List.drop 8 z33i0) K) K)))
  | out_2, h => ⟨(z33p2S out_2), (.refl _), (z33p2ok out_2 _ h)⟩
theorem z33p3ok (t32 : (List GSpan)) (t33 : Int) (K : KT) (h : W (spans_Make_p3 t32 t33) (rE z33R K)) : EvL Try.prog 73 (List.drop 7 z33i0) K (z33p3S t32 t33) :=
  EvL.at_ z33p3at (EvL.cons_loop (EvOk.weak (EvOk.ent (.trans (.nilrow 6 1 37 2 (lsEl eGSpan zGSpan []) (Nat.le_of_ble_eq_true rfl) rfl) (.cn [6, 32, 33, 34])) (EvOk.loopF (x := inside (inside (nthI z33i0 7))) (f := spans_Make_l2 t32 t33) (emb := z33l2S t32 t33) (E := z33l2E t32 t33) (z33l2ok t32 t33) (z33l2Ethen t32 t33) (W_loop h (z33p3k t32 t33 K))))))
def z33p4S (sorted_2 : (List GSpan)) : St := { tm := [sv 3 (.ptr 0 1 0 0)], hp := [(0, some (.box [(.row 1 2 0 sorted_2.length)])), (1, some (.row 37 2 sorted_2.length (lsEl eGSpan zGSpan sorted_2)))], nx := 2 }
noncomputable def spans_Make_p4 (sorted_2 : (List GSpan)) : Option ((List GSpan)) := (sort_Slice sorted_2).bind fun r_2 => ((spans_Make_p3 r_2 ((r_2.length : Nat) : Int)))
theorem z33p4nf (sorted_2 : (List GSpan)) (K : KT) (L1_ : List GSpan) (hL1_ : lst dGSpan sorted_2.length (lsEl eGSpan zGSpan sorted_2) = L1_) :
    ev Try.prog (lookC [(42, .mut sort_Slice_C)]) 73 (ofItems ((List.drop 4 z33i0).take 3)) (cN [6, 32, 33, 34, 43, 44, 45, 46, 47, 48, 49, 50, 51] K) (z33p4S sorted_2) =
    ((sorted_2.length = sorted_2.length) ∧ (sorted_2.length = sorted_2.length) ∧ (LstOk eGSpan dGSpan 2 2 sorted_2.length (lsEl eGSpan zGSpan sorted_2)) ∧ ((sort_Slice L1_).isSome = true) ∧ (wK K .normal (z33p3S ((sort_Slice L1_).getD ([] : List GSpan)) (((((sort_Slice L1_).getD ([] : List GSpan))).length : Nat) : Int)))) := by subst hL1_; kernel_rfl
theorem z33p4ok (sorted_2 : (List GSpan)) (K : KT) (h : W (spans_Make_p4 sorted_2) (rE z33R K)) : EvL Try.prog 73 (List.drop 4 z33i0) K (z33p4S sorted_2) :=
  EvL.pD mixed (lookC_ok (l := [(42, .mut sort_Slice_C)]) ⟨sort_Slice_ok, trivial⟩) [6, 32, 33, 34, 43, 44, 45, 46, 47, 48, 49, 50, 51] 4 3 7 (.of (z33p4nf sorted_2 _ _ (RowIs.lst dGSpan_eGSpan (RowIs.ls eGSpan zGSpan sorted_2))) (⟨(rfl), ⟨(rfl), ⟨RowIs.ok dGSpan_eGSpan (RowIs.ls eGSpan zGSpan sorted_2), (W_bind ([] : List GSpan) h fun hp0 h => ⟨_, .refl _, (z33p3ok ((sort_Slice sorted_2).getD ([] : List GSpan)) (((((sort_Slice sorted_2).getD ([] : List GSpan))).length : Nat) : Int) _ h)⟩)⟩⟩⟩))
def z33p5S (l : (List GSpan)) : St := { tm := [sv 3 (.ptr 0 1 0 0), sv 10 (.c (.sl 2 l.length (lsEl eGSpan zGSpan l))), sv 11 (i64 ((l.length : Nat) : Int)), sv 12 (i64 (0 : Int))], hp := [(0, some (.box [(.c .nil)]))], nx := 1 }
noncomputable def spans_Make_p5_g (l : (List GSpan)) (r : (((List GSpan)))) : Option ((List GSpan)) := match r with | sorted_1 => (spans_Make_p4 sorted_1)
noncomputable def spans_Make_p5 (l : (List GSpan)) : Option ((List GSpan)) := (fixL (spans_Make_l1 l) ((0 : Int), ([] : List GSpan))).bind (spans_Make_p5_g l)
theorem z33p5at : List.drop 3 z33i0 = .block 0 (.loop (inside (inside (nthI z33i0 3)))) :: List.drop 4 z33i0 := by kernel_rfl
theorem z33p5k (l : (List GSpan)) (K : KT) : ∀ r : (((List GSpan))), W (spans_Make_p5_g l r) (rE z33R K) → z33l1E l r (wK (blockK 0 (thenK (EvL Try.prog 73 (List.drop 4 z33i0) K) K)))
  | sorted_1, h => ⟨(z33p4S sorted_1), (.refl _), (z33p4ok sorted_1 _ h)⟩
theorem z33p5ok (l : (List GSpan)) (K : KT) (h : W (spans_Make_p5 l) (rE z33R K)) : EvL Try.prog 73 (List.drop 3 z33i0) K (z33p5S l) :=
  EvL.at_ z33p5at (EvL.cons_loop (EvOk.weak (EvOk.ent (.trans (.nilbox 0 0 1 37 2 (lsEl eGSpan zGSpan []) [(.c .nil)] (Nat.le_of_ble_eq_true rfl) rfl rfl) (.cn [3, 10, 11, 12])) (EvOk.loopF (x := inside (inside (nthI z33i0 3))) (f := spans_Make_l1 l) (emb := z33l1S l) (E := z33l1E l) (z33l1ok l) (z33l1Ethen l) (W_loop h (z33p5k l K))))))
def z33p6S (l : (List GSpan)) : St := { tm := [sv 0 (.c (.sl 2 l.length (lsEl eGSpan zGSpan l)))], hp := [], nx := 0 }
noncomputable def spans_Make_p6 (l : (List GSpan)) : Option ((List GSpan)) := (spans_Make_p5 l)
theorem z33p6ok (l : (List GSpan)) (K : KT) (h : W (spans_Make_p6 l) (rE z33R K)) : EvL Try.prog 73 (List.drop 0 z33i0) K (z33p6S l) :=
  EvL.pD mixed (lookC_ok (l := []) trivial) [3, 10, 11, 12, 43, 44, 45, 46, 47, 48, 49, 50, 51] 0 3 3 (.nf (X := fun K => wK K .normal (z33p5S l)) (fun K => by kernel_rfl) (⟨_, .refl _, (z33p5ok l _ h)⟩))
noncomputable def spans_Make (l : (List GSpan)) : Option ((List GSpan)) := spans_Make_p6 l
theorem z33run (l : (List GSpan)) (y_ : (List GSpan)) (h : spans_Make l = some y_) : EvL Try.prog 73 (items (bodyOf Try.f33)) (retK Try.prog [.tmp 2] (OutOk (spans_Make_out y_))) (z33p6S l) :=
  z33p6ok l _ (W_iff.2 ⟨y_, h, z33Rok y_⟩)
noncomputable def spans_Make_C : Con
  | [(.c (.sl k1 n2 e3))] => some ([LstOk eGSpan dGSpan 2 k1 n2 e3, (spans_Make (lst dGSpan n2 e3)).isSome = true], (spans_Make_out ((spans_Make (lst dGSpan n2 e3)).getD ([] : List GSpan))))
  | _ => none
theorem spans_Make_ok : Meets Try.prog 33 spans_Make_C := by
  refine meets_fun (fn := Try.f33) (c := bodyOf Try.f33) (by kernel_rfl) (by kernel_rfl) (by kernel_rfl) (rs := [.tmp 2]) (by kernel_rfl) (nt := 73) (by kernel_rfl) fun vs p out h hp => ?_
  unfold spans_Make_C at h
  split at h
  · next k1 n2 e3 =>
    cases h
    obtain ⟨g0, hp⟩ := allq hp
    obtain ⟨g, hp⟩ := allq hp
    obtain ⟨x, hx⟩ := Option.isSome_iff_exists.1 g
    rw [hx]
    exact ⟨[(.c (.sl 2 ((lst dGSpan n2 e3)).length (lsEl eGSpan zGSpan (lst dGSpan n2 e3))))], (VLes.cons (VLe.slk g0.1 (RowIs.of_ok g0)) VLes.nil), rfl, z33run (lst dGSpan n2 e3) x hx⟩
  · cases h

noncomputable def z20i0 : List Code := items (bodyOf Try.f20)
noncomputable def z20i1 : List Code := items (inside (inside (nthI z20i0 3)))
def overlap_Of_out (x_1 : (List GSpan)) : Out := .own true 37 2 (x_1).length (lsEl eGSpan zGSpan x_1)
def z20R (x_1 : (List GSpan)) : St := { tm := [sv 6 (.row 0 2 0 x_1.length)], hp := [(0, some (.row 37 2 x_1.length (lsEl eGSpan zGSpan x_1)))], nx := 1 }
theorem z20Rok (x_1 : (List GSpan)) : retK Try.prog [.tmp 6] (OutOk (overlap_Of_out x_1)) .ret (z20R x_1) :=
  retK.intro (v := (.row 0 2 0 x_1.length)) (by kernel_rfl) (⟨_, _, _, rfl, rfl, rfl, fun _ _ => rfl, fun _ i hi d hd => scal_GSpan _ d hd⟩)
def z20l1S (state rank : Int) (l : (List GCounted)) (s : ((List GSpan) × Int)) : St := match s with | (out_1, t12) => { tm := [sv 1 (i64 state), sv 2 (i64 rank), sv 7 (.row 0 2 0 out_1.length), sv 10 (.c (.sl 4 l.length (lsEl eGCounted zGCounted l))), sv 11 (i64 ((l.length : Nat) : Int)), sv 12 (i64 t12)], hp := [(0, some (.row 37 2 out_1.length (lsEl eGSpan zGSpan out_1)))], nx := 1 }
def z20l1C0 (state rank : Int) (l : (List GCounted)) (s : (List GSpan)) : St := match s with | out_2 => { tm := [sv 7 (.row 0 2 0 out_2.length)], hp := [(0, some (.row 37 2 out_2.length (lsEl eGSpan zGSpan out_2)))], nx := 1 }
def z20l1E (state rank : Int) (l : (List GCounted)) (r : (((List GSpan)))) (K : KT) : Prop := match r with | s => K (.exit 0) (z20l1C0 state rank l s)
def z20p0S (state rank : Int) (out_1 : (List GSpan)) (l : (List GCounted)) (t12 : Int) : St := { tm := [sv 1 (i64 state), sv 2 (i64 rank), sv 7 (.row 0 2 0 out_1.length), sv 10 (.c (.sl 4 l.length (lsEl eGCounted zGCounted l))), sv 11 (i64 ((l.length : Nat) : Int)), sv 12 (i64 t12)], hp := [(0, some (.row 37 2 out_1.length (lsEl eGSpan zGSpan out_1)))], nx := 1 }
noncomputable def overlap_Of_p0 (state rank : Int) (out_1 : (List GSpan)) (l : (List GCounted)) (t12 : Int) : Option (((List GSpan) × Int) ⊕ (((List GSpan)))) := (bif (decide (t12 < ((l.length : Nat) : Int))) then gd ((0 : Int) ≤ t12 ∧ t12 < ((l.length : Nat) : Int)) ((bif (bif ((l.getD (Int.toNat t12) zGCounted).State == state) then (bif (rank == (0 : Int)) then true else ((l.getD (Int.toNat t12) zGCounted).Rank == rank)) else false) then gd (capB (out_1.length + 1) 16) ((some (Sum.inl ((out_1 ++ ([(l.getD (Int.toNat t12) zGCounted).Span] : List GSpan)), (w64 (t12 + (1 : Int))))))) else (some (Sum.inl (out_1, (w64 (t12 + (1 : Int)))))))) else (some (Sum.inr out_1)))
theorem z20p0ok (state rank : Int) (out_1 : (List GSpan)) (l : (List GCounted)) (t12 : Int) (K : KT) (h : W (overlap_Of_p0 state rank out_1 l t12) (nE (z20l1S state rank l) (z20l1E state rank l) K)) : EvL Try.prog 38 (List.drop 0 z20i1) K (z20p0S state rank out_1 l t12) :=
  EvL.pE mixed (lookC_ok (l := []) trivial) [1, 2, 7, 10, 11, 12, 21, 22, 23, 24, 25, 26, 27, 28] 0 4 (.nf (X := fun K => (bif (decide (t12 < ((l.length : Nat) : Int))) then ((0 : Int) ≤ t12) ∧ (t12 < ((l.length : Nat) : Int)) ∧ ((bif (bif ((l.getD (Int.toNat t12) zGCounted).State == state) then (bif (rank == (0 : Int)) then true else ((l.getD (Int.toNat t12) zGCounted).Rank == rank)) else false) then (out_1.length = out_1.length) ∧ ((out_1.length + 1) * 16 ≤ 140737488355328) ∧ ((out_1.length + 1) ≤ 140737488355328) ∧ (wK K .normal ({ tm := [sv 1 (i64 state), sv 2 (i64 rank), sv 7 (.row 0 2 0 (out_1.length + 1)), sv 10 (.c (.sl 4 l.length (lsEl eGCounted zGCounted l))), sv 11 (i64 ((l.length : Nat) : Int)), sv 12 (i64 (w64 (t12 + (1 : Int)))), sv 21 (.c .unk), sv 22 (.c .unk), sv 23 (.c .unk), sv 24 (.c .unk), sv 25 (.c .unk), sv 26 (.c .unk), sv 27 (.c .unk), sv 28 (.c .unk)], hp := [(0, some (.row 37 2 (out_1.length + 1) (fun i => bif Nat.blt i out_1.length then (lsEl eGSpan zGSpan out_1) i else (fun i => (litE 2 (eGSpan ((l.getD (Int.toNat t12) zGCounted).Span))) (0 + i)) (i - out_1.length))))], nx := 1 })) else wK K .normal ({ tm := [sv 1 (i64 state), sv 2 (i64 rank), sv 7 (.row 0 2 0 out_1.length), sv 10 (.c (.sl 4 l.length (lsEl eGCounted zGCounted l))), sv 11 (i64 ((l.length : Nat) : Int)), sv 12 (i64 (w64 (t12 + (1 : Int)))), sv 21 (.c .unk), sv 22 (.c .unk), sv 23 (.c .unk), sv 24 (.c .unk), sv 25 (.c .unk), sv 26 (.c .unk), sv 27 (.c .unk), sv 28 (.c .unk)], hp := [(0, some (.row 37 2 out_1.length (lsEl eGSpan zGSpan out_1)))], nx := 1 }))) else wK K (.exit 0) ({ tm := [sv 1 (i64 state), sv 2 (i64 rank), sv 7 (.row 0 2 0 out_1.length), sv 10 (.c (.sl 4 l.length (lsEl eGCounted zGCounted l))), sv 11 (i64 ((l.length : Nat) : Int)), sv 12 (i64 t12)], hp := [(0, some (.row 37 2 out_1.length (lsEl eGSpan zGSpan out_1)))], nx := 1 }))) (fun K => by kernel_rfl) (W_bif h (fun _ h => (W_gd2 h fun hp0 h => (W_bif h (fun _ h => ⟨rfl, (W_gd2 h fun hp1 h => ⟨(z20l1S state rank l ((out_1 ++ ([(l.getD (Int.toNat t12) zGCounted).Span] : List GSpan)), (w64 (t12 + (1 : Int))))), (.of (.q rfl (.q rfl (.cons rfl (.rown (len_app rfl rfl)) (.q rfl (.q rfl (.q rfl .nil)))))) (.row rfl (RowIs.app (RowIs.ls eGSpan zGSpan out_1) (RowIs.zero (RowIs.l1 (enc := eGSpan) (z := zGSpan) 2 ((l.getD (Int.toNat t12) zGCounted).Span) rfl))) .nil rfl) rfl), h⟩)⟩) (fun _ h => ⟨(z20l1S state rank l (out_1, (w64 (t12 + (1 : Int))))), (.of (.q rfl (.q rfl (.q rfl (.q rfl (.q rfl (.q rfl .nil)))))) (.same rfl .nil) rfl), h⟩)))) (fun _ h => ⟨(z20l1C0 state rank l out_1), (.of (.q rfl .nil) (.same rfl .nil) rfl), h⟩)))
noncomputable def overlap_Of_l1 (state rank : Int) (l : (List GCounted)) (s : ((List GSpan) × Int)) : Option (((List GSpan) × Int) ⊕ (((List GSpan)))) := match s with | (out_1, t12) => overlap_Of_p0 state rank out_1 l t12
theorem z20l1ok (state rank : Int) (l : (List GCounted)) (s : ((List GSpan) × Int)) : Pp Try.prog 38 (List.drop 0 z20i1) (z20l1S state rank l s) (overlap_Of_l1 state rank l s) (nextE (z20l1S state rank l) (z20l1E state rank l)) := fun K h => match s, h with | (out_1, t12), h => (z20p0ok state rank out_1 l t12 _ h)
theorem z20l1Ethen (state rank : Int) (l : (List GCounted)) : ∀ (r : (((List GSpan)))) (J : St → Prop) (K : KT), z20l1E state rank l r K → z20l1E state rank l r (thenK J K)
  | s, _, _, h => h
def z20p1S (out_3 : (List GSpan)) : St := { tm := [sv 7 (.row 0 2 0 out_3.length)], hp := [(0, some (.row 37 2 out_3.length (lsEl eGSpan zGSpan out_3)))], nx := 1 }
noncomputable def overlap_Of_p1 (out_3 : (List GSpan)) : Option ((List GSpan)) := (spans_Make out_3).bind fun r_1 => ((some r_1))
theorem z20p1nf (out_3 : (List GSpan)) (K : KT) (L1_ : List GSpan) (hL1_ : lst dGSpan out_3.length (fun i => (lsEl eGSpan zGSpan out_3) (0 + i)) = L1_) :
    ev Try.prog (lookC [(33, .pure spans_Make_C)]) 38 (ofItems ((List.drop 4 z20i0).take 2)) (cN [6] K) (z20p1S out_3) =
    ((LstOk eGSpan dGSpan 2 2 out_3.length (fun i => (lsEl eGSpan zGSpan out_3) (0 + i))) ∧ ((spans_Make L1_).isSome = true) ∧ (wK K .ret (z20R ((spans_Make L1_).getD ([] : List GSpan))))) := by subst hL1_; kernel_rfl
theorem z20p1ok (out_3 : (List GSpan)) (K : KT) (h : W (overlap_Of_p1 out_3) (rE z20R K)) : EvL Try.prog 38 (List.drop 4 z20i0) K (z20p1S out_3) :=
  EvL.pE mixed (lookC_ok (l := [(33, .pure spans_Make_C)]) ⟨spans_Make_ok, trivial⟩) [6] 4 2 (.of (z20p1nf out_3 _ _ (RowIs.lst dGSpan_eGSpan (RowIs.zero (RowIs.ls eGSpan zGSpan out_3)))) (⟨RowIs.ok dGSpan_eGSpan (RowIs.zero (RowIs.ls eGSpan zGSpan out_3)), (W_bind ([] : List GSpan) h fun hp0 h => ⟨_, .refl _, h⟩)⟩))
def z20p2S (state rank : Int) (l : (List GCounted)) : St := { tm := [sv 1 (i64 state), sv 2 (i64 rank), sv 7 (.c .nil), sv 10 (.c (.sl 4 l.length (lsEl eGCounted zGCounted l))), sv 11 (i64 ((l.length : Nat) : Int)), sv 12 (i64 (0 : Int))], hp := [], nx := 0 }
noncomputable def overlap_Of_p2_g (state rank : Int) (l : (List GCounted)) (r : (((List GSpan)))) : Option ((List GSpan)) := match r with | out_2 => (overlap_Of_p1 out_2)
noncomputable def overlap_Of_p2 (state rank : Int) (l : (List GCounted)) : Option ((List GSpan)) := (fixL (overlap_Of_l1 state rank l) (([] : List GSpan), (0 : Int))).bind (overlap_Of_p2_g state rank l)
theorem z20p2at : List.drop 3 z20i0 = .block 0 (.loop (inside (inside (nthI z20i0 3)))) :: List.drop 4 z20i0 := by kernel_rfl
theorem z20p2k (state rank : Int) (l : (List GCounted)) (K : KT) : ∀ r : (((List GSpan))), W (overlap_Of_p2_g state rank l r) (rE z20R K) → z20l1E state rank l r (wK (blockK 0 (thenK (EvL Try.prog 38 (List.drop 4 z20i0) K) K)))
  | out_2, h => ⟨(z20p1S out_2), (.refl _), (z20p1ok out_2 _ h)⟩
theorem z20p2ok (state rank : Int) (l : (List GCounted)) (K : KT) (h : W (overlap_Of_p2 state rank l) (rE z20R K)) : EvL Try.prog 38 (List.drop 3 z20i0) K (z20p2S state rank l) :=
  EvL.at_ z20p2at (EvL.cons_loop (EvOk.weak (EvOk.ent (.trans (.nilrow 7 0 37 2 (lsEl eGSpan zGSpan []) (Nat.le_of_ble_eq_true rfl) rfl) (.cn [1, 2, 7, 10, 11, 12])) (EvOk.loopF (x := inside (inside (nthI z20i0 3))) (f := overlap_Of_l1 state rank l) (emb := z20l1S state rank l) (E := z20l1E state rank l) (z20l1ok state rank l) (z20l1Ethen state rank l) (W_loop h (z20p2k state rank l K))))))
def z20p3S (l : (List GCounted)) (state rank : Int) : St := { tm := [sv 0 (.c (.sl 4 l.length (lsEl eGCounted zGCounted l))), sv 1 (i64 state), sv 2 (i64 rank)], hp := [], nx := 0 }
noncomputable def overlap_Of_p3 (l : (List GCounted)) (state rank : Int) : Option ((List GSpan)) := (overlap_Of_p2 state rank l)
theorem z20p3ok (l : (List GCounted)) (state rank : Int) (K : KT) (h : W (overlap_Of_p3 l state rank) (rE z20R K)) : EvL Try.prog 38 (List.drop 0 z20i0) K (z20p3S l state rank) :=
  EvL.pD mixed (lookC_ok (l := []) trivial) [1, 2, 7, 10, 11, 12, 21, 22, 23, 24, 25, 26, 27, 28] 0 3 3 (.nf (X := fun K => wK K .normal (z20p2S state rank l)) (fun K => by kernel_rfl) (⟨_, .refl _, (z20p2ok state rank l _ h)⟩))
noncomputable def overlap_Of (l : (List GCounted)) (state rank : Int) : Option ((List GSpan)) := overlap_Of_p3 l state rank
theorem z20run (l : (List GCounted)) (state rank : Int) (y_ : (List GSpan)) (h : overlap_Of l state rank = some y_) : EvL Try.prog 38 (items (bodyOf Try.f20)) (retK Try.prog [.tmp 6] (OutOk (overlap_Of_out y_))) (z20p3S l state rank) :=
  z20p3ok l state rank _ (W_iff.2 ⟨y_, h, z20Rok y_⟩)
noncomputable def overlap_Of_C : Con
  | [(.c (.sl k1 n2 e3)), (.c (.lit (.int .i64 a4))), (.c (.lit (.int .i64 a5)))] => some ([LstOk eGCounted dGCounted 4 k1 n2 e3, (overlap_Of (lst dGCounted n2 e3) a4 a5).isSome = true], (overlap_Of_out ((overlap_Of (lst dGCounted n2 e3) a4 a5).getD ([] : List GSpan))))
  | _ => none
theorem overlap_Of_ok : Meets Try.prog 20 overlap_Of_C := by
  refine meets_fun (fn := Try.f20) (c := bodyOf Try.f20) (by kernel_rfl) (by kernel_rfl) (by kernel_rfl) (rs := [.tmp 6]) (by kernel_rfl) (nt := 38) (by kernel_rfl) fun vs p out h hp => ?_
  unfold overlap_Of_C at h
  split at h
  · next k1 n2 e3 a4 a5 =>
    cases h
    obtain ⟨g0, hp⟩ := allq hp
    obtain ⟨g, hp⟩ := allq hp
    obtain ⟨x, hx⟩ := Option.isSome_iff_exists.1 g
    rw [hx]
    exact ⟨[(.c (.sl 4 ((lst dGCounted n2 e3)).length (lsEl eGCounted zGCounted (lst dGCounted n2 e3)))), (i64 a4), (i64 a5)], (VLes.cons (VLe.slk g0.1 (RowIs.of_ok g0)) (VLes.cons (VLe.rfl' _) (VLes.cons (VLe.rfl' _) VLes.nil))), rfl, z20run (lst dGCounted n2 e3) a4 a5 x hx⟩
  · cases h

noncomputable def z40i0 : List Code := items (bodyOf Try.f40)
noncomputable def z40i1 : List Code := items (inside (inside (nthI z40i0 3)))
def spans_Before_out (x_1 : Int) : Out := .data (i64 x_1)
def z40R (x_1 : Int) : St := { tm := [sv 4 (i64 x_1)], hp := [], nx := 0 }
theorem z40Rok (x_1 : Int) : retK Try.prog [.tmp 4] (OutOk (spans_Before_out x_1)) .ret (z40R x_1) :=
  retK.intro (v := (i64 x_1)) (by kernel_rfl) ((VLe.rfl' _))
def z40l1S (day : Int) (t9 : (List GSpan)) (t10 : Int) (s : (Int × Int)) : St := match s with | (n, t11) => { tm := [sv 1 (i64 day), sv 5 (i64 n), sv 9 (.row 0 2 0 t9.length), sv 10 (i64 t10), sv 11 (i64 t11)], hp := [(0, some (.row 37 2 t9.length (lsEl eGSpan zGSpan t9)))], nx := 1 }
def z40l1C0 (day : Int) (t9 : (List GSpan)) (t10 : Int) (s : Int) : St := match s with | n_1 => { tm := [sv 5 (i64 n_1)], hp := [], nx := 0 }
def z40l1E (day : Int) (t9 : (List GSpan)) (t10 : Int) (r : ((Int))) (K : KT) : Prop := match r with | s => K (.exit 0) (z40l1C0 day t9 t10 s)
def z40p0S (day n : Int) (t9 : (List GSpan)) (t10 t11 : Int) : St := { tm := [sv 1 (i64 day), sv 5 (i64 n), sv 9 (.row 0 2 0 t9.length), sv 10 (i64 t10), sv 11 (i64 t11)], hp := [(0, some (.row 37 2 t9.length (lsEl eGSpan zGSpan t9)))], nx := 1 }
noncomputable def spans_Before_p0 (day n : Int) (t9 : (List GSpan)) (t10 t11 : Int) : Option ((Int × Int) ⊕ ((Int))) := (bif (decide (t11 < t10)) then gd ((0 : Int) ≤ t11 ∧ t11 < ((t9.length : Nat) : Int)) ((bif (decide ((t9.getD (0 + (Int.toNat t11)) zGSpan).From < day)) then (some (Sum.inl ((w64 (n + (w64 ((if day < (t9.getD (0 + (Int.toNat t11)) zGSpan).To then day else (t9.getD (0 + (Int.toNat t11)) zGSpan).To) - (t9.getD (0 + (Int.toNat t11)) zGSpan).From)))), (w64 (t11 + (1 : Int)))))) else (some (Sum.inl (n, (w64 (t11 + (1 : Int)))))))) else (some (Sum.inr n)))
theorem z40p0ok (day n : Int) (t9 : (List GSpan)) (t10 t11 : Int) (K : KT) (h : W (spans_Before_p0 day n t9 t10 t11) (nE (z40l1S day t9 t10) (z40l1E day t9 t10) K)) : EvL Try.prog 30 (List.drop 0 z40i1) K (z40p0S day n t9 t10 t11) :=
  EvL.pE mixed (lookC_ok (l := []) trivial) [1, 5, 9, 10, 11] 0 4 (.nf (X := fun K => (bif (decide (t11 < t10)) then ((0 : Int) ≤ t11) ∧ (t11 < ((t9.length : Nat) : Int)) ∧ ((bif (decide ((t9.getD (0 + (Int.toNat t11)) zGSpan).From < day)) then wK K .normal (z40l1S day t9 t10 ((w64 (n + (w64 ((if day < (t9.getD (0 + (Int.toNat t11)) zGSpan).To then day else (t9.getD (0 + (Int.toNat t11)) zGSpan).To) - (t9.getD (0 + (Int.toNat t11)) zGSpan).From)))), (w64 (t11 + (1 : Int))))) else wK K .normal (z40l1S day t9 t10 (n, (w64 (t11 + (1 : Int))))))) else wK K (.exit 0) ({ tm := [sv 1 (i64 day), sv 5 (i64 n), sv 9 (.row 0 2 0 t9.length), sv 10 (i64 t10), sv 11 (i64 t11)], hp := [(0, some (.row 37 2 t9.length (lsEl eGSpan zGSpan t9)))], nx := 1 }))) (fun K => by kernel_rfl) (W_bif h (fun _ h => (W_gd2 h fun hp0 h => (W_bif h (fun _ h => ⟨_, .refl _, h⟩) (fun _ h => ⟨_, .refl _, h⟩)))) (fun _ h => ⟨(z40l1C0 day t9 t10 n), (.cn [5]), h⟩)))
noncomputable def spans_Before_l1 (day : Int) (t9 : (List GSpan)) (t10 : Int) (s : (Int × Int)) : Option ((Int × Int) ⊕ ((Int))) := match s with | (n, t11) => spans_Before_p0 day n t9 t10 t11
theorem z40l1ok (day : Int) (t9 : (List GSpan)) (t10 : Int) (s : (Int × Int)) : Pp Try.prog 30 (List.drop 0 z40i1) (z40l1S day t9 t10 s) (spans_Before_l1 day t9 t10 s) (nextE (z40l1S day t9 t10) (z40l1E day t9 t10)) := fun K h => match s, h with | (n, t11), h => (z40p0ok day n t9 t10 t11 _ h)
theorem z40l1Ethen (day : Int) (t9 : (List GSpan)) (t10 : Int) : ∀ (r : ((Int))) (J : St → Prop) (K : KT), z40l1E day t9 t10 r K → z40l1E day t9 t10 r (thenK J K)
  | s, _, _, h => h
def z40p1S (n_2 : Int) : St := { tm := [sv 5 (i64 n_2)], hp := [], nx := 0 }
noncomputable def spans_Before_p1 (n_2 : Int) : Option (Int) := (some n_2)
theorem z40p1ok (n_2 : Int) (K : KT) (h : W (spans_Before_p1 n_2) (rE z40R K)) : EvL Try.prog 30 (List.drop 4 z40i0) K (z40p1S n_2) :=
  EvL.pE mixed (lookC_ok (l := []) trivial) [4] 4 2 (.nf (X := fun K => wK K .ret (z40R n_2)) (fun K => by kernel_rfl) (⟨_, .refl _, h⟩))
def z40p2S (day : Int) (t9 : (List GSpan)) (t10 : Int) : St := { tm := [sv 1 (i64 day), sv 5 (i64 (0 : Int)), sv 9 (.row 0 2 0 t9.length), sv 10 (i64 t10), sv 11 (i64 (0 : Int))], hp := [(0, some (.row 37 2 t9.length (lsEl eGSpan zGSpan t9)))], nx := 1 }
noncomputable def spans_Before_p2_g (day : Int) (t9 : (List GSpan)) (t10 : Int) (r : ((Int))) : Option (Int) := match r with | n_1 => (spans_Before_p1 n_1)
noncomputable def spans_Before_p2 (day : Int) (t9 : (List GSpan)) (t10 : Int) : Option (Int) := (fixL (spans_Before_l1 day t9 t10) ((0 : Int), (0 : Int))).bind (spans_Before_p2_g day t9 t10)
theorem z40p2at : List.drop 3 z40i0 = .block 0 (.loop (inside (inside (nthI z40i0 3)))) :: List.drop 4 z40i0 := by kernel_rfl
theorem z40p2k (day : Int) (t9 : (List GSpan)) (t10 : Int) (K : KT) : ∀ r : ((Int)), W (spans_Before_p2_g day t9 t10 r) (rE z40R K) → z40l1E day t9 t10 r (wK (blockK 0 (thenK (EvL Try.prog 30 (List.drop 4 z40i0) K) K)))
  | n_1, h => ⟨(z40p1S n_1), (.refl _), (z40p1ok n_1 _ h)⟩
theorem z40p2ok (day : Int) (t9 : (List GSpan)) (t10 : Int) (K : KT) (h : W (spans_Before_p2 day t9 t10) (rE z40R K)) : EvL Try.prog 30 (List.drop 3 z40i0) K (z40p2S day t9 t10) :=
  EvL.at_ z40p2at (EvL.cons_loop (EvOk.weak (EvOk.ent (.refl _) (EvOk.loopF (x := inside (inside (nthI z40i0 3))) (f := spans_Before_l1 day t9 t10) (emb := z40l1S day t9 t10) (E := z40l1E day t9 t10) (z40l1ok day t9 t10) (z40l1Ethen day t9 t10) (W_loop h (z40p2k day t9 t10 K))))))
def z40p3S (l : (List GSpan)) (day : Int) : St := { tm := [sv 0 (.c (.sl 2 l.length (lsEl eGSpan zGSpan l))), sv 1 (i64 day)], hp := [], nx := 0 }
noncomputable def spans_Before_p3 (l : (List GSpan)) (day : Int) : Option (Int) := (spans_Make l).bind fun r_1 => ((spans_Before_p2 day r_1 ((r_1.length : Nat) : Int)))
theorem z40p3nf (l : (List GSpan)) (day : Int) (K : KT) (L1_ : List GSpan) (hL1_ : lst dGSpan l.length (lsEl eGSpan zGSpan l) = L1_) :
    ev Try.prog (lookC [(33, .pure spans_Make_C)]) 30 (ofItems ((List.drop 0 z40i0).take 3)) (cN [1, 5, 9, 10, 11] K) (z40p3S l day) =
    ((LstOk eGSpan dGSpan 2 2 l.length (lsEl eGSpan zGSpan l)) ∧ ((spans_Make L1_).isSome = true) ∧ (wK K .normal (z40p2S day ((spans_Make L1_).getD ([] : List GSpan)) (((((spans_Make L1_).getD ([] : List GSpan))).length : Nat) : Int)))) := by subst hL1_; kernel_rfl
theorem z40p3ok (l : (List GSpan)) (day : Int) (K : KT) (h : W (spans_Before_p3 l day) (rE z40R K)) : EvL Try.prog 30 (List.drop 0 z40i0) K (z40p3S l day) :=
  EvL.pD mixed (lookC_ok (l := [(33, .pure spans_Make_C)]) ⟨spans_Make_ok, trivial⟩) [1, 5, 9, 10, 11] 0 3 3 (.of (z40p3nf l day _ _ (RowIs.lst dGSpan_eGSpan (RowIs.ls eGSpan zGSpan l))) (⟨RowIs.ok dGSpan_eGSpan (RowIs.ls eGSpan zGSpan l), (W_bind ([] : List GSpan) h fun hp0 h => ⟨_, .refl _, (z40p2ok day ((spans_Make l).getD ([] : List GSpan)) (((((spans_Make l).getD ([] : List GSpan))).length : Nat) : Int) _ h)⟩)⟩))
noncomputable def spans_Before (l : (List GSpan)) (day : Int) : Option (Int) := spans_Before_p3 l day
theorem z40run (l : (List GSpan)) (day : Int) (y_ : Int) (h : spans_Before l day = some y_) : EvL Try.prog 30 (items (bodyOf Try.f40)) (retK Try.prog [.tmp 4] (OutOk (spans_Before_out y_))) (z40p3S l day) :=
  z40p3ok l day _ (W_iff.2 ⟨y_, h, z40Rok y_⟩)
noncomputable def spans_Before_C : Con
  | [(.c (.sl k1 n2 e3)), (.c (.lit (.int .i64 a4)))] => some ([LstOk eGSpan dGSpan 2 k1 n2 e3, (spans_Before (lst dGSpan n2 e3) a4).isSome = true], (spans_Before_out ((spans_Before (lst dGSpan n2 e3) a4).getD (0 : Int))))
  | _ => none
theorem spans_Before_ok : Meets Try.prog 40 spans_Before_C := by
  refine meets_fun (fn := Try.f40) (c := bodyOf Try.f40) (by kernel_rfl) (by kernel_rfl) (by kernel_rfl) (rs := [.tmp 4]) (by kernel_rfl) (nt := 30) (by kernel_rfl) fun vs p out h hp => ?_
  unfold spans_Before_C at h
  split at h
  · next k1 n2 e3 a4 =>
    cases h
    obtain ⟨g0, hp⟩ := allq hp
    obtain ⟨g, hp⟩ := allq hp
    obtain ⟨x, hx⟩ := Option.isSome_iff_exists.1 g
    rw [hx]
    exact ⟨[(.c (.sl 2 ((lst dGSpan n2 e3)).length (lsEl eGSpan zGSpan (lst dGSpan n2 e3)))), (i64 a4)], (VLes.cons (VLe.slk g0.1 (RowIs.of_ok g0)) (VLes.cons (VLe.rfl' _) VLes.nil)), rfl, z40run (lst dGSpan n2 e3) a4 x hx⟩
  · cases h

noncomputable def z32i0 : List Code := items (bodyOf Try.f32)
def spans_Days_out (x_1 : Int) : Out := .data (i64 x_1)
def z32R (x_1 : Int) : St := { tm := [sv 2 (i64 x_1)], hp := [], nx := 0 }
theorem z32Rok (x_1 : Int) : retK Try.prog [.tmp 2] (OutOk (spans_Days_out x_1)) .ret (z32R x_1) :=
  retK.intro (v := (i64 x_1)) (by kernel_rfl) ((VLe.rfl' _))
def z32p0S (l : (List GSpan)) : St := { tm := [sv 0 (.c (.sl 2 l.length (lsEl eGSpan zGSpan l)))], hp := [], nx := 0 }
noncomputable def spans_Days_p0 (l : (List GSpan)) : Option (Int) := (spans_Before l (73049 : Int)).bind fun r_1 => ((some r_1))
theorem z32p0nf (l : (List GSpan)) (K : KT) (L1_ : List GSpan) (hL1_ : lst dGSpan l.length (lsEl eGSpan zGSpan l) = L1_) :
    ev Try.prog (lookC [(40, .pure spans_Before_C)]) 5 (ofItems ((List.drop 0 z32i0).take 3)) (cN [2] K) (z32p0S l) =
    ((LstOk eGSpan dGSpan 2 2 l.length (lsEl eGSpan zGSpan l)) ∧ ((spans_Before L1_ (73049 : Int)).isSome = true) ∧ (wK K .ret (z32R ((spans_Before L1_ (73049 : Int)).getD (0 : Int))))) := by subst hL1_; kernel_rfl
theorem z32p0ok (l : (List GSpan)) (K : KT) (h : W (spans_Days_p0 l) (rE z32R K)) : EvL Try.prog 5 (List.drop 0 z32i0) K (z32p0S l) :=
  EvL.pE mixed (lookC_ok (l := [(40, .pure spans_Before_C)]) ⟨spans_Before_ok, trivial⟩) [2] 0 3 (.of (z32p0nf l _ _ (RowIs.lst dGSpan_eGSpan (RowIs.ls eGSpan zGSpan l))) (⟨RowIs.ok dGSpan_eGSpan (RowIs.ls eGSpan zGSpan l), (W_bind (0 : Int) h fun hp0 h => ⟨_, .refl _, h⟩)⟩))
noncomputable def spans_Days (l : (List GSpan)) : Option (Int) := spans_Days_p0 l
theorem z32run (l : (List GSpan)) (y_ : Int) (h : spans_Days l = some y_) : EvL Try.prog 5 (items (bodyOf Try.f32)) (retK Try.prog [.tmp 2] (OutOk (spans_Days_out y_))) (z32p0S l) :=
  z32p0ok l _ (W_iff.2 ⟨y_, h, z32Rok y_⟩)
noncomputable def spans_Days_C : Con
  | [(.c (.sl k1 n2 e3))] => some ([LstOk eGSpan dGSpan 2 k1 n2 e3, (spans_Days (lst dGSpan n2 e3)).isSome = true], (spans_Days_out ((spans_Days (lst dGSpan n2 e3)).getD (0 : Int))))
  | _ => none
theorem spans_Days_ok : Meets Try.prog 32 spans_Days_C := by
  refine meets_fun (fn := Try.f32) (c := bodyOf Try.f32) (by kernel_rfl) (by kernel_rfl) (by kernel_rfl) (rs := [.tmp 2]) (by kernel_rfl) (nt := 5) (by kernel_rfl) fun vs p out h hp => ?_
  unfold spans_Days_C at h
  split at h
  · next k1 n2 e3 =>
    cases h
    obtain ⟨g0, hp⟩ := allq hp
    obtain ⟨g, hp⟩ := allq hp
    obtain ⟨x, hx⟩ := Option.isSome_iff_exists.1 g
    rw [hx]
    exact ⟨[(.c (.sl 2 ((lst dGSpan n2 e3)).length (lsEl eGSpan zGSpan (lst dGSpan n2 e3))))], (VLes.cons (VLe.slk g0.1 (RowIs.of_ok g0)) VLes.nil), rfl, z32run (lst dGSpan n2 e3) x hx⟩
  · cases h

noncomputable def z18i0 : List Code := items (bodyOf Try.f18)
def overlap_Days_out (x_1 : Int) : Out := .data (i64 x_1)
def z18R (x_1 : Int) : St := { tm := [sv 6 (i64 x_1)], hp := [], nx := 0 }
theorem z18Rok (x_1 : Int) : retK Try.prog [.tmp 6] (OutOk (overlap_Days_out x_1)) .ret (z18R x_1) :=
  retK.intro (v := (i64 x_1)) (by kernel_rfl) ((VLe.rfl' _))
def z18p0S (l : (List GCounted)) (state rank : Int) : St := { tm := [sv 0 (.c (.sl 4 l.length (lsEl eGCounted zGCounted l))), sv 1 (i64 state), sv 2 (i64 rank)], hp := [], nx := 0 }
noncomputable def overlap_Days_p0 (l : (List GCounted)) (state rank : Int) : Option (Int) := (overlap_Of l state rank).bind fun r_1 => ((spans_Days r_1).bind fun r_2 => ((some r_2)))
theorem z18p0nf (l : (List GCounted)) (state rank : Int) (K : KT) (L1_ : List GCounted) (hL1_ : lst dGCounted l.length (lsEl eGCounted zGCounted l) = L1_) (L2_ : List GSpan) (hL2_ : lst dGSpan ((((overlap_Of L1_ state rank).getD ([] : List GSpan))).length) (fun i => (lsEl eGSpan zGSpan ((overlap_Of L1_ state rank).getD ([] : List GSpan))) (0 + i)) = L2_) :
    ev Try.prog (lookC [(20, .pure overlap_Of_C), (32, .pure spans_Days_C)]) 12 (ofItems ((List.drop 0 z18i0).take 3)) (cN [6] K) (z18p0S l state rank) =
    ((LstOk eGCounted dGCounted 4 4 l.length (lsEl eGCounted zGCounted l)) ∧ ((overlap_Of L1_ state rank).isSome = true) ∧ (LstOk eGSpan dGSpan 2 2 ((((overlap_Of L1_ state rank).getD ([] : List GSpan))).length) (fun i => (lsEl eGSpan zGSpan ((overlap_Of L1_ state rank).getD ([] : List GSpan))) (0 + i))) ∧ ((spans_Days L2_).isSome = true) ∧ (wK K .ret (z18R ((spans_Days L2_).getD (0 : Int))))) := by subst hL1_ hL2_; kernel_rfl
theorem z18p0ok (l : (List GCounted)) (state rank : Int) (K : KT) (h : W (overlap_Days_p0 l state rank) (rE z18R K)) : EvL Try.prog 12 (List.drop 0 z18i0) K (z18p0S l state rank) :=
  EvL.pE mixed (lookC_ok (l := [(20, .pure overlap_Of_C), (32, .pure spans_Days_C)]) ⟨overlap_Of_ok, spans_Days_ok, trivial⟩) [6] 0 3 (.of (z18p0nf l state rank _ _ (RowIs.lst dGCounted_eGCounted (RowIs.ls eGCounted zGCounted l)) _ (RowIs.lst dGSpan_eGSpan (RowIs.zero (RowIs.ls eGSpan zGSpan ((overlap_Of l state rank).getD ([] : List GSpan)))))) (⟨RowIs.ok dGCounted_eGCounted (RowIs.ls eGCounted zGCounted l), (W_bind ([] : List GSpan) h fun hp0 h => ⟨RowIs.ok dGSpan_eGSpan (RowIs.zero (RowIs.ls eGSpan zGSpan ((overlap_Of l state rank).getD ([] : List GSpan)))), (W_bind (0 : Int) h fun hp1 h => ⟨_, .refl _, h⟩)⟩)⟩))
noncomputable def overlap_Days (l : (List GCounted)) (state rank : Int) : Option (Int) := overlap_Days_p0 l state rank
theorem z18run (l : (List GCounted)) (state rank : Int) (y_ : Int) (h : overlap_Days l state rank = some y_) : EvL Try.prog 12 (items (bodyOf Try.f18)) (retK Try.prog [.tmp 6] (OutOk (overlap_Days_out y_))) (z18p0S l state rank) :=
  z18p0ok l state rank _ (W_iff.2 ⟨y_, h, z18Rok y_⟩)
noncomputable def overlap_Days_C : Con
  | [(.c (.sl k1 n2 e3)), (.c (.lit (.int .i64 a4))), (.c (.lit (.int .i64 a5)))] => some ([LstOk eGCounted dGCounted 4 k1 n2 e3, (overlap_Days (lst dGCounted n2 e3) a4 a5).isSome = true], (overlap_Days_out ((overlap_Days (lst dGCounted n2 e3) a4 a5).getD (0 : Int))))
  | _ => none
theorem overlap_Days_ok : Meets Try.prog 18 overlap_Days_C := by
  refine meets_fun (fn := Try.f18) (c := bodyOf Try.f18) (by kernel_rfl) (by kernel_rfl) (by kernel_rfl) (rs := [.tmp 6]) (by kernel_rfl) (nt := 12) (by kernel_rfl) fun vs p out h hp => ?_
  unfold overlap_Days_C at h
  split at h
  · next k1 n2 e3 a4 a5 =>
    cases h
    obtain ⟨g0, hp⟩ := allq hp
    obtain ⟨g, hp⟩ := allq hp
    obtain ⟨x, hx⟩ := Option.isSome_iff_exists.1 g
    rw [hx]
    exact ⟨[(.c (.sl 4 ((lst dGCounted n2 e3)).length (lsEl eGCounted zGCounted (lst dGCounted n2 e3)))), (i64 a4), (i64 a5)], (VLes.cons (VLe.slk g0.1 (RowIs.of_ok g0)) (VLes.cons (VLe.rfl' _) (VLes.cons (VLe.rfl' _) VLes.nil))), rfl, z18run (lst dGCounted n2 e3) a4 a5 x hx⟩
  · cases h

noncomputable def z19i0 : List Code := items (bodyOf Try.f19)
def spans_Last_out (x_1 : (Int × Bool)) : Out := .data (.tup [(i64 x_1.1), (bl x_1.2)])
def z19R (x_1 : (Int × Bool)) : St := { tm := [sv 2 (i64 x_1.1), sv 3 (bl x_1.2)], hp := [], nx := 0 }
theorem z19Rok (x_1 : (Int × Bool)) : retK Try.prog [.tmp 2, .tmp 3] (OutOk (spans_Last_out x_1)) .ret (z19R x_1) :=
  retK.intro (v := (.tup [(i64 x_1.1), (bl x_1.2)])) (by kernel_rfl) (VLe.tup (VLes.cons (VLe.rfl' _) (VLes.cons (VLe.rfl' _) (VLes.nil))))
def z19p0S (l : (List GSpan)) : St := { tm := [sv 0 (.c (.sl 2 l.length (lsEl eGSpan zGSpan l)))], hp := [], nx := 0 }
noncomputable def spans_Last_p0 (l : (List GSpan)) : Option ((Int × Bool)) := (spans_Make l).bind fun r_1 => ((bif (((r_1.length : Nat) : Int) == (0 : Int)) then (some ((0 : Int), false)) else gd ((0 : Int) ≤ (w64 (((r_1.length : Nat) : Int) - (1 : Int))) ∧ (w64 (((r_1.length : Nat) : Int) - (1 : Int))) < ((r_1.length : Nat) : Int)) ((some ((w64 ((r_1.getD (0 + (Int.toNat (w64 (((r_1.length : Nat) : Int) - (1 : Int))))) zGSpan).To - (1 : Int))), true)))))
theorem z19p0nf (l : (List GSpan)) (K : KT) (L1_ : List GSpan) (hL1_ : lst dGSpan l.length (lsEl eGSpan zGSpan l) = L1_) :
    ev Try.prog (lookC [(33, .pure spans_Make_C)]) 18 (ofItems ((List.drop 0 z19i0).take 6)) (cN [2, 3] K) (z19p0S l) =
    ((LstOk eGSpan dGSpan 2 2 l.length (lsEl eGSpan zGSpan l)) ∧ ((spans_Make L1_).isSome = true) ∧ ((bif ((((((spans_Make L1_).getD ([] : List GSpan))).length : Nat) : Int) == (0 : Int)) then wK K .ret (z19R ((0 : Int), false)) else ((0 : Int) ≤ (w64 ((((((spans_Make L1_).getD ([] : List GSpan))).length : Nat) : Int) - (1 : Int)))) ∧ ((w64 ((((((spans_Make L1_).getD ([] : List GSpan))).length : Nat) : Int) - (1 : Int))) < (((((spans_Make L1_).getD ([] : List GSpan))).length : Nat) : Int)) ∧ (wK K .ret (z19R ((w64 ((((spans_Make L1_).getD ([] : List GSpan)).getD (0 + (Int.toNat (w64 ((((((spans_Make L1_).getD ([] : List GSpan))).length : Nat) : Int) - (1 : Int))))) zGSpan).To - (1 : Int))), true)))))) := by subst hL1_; kernel_rfl
theorem z19p0ok (l : (List GSpan)) (K : KT) (h : W (spans_Last_p0 l) (rE z19R K)) : EvL Try.prog 18 (List.drop 0 z19i0) K (z19p0S l) :=
  EvL.pE mixed (lookC_ok (l := [(33, .pure spans_Make_C)]) ⟨spans_Make_ok, trivial⟩) [2, 3] 0 6 (.of (z19p0nf l _ _ (RowIs.lst dGSpan_eGSpan (RowIs.ls eGSpan zGSpan l))) (⟨RowIs.ok dGSpan_eGSpan (RowIs.ls eGSpan zGSpan l), (W_bind ([] : List GSpan) h fun hp0 h => (W_bif h (fun _ h => ⟨_, .refl _, h⟩) (fun _ h => (W_gd2 h fun hp1 h => ⟨_, .refl _, h⟩))))⟩))
noncomputable def spans_Last (l : (List GSpan)) : Option ((Int × Bool)) := spans_Last_p0 l
theorem z19run (l : (List GSpan)) (y_ : (Int × Bool)) (h : spans_Last l = some y_) : EvL Try.prog 18 (items (bodyOf Try.f19)) (retK Try.prog [.tmp 2, .tmp 3] (OutOk (spans_Last_out y_))) (z19p0S l) :=
  z19p0ok l _ (W_iff.2 ⟨y_, h, z19Rok y_⟩)
noncomputable def spans_Last_C : Con
  | [(.c (.sl k1 n2 e3))] => some ([LstOk eGSpan dGSpan 2 k1 n2 e3, (spans_Last (lst dGSpan n2 e3)).isSome = true], (spans_Last_out ((spans_Last (lst dGSpan n2 e3)).getD ((0 : Int), false))))
  | _ => none
theorem spans_Last_ok : Meets Try.prog 19 spans_Last_C := by
  refine meets_fun (fn := Try.f19) (c := bodyOf Try.f19) (by kernel_rfl) (by kernel_rfl) (by kernel_rfl) (rs := [.tmp 2, .tmp 3]) (by kernel_rfl) (nt := 18) (by kernel_rfl) fun vs p out h hp => ?_
  unfold spans_Last_C at h
  split at h
  · next k1 n2 e3 =>
    cases h
    obtain ⟨g0, hp⟩ := allq hp
    obtain ⟨g, hp⟩ := allq hp
    obtain ⟨x, hx⟩ := Option.isSome_iff_exists.1 g
    rw [hx]
    exact ⟨[(.c (.sl 2 ((lst dGSpan n2 e3)).length (lsEl eGSpan zGSpan (lst dGSpan n2 e3))))], (VLes.cons (VLe.slk g0.1 (RowIs.of_ok g0)) VLes.nil), rfl, z19run (lst dGSpan n2 e3) x hx⟩
  · cases h

end Go.Ax
