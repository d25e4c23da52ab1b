import Derived.Test.YtklbaihmajbbdaaF2
import Derived.Test.YtklbaihmajbbdaaRows
/- Types of the program, and functions of it: printed by a program, checked by the kernel. -/
set_option linter.all false
set_option maxRecDepth 100000
namespace Go.Ax
open Go.Proofs Go.Proofs.Ytklbaihmajbbdaa
noncomputable def z66i0 : List Code := items (bodyOf Try.f66)
noncomputable def z66i1 : List Code := items (inside (inside (nthI z66i0 17)))
noncomputable def z66i2 : List Code := items (inside (inside (nthI z66i0 21)))
def math_bits_Div64_out (x_1 : (Int × Int)) : Out := .data (.tup [(.c (.lit (.int .u64 x_1.1))), (.c (.lit (.int .u64 x_1.2)))])
def z66R (x_1 : (Int × Int)) : St := { tm := [sv 6 (.c (.lit (.int .u64 x_1.1))), sv 7 (.c (.lit (.int .u64 x_1.2)))], hp := [], nx := 0 }
theorem z66Rok (x_1 : (Int × Int)) : retK Try.prog [.tmp 6, .tmp 7] (OutOk (math_bits_Div64_out x_1)) .ret (z66R x_1) :=
  retK.intro (v := (.tup [(.c (.lit (.int .u64 x_1.1))), (.c (.lit (.int .u64 x_1.2)))])) (by kernel_rfl) (VLe.tup (VLes.cons (VLe.rfl' _) (VLes.cons (VLe.rfl' _) (VLes.nil))))
def z66l1S (y_1 s_1 yn1 yn0 un32 un1 un0 q1 rhat : Int) (s : (Int × Int)) : St := match s with | (q1_2, rhat_1) => { tm := [sv 2 (.c (.lit (.int .u64 y_1))), sv 8 (.c (.lit (.int .u64 s_1))), sv 9 (.c (.lit (.int .u64 yn1))), sv 10 (.c (.lit (.int .u64 yn0))), sv 11 (.c (.lit (.int .u64 un32))), sv 13 (.c (.lit (.int .u64 un1))), sv 14 (.c (.lit (.int .u64 un0))), sv 15 (.c (.lit (.int .u64 q1_2))), sv 16 (.c (.lit (.int .u64 rhat_1)))], hp := [], nx := 0 }
def z66l1C0 (y_1 s_1 yn1 yn0 un32 un1 un0 q1 rhat : Int) (s : Int) : St := match s with | q1_1 => { tm := [sv 2 (.c (.lit (.int .u64 y_1))), sv 8 (.c (.lit (.int .u64 s_1))), sv 9 (.c (.lit (.int .u64 yn1))), sv 10 (.c (.lit (.int .u64 yn0))), sv 11 (.c (.lit (.int .u64 un32))), sv 13 (.c (.lit (.int .u64 un1))), sv 14 (.c (.lit (.int .u64 un0))), sv 15 (.c (.lit (.int .u64 q1_1)))], hp := [], nx := 0 }
def z66l1E (y_1 s_1 yn1 yn0 un32 un1 un0 q1 rhat : Int) (r : ((Int))) (K : KT) : Prop := match r with | s => K (.exit 0) (z66l1C0 y_1 s_1 yn1 yn0 un32 un1 un0 q1 rhat s)
def z66p0S (y_1 s_1 yn1 yn0 un32 un1 un0 q1_2 rhat_1 : Int) : St := { tm := [sv 2 (.c (.lit (.int .u64 y_1))), sv 8 (.c (.lit (.int .u64 s_1))), sv 9 (.c (.lit (.int .u64 yn1))), sv 10 (.c (.lit (.int .u64 yn0))), sv 11 (.c (.lit (.int .u64 un32))), sv 13 (.c (.lit (.int .u64 un1))), sv 14 (.c (.lit (.int .u64 un0))), sv 15 (.c (.lit (.int .u64 q1_2))), sv 16 (.c (.lit (.int .u64 rhat_1)))], hp := [], nx := 0 }
noncomputable def math_bits_Div64_p0 (y_1 s_1 yn1 yn0 un32 un1 un0 q1_2 rhat_1 : Int) : Option ((Int × Int) ⊕ ((Int))) := (bif (bif (decide ((4294967296 : Int) ≤ q1_2)) then true else (decide ((IntKind.u64.wrap ((IntKind.u64.wrap ((4294967296 : Int) * rhat_1)) + un1)) < (IntKind.u64.wrap (q1_2 * yn0))))) then (bif (decide ((4294967296 : Int) ≤ (IntKind.u64.wrap (rhat_1 + yn1)))) then (some (Sum.inr (IntKind.u64.wrap (q1_2 - (1 : Int))))) else (some (Sum.inl ((IntKind.u64.wrap (q1_2 - (1 : Int))), (IntKind.u64.wrap (rhat_1 + yn1)))))) else (some (Sum.inr q1_2)))
theorem z66p0ok (y_1 s_1 yn1 yn0 un32 un1 un0 q1_2 rhat_1 q1 rhat : Int) (K : KT) (h : W (math_bits_Div64_p0 y_1 s_1 yn1 yn0 un32 un1 un0 q1_2 rhat_1) (nE (z66l1S y_1 s_1 yn1 yn0 un32 un1 un0 q1 rhat) (z66l1E y_1 s_1 yn1 yn0 un32 un1 un0 q1 rhat) K)) : EvL Try.prog 135 (List.drop 0 z66i1) K (z66p0S y_1 s_1 yn1 yn0 un32 un1 un0 q1_2 rhat_1) :=
  EvL.pE mixed (lookC_ok (l := []) trivial) [2, 8, 9, 10, 11, 13, 14, 15, 16, 70, 71, 72, 73, 74, 75, 76, 77, 105, 106, 107, 108, 109, 110, 111, 112] 0 3 (.nf (X := fun K => (bif (bif (decide ((4294967296 : Int) ≤ q1_2)) then true else (decide ((IntKind.u64.wrap ((IntKind.u64.wrap ((4294967296 : Int) * rhat_1)) + un1)) < (IntKind.u64.wrap (q1_2 * yn0))))) then (bif (decide ((4294967296 : Int) ≤ (IntKind.u64.wrap (rhat_1 + yn1)))) then wK K (.exit 0) ({ tm := [sv 2 (.c (.lit (.int .u64 y_1))), sv 8 (.c (.lit (.int .u64 s_1))), sv 9 (.c (.lit (.int .u64 yn1))), sv 10 (.c (.lit (.int .u64 yn0))), sv 11 (.c (.lit (.int .u64 un32))), sv 13 (.c (.lit (.int .u64 un1))), sv 14 (.c (.lit (.int .u64 un0))), sv 15 (.c (.lit (.int .u64 (IntKind.u64.wrap (q1_2 - (1 : Int)))))), sv 16 (.c (.lit (.int .u64 (IntKind.u64.wrap (rhat_1 + yn1))))), sv 70 (.c .unk), sv 71 (.c .unk), sv 72 (.c .unk), sv 73 (.c .unk), sv 74 (.c .unk), sv 75 (.c .unk), sv 76 (.c .unk), sv 77 (.c .unk)], hp := [], nx := 0 }) else wK K .normal ({ tm := [sv 2 (.c (.lit (.int .u64 y_1))), sv 8 (.c (.lit (.int .u64 s_1))), sv 9 (.c (.lit (.int .u64 yn1))), sv 10 (.c (.lit (.int .u64 yn0))), sv 11 (.c (.lit (.int .u64 un32))), sv 13 (.c (.lit (.int .u64 un1))), sv 14 (.c (.lit (.int .u64 un0))), sv 15 (.c (.lit (.int .u64 (IntKind.u64.wrap (q1_2 - (1 : Int)))))), sv 16 (.c (.lit (.int .u64 (IntKind.u64.wrap (rhat_1 + yn1))))), sv 70 (.c .unk), sv 71 (.c .unk), sv 72 (.c .unk), sv 73 (.c .unk), sv 74 (.c .unk), sv 75 (.c .unk), sv 76 (.c .unk), sv 77 (.c .unk)], hp := [], nx := 0 })) else wK K (.exit 0) ({ tm := [sv 2 (.c (.lit (.int .u64 y_1))), sv 8 (.c (.lit (.int .u64 s_1))), sv 9 (.c (.lit (.int .u64 yn1))), sv 10 (.c (.lit (.int .u64 yn0))), sv 11 (.c (.lit (.int .u64 un32))), sv 13 (.c (.lit (.int .u64 un1))), sv 14 (.c (.lit (.int .u64 un0))), sv 15 (.c (.lit (.int .u64 q1_2))), sv 16 (.c (.lit (.int .u64 rhat_1))), sv 70 (.c .unk), sv 71 (.c .unk), sv 72 (.c .unk), sv 73 (.c .unk), sv 74 (.c .unk), sv 75 (.c .unk), sv 76 (.c .unk), sv 77 (.c .unk)], hp := [], nx := 0 }))) (fun K => by kernel_rfl) (W_bif h (fun _ h => (W_bif h (fun _ h => ⟨(z66l1C0 y_1 s_1 yn1 yn0 un32 un1 un0 q1 rhat (IntKind.u64.wrap (q1_2 - (1 : Int)))), (.of (.q rfl (.q rfl (.q rfl (.q rfl (.q rfl (.q rfl (.q rfl (.q rfl .nil)))))))) .nil rfl), h⟩) (fun _ h => ⟨(z66l1S y_1 s_1 yn1 yn0 un32 un1 un0 q1 rhat ((IntKind.u64.wrap (q1_2 - (1 : Int))), (IntKind.u64.wrap (rhat_1 + yn1)))), (.of (.q rfl (.q rfl (.q rfl (.q rfl (.q rfl (.q rfl (.q rfl (.q rfl (.q rfl .nil))))))))) .nil rfl), h⟩))) (fun _ h => ⟨(z66l1C0 y_1 s_1 yn1 yn0 un32 un1 un0 q1 rhat q1_2), (.of (.q rfl (.q rfl (.q rfl (.q rfl (.q rfl (.q rfl (.q rfl (.q rfl .nil)))))))) .nil rfl), h⟩)))
noncomputable def math_bits_Div64_l1 (y_1 s_1 yn1 yn0 un32 un1 un0 q1 rhat : Int) (s : (Int × Int)) : Option ((Int × Int) ⊕ ((Int))) := match s with | (q1_2, rhat_1) => math_bits_Div64_p0 y_1 s_1 yn1 yn0 un32 un1 un0 q1_2 rhat_1
theorem z66l1ok (y_1 s_1 yn1 yn0 un32 un1 un0 q1 rhat : Int) (s : (Int × Int)) : Pp Try.prog 135 (List.drop 0 z66i1) (z66l1S y_1 s_1 yn1 yn0 un32 un1 un0 q1 rhat s) (math_bits_Div64_l1 y_1 s_1 yn1 yn0 un32 un1 un0 q1 rhat s) (nextE (z66l1S y_1 s_1 yn1 yn0 un32 un1 un0 q1 rhat) (z66l1E y_1 s_1 yn1 yn0 un32 un1 un0 q1 rhat)) := fun K h => match s, h with | (q1_2, rhat_1), h => (z66p0ok y_1 s_1 yn1 yn0 un32 un1 un0 q1_2 rhat_1 q1 rhat _ h)
theorem z66l1Ethen (y_1 s_1 yn1 yn0 un32 un1 un0 q1 rhat : Int) : ∀ (r : ((Int))) (J : St → Prop) (K : KT), z66l1E y_1 s_1 yn1 yn0 un32 un1 un0 q1 rhat r K → z66l1E y_1 s_1 yn1 yn0 un32 un1 un0 q1 rhat r (thenK J K)
  | s, _, _, h => h
def z66l2S (y_1 s_1 yn1 yn0 un0 q1_1 rhat_2 un21 q0 : Int) (s : (Int × Int)) : St := match s with | (rhat_3, q0_2) => { tm := [sv 2 (.c (.lit (.int .u64 y_1))), sv 8 (.c (.lit (.int .u64 s_1))), sv 9 (.c (.lit (.int .u64 yn1))), sv 10 (.c (.lit (.int .u64 yn0))), sv 14 (.c (.lit (.int .u64 un0))), sv 15 (.c (.lit (.int .u64 q1_1))), sv 16 (.c (.lit (.int .u64 rhat_3))), sv 17 (.c (.lit (.int .u64 un21))), sv 18 (.c (.lit (.int .u64 q0_2)))], hp := [], nx := 0 }
def z66l2C0 (y_1 s_1 yn1 yn0 un0 q1_1 rhat_2 un21 q0 : Int) (s : Int) : St := match s with | q0_1 => { tm := [sv 2 (.c (.lit (.int .u64 y_1))), sv 8 (.c (.lit (.int .u64 s_1))), sv 14 (.c (.lit (.int .u64 un0))), sv 15 (.c (.lit (.int .u64 q1_1))), sv 17 (.c (.lit (.int .u64 un21))), sv 18 (.c (.lit (.int .u64 q0_1)))], hp := [], nx := 0 }
def z66l2E (y_1 s_1 yn1 yn0 un0 q1_1 rhat_2 un21 q0 : Int) (r : ((Int))) (K : KT) : Prop := match r with | s => K (.exit 2) (z66l2C0 y_1 s_1 yn1 yn0 un0 q1_1 rhat_2 un21 q0 s)
def z66p1S (y_1 s_1 yn1 yn0 un0 q1_1 rhat_3 un21 q0_2 : Int) : St := { tm := [sv 2 (.c (.lit (.int .u64 y_1))), sv 8 (.c (.lit (.int .u64 s_1))), sv 9 (.c (.lit (.int .u64 yn1))), sv 10 (.c (.lit (.int .u64 yn0))), sv 14 (.c (.lit (.int .u64 un0))), sv 15 (.c (.lit (.int .u64 q1_1))), sv 16 (.c (.lit (.int .u64 rhat_3))), sv 17 (.c (.lit (.int .u64 un21))), sv 18 (.c (.lit (.int .u64 q0_2)))], hp := [], nx := 0 }
noncomputable def math_bits_Div64_p1 (y_1 s_1 yn1 yn0 un0 q1_1 rhat_3 un21 q0_2 : Int) : Option ((Int × Int) ⊕ ((Int))) := (bif (bif (decide ((4294967296 : Int) ≤ q0_2)) then true else (decide ((IntKind.u64.wrap ((IntKind.u64.wrap ((4294967296 : Int) * rhat_3)) + un0)) < (IntKind.u64.wrap (q0_2 * yn0))))) then (bif (decide ((4294967296 : Int) ≤ (IntKind.u64.wrap (rhat_3 + yn1)))) then (some (Sum.inr (IntKind.u64.wrap (q0_2 - (1 : Int))))) else (some (Sum.inl ((IntKind.u64.wrap (rhat_3 + yn1)), (IntKind.u64.wrap (q0_2 - (1 : Int))))))) else (some (Sum.inr q0_2)))
theorem z66p1ok (y_1 s_1 yn1 yn0 un0 q1_1 rhat_3 un21 q0_2 rhat_2 q0 : Int) (K : KT) (h : W (math_bits_Div64_p1 y_1 s_1 yn1 yn0 un0 q1_1 rhat_3 un21 q0_2) (nE (z66l2S y_1 s_1 yn1 yn0 un0 q1_1 rhat_2 un21 q0) (z66l2E y_1 s_1 yn1 yn0 un0 q1_1 rhat_2 un21 q0) K)) : EvL Try.prog 135 (List.drop 0 z66i2) K (z66p1S y_1 s_1 yn1 yn0 un0 q1_1 rhat_3 un21 q0_2) :=
  EvL.pE mixed (lookC_ok (l := []) trivial) [2, 8, 9, 10, 14, 15, 16, 17, 18, 105, 106, 107, 108, 109, 110, 111, 112] 0 3 (.nf (X := fun K => (bif (bif (decide ((4294967296 : Int) ≤ q0_2)) then true else (decide ((IntKind.u64.wrap ((IntKind.u64.wrap ((4294967296 : Int) * rhat_3)) + un0)) < (IntKind.u64.wrap (q0_2 * yn0))))) then (bif (decide ((4294967296 : Int) ≤ (IntKind.u64.wrap (rhat_3 + yn1)))) then wK K (.exit 2) ({ tm := [sv 2 (.c (.lit (.int .u64 y_1))), sv 8 (.c (.lit (.int .u64 s_1))), sv 9 (.c (.lit (.int .u64 yn1))), sv 10 (.c (.lit (.int .u64 yn0))), sv 14 (.c (.lit (.int .u64 un0))), sv 15 (.c (.lit (.int .u64 q1_1))), sv 16 (.c (.lit (.int .u64 (IntKind.u64.wrap (rhat_3 + yn1))))), sv 17 (.c (.lit (.int .u64 un21))), sv 18 (.c (.lit (.int .u64 (IntKind.u64.wrap (q0_2 - (1 : Int)))))), sv 105 (.c .unk), sv 106 (.c .unk), sv 107 (.c .unk), sv 108 (.c .unk), sv 109 (.c .unk), sv 110 (.c .unk), sv 111 (.c .unk), sv 112 (.c .unk)], hp := [], nx := 0 }) else wK K .normal ({ tm := [sv 2 (.c (.lit (.int .u64 y_1))), sv 8 (.c (.lit (.int .u64 s_1))), sv 9 (.c (.lit (.int .u64 yn1))), sv 10 (.c (.lit (.int .u64 yn0))), sv 14 (.c (.lit (.int .u64 un0))), sv 15 (.c (.lit (.int .u64 q1_1))), sv 16 (.c (.lit (.int .u64 (IntKind.u64.wrap (rhat_3 + yn1))))), sv 17 (.c (.lit (.int .u64 un21))), sv 18 (.c (.lit (.int .u64 (IntKind.u64.wrap (q0_2 - (1 : Int)))))), sv 105 (.c .unk), sv 106 (.c .unk), sv 107 (.c .unk), sv 108 (.c .unk), sv 109 (.c .unk), sv 110 (.c .unk), sv 111 (.c .unk), sv 112 (.c .unk)], hp := [], nx := 0 })) else wK K (.exit 2) ({ tm := [sv 2 (.c (.lit (.int .u64 y_1))), sv 8 (.c (.lit (.int .u64 s_1))), sv 9 (.c (.lit (.int .u64 yn1))), sv 10 (.c (.lit (.int .u64 yn0))), sv 14 (.c (.lit (.int .u64 un0))), sv 15 (.c (.lit (.int .u64 q1_1))), sv 16 (.c (.lit (.int .u64 rhat_3))), sv 17 (.c (.lit (.int .u64 un21))), sv 18 (.c (.lit (.int .u64 q0_2))), sv 105 (.c .unk), sv 106 (.c .unk), sv 107 (.c .unk), sv 108 (.c .unk), sv 109 (.c .unk), sv 110 (.c .unk), sv 111 (.c .unk), sv 112 (.c .unk)], hp := [], nx := 0 }))) (fun K => by kernel_rfl) (W_bif h (fun _ h => (W_bif h (fun _ h => ⟨(z66l2C0 y_1 s_1 yn1 yn0 un0 q1_1 rhat_2 un21 q0 (IntKind.u64.wrap (q0_2 - (1 : Int)))), (.of (.q rfl (.q rfl (.q rfl (.q rfl (.q rfl (.q rfl .nil)))))) .nil rfl), h⟩) (fun _ h => ⟨(z66l2S y_1 s_1 yn1 yn0 un0 q1_1 rhat_2 un21 q0 ((IntKind.u64.wrap (rhat_3 + yn1)), (IntKind.u64.wrap (q0_2 - (1 : Int))))), (.of (.q rfl (.q rfl (.q rfl (.q rfl (.q rfl (.q rfl (.q rfl (.q rfl (.q rfl .nil))))))))) .nil rfl), h⟩))) (fun _ h => ⟨(z66l2C0 y_1 s_1 yn1 yn0 un0 q1_1 rhat_2 un21 q0 q0_2), (.of (.q rfl (.q rfl (.q rfl (.q rfl (.q rfl (.q rfl .nil)))))) .nil rfl), h⟩)))
noncomputable def math_bits_Div64_l2 (y_1 s_1 yn1 yn0 un0 q1_1 rhat_2 un21 q0 : Int) (s : (Int × Int)) : Option ((Int × Int) ⊕ ((Int))) := match s with | (rhat_3, q0_2) => math_bits_Div64_p1 y_1 s_1 yn1 yn0 un0 q1_1 rhat_3 un21 q0_2
theorem z66l2ok (y_1 s_1 yn1 yn0 un0 q1_1 rhat_2 un21 q0 : Int) (s : (Int × Int)) : Pp Try.prog 135 (List.drop 0 z66i2) (z66l2S y_1 s_1 yn1 yn0 un0 q1_1 rhat_2 un21 q0 s) (math_bits_Div64_l2 y_1 s_1 yn1 yn0 un0 q1_1 rhat_2 un21 q0 s) (nextE (z66l2S y_1 s_1 yn1 yn0 un0 q1_1 rhat_2 un21 q0) (z66l2E y_1 s_1 yn1 yn0 un0 q1_1 rhat_2 un21 q0)) := fun K h => match s, h with | (rhat_3, q0_2), h => (z66p1ok y_1 s_1 yn1 yn0 un0 q1_1 rhat_3 un21 q0_2 rhat_2 q0 _ h)
theorem z66l2Ethen (y_1 s_1 yn1 yn0 un0 q1_1 rhat_2 un21 q0 : Int) : ∀ (r : ((Int))) (J : St → Prop) (K : KT), z66l2E y_1 s_1 yn1 yn0 un0 q1_1 rhat_2 un21 q0 r K → z66l2E y_1 s_1 yn1 yn0 un0 q1_1 rhat_2 un21 q0 r (thenK J K)
  | s, _, _, h => h
def z66p2S (y_1 s_1 un0 q1_1 un21 q0_1 : Int) : St := { tm := [sv 2 (.c (.lit (.int .u64 y_1))), sv 8 (.c (.lit (.int .u64 s_1))), sv 14 (.c (.lit (.int .u64 un0))), sv 15 (.c (.lit (.int .u64 q1_1))), sv 17 (.c (.lit (.int .u64 un21))), sv 18 (.c (.lit (.int .u64 q0_1)))], hp := [], nx := 0 }
noncomputable def math_bits_Div64_p2 (y_1 s_1 un0 q1_1 un21 q0_1 : Int) : Option ((Int × Int)) := gd ((0 : Int) ≤ s_1) ((some ((IntKind.u64.wrap ((IntKind.u64.wrap (q1_1 * (4294967296 : Int))) + q0_1)), (Int.fdiv (IntKind.u64.wrap ((IntKind.u64.wrap ((IntKind.u64.wrap (un21 * (4294967296 : Int))) + un0)) - (IntKind.u64.wrap (q0_1 * y_1)))) (2 ^ min (Int.toNat s_1) 64)))))
theorem z66p2ok (y_1 s_1 un0 q1_1 un21 q0_1 : Int) (K : KT) (h : W (math_bits_Div64_p2 y_1 s_1 un0 q1_1 un21 q0_1) (rE z66R K)) : EvL Try.prog 135 (List.drop 22 z66i0) K (z66p2S y_1 s_1 un0 q1_1 un21 q0_1) :=
  EvL.pE mixed (lookC_ok (l := []) trivial) [6, 7] 22 2 (.nf (X := fun K => ((0 : Int) ≤ s_1) ∧ (wK K .ret (z66R ((IntKind.u64.wrap ((IntKind.u64.wrap (q1_1 * (4294967296 : Int))) + q0_1)), (Int.fdiv (IntKind.u64.wrap ((IntKind.u64.wrap ((IntKind.u64.wrap (un21 * (4294967296 : Int))) + un0)) - (IntKind.u64.wrap (q0_1 * y_1)))) (2 ^ min (Int.toNat s_1) 64)))))) (fun K => by kernel_rfl) (W_gd h fun hp0 h => ⟨_, .refl _, h⟩))
def z66p3S (y_1 s_1 yn1 yn0 un0 q1_1 rhat_2 un21 q0 : Int) : St := { tm := [sv 2 (.c (.lit (.int .u64 y_1))), sv 8 (.c (.lit (.int .u64 s_1))), sv 9 (.c (.lit (.int .u64 yn1))), sv 10 (.c (.lit (.int .u64 yn0))), sv 14 (.c (.lit (.int .u64 un0))), sv 15 (.c (.lit (.int .u64 q1_1))), sv 16 (.c (.lit (.int .u64 rhat_2))), sv 17 (.c (.lit (.int .u64 un21))), sv 18 (.c (.lit (.int .u64 q0)))], hp := [], nx := 0 }
noncomputable def math_bits_Div64_p3_g (y_1 s_1 yn1 yn0 un0 q1_1 rhat_2 un21 q0 : Int) (r : ((Int))) : Option ((Int × Int)) := match r with | q0_1 => (math_bits_Div64_p2 y_1 s_1 un0 q1_1 un21 q0_1)
noncomputable def math_bits_Div64_p3 (y_1 s_1 yn1 yn0 un0 q1_1 rhat_2 un21 q0 : Int) : Option ((Int × Int)) := (fixL (math_bits_Div64_l2 y_1 s_1 yn1 yn0 un0 q1_1 rhat_2 un21 q0) (rhat_2, q0)).bind (math_bits_Div64_p3_g y_1 s_1 yn1 yn0 un0 q1_1 rhat_2 un21 q0)
theorem z66p3at : List.drop 21 z66i0 = .block 2 (.loop (inside (inside (nthI z66i0 21)))) :: List.drop 22 z66i0 := by kernel_rfl
theorem z66p3k (y_1 s_1 yn1 yn0 un0 q1_1 rhat_2 un21 q0 : Int) (K : KT) : ∀ r : ((Int)), W (math_bits_Div64_p3_g y_1 s_1 yn1 yn0 un0 q1_1 rhat_2 un21 q0 r) (rE z66R K) → z66l2E y_1 s_1 yn1 yn0 un0 q1_1 rhat_2 un21 q0 r (wK (blockK 2 (thenK (EvL Try.prog 135 (List.drop 22 z66i0) K) K)))
  | q0_1, h => ⟨(z66p2S y_1 s_1 un0 q1_1 un21 q0_1), (.refl _), (z66p2ok y_1 s_1 un0 q1_1 un21 q0_1 _ h)⟩
theorem z66p3ok (y_1 s_1 yn1 yn0 un0 q1_1 rhat_2 un21 q0 : Int) (K : KT) (h : W (math_bits_Div64_p3 y_1 s_1 yn1 yn0 un0 q1_1 rhat_2 un21 q0) (rE z66R K)) : EvL Try.prog 135 (List.drop 21 z66i0) K (z66p3S y_1 s_1 yn1 yn0 un0 q1_1 rhat_2 un21 q0) :=
  EvL.at_ z66p3at (EvL.cons_loop (EvOk.weak (EvOk.ent (.refl _) (EvOk.loopF (x := inside (inside (nthI z66i0 21))) (f := math_bits_Div64_l2 y_1 s_1 yn1 yn0 un0 q1_1 rhat_2 un21 q0) (emb := z66l2S y_1 s_1 yn1 yn0 un0 q1_1 rhat_2 un21 q0) (E := z66l2E y_1 s_1 yn1 yn0 un0 q1_1 rhat_2 un21 q0) (z66l2ok y_1 s_1 yn1 yn0 un0 q1_1 rhat_2 un21 q0) (z66l2Ethen y_1 s_1 yn1 yn0 un0 q1_1 rhat_2 un21 q0) (W_loop h (z66p3k y_1 s_1 yn1 yn0 un0 q1_1 rhat_2 un21 q0 K))))))
def z66p4S (y_1 s_1 yn1 yn0 un32 un1 un0 q1_1 : Int) : St := { tm := [sv 2 (.c (.lit (.int .u64 y_1))), sv 8 (.c (.lit (.int .u64 s_1))), sv 9 (.c (.lit (.int .u64 yn1))), sv 10 (.c (.lit (.int .u64 yn0))), sv 11 (.c (.lit (.int .u64 un32))), sv 13 (.c (.lit (.int .u64 un1))), sv 14 (.c (.lit (.int .u64 un0))), sv 15 (.c (.lit (.int .u64 q1_1)))], hp := [], nx := 0 }
noncomputable def math_bits_Div64_p4 (y_1 s_1 yn1 yn0 un32 un1 un0 q1_1 : Int) : Option ((Int × Int)) := gd (yn1 ≠ (0 : Int)) ((math_bits_Div64_p3 y_1 s_1 yn1 yn0 un0 q1_1 (IntKind.u64.wrap ((IntKind.u64.wrap ((IntKind.u64.wrap ((IntKind.u64.wrap (un32 * (4294967296 : Int))) + un1)) - (IntKind.u64.wrap (q1_1 * y_1)))) - (IntKind.u64.wrap ((IntKind.u64.wrap (Int.tdiv (IntKind.u64.wrap ((IntKind.u64.wrap ((IntKind.u64.wrap (un32 * (4294967296 : Int))) + un1)) - (IntKind.u64.wrap (q1_1 * y_1)))) yn1)) * yn1)))) (IntKind.u64.wrap ((IntKind.u64.wrap ((IntKind.u64.wrap (un32 * (4294967296 : Int))) + un1)) - (IntKind.u64.wrap (q1_1 * y_1)))) (IntKind.u64.wrap (Int.tdiv (IntKind.u64.wrap ((IntKind.u64.wrap ((IntKind.u64.wrap (un32 * (4294967296 : Int))) + un1)) - (IntKind.u64.wrap (q1_1 * y_1)))) yn1))))
theorem z66p4ok (y_1 s_1 yn1 yn0 un32 un1 un0 q1_1 : Int) (K : KT) (h : W (math_bits_Div64_p4 y_1 s_1 yn1 yn0 un32 un1 un0 q1_1) (rE z66R K)) : EvL Try.prog 135 (List.drop 18 z66i0) K (z66p4S y_1 s_1 yn1 yn0 un32 un1 un0 q1_1) :=
  EvL.pD mixed (lookC_ok (l := []) trivial) [2, 8, 9, 10, 14, 15, 16, 17, 18, 105, 106, 107, 108, 109, 110, 111, 112] 18 3 21 (.nf (X := fun K => (yn1 ≠ (0 : Int)) ∧ (wK K .normal (z66p3S y_1 s_1 yn1 yn0 un0 q1_1 (IntKind.u64.wrap ((IntKind.u64.wrap ((IntKind.u64.wrap ((IntKind.u64.wrap (un32 * (4294967296 : Int))) + un1)) - (IntKind.u64.wrap (q1_1 * y_1)))) - (IntKind.u64.wrap ((IntKind.u64.wrap (Int.tdiv (IntKind.u64.wrap ((IntKind.u64.wrap ((IntKind.u64.wrap (un32 * (4294967296 : Int))) + un1)) - (IntKind.u64.wrap (q1_1 * y_1)))) yn1)) * yn1)))) (IntKind.u64.wrap ((IntKind.u64.wrap ((IntKind.u64.wrap (un32 * (4294967296 : Int))) + un1)) - (IntKind.u64.wrap (q1_1 * y_1)))) (IntKind.u64.wrap (Int.tdiv (IntKind.u64.wrap ((IntKind.u64.wrap ((IntKind.u64.wrap (un32 * (4294967296 : Int))) + un1)) - (IntKind.u64.wrap (q1_1 * y_1)))) yn1))))) (fun K => by kernel_rfl) (W_gd h fun hp0 h => ⟨_, .refl _, (z66p3ok y_1 s_1 yn1 yn0 un0 q1_1 (IntKind.u64.wrap ((IntKind.u64.wrap ((IntKind.u64.wrap ((IntKind.u64.wrap (un32 * (4294967296 : Int))) + un1)) - (IntKind.u64.wrap (q1_1 * y_1)))) - (IntKind.u64.wrap ((IntKind.u64.wrap (Int.tdiv (IntKind.u64.wrap ((IntKind.u64.wrap ((IntKind.u64.wrap (un32 * (4294967296 : Int))) + un1)) - (IntKind.u64.wrap (q1_1 * y_1)))) yn1)) * yn1)))) (IntKind.u64.wrap ((IntKind.u64.wrap ((IntKind.u64.wrap (un32 * (4294967296 : Int))) + un1)) - (IntKind.u64.wrap (q1_1 * y_1)))) (IntKind.u64.wrap (Int.tdiv (IntKind.u64.wrap ((IntKind.u64.wrap ((IntKind.u64.wrap (un32 * (4294967296 : Int))) + un1)) - (IntKind.u64.wrap (q1_1 * y_1)))) yn1)) _ h)⟩))
def z66p5S (y_1 s_1 yn1 yn0 un32 un1 un0 q1 rhat : Int) : St := { tm := [sv 2 (.c (.lit (.int .u64 y_1))), sv 8 (.c (.lit (.int .u64 s_1))), sv 9 (.c (.lit (.int .u64 yn1))), sv 10 (.c (.lit (.int .u64 yn0))), sv 11 (.c (.lit (.int .u64 un32))), sv 13 (.c (.lit (.int .u64 un1))), sv 14 (.c (.lit (.int .u64 un0))), sv 15 (.c (.lit (.int .u64 q1))), sv 16 (.c (.lit (.int .u64 rhat)))], hp := [], nx := 0 }
noncomputable def math_bits_Div64_p5_g (y_1 s_1 yn1 yn0 un32 un1 un0 q1 rhat : Int) (r : ((Int))) : Option ((Int × Int)) := match r with | q1_1 => (math_bits_Div64_p4 y_1 s_1 yn1 yn0 un32 un1 un0 q1_1)
noncomputable def math_bits_Div64_p5 (y_1 s_1 yn1 yn0 un32 un1 un0 q1 rhat : Int) : Option ((Int × Int)) := (fixL (math_bits_Div64_l1 y_1 s_1 yn1 yn0 un32 un1 un0 q1 rhat) (q1, rhat)).bind (math_bits_Div64_p5_g y_1 s_1 yn1 yn0 un32 un1 un0 q1 rhat)
theorem z66p5at : List.drop 17 z66i0 = .block 0 (.loop (inside (inside (nthI z66i0 17)))) :: List.drop 18 z66i0 := by kernel_rfl
theorem z66p5k (y_1 s_1 yn1 yn0 un32 un1 un0 q1 rhat : Int) (K : KT) : ∀ r : ((Int)), W (math_bits_Div64_p5_g y_1 s_1 yn1 yn0 un32 un1 un0 q1 rhat r) (rE z66R K) → z66l1E y_1 s_1 yn1 yn0 un32 un1 un0 q1 rhat r (wK (blockK 0 (thenK (EvL Try.prog 135 (List.drop 18 z66i0) K) K)))
  | q1_1, h => ⟨(z66p4S y_1 s_1 yn1 yn0 un32 un1 un0 q1_1), (.refl _), (z66p4ok y_1 s_1 yn1 yn0 un32 un1 un0 q1_1 _ h)⟩
theorem z66p5ok (y_1 s_1 yn1 yn0 un32 un1 un0 q1 rhat : Int) (K : KT) (h : W (math_bits_Div64_p5 y_1 s_1 yn1 yn0 un32 un1 un0 q1 rhat) (rE z66R K)) : EvL Try.prog 135 (List.drop 17 z66i0) K (z66p5S y_1 s_1 yn1 yn0 un32 un1 un0 q1 rhat) :=
  EvL.at_ z66p5at (EvL.cons_loop (EvOk.weak (EvOk.ent (.refl _) (EvOk.loopF (x := inside (inside (nthI z66i0 17))) (f := math_bits_Div64_l1 y_1 s_1 yn1 yn0 un32 un1 un0 q1 rhat) (emb := z66l1S y_1 s_1 yn1 yn0 un32 un1 un0 q1 rhat) (E := z66l1E y_1 s_1 yn1 yn0 un32 un1 un0 q1 rhat) (z66l1ok y_1 s_1 yn1 yn0 un32 un1 un0 q1 rhat) (z66l1Ethen y_1 s_1 yn1 yn0 un32 un1 un0 q1 rhat) (W_loop h (z66p5k y_1 s_1 yn1 yn0 un32 un1 un0 q1 rhat K))))))
def z66p6S (hi lo y : Int) : St := { tm := [sv 0 (.c (.lit (.int .u64 hi))), sv 1 (.c (.lit (.int .u64 lo))), sv 2 (.c (.lit (.int .u64 y)))], hp := [], nx := 0 }
noncomputable def math_bits_Div64_p6 (hi lo y : Int) : Option ((Int × Int)) := (bif (y == (0 : Int)) then none else (bif (decide (y ≤ hi)) then none else (bif (hi == (0 : Int)) then gd (y ≠ (0 : Int)) (gd (y ≠ (0 : Int)) ((some ((IntKind.u64.wrap (Int.tdiv lo y)), (Int.tmod lo y))))) else (math_bits_LeadingZeros64 y).bind fun r_1 => (gd ((0 : Int) ≤ (IntKind.u64.wrap r_1)) (gd ((0 : Int) ≤ (IntKind.u64.wrap r_1)) (gd ((0 : Int) ≤ (IntKind.u64.wrap ((64 : Int) - (IntKind.u64.wrap r_1)))) (gd ((0 : Int) ≤ (IntKind.u64.wrap r_1)) (gd ((Int.fdiv (IntKind.u64.wrap (y * 2 ^ min (Int.toNat (IntKind.u64.wrap r_1)) 64)) (2 ^ min (Int.toNat (32 : Int)) 64)) ≠ (0 : Int)) ((math_bits_Div64_p5 (IntKind.u64.wrap (y * 2 ^ min (Int.toNat (IntKind.u64.wrap r_1)) 64)) (IntKind.u64.wrap r_1) (Int.fdiv (IntKind.u64.wrap (y * 2 ^ min (Int.toNat (IntKind.u64.wrap r_1)) 64)) (2 ^ min (Int.toNat (32 : Int)) 64)) (IntKind.u64.wrap (BitVec.ofInt 64 (IntKind.u64.wrap (y * 2 ^ min (Int.toNat (IntKind.u64.wrap r_1)) 64)) &&& BitVec.ofInt 64 (4294967295 : Int)).toNat) (IntKind.u64.wrap (BitVec.ofInt 64 (IntKind.u64.wrap (hi * 2 ^ min (Int.toNat (IntKind.u64.wrap r_1)) 64)) ||| BitVec.ofInt 64 (Int.fdiv lo (2 ^ min (Int.toNat (IntKind.u64.wrap ((64 : Int) - (IntKind.u64.wrap r_1)))) 64))).toNat) (Int.fdiv (IntKind.u64.wrap (lo * 2 ^ min (Int.toNat (IntKind.u64.wrap r_1)) 64)) (2 ^ min (Int.toNat (32 : Int)) 64)) (IntKind.u64.wrap (BitVec.ofInt 64 (IntKind.u64.wrap (lo * 2 ^ min (Int.toNat (IntKind.u64.wrap r_1)) 64)) &&& BitVec.ofInt 64 (4294967295 : Int)).toNat) (IntKind.u64.wrap (Int.tdiv (IntKind.u64.wrap (BitVec.ofInt 64 (IntKind.u64.wrap (hi * 2 ^ min (Int.toNat (IntKind.u64.wrap r_1)) 64)) ||| BitVec.ofInt 64 (Int.fdiv lo (2 ^ min (Int.toNat (IntKind.u64.wrap ((64 : Int) - (IntKind.u64.wrap r_1)))) 64))).toNat) (Int.fdiv (IntKind.u64.wrap (y * 2 ^ min (Int.toNat (IntKind.u64.wrap r_1)) 64)) (2 ^ min (Int.toNat (32 : Int)) 64)))) (IntKind.u64.wrap ((IntKind.u64.wrap (BitVec.ofInt 64 (IntKind.u64.wrap (hi * 2 ^ min (Int.toNat (IntKind.u64.wrap r_1)) 64)) ||| BitVec.ofInt 64 (Int.fdiv lo (2 ^ min (Int.toNat (IntKind.u64.wrap ((64 : Int) - (IntKind.u64.wrap r_1)))) 64))).toNat) - (IntKind.u64.wrap ((IntKind.u64.wrap (Int.tdiv (IntKind.u64.wrap (BitVec.ofInt 64 (IntKind.u64.wrap (hi * 2 ^ min (Int.toNat (IntKind.u64.wrap r_1)) 64)) ||| BitVec.ofInt 64 (Int.fdiv lo (2 ^ min (Int.toNat (IntKind.u64.wrap ((64 : Int) - (IntKind.u64.wrap r_1)))) 64))).toNat) (Int.fdiv (IntKind.u64.wrap (y * 2 ^ min (Int.toNat (IntKind.u64.wrap r_1)) 64)) (2 ^ min (Int.toNat (32 : Int)) 64)))) * (Int.fdiv (IntKind.u64.wrap (y * 2 ^ min (Int.toNat (IntKind.u64.wrap r_1)) 64)) (2 ^ min (Int.toNat (32 : Int)) 64))))))))))))))))
theorem z66p6ok (hi lo y : Int) (K : KT) (h : W (math_bits_Div64_p6 hi lo y) (rE z66R K)) : EvL Try.prog 135 (List.drop 0 z66i0) K (z66p6S hi lo y) :=
  EvL.pD mixed (lookC_ok (l := [(72, .pure math_bits_LeadingZeros64_C)]) ⟨math_bits_LeadingZeros64_ok, trivial⟩) [2, 6, 7, 8, 9, 10, 11, 13, 14, 15, 16, 70, 71, 72, 73, 74, 75, 76, 77, 105, 106, 107, 108, 109, 110, 111, 112] 0 17 17 (.nf (X := fun K => (bif (y == (0 : Int)) then False else (bif (decide (y ≤ hi)) then False else (bif (hi == (0 : Int)) then (y ≠ (0 : Int)) ∧ (y ≠ (0 : Int)) ∧ (wK K .ret ({ tm := [sv 2 (.c (.lit (.int .u64 y))), sv 6 (.c (.lit (.int .u64 (IntKind.u64.wrap (Int.tdiv lo y))))), sv 7 (.c (.lit (.int .u64 (Int.tmod lo y))))], hp := [], nx := 0 })) else ((math_bits_LeadingZeros64 y).isSome = true) ∧ (((0 : Int) ≤ (IntKind.u64.wrap ((math_bits_LeadingZeros64 y).getD (0 : Int)))) ∧ (((0 : Int) ≤ (32 : Int)) ∧ (((0 : Int) ≤ (IntKind.u64.wrap ((math_bits_LeadingZeros64 y).getD (0 : Int)))) ∧ ((0 : Int) ≤ (IntKind.u64.wrap ((64 : Int) - (IntKind.u64.wrap ((math_bits_LeadingZeros64 y).getD (0 : Int)))))) ∧ (((0 : Int) ≤ (IntKind.u64.wrap ((math_bits_LeadingZeros64 y).getD (0 : Int)))) ∧ (((0 : Int) ≤ (32 : Int)) ∧ (((Int.fdiv (IntKind.u64.wrap (y * 2 ^ min (Int.toNat (IntKind.u64.wrap ((math_bits_LeadingZeros64 y).getD (0 : Int)))) 64)) (2 ^ min (Int.toNat (32 : Int)) 64)) ≠ (0 : Int)) ∧ (wK K .normal ({ tm := [sv 2 (.c (.lit (.int .u64 (IntKind.u64.wrap (y * 2 ^ min (Int.toNat (IntKind.u64.wrap ((math_bits_LeadingZeros64 y).getD (0 : Int)))) 64))))), sv 6 (.c (.lit (.int .u64 (0 : Int)))), sv 7 (.c (.lit (.int .u64 (0 : Int)))), sv 8 (.c (.lit (.int .u64 (IntKind.u64.wrap ((math_bits_LeadingZeros64 y).getD (0 : Int)))))), sv 9 (.c (.lit (.int .u64 (Int.fdiv (IntKind.u64.wrap (y * 2 ^ min (Int.toNat (IntKind.u64.wrap ((math_bits_LeadingZeros64 y).getD (0 : Int)))) 64)) (2 ^ min (Int.toNat (32 : Int)) 64))))), sv 10 (.c (.lit (.int .u64 (IntKind.u64.wrap (BitVec.ofInt 64 (IntKind.u64.wrap (y * 2 ^ min (Int.toNat (IntKind.u64.wrap ((math_bits_LeadingZeros64 y).getD (0 : Int)))) 64)) &&& BitVec.ofInt 64 (4294967295 : Int)).toNat)))), sv 11 (.c (.lit (.int .u64 (IntKind.u64.wrap (BitVec.ofInt 64 (IntKind.u64.wrap (hi * 2 ^ min (Int.toNat (IntKind.u64.wrap ((math_bits_LeadingZeros64 y).getD (0 : Int)))) 64)) ||| BitVec.ofInt 64 (Int.fdiv lo (2 ^ min (Int.toNat (IntKind.u64.wrap ((64 : Int) - (IntKind.u64.wrap ((math_bits_LeadingZeros64 y).getD (0 : Int)))))) 64))).toNat)))), sv 13 (.c (.lit (.int .u64 (Int.fdiv (IntKind.u64.wrap (lo * 2 ^ min (Int.toNat (IntKind.u64.wrap ((math_bits_LeadingZeros64 y).getD (0 : Int)))) 64)) (2 ^ min (Int.toNat (32 : Int)) 64))))), sv 14 (.c (.lit (.int .u64 (IntKind.u64.wrap (BitVec.ofInt 64 (IntKind.u64.wrap (lo * 2 ^ min (Int.toNat (IntKind.u64.wrap ((math_bits_LeadingZeros64 y).getD (0 : Int)))) 64)) &&& BitVec.ofInt 64 (4294967295 : Int)).toNat)))), sv 15 (.c (.lit (.int .u64 (IntKind.u64.wrap (Int.tdiv (IntKind.u64.wrap (BitVec.ofInt 64 (IntKind.u64.wrap (hi * 2 ^ min (Int.toNat (IntKind.u64.wrap ((math_bits_LeadingZeros64 y).getD (0 : Int)))) 64)) ||| BitVec.ofInt 64 (Int.fdiv lo (2 ^ min (Int.toNat (IntKind.u64.wrap ((64 : Int) - (IntKind.u64.wrap ((math_bits_LeadingZeros64 y).getD (0 : Int)))))) 64))).toNat) (Int.fdiv (IntKind.u64.wrap (y * 2 ^ min (Int.toNat (IntKind.u64.wrap ((math_bits_LeadingZeros64 y).getD (0 : Int)))) 64)) (2 ^ min (Int.toNat (32 : Int)) 64))))))), sv 16 (.c (.lit (.int .u64 (IntKind.u64.wrap ((IntKind.u64.wrap (BitVec.ofInt 64 (IntKind.u64.wrap (hi * 2 ^ min (Int.toNat (IntKind.u64.wrap ((math_bits_LeadingZeros64 y).getD (0 : Int)))) 64)) ||| BitVec.ofInt 64 (Int.fdiv lo (2 ^ min (Int.toNat (IntKind.u64.wrap ((64 : Int) - (IntKind.u64.wrap ((math_bits_LeadingZeros64 y).getD (0 : Int)))))) 64))).toNat) - (IntKind.u64.wrap ((IntKind.u64.wrap (Int.tdiv (IntKind.u64.wrap (BitVec.ofInt 64 (IntKind.u64.wrap (hi * 2 ^ min (Int.toNat (IntKind.u64.wrap ((math_bits_LeadingZeros64 y).getD (0 : Int)))) 64)) ||| BitVec.ofInt 64 (Int.fdiv lo (2 ^ min (Int.toNat (IntKind.u64.wrap ((64 : Int) - (IntKind.u64.wrap ((math_bits_LeadingZeros64 y).getD (0 : Int)))))) 64))).toNat) (Int.fdiv (IntKind.u64.wrap (y * 2 ^ min (Int.toNat (IntKind.u64.wrap ((math_bits_LeadingZeros64 y).getD (0 : Int)))) 64)) (2 ^ min (Int.toNat (32 : Int)) 64)))) * (Int.fdiv (IntKind.u64.wrap (y * 2 ^ min (Int.toNat (IntKind.u64.wrap ((math_bits_LeadingZeros64 y).getD (0 : Int)))) 64)) (2 ^ min (Int.toNat (32 : Int)) 64)))))))))], hp := [], nx := 0 })))))))))))) (fun K => by kernel_rfl) (W_bif h (fun _ h => h) (fun _ h => (W_bif h (fun _ h => h) (fun _ h => (W_bif h (fun _ h => (W_gd h fun hp0 h => (W_gd h fun hp1 h => ⟨(z66R ((IntKind.u64.wrap (Int.tdiv lo y)), (Int.tmod lo y))), (.of (.q rfl (.q rfl .nil)) .nil rfl), h⟩))) (fun _ h => (W_bind (0 : Int) h fun hp2 h => (W_gd h fun hp3 h => ⟨(by decide), (W_gd h fun hp4 h => (W_gd h fun hp5 h => (W_gd h fun hp6 h => ⟨(by decide), (W_gd h fun hp7 h => ⟨(z66p5S (IntKind.u64.wrap (y * 2 ^ min (Int.toNat (IntKind.u64.wrap ((math_bits_LeadingZeros64 y).getD (0 : Int)))) 64)) (IntKind.u64.wrap ((math_bits_LeadingZeros64 y).getD (0 : Int))) (Int.fdiv (IntKind.u64.wrap (y * 2 ^ min (Int.toNat (IntKind.u64.wrap ((math_bits_LeadingZeros64 y).getD (0 : Int)))) 64)) (2 ^ min (Int.toNat (32 : Int)) 64)) (IntKind.u64.wrap (BitVec.ofInt 64 (IntKind.u64.wrap (y * 2 ^ min (Int.toNat (IntKind.u64.wrap ((math_bits_LeadingZeros64 y).getD (0 : Int)))) 64)) &&& BitVec.ofInt 64 (4294967295 : Int)).toNat) (IntKind.u64.wrap (BitVec.ofInt 64 (IntKind.u64.wrap (hi * 2 ^ min (Int.toNat (IntKind.u64.wrap ((math_bits_LeadingZeros64 y).getD (0 : Int)))) 64)) ||| BitVec.ofInt 64 (Int.fdiv lo (2 ^ min (Int.toNat (IntKind.u64.wrap ((64 : Int) - (IntKind.u64.wrap ((math_bits_LeadingZeros64 y).getD (0 : Int)))))) 64))).toNat) (Int.fdiv (IntKind.u64.wrap (lo * 2 ^ min (Int.toNat (IntKind.u64.wrap ((math_bits_LeadingZeros64 y).getD (0 : Int)))) 64)) (2 ^ min (Int.toNat (32 : Int)) 64)) (IntKind.u64.wrap (BitVec.ofInt 64 (IntKind.u64.wrap (lo * 2 ^ min (Int.toNat (IntKind.u64.wrap ((math_bits_LeadingZeros64 y).getD (0 : Int)))) 64)) &&& BitVec.ofInt 64 (4294967295 : Int)).toNat) (IntKind.u64.wrap (Int.tdiv (IntKind.u64.wrap (BitVec.ofInt 64 (IntKind.u64.wrap (hi * 2 ^ min (Int.toNat (IntKind.u64.wrap ((math_bits_LeadingZeros64 y).getD (0 : Int)))) 64)) ||| BitVec.ofInt 64 (Int.fdiv lo (2 ^ min (Int.toNat (IntKind.u64.wrap ((64 : Int) - (IntKind.u64.wrap ((math_bits_LeadingZeros64 y).getD (0 : Int)))))) 64))).toNat) (Int.fdiv (IntKind.u64.wrap (y * 2 ^ min (Int.toNat (IntKind.u64.wrap ((math_bits_LeadingZeros64 y).getD (0 : Int)))) 64)) (2 ^ min (Int.toNat (32 : Int)) 64)))) (IntKind.u64.wrap ((IntKind.u64.wrap (BitVec.ofInt 64 (IntKind.u64.wrap (hi * 2 ^ min (Int.toNat (IntKind.u64.wrap ((math_bits_LeadingZeros64 y).getD (0 : Int)))) 64)) ||| BitVec.ofInt 64 (Int.fdiv lo (2 ^ min (Int.toNat (IntKind.u64.wrap ((64 : Int) - (IntKind.u64.wrap ((math_bits_LeadingZeros64 y).getD (0 : Int)))))) 64))).toNat) - (IntKind.u64.wrap ((IntKind.u64.wrap (Int.tdiv (IntKind.u64.wrap (BitVec.ofInt 64 (IntKind.u64.wrap (hi * 2 ^ min (Int.toNat (IntKind.u64.wrap ((math_bits_LeadingZeros64 y).getD (0 : Int)))) 64)) ||| BitVec.ofInt 64 (Int.fdiv lo (2 ^ min (Int.toNat (IntKind.u64.wrap ((64 : Int) - (IntKind.u64.wrap ((math_bits_LeadingZeros64 y).getD (0 : Int)))))) 64))).toNat) (Int.fdiv (IntKind.u64.wrap (y * 2 ^ min (Int.toNat (IntKind.u64.wrap ((math_bits_LeadingZeros64 y).getD (0 : Int)))) 64)) (2 ^ min (Int.toNat (32 : Int)) 64)))) * (Int.fdiv (IntKind.u64.wrap (y * 2 ^ min (Int.toNat (IntKind.u64.wrap ((math_bits_LeadingZeros64 y).getD (0 : Int)))) 64)) (2 ^ min (Int.toNat (32 : Int)) 64))))))), (.of (.q rfl (.q rfl (.q rfl (.q rfl (.q rfl (.q rfl (.q rfl (.q rfl (.q rfl .nil))))))))) .nil rfl), (z66p5ok (IntKind.u64.wrap (y * 2 ^ min (Int.toNat (IntKind.u64.wrap ((math_bits_LeadingZeros64 y).getD (0 : Int)))) 64)) (IntKind.u64.wrap ((math_bits_LeadingZeros64 y).getD (0 : Int))) (Int.fdiv (IntKind.u64.wrap (y * 2 ^ min (Int.toNat (IntKind.u64.wrap ((math_bits_LeadingZeros64 y).getD (0 : Int)))) 64)) (2 ^ min (Int.toNat (32 : Int)) 64)) (IntKind.u64.wrap (BitVec.ofInt 64 (IntKind.u64.wrap (y * 2 ^ min (Int.toNat (IntKind.u64.wrap ((math_bits_LeadingZeros64 y).getD (0 : Int)))) 64)) &&& BitVec.ofInt 64 (4294967295 : Int)).toNat) (IntKind.u64.wrap (BitVec.ofInt 64 (IntKind.u64.wrap (hi * 2 ^ min (Int.toNat (IntKind.u64.wrap ((math_bits_LeadingZeros64 y).getD (0 : Int)))) 64)) ||| BitVec.ofInt 64 (Int.fdiv lo (2 ^ min (Int.toNat (IntKind.u64.wrap ((64 : Int) - (IntKind.u64.wrap ((math_bits_LeadingZeros64 y).getD (0 : Int)))))) 64))).toNat) (Int.fdiv (IntKind.u64.wrap (lo * 2 ^ min (Int.toNat (IntKind.u64.wrap ((math_bits_LeadingZeros64 y).getD (0 : Int)))) 64)) (2 ^ min (Int.toNat (32 : Int)) 64)) (IntKind.u64.wrap (BitVec.ofInt 64 (IntKind.u64.wrap (lo * 2 ^ min (Int.toNat (IntKind.u64.wrap ((math_bits_LeadingZeros64 y).getD (0 : Int)))) 64)) &&& BitVec.ofInt 64 (4294967295 : Int)).toNat) (IntKind.u64.wrap (Int.tdiv (IntKind.u64.wrap (BitVec.ofInt 64 (IntKind.u64.wrap (hi * 2 ^ min (Int.toNat (IntKind.u64.wrap ((math_bits_LeadingZeros64 y).getD (0 : Int)))) 64)) ||| BitVec.ofInt 64 (Int.fdiv lo (2 ^ min (Int.toNat (IntKind.u64.wrap ((64 : Int) - (IntKind.u64.wrap ((math_bits_LeadingZeros64 y).getD (0 : Int)))))) 64))).toNat) (Int.fdiv (IntKind.u64.wrap (y * 2 ^ min (Int.toNat (IntKind.u64.wrap ((math_bits_LeadingZeros64 y).getD (0 : Int)))) 64)) (2 ^ min (Int.toNat (32 : Int)) 64)))) (IntKind.u64.wrap ((IntKind.u64.wrap (BitVec.ofInt 64 (IntKind.u64.wrap (hi * 2 ^ min (Int.toNat (IntKind.u64.wrap ((math_bits_LeadingZeros64 y).getD (0 : Int)))) 64)) ||| BitVec.ofInt 64 (Int.fdiv lo (2 ^ min (Int.toNat (IntKind.u64.wrap ((64 : Int) - (IntKind.u64.wrap ((math_bits_LeadingZeros64 y).getD (0 : Int)))))) 64))).toNat) - (IntKind.u64.wrap ((IntKind.u64.wrap (Int.tdiv (IntKind.u64.wrap (BitVec.ofInt 64 (IntKind.u64.wrap (hi * 2 ^ min (Int.toNat (IntKind.u64.wrap ((math_bits_LeadingZeros64 y).getD (0 : Int)))) 64)) ||| BitVec.ofInt 64 (Int.fdiv lo (2 ^ min (Int.toNat (IntKind.u64.wrap ((64 : Int) - (IntKind.u64.wrap ((math_bits_LeadingZeros64 y).getD (0 : Int)))))) 64))).toNat) (Int.fdiv (IntKind.u64.wrap (y * 2 ^ min (Int.toNat (IntKind.u64.wrap ((math_bits_LeadingZeros64 y).getD (0 : Int)))) 64)) (2 ^ min (Int.toNat (32 : Int)) 64)))) * (Int.fdiv (IntKind.u64.wrap (y * 2 ^ min (Int.toNat (IntKind.u64.wrap ((math_bits_LeadingZeros64 y).getD (0 : Int)))) 64)) (2 ^ min (Int.toNat (32 : Int)) 64)))))) _ h)⟩)⟩)))⟩)))))))))
noncomputable def math_bits_Div64 (hi lo y : Int) : Option ((Int × Int)) := math_bits_Div64_p6 hi lo y
theorem z66run (hi lo y : Int) (y_ : (Int × Int)) (h : math_bits_Div64 hi lo y = some y_) : EvL Try.prog 135 (items (bodyOf Try.f66)) (retK Try.prog [.tmp 6, .tmp 7] (OutOk (math_bits_Div64_out y_))) (z66p6S hi lo y) :=
  z66p6ok hi lo y _ (W_iff.2 ⟨y_, h, z66Rok y_⟩)
noncomputable def math_bits_Div64_C : Con
  | [(.c (.lit (.int .u64 a1))), (.c (.lit (.int .u64 a2))), (.c (.lit (.int .u64 a3)))] => some ([(math_bits_Div64 a1 a2 a3).isSome = true], (math_bits_Div64_out ((math_bits_Div64 a1 a2 a3).getD ((0 : Int), (0 : Int)))))
  | _ => none
theorem math_bits_Div64_ok : Meets Try.prog 66 math_bits_Div64_C := by
  refine meets_fun (fn := Try.f66) (c := bodyOf Try.f66) (by kernel_rfl) (by kernel_rfl) (by kernel_rfl) (rs := [.tmp 6, .tmp 7]) (by kernel_rfl) (nt := 135) (by kernel_rfl) fun vs p out h hp => ?_
  unfold math_bits_Div64_C at h
  split at h
  · next a1 a2 a3 =>
    cases h
    obtain ⟨g, hp⟩ := allq hp
    obtain ⟨x, hx⟩ := Option.isSome_iff_exists.1 g
    rw [hx]
    exact ⟨[(.c (.lit (.int .u64 a1))), (.c (.lit (.int .u64 a2))), (.c (.lit (.int .u64 a3)))], (VLes.cons (VLe.rfl' _) (VLes.cons (VLe.rfl' _) (VLes.cons (VLe.rfl' _) VLes.nil))), rfl, z66run a1 a2 a3 x hx⟩
  · cases h

noncomputable def z63i0 : List Code := items (bodyOf Try.f63)
def ref1_wide_over_out (x_1 : (GPensionref1_wide × Int)) : Out := .data (.tup [(.agg [(.c (.lit (.int .u64 x_1.1.hi))), (.c (.lit (.int .u64 x_1.1.lo)))]), (.c (.lit (.int .u64 x_1.2)))])
def z63R (x_1 : (GPensionref1_wide × Int)) : St := { tm := [sv 4 (.ptr 0 2 0 0), sv 5 (.c (.lit (.int .u64 x_1.2)))], hp := [(0, some (.box [(.c (.lit (.int .u64 x_1.1.hi))), (.c (.lit (.int .u64 x_1.1.lo)))]))], nx := 1 }
theorem z63Rok (x_1 : (GPensionref1_wide × Int)) : retK Try.prog [.cell 4 83, .tmp 5] (OutOk (ref1_wide_over_out x_1)) .ret (z63R x_1) :=
  retK.intro (v := (.tup [(.agg [(.c (.lit (.int .u64 x_1.1.hi))), (.c (.lit (.int .u64 x_1.1.lo)))]), (.c (.lit (.int .u64 x_1.2)))])) (by kernel_rfl) (VLe.tup (VLes.cons (VLe.rfl' _) (VLes.cons (VLe.rfl' _) (VLes.nil))))
def z63p0S (w : GPensionref1_wide) (d_1 : Int) : St := { tm := [sv 0 (.ag (eGPensionref1_wide w)), sv 1 (.c (.lit (.int .u64 d_1)))], hp := [], nx := 0 }
noncomputable def ref1_wide_over_p0 (w : GPensionref1_wide) (d_1 : Int) : Option ((GPensionref1_wide × Int)) := gd (d_1 ≠ (0 : Int)) ((math_bits_Div64 (Int.tmod w.hi d_1) w.lo d_1).bind fun r_1 => (gd (d_1 ≠ (0 : Int)) ((some ((GPensionref1_wide.mk (IntKind.u64.wrap (Int.tdiv w.hi d_1)) r_1.1), r_1.2)))))
theorem z63p0ok (w : GPensionref1_wide) (d_1 : Int) (K : KT) (h : W (ref1_wide_over_p0 w d_1) (rE z63R K)) : EvL Try.prog 26 (List.drop 0 z63i0) K (z63p0S w d_1) :=
  EvL.pE mixed (lookC_ok (l := [(66, .pure math_bits_Div64_C)]) ⟨math_bits_Div64_ok, trivial⟩) [4, 5] 0 4 (.nf (X := fun K => (d_1 ≠ (0 : Int)) ∧ ((math_bits_Div64 (Int.tmod w.hi d_1) w.lo d_1).isSome = true) ∧ ((d_1 ≠ (0 : Int)) ∧ (wK K .ret (z63R ((GPensionref1_wide.mk (IntKind.u64.wrap (Int.tdiv w.hi d_1)) ((math_bits_Div64 (Int.tmod w.hi d_1) w.lo d_1).getD ((0 : Int), (0 : Int))).1), ((math_bits_Div64 (Int.tmod w.hi d_1) w.lo d_1).getD ((0 : Int), (0 : Int))).2))))) (fun K => by kernel_rfl) (W_gd h fun hp0 h => (W_bind ((0 : Int), (0 : Int)) h fun hp1 h => (W_gd h fun hp2 h => ⟨_, .refl _, h⟩))))
noncomputable def ref1_wide_over (w : GPensionref1_wide) (d_1 : Int) : Option ((GPensionref1_wide × Int)) := ref1_wide_over_p0 w d_1
theorem z63run (w : GPensionref1_wide) (d_1 : Int) (y_ : (GPensionref1_wide × Int)) (h : ref1_wide_over w d_1 = some y_) : EvL Try.prog 26 (items (bodyOf Try.f63)) (retK Try.prog [.cell 4 83, .tmp 5] (OutOk (ref1_wide_over_out y_))) (z63p0S w d_1) :=
  z63p0ok w d_1 _ (W_iff.2 ⟨y_, h, z63Rok y_⟩)
noncomputable def ref1_wide_over_C : Con
  | [(.agg [(.c (.lit (.int .u64 a1))), (.c (.lit (.int .u64 a2)))]), (.c (.lit (.int .u64 a3)))] => some ([(ref1_wide_over (GPensionref1_wide.mk a1 a2) a3).isSome = true], (ref1_wide_over_out ((ref1_wide_over (GPensionref1_wide.mk a1 a2) a3).getD (zGPensionref1_wide, (0 : Int)))))
  | _ => none
theorem ref1_wide_over_ok : Meets Try.prog 63 ref1_wide_over_C := by
  refine meets_fun (fn := Try.f63) (c := bodyOf Try.f63) (by kernel_rfl) (by kernel_rfl) (by kernel_rfl) (rs := [.cell 4 83, .tmp 5]) (by kernel_rfl) (nt := 26) (by kernel_rfl) fun vs p out h hp => ?_
  unfold ref1_wide_over_C at h
  split at h
  · next a1 a2 a3 =>
    cases h
    obtain ⟨g, hp⟩ := allq hp
    obtain ⟨x, hx⟩ := Option.isSome_iff_exists.1 g
    rw [hx]
    exact ⟨[(.agg [(.c (.lit (.int .u64 (GPensionref1_wide.mk a1 a2).hi))), (.c (.lit (.int .u64 (GPensionref1_wide.mk a1 a2).lo)))]), (.c (.lit (.int .u64 a3)))], (VLes.cons (VLe.rfl' _) (VLes.cons (VLe.rfl' _) VLes.nil)), rfl, z63run (GPensionref1_wide.mk a1 a2) a3 x hx⟩
  · cases h

noncomputable def z62i0 : List Code := items (bodyOf Try.f62)
noncomputable def z62i1 : List Code := items (inside (inside (nthI z62i0 1)))
def ref1_gcd_out (x_1 : Int) : Out := .data (.c (.lit (.int .u64 x_1)))
def z62R (x_1 : Int) : St := { tm := [sv 4 (.c (.lit (.int .u64 x_1)))], hp := [], nx := 0 }
theorem z62Rok (x_1 : Int) : retK Try.prog [.tmp 4] (OutOk (ref1_gcd_out x_1)) .ret (z62R x_1) :=
  retK.intro (v := (.c (.lit (.int .u64 x_1)))) (by kernel_rfl) ((VLe.rfl' _))
def z62l1S (a b : Int) (s : (Int × Int)) : St := match s with | (a_1, b_1) => { tm := [sv 0 (.c (.lit (.int .u64 a_1))), sv 1 (.c (.lit (.int .u64 b_1)))], hp := [], nx := 0 }
def z62l1C0 (a b : Int) (s : Int) : St := match s with | a_2 => { tm := [sv 0 (.c (.lit (.int .u64 a_2)))], hp := [], nx := 0 }
def z62l1E (a b : Int) (r : ((Int))) (K : KT) : Prop := match r with | s => K (.exit 0) (z62l1C0 a b s)
def z62p0S (a_1 b_1 : Int) : St := { tm := [sv 0 (.c (.lit (.int .u64 a_1))), sv 1 (.c (.lit (.int .u64 b_1)))], hp := [], nx := 0 }
noncomputable def ref1_gcd_p0 (a_1 b_1 : Int) : Option ((Int × Int) ⊕ ((Int))) := (bif (b_1 != (0 : Int)) then gd (b_1 ≠ (0 : Int)) ((some (Sum.inl (b_1, (Int.tmod a_1 b_1))))) else (some (Sum.inr a_1)))
theorem z62p0ok (a_1 b_1 a b : Int) (K : KT) (h : W (ref1_gcd_p0 a_1 b_1) (nE (z62l1S a b) (z62l1E a b) K)) : EvL Try.prog 12 (List.drop 0 z62i1) K (z62p0S a_1 b_1) :=
  EvL.pE mixed (lookC_ok (l := []) trivial) [0, 1] 0 3 (.nf (X := fun K => (bif (b_1 != (0 : Int)) then (b_1 ≠ (0 : Int)) ∧ (wK K .normal (z62l1S a b (b_1, (Int.tmod a_1 b_1)))) else wK K (.exit 0) ({ tm := [sv 0 (.c (.lit (.int .u64 a_1))), sv 1 (.c (.lit (.int .u64 b_1)))], hp := [], nx := 0 }))) (fun K => by kernel_rfl) (W_bif h (fun _ h => (W_gd h fun hp0 h => ⟨_, .refl _, h⟩)) (fun _ h => ⟨(z62l1C0 a b a_1), (.of (.q rfl .nil) .nil rfl), h⟩)))
noncomputable def ref1_gcd_l1 (a b : Int) (s : (Int × Int)) : Option ((Int × Int) ⊕ ((Int))) := match s with | (a_1, b_1) => ref1_gcd_p0 a_1 b_1
theorem z62l1ok (a b : Int) (s : (Int × Int)) : Pp Try.prog 12 (List.drop 0 z62i1) (z62l1S a b s) (ref1_gcd_l1 a b s) (nextE (z62l1S a b) (z62l1E a b)) := fun K h => match s, h with | (a_1, b_1), h => (z62p0ok a_1 b_1 a b _ h)
theorem z62l1Ethen (a b : Int) : ∀ (r : ((Int))) (J : St → Prop) (K : KT), z62l1E a b r K → z62l1E a b r (thenK J K)
  | s, _, _, h => h
def z62p1S (a_3 : Int) : St := { tm := [sv 0 (.c (.lit (.int .u64 a_3)))], hp := [], nx := 0 }
noncomputable def ref1_gcd_p1 (a_3 : Int) : Option (Int) := (some a_3)
theorem z62p1ok (a_3 : Int) (K : KT) (h : W (ref1_gcd_p1 a_3) (rE z62R K)) : EvL Try.prog 12 (List.drop 2 z62i0) K (z62p1S a_3) :=
  EvL.pE mixed (lookC_ok (l := []) trivial) [4] 2 2 (.nf (X := fun K => wK K .ret (z62R a_3)) (fun K => by kernel_rfl) (⟨_, .refl _, h⟩))
def z62p2S (a b : Int) : St := { tm := [sv 0 (.c (.lit (.int .u64 a))), sv 1 (.c (.lit (.int .u64 b)))], hp := [], nx := 0 }
noncomputable def ref1_gcd_p2_g (a b : Int) (r : ((Int))) : Option (Int) := match r with | a_2 => (ref1_gcd_p1 a_2)
noncomputable def ref1_gcd_p2 (a b : Int) : Option (Int) := (fixL (ref1_gcd_l1 a b) (a, b)).bind (ref1_gcd_p2_g a b)
theorem z62p2at : List.drop 1 z62i0 = .block 0 (.loop (inside (inside (nthI z62i0 1)))) :: List.drop 2 z62i0 := by kernel_rfl
theorem z62p2k (a b : Int) (K : KT) : ∀ r : ((Int)), W (ref1_gcd_p2_g a b r) (rE z62R K) → z62l1E a b r (wK (blockK 0 (thenK (EvL Try.prog 12 (List.drop 2 z62i0) K) K)))
  | a_2, h => ⟨(z62p1S a_2), (.refl _), (z62p1ok a_2 _ h)⟩
theorem z62p2ok (a b : Int) (K : KT) (h : W (ref1_gcd_p2 a b) (rE z62R K)) : EvL Try.prog 12 (List.drop 1 z62i0) K (z62p2S a b) :=
  EvL.at_ z62p2at (EvL.cons_loop (EvOk.weak (EvOk.ent (.refl _) (EvOk.loopF (x := inside (inside (nthI z62i0 1))) (f := ref1_gcd_l1 a b) (emb := z62l1S a b) (E := z62l1E a b) (z62l1ok a b) (z62l1Ethen a b) (W_loop h (z62p2k a b K))))))
def z62p3S (a b : Int) : St := { tm := [sv 0 (.c (.lit (.int .u64 a))), sv 1 (.c (.lit (.int .u64 b)))], hp := [], nx := 0 }
noncomputable def ref1_gcd_p3 (a b : Int) : Option (Int) := (ref1_gcd_p2 a b)
theorem z62p3ok (a b : Int) (K : KT) (h : W (ref1_gcd_p3 a b) (rE z62R K)) : EvL Try.prog 12 (List.drop 0 z62i0) K (z62p3S a b) :=
  EvL.pD mixed (lookC_ok (l := []) trivial) [0, 1] 0 1 1 (.nf (X := fun K => wK K .normal (z62p2S a b)) (fun K => by kernel_rfl) (⟨_, .refl _, (z62p2ok a b _ h)⟩))
noncomputable def ref1_gcd (a b : Int) : Option (Int) := ref1_gcd_p3 a b
theorem z62run (a b : Int) (y_ : Int) (h : ref1_gcd a b = some y_) : EvL Try.prog 12 (items (bodyOf Try.f62)) (retK Try.prog [.tmp 4] (OutOk (ref1_gcd_out y_))) (z62p3S a b) :=
  z62p3ok a b _ (W_iff.2 ⟨y_, h, z62Rok y_⟩)
noncomputable def ref1_gcd_C : Con
  | [(.c (.lit (.int .u64 a1))), (.c (.lit (.int .u64 a2)))] => some ([(ref1_gcd a1 a2).isSome = true], (ref1_gcd_out ((ref1_gcd a1 a2).getD (0 : Int))))
  | _ => none
theorem ref1_gcd_ok : Meets Try.prog 62 ref1_gcd_C := by
  refine meets_fun (fn := Try.f62) (c := bodyOf Try.f62) (by kernel_rfl) (by kernel_rfl) (by kernel_rfl) (rs := [.tmp 4]) (by kernel_rfl) (nt := 12) (by kernel_rfl) fun vs p out h hp => ?_
  unfold ref1_gcd_C at h
  split at h
  · next a1 a2 =>
    cases h
    obtain ⟨g, hp⟩ := allq hp
    obtain ⟨x, hx⟩ := Option.isSome_iff_exists.1 g
    rw [hx]
    exact ⟨[(.c (.lit (.int .u64 a1))), (.c (.lit (.int .u64 a2)))], (VLes.cons (VLe.rfl' _) (VLes.cons (VLe.rfl' _) VLes.nil)), rfl, z62run a1 a2 x hx⟩
  · cases h

noncomputable def z47i0 : List Code := items (bodyOf Try.f47)
def ref1_lowest_out (x_1 : (GFraction × Int)) : Out := .data (.tup [(.agg [(i64 x_1.1.Num), (i64 x_1.1.Den)]), (i64 x_1.2)])
def z47R (x_1 : (GFraction × Int)) : St := { tm := [sv 6 (.ptr 0 2 0 0), sv 7 (i64 x_1.2)], hp := [(0, some (.box [(i64 x_1.1.Num), (i64 x_1.1.Den)]))], nx := 1 }
theorem z47Rok (x_1 : (GFraction × Int)) : retK Try.prog [.cell 6 51, .tmp 7] (OutOk (ref1_lowest_out x_1)) .ret (z47R x_1) :=
  retK.intro (v := (.tup [(.agg [(i64 x_1.1.Num), (i64 x_1.1.Den)]), (i64 x_1.2)])) (by kernel_rfl) (VLe.tup (VLes.cons (VLe.rfl' _) (VLes.cons (VLe.rfl' _) (VLes.nil))))
def z47p0S (negative : Bool) (n : GPensionref1_wide) (d_1 : Int) : St := { tm := [sv 0 (bl negative), sv 1 (.ag (eGPensionref1_wide n)), sv 2 (.c (.lit (.int .u64 d_1)))], hp := [], nx := 0 }
noncomputable def ref1_lowest_p0 (negative : Bool) (n : GPensionref1_wide) (d_1 : Int) : Option ((GFraction × Int)) := (ref1_wide_over n d_1).bind fun r_1 => ((ref1_gcd d_1 r_1.2).bind fun r_2 => ((ref1_wide_over n r_2).bind fun r_3 => (gd (r_2 ≠ (0 : Int)) ((bif (bif (bif (r_3.1.hi != (0 : Int)) then true else (decide ((1000000000000000 : Int) < r_3.1.lo))) then true else (decide ((1000000000 : Int) < (IntKind.u64.wrap (Int.tdiv d_1 r_2))))) then (some ((GFraction.mk (0 : Int) (0 : Int)), (2 : Int))) else (bif negative then (some ((GFraction.mk (w64 ((0 : Int) - (w64 r_3.1.lo))) (w64 (IntKind.u64.wrap (Int.tdiv d_1 r_2)))), (0 : Int))) else (some ((GFraction.mk (w64 r_3.1.lo) (w64 (IntKind.u64.wrap (Int.tdiv d_1 r_2)))), (0 : Int)))))))))
theorem z47p0ok (negative : Bool) (n : GPensionref1_wide) (d_1 : Int) (K : KT) (h : W (ref1_lowest_p0 negative n d_1) (rE z47R K)) : EvL Try.prog 55 (List.drop 0 z47i0) K (z47p0S negative n d_1) :=
  EvL.pE mixed (lookC_ok (l := [(62, .pure ref1_gcd_C), (63, .pure ref1_wide_over_C)]) ⟨ref1_gcd_ok, ref1_wide_over_ok, trivial⟩) [6, 7] 0 12 (.nf (X := fun K => ((ref1_wide_over n d_1).isSome = true) ∧ (((ref1_gcd d_1 (((ref1_wide_over n d_1).getD (zGPensionref1_wide, (0 : Int))).2)).isSome = true) ∧ (((ref1_wide_over n ((ref1_gcd d_1 (((ref1_wide_over n d_1).getD (zGPensionref1_wide, (0 : Int))).2)).getD (0 : Int))).isSome = true) ∧ ((((ref1_gcd d_1 (((ref1_wide_over n d_1).getD (zGPensionref1_wide, (0 : Int))).2)).getD (0 : Int)) ≠ (0 : Int)) ∧ ((bif (bif (bif ((((ref1_wide_over n ((ref1_gcd d_1 (((ref1_wide_over n d_1).getD (zGPensionref1_wide, (0 : Int))).2)).getD (0 : Int))).getD (zGPensionref1_wide, (0 : Int))).1).hi != (0 : Int)) then true else (decide ((1000000000000000 : Int) < (((ref1_wide_over n ((ref1_gcd d_1 (((ref1_wide_over n d_1).getD (zGPensionref1_wide, (0 : Int))).2)).getD (0 : Int))).getD (zGPensionref1_wide, (0 : Int))).1).lo))) then true else (decide ((1000000000 : Int) < (IntKind.u64.wrap (Int.tdiv d_1 ((ref1_gcd d_1 (((ref1_wide_over n d_1).getD (zGPensionref1_wide, (0 : Int))).2)).getD (0 : Int))))))) then wK K .ret (z47R ((GFraction.mk (0 : Int) (0 : Int)), (2 : Int))) else (bif negative then wK K .ret (z47R ((GFraction.mk (w64 ((0 : Int) - (w64 (((ref1_wide_over n ((ref1_gcd d_1 (((ref1_wide_over n d_1).getD (zGPensionref1_wide, (0 : Int))).2)).getD (0 : Int))).getD (zGPensionref1_wide, (0 : Int))).1).lo))) (w64 (IntKind.u64.wrap (Int.tdiv d_1 ((ref1_gcd d_1 (((ref1_wide_over n d_1).getD (zGPensionref1_wide, (0 : Int))).2)).getD (0 : Int)))))), (0 : Int))) else wK K .ret (z47R ((GFraction.mk (w64 (((ref1_wide_over n ((ref1_gcd d_1 (((ref1_wide_over n d_1).getD (zGPensionref1_wide, (0 : Int))).2)).getD (0 : Int))).getD (zGPensionref1_wide, (0 : Int))).1).lo) (w64 (IntKind.u64.wrap (Int.tdiv d_1 ((ref1_gcd d_1 (((ref1_wide_over n d_1).getD (zGPensionref1_wide, (0 : Int))).2)).getD (0 : Int)))))), (0 : Int)))))))))) (fun K => by kernel_rfl) (W_bind (zGPensionref1_wide, (0 : Int)) h fun hp0 h => (W_bind (0 : Int) h fun hp1 h => (W_bind (zGPensionref1_wide, (0 : Int)) h fun hp2 h => (W_gd h fun hp3 h => (W_bif h (fun _ h => ⟨_, .refl _, h⟩) (fun _ h => (W_bif h (fun _ h => ⟨_, .refl _, h⟩) (fun _ h => ⟨_, .refl _, h⟩)))))))))
noncomputable def ref1_lowest (negative : Bool) (n : GPensionref1_wide) (d_1 : Int) : Option ((GFraction × Int)) := ref1_lowest_p0 negative n d_1
theorem z47run (negative : Bool) (n : GPensionref1_wide) (d_1 : Int) (y_ : (GFraction × Int)) (h : ref1_lowest negative n d_1 = some y_) : EvL Try.prog 55 (items (bodyOf Try.f47)) (retK Try.prog [.cell 6 51, .tmp 7] (OutOk (ref1_lowest_out y_))) (z47p0S negative n d_1) :=
  z47p0ok negative n d_1 _ (W_iff.2 ⟨y_, h, z47Rok y_⟩)
noncomputable def ref1_lowest_C : Con
  | [(.c (.lit (.bool a1))), (.agg [(.c (.lit (.int .u64 a2))), (.c (.lit (.int .u64 a3)))]), (.c (.lit (.int .u64 a4)))] => some ([(ref1_lowest a1 (GPensionref1_wide.mk a2 a3) a4).isSome = true], (ref1_lowest_out ((ref1_lowest a1 (GPensionref1_wide.mk a2 a3) a4).getD (zGFraction, (0 : Int)))))
  | _ => none
theorem ref1_lowest_ok : Meets Try.prog 47 ref1_lowest_C := by
  refine meets_fun (fn := Try.f47) (c := bodyOf Try.f47) (by kernel_rfl) (by kernel_rfl) (by kernel_rfl) (rs := [.cell 6 51, .tmp 7]) (by kernel_rfl) (nt := 55) (by kernel_rfl) fun vs p out h hp => ?_
  unfold ref1_lowest_C at h
  split at h
  · next a1 a2 a3 a4 =>
    cases h
    obtain ⟨g, hp⟩ := allq hp
    obtain ⟨x, hx⟩ := Option.isSome_iff_exists.1 g
    rw [hx]
    exact ⟨[(bl a1), (.agg [(.c (.lit (.int .u64 (GPensionref1_wide.mk a2 a3).hi))), (.c (.lit (.int .u64 (GPensionref1_wide.mk a2 a3).lo)))]), (.c (.lit (.int .u64 a4)))], (VLes.cons (VLe.rfl' _) (VLes.cons (VLe.rfl' _) (VLes.cons (VLe.rfl' _) VLes.nil))), rfl, z47run a1 (GPensionref1_wide.mk a2 a3) a4 x hx⟩
  · cases h

noncomputable def z29i0 : List Code := items (bodyOf Try.f29)
def ref1_MakeFraction_out (x_1 : (GFraction × Int)) : Out := .data (.tup [(.agg [(i64 x_1.1.Num), (i64 x_1.1.Den)]), (i64 x_1.2)])
def z29R (x_1 : (GFraction × Int)) : St := { tm := [sv 4 (.ptr 0 2 0 0), sv 5 (i64 x_1.2)], hp := [(0, some (.box [(i64 x_1.1.Num), (i64 x_1.1.Den)]))], nx := 1 }
theorem z29Rok (x_1 : (GFraction × Int)) : retK Try.prog [.cell 4 51, .tmp 5] (OutOk (ref1_MakeFraction_out x_1)) .ret (z29R x_1) :=
  retK.intro (v := (.tup [(.agg [(i64 x_1.1.Num), (i64 x_1.1.Den)]), (i64 x_1.2)])) (by kernel_rfl) (VLe.tup (VLes.cons (VLe.rfl' _) (VLes.cons (VLe.rfl' _) (VLes.nil))))
def z29p0S (num den : Int) : St := { tm := [sv 0 (i64 num), sv 1 (i64 den)], hp := [], nx := 0 }
noncomputable def ref1_MakeFraction_p0 (num den : Int) : Option ((GFraction × Int)) := (bif (den == (0 : Int)) then (some ((GFraction.mk (0 : Int) (0 : Int)), (3 : Int))) else (ref1_size num).bind fun r_1 => ((ref1_size den).bind fun r_2 => ((ref1_lowest (!((decide (num < (0 : Int))) == (decide (den < (0 : Int))))) (GPensionref1_wide.mk (0 : Int) r_1) r_2).bind fun r_3 => ((some (r_3.1, r_3.2))))))
theorem z29p0ok (num den : Int) (K : KT) (h : W (ref1_MakeFraction_p0 num den) (rE z29R K)) : EvL Try.prog 22 (List.drop 0 z29i0) K (z29p0S num den) :=
  EvL.pE mixed (lookC_ok (l := [(46, .pure ref1_size_C), (47, .pure ref1_lowest_C)]) ⟨ref1_size_ok, ref1_lowest_ok, trivial⟩) [4, 5] 0 5 (.nf (X := fun K => (bif (den == (0 : Int)) then wK K .ret (z29R ((GFraction.mk (0 : Int) (0 : Int)), (3 : Int))) else ((ref1_size num).isSome = true) ∧ ((ref1_size den).isSome = true) ∧ ((ref1_lowest (!((decide (num < (0 : Int))) == (decide (den < (0 : Int))))) (GPensionref1_wide.mk (0 : Int) ((ref1_size num).getD (0 : Int))) ((ref1_size den).getD (0 : Int))).isSome = true) ∧ (wK K .ret (z29R (((ref1_lowest (!((decide (num < (0 : Int))) == (decide (den < (0 : Int))))) (GPensionref1_wide.mk (0 : Int) ((ref1_size num).getD (0 : Int))) ((ref1_size den).getD (0 : Int))).getD (zGFraction, (0 : Int))).1, ((ref1_lowest (!((decide (num < (0 : Int))) == (decide (den < (0 : Int))))) (GPensionref1_wide.mk (0 : Int) ((ref1_size num).getD (0 : Int))) ((ref1_size den).getD (0 : Int))).getD (zGFraction, (0 : Int))).2))))) (fun K => by kernel_rfl) (W_bif h (fun _ h => ⟨_, .refl _, h⟩) (fun _ h => (W_bind (0 : Int) h fun hp0 h => (W_bind (0 : Int) h fun hp1 h => (W_bind (zGFraction, (0 : Int)) h fun hp2 h => ⟨_, .refl _, h⟩))))))
noncomputable def ref1_MakeFraction (num den : Int) : Option ((GFraction × Int)) := ref1_MakeFraction_p0 num den
theorem z29run (num den : Int) (y_ : (GFraction × Int)) (h : ref1_MakeFraction num den = some y_) : EvL Try.prog 22 (items (bodyOf Try.f29)) (retK Try.prog [.cell 4 51, .tmp 5] (OutOk (ref1_MakeFraction_out y_))) (z29p0S num den) :=
  z29p0ok num den _ (W_iff.2 ⟨y_, h, z29Rok y_⟩)
noncomputable def ref1_MakeFraction_C : Con
  | [(.c (.lit (.int .i64 a1))), (.c (.lit (.int .i64 a2)))] => some ([(ref1_MakeFraction a1 a2).isSome = true], (ref1_MakeFraction_out ((ref1_MakeFraction a1 a2).getD (zGFraction, (0 : Int)))))
  | _ => none
theorem ref1_MakeFraction_ok : Meets Try.prog 29 ref1_MakeFraction_C := by
  refine meets_fun (fn := Try.f29) (c := bodyOf Try.f29) (by kernel_rfl) (by kernel_rfl) (by kernel_rfl) (rs := [.cell 4 51, .tmp 5]) (by kernel_rfl) (nt := 22) (by kernel_rfl) fun vs p out h hp => ?_
  unfold ref1_MakeFraction_C at h
  split at h
  · next a1 a2 =>
    cases h
    obtain ⟨g, hp⟩ := allq hp
    obtain ⟨x, hx⟩ := Option.isSome_iff_exists.1 g
    rw [hx]
    exact ⟨[(i64 a1), (i64 a2)], (VLes.cons (VLe.rfl' _) (VLes.cons (VLe.rfl' _) VLes.nil)), rfl, z29run a1 a2 x hx⟩
  · cases h

noncomputable def z61i0 : List Code := items (bodyOf Try.f61)
def ref21_down_out (x_1 : GRounding) : Out := .data (.agg [(i64 x_1.Mode), (i64 x_1.Unit)])
def z61R (x_1 : GRounding) : St := { tm := [sv 0 (.ptr 0 2 0 0)], hp := [(0, some (.box [(i64 x_1.Mode), (i64 x_1.Unit)]))], nx := 1 }
theorem z61Rok (x_1 : GRounding) : retK Try.prog [.cell 0 61] (OutOk (ref21_down_out x_1)) .ret (z61R x_1) :=
  retK.intro (v := (.agg [(i64 x_1.Mode), (i64 x_1.Unit)])) (by kernel_rfl) ((VLe.rfl' _))
def z61p0S : St := { tm := [], hp := [], nx := 0 }
noncomputable def ref21_down_p0 : Option (GRounding) := (some (GRounding.mk (1 : Int) (1 : Int)))
theorem z61p0ok (K : KT) (h : W (ref21_down_p0) (rE z61R K)) : EvL Try.prog 2 (List.drop 0 z61i0) K (z61p0S) :=
  EvL.pE mixed (lookC_ok (l := []) trivial) [0] 0 3 (.nf (X := fun K => wK K .ret (z61R (GRounding.mk (1 : Int) (1 : Int)))) (fun K => by kernel_rfl) (⟨_, .refl _, h⟩))
noncomputable def ref21_down : Option (GRounding) := ref21_down_p0
theorem z61run (y_ : GRounding) (h : ref21_down = some y_) : EvL Try.prog 2 (items (bodyOf Try.f61)) (retK Try.prog [.cell 0 61] (OutOk (ref21_down_out y_))) (z61p0S) :=
  z61p0ok _ (W_iff.2 ⟨y_, h, z61Rok y_⟩)
noncomputable def ref21_down_C : Con
  | [] => some ([(ref21_down).isSome = true], (ref21_down_out ((ref21_down).getD zGRounding)))
  | _ => none
theorem ref21_down_ok : Meets Try.prog 61 ref21_down_C := by
  refine meets_fun (fn := Try.f61) (c := bodyOf Try.f61) (by kernel_rfl) (by kernel_rfl) (by kernel_rfl) (rs := [.cell 0 61]) (by kernel_rfl) (nt := 2) (by kernel_rfl) fun vs p out h hp => ?_
  unfold ref21_down_C at h
  split at h
  ·
    cases h
    obtain ⟨g, hp⟩ := allq hp
    obtain ⟨x, hx⟩ := Option.isSome_iff_exists.1 g
    rw [hx]
    exact ⟨[], VLes.nil, rfl, z61run x hx⟩
  · cases h

noncomputable def z69i0 : List Code := items (bodyOf Try.f69)
def ref1_ValidAmount_out (x_1 : Bool) : Out := .data (bl x_1)
def z69R (x_1 : Bool) : St := { tm := [sv 2 (bl x_1)], hp := [], nx := 0 }
theorem z69Rok (x_1 : Bool) : retK Try.prog [.tmp 2] (OutOk (ref1_ValidAmount_out x_1)) .ret (z69R x_1) :=
  retK.intro (v := (bl x_1)) (by kernel_rfl) ((VLe.rfl' _))
def z69p0S (n : Int) : St := { tm := [sv 0 (i64 n)], hp := [], nx := 0 }
noncomputable def ref1_ValidAmount_p0 (n : Int) : Option (Bool) := (some (bif (decide ((-1000000000000 : Int) ≤ n)) then (decide (n ≤ (1000000000000 : Int))) else false))
theorem z69p0ok (n : Int) (K : KT) (h : W (ref1_ValidAmount_p0 n) (rE z69R K)) : EvL Try.prog 9 (List.drop 0 z69i0) K (z69p0S n) :=
  EvL.pE mixed (lookC_ok (l := []) trivial) [2] 0 3 (.nf (X := fun K => wK K .ret (z69R (bif (decide ((-1000000000000 : Int) ≤ n)) then (decide (n ≤ (1000000000000 : Int))) else false))) (fun K => by kernel_rfl) (⟨_, .refl _, h⟩))
noncomputable def ref1_ValidAmount (n : Int) : Option (Bool) := ref1_ValidAmount_p0 n
theorem z69run (n : Int) (y_ : Bool) (h : ref1_ValidAmount n = some y_) : EvL Try.prog 9 (items (bodyOf Try.f69)) (retK Try.prog [.tmp 2] (OutOk (ref1_ValidAmount_out y_))) (z69p0S n) :=
  z69p0ok n _ (W_iff.2 ⟨y_, h, z69Rok y_⟩)
noncomputable def ref1_ValidAmount_C : Con
  | [(.c (.lit (.int .i64 a1)))] => some ([(ref1_ValidAmount a1).isSome = true], (ref1_ValidAmount_out ((ref1_ValidAmount a1).getD false)))
  | _ => none
theorem ref1_ValidAmount_ok : Meets Try.prog 69 ref1_ValidAmount_C := by
  refine meets_fun (fn := Try.f69) (c := bodyOf Try.f69) (by kernel_rfl) (by kernel_rfl) (by kernel_rfl) (rs := [.tmp 2]) (by kernel_rfl) (nt := 9) (by kernel_rfl) fun vs p out h hp => ?_
  unfold ref1_ValidAmount_C at h
  split at h
  · next a1 =>
    cases h
    obtain ⟨g, hp⟩ := allq hp
    obtain ⟨x, hx⟩ := Option.isSome_iff_exists.1 g
    rw [hx]
    exact ⟨[(i64 a1)], (VLes.cons (VLe.rfl' _) VLes.nil), rfl, z69run a1 x hx⟩
  · cases h

noncomputable def z44i0 : List Code := items (bodyOf Try.f44)
def ref1_ValidFraction_out (x_1 : Bool) : Out := .data (bl x_1)
def z44R (x_1 : Bool) : St := { tm := [sv 2 (bl x_1)], hp := [], nx := 0 }
theorem z44Rok (x_1 : Bool) : retK Try.prog [.tmp 2] (OutOk (ref1_ValidFraction_out x_1)) .ret (z44R x_1) :=
  retK.intro (v := (bl x_1)) (by kernel_rfl) ((VLe.rfl' _))
def z44p0S (f : GFraction) : St := { tm := [sv 0 (.ag (eGFraction f))], hp := [], nx := 0 }
noncomputable def ref1_ValidFraction_p0 (f : GFraction) : Option (Bool) := gd (((bif (bif (bif (decide ((1 : Int) ≤ f.Den)) then (decide (f.Den ≤ (1000000000 : Int))) else false) then (decide ((-1000000000000000 : Int) ≤ f.Num)) else false) then (decide (f.Num ≤ (1000000000000000 : Int))) else false) && true) = true → (ref1_size f.Num).isSome = true) (gd (((bif (bif (bif (decide ((1 : Int) ≤ f.Den)) then (decide (f.Den ≤ (1000000000 : Int))) else false) then (decide ((-1000000000000000 : Int) ≤ f.Num)) else false) then (decide (f.Num ≤ (1000000000000000 : Int))) else false) && true) = true → (ref1_gcd ((ref1_size f.Num).getD (0 : Int)) (IntKind.u64.wrap f.Den)).isSome = true) ((some (bif (bif (bif (bif (decide ((1 : Int) ≤ f.Den)) then (decide (f.Den ≤ (1000000000 : Int))) else false) then (decide ((-1000000000000000 : Int) ≤ f.Num)) else false) then (decide (f.Num ≤ (1000000000000000 : Int))) else false) then (((ref1_gcd ((ref1_size f.Num).getD (0 : Int)) (IntKind.u64.wrap f.Den)).getD (0 : Int)) == (1 : Int)) else false))))
theorem z44p0ok (f : GFraction) (K : KT) (h : W (ref1_ValidFraction_p0 f) (rE z44R K)) : EvL Try.prog 31 (List.drop 0 z44i0) K (z44p0S f) :=
  EvL.pE mixed (lookC_ok (l := [(46, .pure ref1_size_C), (62, .pure ref1_gcd_C)]) ⟨ref1_size_ok, ref1_gcd_ok, trivial⟩) [2] 0 3 (.nf (X := fun K => (((bif (bif (bif (decide ((1 : Int) ≤ f.Den)) then (decide (f.Den ≤ (1000000000 : Int))) else false) then (decide ((-1000000000000000 : Int) ≤ f.Num)) else false) then (decide (f.Num ≤ (1000000000000000 : Int))) else false) && true) = true → (ref1_size f.Num).isSome = true) ∧ (((bif (bif (bif (decide ((1 : Int) ≤ f.Den)) then (decide (f.Den ≤ (1000000000 : Int))) else false) then (decide ((-1000000000000000 : Int) ≤ f.Num)) else false) then (decide (f.Num ≤ (1000000000000000 : Int))) else false) && true) = true → (ref1_gcd ((ref1_size f.Num).getD (0 : Int)) (IntKind.u64.wrap f.Den)).isSome = true) ∧ (wK K .ret (z44R (bif (bif (bif (bif (decide ((1 : Int) ≤ f.Den)) then (decide (f.Den ≤ (1000000000 : Int))) else false) then (decide ((-1000000000000000 : Int) ≤ f.Num)) else false) then (decide (f.Num ≤ (1000000000000000 : Int))) else false) then (((ref1_gcd ((ref1_size f.Num).getD (0 : Int)) (IntKind.u64.wrap f.Den)).getD (0 : Int)) == (1 : Int)) else false)))) (fun K => by kernel_rfl) (W_gd h fun hp0 h => (W_gd h fun hp1 h => ⟨_, .refl _, h⟩)))
noncomputable def ref1_ValidFraction (f : GFraction) : Option (Bool) := ref1_ValidFraction_p0 f
theorem z44run (f : GFraction) (y_ : Bool) (h : ref1_ValidFraction f = some y_) : EvL Try.prog 31 (items (bodyOf Try.f44)) (retK Try.prog [.tmp 2] (OutOk (ref1_ValidFraction_out y_))) (z44p0S f) :=
  z44p0ok f _ (W_iff.2 ⟨y_, h, z44Rok y_⟩)
noncomputable def ref1_ValidFraction_C : Con
  | [(.agg [(.c (.lit (.int .i64 a1))), (.c (.lit (.int .i64 a2)))])] => some ([(ref1_ValidFraction (GFraction.mk a1 a2)).isSome = true], (ref1_ValidFraction_out ((ref1_ValidFraction (GFraction.mk a1 a2)).getD false)))
  | _ => none
theorem ref1_ValidFraction_ok : Meets Try.prog 44 ref1_ValidFraction_C := by
  refine meets_fun (fn := Try.f44) (c := bodyOf Try.f44) (by kernel_rfl) (by kernel_rfl) (by kernel_rfl) (rs := [.tmp 2]) (by kernel_rfl) (nt := 31) (by kernel_rfl) fun vs p out h hp => ?_
  unfold ref1_ValidFraction_C at h
  split at h
  · next a1 a2 =>
    cases h
    obtain ⟨g, hp⟩ := allq hp
    obtain ⟨x, hx⟩ := Option.isSome_iff_exists.1 g
    rw [hx]
    exact ⟨[(.agg [(i64 (GFraction.mk a1 a2).Num), (i64 (GFraction.mk a1 a2).Den)])], (VLes.cons (VLe.rfl' _) VLes.nil), rfl, z44run (GFraction.mk a1 a2) x hx⟩
  · cases h

noncomputable def z70i0 : List Code := items (bodyOf Try.f70)
def ref1_ValidRounding_out (x_1 : Bool) : Out := .data (bl x_1)
def z70R (x_1 : Bool) : St := { tm := [sv 2 (bl x_1)], hp := [], nx := 0 }
theorem z70Rok (x_1 : Bool) : retK Try.prog [.tmp 2] (OutOk (ref1_ValidRounding_out x_1)) .ret (z70R x_1) :=
  retK.intro (v := (bl x_1)) (by kernel_rfl) ((VLe.rfl' _))
def z70p0S (r_1 : GRounding) : St := { tm := [sv 0 (.ag (eGRounding r_1))], hp := [], nx := 0 }
noncomputable def ref1_ValidRounding_p0 (r_1 : GRounding) : Option (Bool) := (some (bif (bif (bif (decide ((1 : Int) ≤ r_1.Mode)) then (decide (r_1.Mode ≤ (4 : Int))) else false) then (decide ((1 : Int) ≤ r_1.Unit)) else false) then (decide (r_1.Unit ≤ (100000 : Int))) else false))
theorem z70p0ok (r_1 : GRounding) (K : KT) (h : W (ref1_ValidRounding_p0 r_1) (rE z70R K)) : EvL Try.prog 21 (List.drop 0 z70i0) K (z70p0S r_1) :=
  EvL.pE mixed (lookC_ok (l := []) trivial) [2] 0 3 (.nf (X := fun K => wK K .ret (z70R (bif (bif (bif (decide ((1 : Int) ≤ r_1.Mode)) then (decide (r_1.Mode ≤ (4 : Int))) else false) then (decide ((1 : Int) ≤ r_1.Unit)) else false) then (decide (r_1.Unit ≤ (100000 : Int))) else false))) (fun K => by kernel_rfl) (⟨_, .refl _, h⟩))
noncomputable def ref1_ValidRounding (r_1 : GRounding) : Option (Bool) := ref1_ValidRounding_p0 r_1
theorem z70run (r_1 : GRounding) (y_ : Bool) (h : ref1_ValidRounding r_1 = some y_) : EvL Try.prog 21 (items (bodyOf Try.f70)) (retK Try.prog [.tmp 2] (OutOk (ref1_ValidRounding_out y_))) (z70p0S r_1) :=
  z70p0ok r_1 _ (W_iff.2 ⟨y_, h, z70Rok y_⟩)
noncomputable def ref1_ValidRounding_C : Con
  | [(.agg [(.c (.lit (.int .i64 a1))), (.c (.lit (.int .i64 a2)))])] => some ([(ref1_ValidRounding (GRounding.mk a1 a2)).isSome = true], (ref1_ValidRounding_out ((ref1_ValidRounding (GRounding.mk a1 a2)).getD false)))
  | _ => none
theorem ref1_ValidRounding_ok : Meets Try.prog 70 ref1_ValidRounding_C := by
  refine meets_fun (fn := Try.f70) (c := bodyOf Try.f70) (by kernel_rfl) (by kernel_rfl) (by kernel_rfl) (rs := [.tmp 2]) (by kernel_rfl) (nt := 21) (by kernel_rfl) fun vs p out h hp => ?_
  unfold ref1_ValidRounding_C at h
  split at h
  · next a1 a2 =>
    cases h
    obtain ⟨g, hp⟩ := allq hp
    obtain ⟨x, hx⟩ := Option.isSome_iff_exists.1 g
    rw [hx]
    exact ⟨[(.agg [(i64 (GRounding.mk a1 a2).Mode), (i64 (GRounding.mk a1 a2).Unit)])], (VLes.cons (VLe.rfl' _) VLes.nil), rfl, z70run (GRounding.mk a1 a2) x hx⟩
  · cases h

noncomputable def z53i0 : List Code := items (bodyOf Try.f53)
def math_bits_Mul64_out (x_2 : (Int × Int)) : Out := .data (.tup [(.c (.lit (.int .u64 x_2.1))), (.c (.lit (.int .u64 x_2.2)))])
def z53R (x_2 : (Int × Int)) : St := { tm := [sv 4 (.c (.lit (.int .u64 x_2.1))), sv 5 (.c (.lit (.int .u64 x_2.2)))], hp := [], nx := 0 }
theorem z53Rok (x_2 : (Int × Int)) : retK Try.prog [.tmp 4, .tmp 5] (OutOk (math_bits_Mul64_out x_2)) .ret (z53R x_2) :=
  retK.intro (v := (.tup [(.c (.lit (.int .u64 x_2.1))), (.c (.lit (.int .u64 x_2.2)))])) (by kernel_rfl) (VLe.tup (VLes.cons (VLe.rfl' _) (VLes.cons (VLe.rfl' _) (VLes.nil))))
def z53p0S (x_1 y : Int) : St := { tm := [sv 0 (.c (.lit (.int .u64 x_1))), sv 1 (.c (.lit (.int .u64 y)))], hp := [], nx := 0 }
noncomputable def math_bits_Mul64_p0 (x_1 y : Int) : Option ((Int × Int)) := (some ((IntKind.u64.wrap ((IntKind.u64.wrap ((IntKind.u64.wrap ((Int.fdiv x_1 (2 ^ min (Int.toNat (32 : Int)) 64)) * (Int.fdiv y (2 ^ min (Int.toNat (32 : Int)) 64)))) + (Int.fdiv (IntKind.u64.wrap ((IntKind.u64.wrap ((Int.fdiv x_1 (2 ^ min (Int.toNat (32 : Int)) 64)) * (IntKind.u64.wrap (BitVec.ofInt 64 y &&& BitVec.ofInt 64 (4294967295 : Int)).toNat))) + (Int.fdiv (IntKind.u64.wrap ((IntKind.u64.wrap (BitVec.ofInt 64 x_1 &&& BitVec.ofInt 64 (4294967295 : Int)).toNat) * (IntKind.u64.wrap (BitVec.ofInt 64 y &&& BitVec.ofInt 64 (4294967295 : Int)).toNat))) (2 ^ min (Int.toNat (32 : Int)) 64)))) (2 ^ min (Int.toNat (32 : Int)) 64)))) + (Int.fdiv (IntKind.u64.wrap ((IntKind.u64.wrap (BitVec.ofInt 64 (IntKind.u64.wrap ((IntKind.u64.wrap ((Int.fdiv x_1 (2 ^ min (Int.toNat (32 : Int)) 64)) * (IntKind.u64.wrap (BitVec.ofInt 64 y &&& BitVec.ofInt 64 (4294967295 : Int)).toNat))) + (Int.fdiv (IntKind.u64.wrap ((IntKind.u64.wrap (BitVec.ofInt 64 x_1 &&& BitVec.ofInt 64 (4294967295 : Int)).toNat) * (IntKind.u64.wrap (BitVec.ofInt 64 y &&& BitVec.ofInt 64 (4294967295 : Int)).toNat))) (2 ^ min (Int.toNat (32 : Int)) 64)))) &&& BitVec.ofInt 64 (4294967295 : Int)).toNat) + (IntKind.u64.wrap ((IntKind.u64.wrap (BitVec.ofInt 64 x_1 &&& BitVec.ofInt 64 (4294967295 : Int)).toNat) * (Int.fdiv y (2 ^ min (Int.toNat (32 : Int)) 64)))))) (2 ^ min (Int.toNat (32 : Int)) 64)))), (IntKind.u64.wrap (x_1 * y))))
theorem z53p0ok (x_1 y : Int) (K : KT) (h : W (math_bits_Mul64_p0 x_1 y) (rE z53R K)) : EvL Try.prog 51 (List.drop 0 z53i0) K (z53p0S x_1 y) :=
  EvL.pE mixed (lookC_ok (l := []) trivial) [4, 5] 0 13 (.nf (X := fun K => ((0 : Int) ≤ (32 : Int)) ∧ (((0 : Int) ≤ (32 : Int)) ∧ (((0 : Int) ≤ (32 : Int)) ∧ (((0 : Int) ≤ (32 : Int)) ∧ (((0 : Int) ≤ (32 : Int)) ∧ (wK K .ret (z53R ((IntKind.u64.wrap ((IntKind.u64.wrap ((IntKind.u64.wrap ((Int.fdiv x_1 (2 ^ min (Int.toNat (32 : Int)) 64)) * (Int.fdiv y (2 ^ min (Int.toNat (32 : Int)) 64)))) + (Int.fdiv (IntKind.u64.wrap ((IntKind.u64.wrap ((Int.fdiv x_1 (2 ^ min (Int.toNat (32 : Int)) 64)) * (IntKind.u64.wrap (BitVec.ofInt 64 y &&& BitVec.ofInt 64 (4294967295 : Int)).toNat))) + (Int.fdiv (IntKind.u64.wrap ((IntKind.u64.wrap (BitVec.ofInt 64 x_1 &&& BitVec.ofInt 64 (4294967295 : Int)).toNat) * (IntKind.u64.wrap (BitVec.ofInt 64 y &&& BitVec.ofInt 64 (4294967295 : Int)).toNat))) (2 ^ min (Int.toNat (32 : Int)) 64)))) (2 ^ min (Int.toNat (32 : Int)) 64)))) + (Int.fdiv (IntKind.u64.wrap ((IntKind.u64.wrap (BitVec.ofInt 64 (IntKind.u64.wrap ((IntKind.u64.wrap ((Int.fdiv x_1 (2 ^ min (Int.toNat (32 : Int)) 64)) * (IntKind.u64.wrap (BitVec.ofInt 64 y &&& BitVec.ofInt 64 (4294967295 : Int)).toNat))) + (Int.fdiv (IntKind.u64.wrap ((IntKind.u64.wrap (BitVec.ofInt 64 x_1 &&& BitVec.ofInt 64 (4294967295 : Int)).toNat) * (IntKind.u64.wrap (BitVec.ofInt 64 y &&& BitVec.ofInt 64 (4294967295 : Int)).toNat))) (2 ^ min (Int.toNat (32 : Int)) 64)))) &&& BitVec.ofInt 64 (4294967295 : Int)).toNat) + (IntKind.u64.wrap ((IntKind.u64.wrap (BitVec.ofInt 64 x_1 &&& BitVec.ofInt 64 (4294967295 : Int)).toNat) * (Int.fdiv y (2 ^ min (Int.toNat (32 : Int)) 64)))))) (2 ^ min (Int.toNat (32 : Int)) 64)))), (IntKind.u64.wrap (x_1 * y)))))))))) (fun K => by kernel_rfl) (⟨(by decide), ⟨(by decide), ⟨(by decide), ⟨(by decide), ⟨(by decide), ⟨_, .refl _, h⟩⟩⟩⟩⟩⟩))
noncomputable def math_bits_Mul64 (x_1 y : Int) : Option ((Int × Int)) := math_bits_Mul64_p0 x_1 y
theorem z53run (x_1 y : Int) (y_ : (Int × Int)) (h : math_bits_Mul64 x_1 y = some y_) : EvL Try.prog 51 (items (bodyOf Try.f53)) (retK Try.prog [.tmp 4, .tmp 5] (OutOk (math_bits_Mul64_out y_))) (z53p0S x_1 y) :=
  z53p0ok x_1 y _ (W_iff.2 ⟨y_, h, z53Rok y_⟩)
noncomputable def math_bits_Mul64_C : Con
  | [(.c (.lit (.int .u64 a1))), (.c (.lit (.int .u64 a2)))] => some ([(math_bits_Mul64 a1 a2).isSome = true], (math_bits_Mul64_out ((math_bits_Mul64 a1 a2).getD ((0 : Int), (0 : Int)))))
  | _ => none
theorem math_bits_Mul64_ok : Meets Try.prog 53 math_bits_Mul64_C := by
  refine meets_fun (fn := Try.f53) (c := bodyOf Try.f53) (by kernel_rfl) (by kernel_rfl) (by kernel_rfl) (rs := [.tmp 4, .tmp 5]) (by kernel_rfl) (nt := 51) (by kernel_rfl) fun vs p out h hp => ?_
  unfold math_bits_Mul64_C at h
  split at h
  · next a1 a2 =>
    cases h
    obtain ⟨g, hp⟩ := allq hp
    obtain ⟨x, hx⟩ := Option.isSome_iff_exists.1 g
    rw [hx]
    exact ⟨[(.c (.lit (.int .u64 a1))), (.c (.lit (.int .u64 a2)))], (VLes.cons (VLe.rfl' _) (VLes.cons (VLe.rfl' _) VLes.nil)), rfl, z53run a1 a2 x hx⟩
  · cases h

noncomputable def z45i0 : List Code := items (bodyOf Try.f45)
def ref1_times_out (x_1 : GPensionref1_wide) : Out := .data (.agg [(.c (.lit (.int .u64 x_1.hi))), (.c (.lit (.int .u64 x_1.lo)))])
def z45R (x_1 : GPensionref1_wide) : St := { tm := [sv 4 (.ptr 0 2 0 0)], hp := [(0, some (.box [(.c (.lit (.int .u64 x_1.hi))), (.c (.lit (.int .u64 x_1.lo)))]))], nx := 1 }
theorem z45Rok (x_1 : GPensionref1_wide) : retK Try.prog [.cell 4 83] (OutOk (ref1_times_out x_1)) .ret (z45R x_1) :=
  retK.intro (v := (.agg [(.c (.lit (.int .u64 x_1.hi))), (.c (.lit (.int .u64 x_1.lo)))])) (by kernel_rfl) ((VLe.rfl' _))
def z45p0S (a b : Int) : St := { tm := [sv 0 (.c (.lit (.int .u64 a))), sv 1 (.c (.lit (.int .u64 b)))], hp := [], nx := 0 }
noncomputable def ref1_times_p0 (a b : Int) : Option (GPensionref1_wide) := (math_bits_Mul64 a b).bind fun r_1 => ((some (GPensionref1_wide.mk r_1.1 r_1.2)))
theorem z45p0ok (a b : Int) (K : KT) (h : W (ref1_times_p0 a b) (rE z45R K)) : EvL Try.prog 16 (List.drop 0 z45i0) K (z45p0S a b) :=
  EvL.pE mixed (lookC_ok (l := [(53, .pure math_bits_Mul64_C)]) ⟨math_bits_Mul64_ok, trivial⟩) [4] 0 4 (.nf (X := fun K => ((math_bits_Mul64 a b).isSome = true) ∧ (wK K .ret (z45R (GPensionref1_wide.mk ((math_bits_Mul64 a b).getD ((0 : Int), (0 : Int))).1 ((math_bits_Mul64 a b).getD ((0 : Int), (0 : Int))).2)))) (fun K => by kernel_rfl) (W_bind ((0 : Int), (0 : Int)) h fun hp0 h => ⟨_, .refl _, h⟩))
noncomputable def ref1_times (a b : Int) : Option (GPensionref1_wide) := ref1_times_p0 a b
theorem z45run (a b : Int) (y_ : GPensionref1_wide) (h : ref1_times a b = some y_) : EvL Try.prog 16 (items (bodyOf Try.f45)) (retK Try.prog [.cell 4 83] (OutOk (ref1_times_out y_))) (z45p0S a b) :=
  z45p0ok a b _ (W_iff.2 ⟨y_, h, z45Rok y_⟩)
noncomputable def ref1_times_C : Con
  | [(.c (.lit (.int .u64 a1))), (.c (.lit (.int .u64 a2)))] => some ([(ref1_times a1 a2).isSome = true], (ref1_times_out ((ref1_times a1 a2).getD zGPensionref1_wide)))
  | _ => none
theorem ref1_times_ok : Meets Try.prog 45 ref1_times_C := by
  refine meets_fun (fn := Try.f45) (c := bodyOf Try.f45) (by kernel_rfl) (by kernel_rfl) (by kernel_rfl) (rs := [.cell 4 83]) (by kernel_rfl) (nt := 16) (by kernel_rfl) fun vs p out h hp => ?_
  unfold ref1_times_C at h
  split at h
  · next a1 a2 =>
    cases h
    obtain ⟨g, hp⟩ := allq hp
    obtain ⟨x, hx⟩ := Option.isSome_iff_exists.1 g
    rw [hx]
    exact ⟨[(.c (.lit (.int .u64 a1))), (.c (.lit (.int .u64 a2)))], (VLes.cons (VLe.rfl' _) (VLes.cons (VLe.rfl' _) VLes.nil)), rfl, z45run a1 a2 x hx⟩
  · cases h

noncomputable def z71i0 : List Code := items (bodyOf Try.f71)
def ref1_rounded_out (x_1 : (Int × Int)) : Out := .data (.tup [(i64 x_1.1), (i64 x_1.2)])
def z71R (x_1 : (Int × Int)) : St := { tm := [sv 8 (i64 x_1.1), sv 9 (i64 x_1.2)], hp := [], nx := 0 }
theorem z71Rok (x_1 : (Int × Int)) : retK Try.prog [.tmp 8, .tmp 9] (OutOk (ref1_rounded_out x_1)) .ret (z71R x_1) :=
  retK.intro (v := (.tup [(i64 x_1.1), (i64 x_1.2)])) (by kernel_rfl) (VLe.tup (VLes.cons (VLe.rfl' _) (VLes.cons (VLe.rfl' _) (VLes.nil))))
def z71p0S (negative : Bool) (unit k_1 : Int) : St := { tm := [sv 0 (bl negative), sv 10 (.c (.lit (.int .u64 unit))), sv 13 (.c (.lit (.int .u64 k_1)))], hp := [], nx := 0 }
noncomputable def ref1_rounded_p0 (negative : Bool) (unit k_1 : Int) : Option ((Int × Int)) := gd (unit ≠ (0 : Int)) ((bif (decide ((IntKind.u64.wrap (Int.tdiv (1000000000000 : Int) unit)) < k_1)) then (some ((0 : Int), (2 : Int))) else (bif negative then (some ((w64 ((0 : Int) - (w64 (IntKind.u64.wrap (k_1 * unit))))), (0 : Int))) else (some ((w64 (IntKind.u64.wrap (k_1 * unit))), (0 : Int))))))
theorem z71p0ok (negative : Bool) (unit k_1 : Int) (K : KT) (h : W (ref1_rounded_p0 negative unit k_1) (rE z71R K)) : EvL Try.prog 109 (List.drop 9 z71i0) K (z71p0S negative unit k_1) :=
  EvL.pE mixed (lookC_ok (l := []) trivial) [8, 9] 9 6 (.nf (X := fun K => (unit ≠ (0 : Int)) ∧ ((bif (decide ((IntKind.u64.wrap (Int.tdiv (1000000000000 : Int) unit)) < k_1)) then wK K .ret (z71R ((0 : Int), (2 : Int))) else (bif negative then wK K .ret (z71R ((w64 ((0 : Int) - (w64 (IntKind.u64.wrap (k_1 * unit))))), (0 : Int))) else wK K .ret (z71R ((w64 (IntKind.u64.wrap (k_1 * unit))), (0 : Int))))))) (fun K => by kernel_rfl) (W_gd h fun hp0 h => (W_bif h (fun _ h => ⟨_, .refl _, h⟩) (fun _ h => (W_bif h (fun _ h => ⟨_, .refl _, h⟩) (fun _ h => ⟨_, .refl _, h⟩))))))
def z71p1S (negative : Bool) (unit rest k left : Int) (r_1 : GRounding) : St := { tm := [sv 0 (bl negative), sv 10 (.c (.lit (.int .u64 unit))), sv 12 (.c (.lit (.int .u64 rest))), sv 13 (.c (.lit (.int .u64 k))), sv 14 (.c (.lit (.int .u64 left))), sv 42 (i64 r_1.Mode)], hp := [], nx := 0 }
noncomputable def ref1_rounded_p1 (negative : Bool) (unit rest k left : Int) (r_1 : GRounding) : Option ((Int × Int)) := (bif (r_1.Mode == (1 : Int)) then (bif (bif negative then (decide ((0 : Int) < rest)) else false) then (ref1_rounded_p0 negative unit (IntKind.u64.wrap (k + (1 : Int)))) else (ref1_rounded_p0 negative unit k)) else (bif (r_1.Mode == (2 : Int)) then (bif (bif (!negative) then (decide ((0 : Int) < rest)) else false) then (ref1_rounded_p0 negative unit (IntKind.u64.wrap (k + (1 : Int)))) else (ref1_rounded_p0 negative unit k)) else (bif (r_1.Mode == (3 : Int)) then (bif (bif (decide (left < rest)) then true else (bif (rest == left) then (!negative) else false)) then (ref1_rounded_p0 negative unit (IntKind.u64.wrap (k + (1 : Int)))) else (ref1_rounded_p0 negative unit k)) else (bif (r_1.Mode == (4 : Int)) then (bif (bif (decide (left < rest)) then true else (bif (rest == left) then ((Int.tmod k (2 : Int)) == (1 : Int)) else false)) then (ref1_rounded_p0 negative unit (IntKind.u64.wrap (k + (1 : Int)))) else (ref1_rounded_p0 negative unit k)) else (ref1_rounded_p0 negative unit k)))))
theorem z71p1ok (negative : Bool) (unit rest k left : Int) (r_1 : GRounding) (K : KT) (h : W (ref1_rounded_p1 negative unit rest k left r_1) (rE z71R K)) : EvL Try.prog 109 (List.drop 8 z71i0) K (z71p1S negative unit rest k left r_1) :=
  EvL.pD mixed (lookC_ok (l := []) trivial) [0, 10, 13] 8 1 9 (.nf (X := fun K => (bif (r_1.Mode == (1 : Int)) then (bif (bif negative then (decide ((0 : Int) < rest)) else false) then wK K .normal (z71p0S negative unit (IntKind.u64.wrap (k + (1 : Int)))) else wK K .normal (z71p0S negative unit k)) else (bif (r_1.Mode == (2 : Int)) then (bif (bif (!negative) then (decide ((0 : Int) < rest)) else false) then wK K .normal (z71p0S negative unit (IntKind.u64.wrap (k + (1 : Int)))) else wK K .normal (z71p0S negative unit k)) else (bif (r_1.Mode == (3 : Int)) then (bif (bif (decide (left < rest)) then true else (bif (rest == left) then (!negative) else false)) then wK K .normal (z71p0S negative unit (IntKind.u64.wrap (k + (1 : Int)))) else wK K .normal (z71p0S negative unit k)) else (bif (r_1.Mode == (4 : Int)) then (((rest == left) && ((!(decide (left < rest))) && true)) = true → (2 : Int) ≠ (0 : Int)) ∧ ((bif (bif (decide (left < rest)) then true else (bif (rest == left) then ((Int.tmod k (2 : Int)) == (1 : Int)) else false)) then wK K .normal (z71p0S negative unit (IntKind.u64.wrap (k + (1 : Int)))) else wK K .normal (z71p0S negative unit k))) else wK K .normal (z71p0S negative unit k)))))) (fun K => by kernel_rfl) (W_bif h (fun _ h => (W_bif h (fun _ h => ⟨_, .refl _, (z71p0ok negative unit (IntKind.u64.wrap (k + (1 : Int))) _ h)⟩) (fun _ h => ⟨_, .refl _, (z71p0ok negative unit k _ h)⟩))) (fun _ h => (W_bif h (fun _ h => (W_bif h (fun _ h => ⟨_, .refl _, (z71p0ok negative unit (IntKind.u64.wrap (k + (1 : Int))) _ h)⟩) (fun _ h => ⟨_, .refl _, (z71p0ok negative unit k _ h)⟩))) (fun _ h => (W_bif h (fun _ h => (W_bif h (fun _ h => ⟨_, .refl _, (z71p0ok negative unit (IntKind.u64.wrap (k + (1 : Int))) _ h)⟩) (fun _ h => ⟨_, .refl _, (z71p0ok negative unit k _ h)⟩))) (fun _ h => (W_bif h (fun _ h => ⟨(fun _ => (by decide)), (W_bif h (fun _ h => ⟨_, .refl _, (z71p0ok negative unit (IntKind.u64.wrap (k + (1 : Int))) _ h)⟩) (fun _ h => ⟨_, .refl _, (z71p0ok negative unit k _ h)⟩))⟩) (fun _ h => ⟨_, .refl _, (z71p0ok negative unit k _ h)⟩)))))))))
def z71p2S (negative : Bool) (n : GPensionref1_wide) (d_1 : Int) (r_1 : GRounding) : St := { tm := [sv 0 (bl negative), sv 1 (.ag (eGPensionref1_wide n)), sv 2 (.c (.lit (.int .u64 d_1))), sv 3 (.ag (eGRounding r_1))], hp := [], nx := 0 }
noncomputable def ref1_rounded_p2 (negative : Bool) (n : GPensionref1_wide) (d_1 : Int) (r_1 : GRounding) : Option ((Int × Int)) := (ref1_wide_over n (IntKind.u64.wrap (d_1 * (IntKind.u64.wrap r_1.Unit)))).bind fun r_2 => ((bif (bif (r_2.1.hi != (0 : Int)) then true else (decide ((1000000000000 : Int) < r_2.1.lo))) then (some ((0 : Int), (2 : Int))) else (ref1_rounded_p1 negative (IntKind.u64.wrap r_1.Unit) r_2.2 r_2.1.lo (IntKind.u64.wrap ((IntKind.u64.wrap (d_1 * (IntKind.u64.wrap r_1.Unit))) - r_2.2)) r_1)))
theorem z71p2ok (negative : Bool) (n : GPensionref1_wide) (d_1 : Int) (r_1 : GRounding) (K : KT) (h : W (ref1_rounded_p2 negative n d_1 r_1) (rE z71R K)) : EvL Try.prog 109 (List.drop 0 z71i0) K (z71p2S negative n d_1 r_1) :=
  EvL.pD mixed (lookC_ok (l := [(63, .pure ref1_wide_over_C)]) ⟨ref1_wide_over_ok, trivial⟩) [0, 8, 9, 10, 12, 13, 14, 42, 47, 48, 57, 58, 68, 69, 70, 71, 72, 73, 74, 84, 85, 86, 87, 88, 89, 90, 91] 0 8 8 (.nf (X := fun K => ((ref1_wide_over n (IntKind.u64.wrap (d_1 * (IntKind.u64.wrap r_1.Unit)))).isSome = true) ∧ ((bif (bif ((((ref1_wide_over n (IntKind.u64.wrap (d_1 * (IntKind.u64.wrap r_1.Unit)))).getD (zGPensionref1_wide, (0 : Int))).1).hi != (0 : Int)) then true else (decide ((1000000000000 : Int) < (((ref1_wide_over n (IntKind.u64.wrap (d_1 * (IntKind.u64.wrap r_1.Unit)))).getD (zGPensionref1_wide, (0 : Int))).1).lo))) then wK K .ret ({ tm := [sv 0 (bl negative), sv 8 (i64 (0 : Int)), sv 9 (i64 (2 : Int)), sv 10 (.c (.lit (.int .u64 (IntKind.u64.wrap r_1.Unit)))), sv 12 (.c (.lit (.int .u64 ((ref1_wide_over n (IntKind.u64.wrap (d_1 * (IntKind.u64.wrap r_1.Unit)))).getD (zGPensionref1_wide, (0 : Int))).2)))], hp := [], nx := 0 }) else wK K .normal ({ tm := [sv 0 (bl negative), sv 8 (i64 (0 : Int)), sv 9 (i64 (0 : Int)), sv 10 (.c (.lit (.int .u64 (IntKind.u64.wrap r_1.Unit)))), sv 12 (.c (.lit (.int .u64 ((ref1_wide_over n (IntKind.u64.wrap (d_1 * (IntKind.u64.wrap r_1.Unit)))).getD (zGPensionref1_wide, (0 : Int))).2))), sv 13 (.c (.lit (.int .u64 (((ref1_wide_over n (IntKind.u64.wrap (d_1 * (IntKind.u64.wrap r_1.Unit)))).getD (zGPensionref1_wide, (0 : Int))).1).lo))), sv 14 (.c (.lit (.int .u64 (IntKind.u64.wrap ((IntKind.u64.wrap (d_1 * (IntKind.u64.wrap r_1.Unit))) - ((ref1_wide_over n (IntKind.u64.wrap (d_1 * (IntKind.u64.wrap r_1.Unit)))).getD (zGPensionref1_wide, (0 : Int))).2))))), sv 42 (i64 r_1.Mode)], hp := [], nx := 0 })))) (fun K => by kernel_rfl) (W_bind (zGPensionref1_wide, (0 : Int)) h fun hp0 h => (W_bif h (fun _ h => ⟨(z71R ((0 : Int), (2 : Int))), (.of (.q rfl (.q rfl .nil)) .nil rfl), h⟩) (fun _ h => ⟨(z71p1S negative (IntKind.u64.wrap r_1.Unit) (((ref1_wide_over n (IntKind.u64.wrap (d_1 * (IntKind.u64.wrap r_1.Unit)))).getD (zGPensionref1_wide, (0 : Int))).2) ((((ref1_wide_over n (IntKind.u64.wrap (d_1 * (IntKind.u64.wrap r_1.Unit)))).getD (zGPensionref1_wide, (0 : Int))).1).lo) (IntKind.u64.wrap ((IntKind.u64.wrap (d_1 * (IntKind.u64.wrap r_1.Unit))) - ((ref1_wide_over n (IntKind.u64.wrap (d_1 * (IntKind.u64.wrap r_1.Unit)))).getD (zGPensionref1_wide, (0 : Int))).2)) r_1), (.of (.q rfl (.q rfl (.q rfl (.q rfl (.q rfl (.q rfl .nil)))))) .nil rfl), (z71p1ok negative (IntKind.u64.wrap r_1.Unit) (((ref1_wide_over n (IntKind.u64.wrap (d_1 * (IntKind.u64.wrap r_1.Unit)))).getD (zGPensionref1_wide, (0 : Int))).2) ((((ref1_wide_over n (IntKind.u64.wrap (d_1 * (IntKind.u64.wrap r_1.Unit)))).getD (zGPensionref1_wide, (0 : Int))).1).lo) (IntKind.u64.wrap ((IntKind.u64.wrap (d_1 * (IntKind.u64.wrap r_1.Unit))) - ((ref1_wide_over n (IntKind.u64.wrap (d_1 * (IntKind.u64.wrap r_1.Unit)))).getD (zGPensionref1_wide, (0 : Int))).2)) r_1 _ h)⟩))))
noncomputable def ref1_rounded (negative : Bool) (n : GPensionref1_wide) (d_1 : Int) (r_1 : GRounding) : Option ((Int × Int)) := ref1_rounded_p2 negative n d_1 r_1
theorem z71run (negative : Bool) (n : GPensionref1_wide) (d_1 : Int) (r_1 : GRounding) (y_ : (Int × Int)) (h : ref1_rounded negative n d_1 r_1 = some y_) : EvL Try.prog 109 (items (bodyOf Try.f71)) (retK Try.prog [.tmp 8, .tmp 9] (OutOk (ref1_rounded_out y_))) (z71p2S negative n d_1 r_1) :=
  z71p2ok negative n d_1 r_1 _ (W_iff.2 ⟨y_, h, z71Rok y_⟩)
noncomputable def ref1_rounded_C : Con
  | [(.c (.lit (.bool a1))), (.agg [(.c (.lit (.int .u64 a2))), (.c (.lit (.int .u64 a3)))]), (.c (.lit (.int .u64 a4))), (.agg [(.c (.lit (.int .i64 a5))), (.c (.lit (.int .i64 a6)))])] => some ([(ref1_rounded a1 (GPensionref1_wide.mk a2 a3) a4 (GRounding.mk a5 a6)).isSome = true], (ref1_rounded_out ((ref1_rounded a1 (GPensionref1_wide.mk a2 a3) a4 (GRounding.mk a5 a6)).getD ((0 : Int), (0 : Int)))))
  | _ => none
theorem ref1_rounded_ok : Meets Try.prog 71 ref1_rounded_C := by
  refine meets_fun (fn := Try.f71) (c := bodyOf Try.f71) (by kernel_rfl) (by kernel_rfl) (by kernel_rfl) (rs := [.tmp 8, .tmp 9]) (by kernel_rfl) (nt := 109) (by kernel_rfl) fun vs p out h hp => ?_
  unfold ref1_rounded_C at h
  split at h
  · next a1 a2 a3 a4 a5 a6 =>
    cases h
    obtain ⟨g, hp⟩ := allq hp
    obtain ⟨x, hx⟩ := Option.isSome_iff_exists.1 g
    rw [hx]
    exact ⟨[(bl a1), (.agg [(.c (.lit (.int .u64 (GPensionref1_wide.mk a2 a3).hi))), (.c (.lit (.int .u64 (GPensionref1_wide.mk a2 a3).lo)))]), (.c (.lit (.int .u64 a4))), (.agg [(i64 (GRounding.mk a5 a6).Mode), (i64 (GRounding.mk a5 a6).Unit)])], (VLes.cons (VLe.rfl' _) (VLes.cons (VLe.rfl' _) (VLes.cons (VLe.rfl' _) (VLes.cons (VLe.rfl' _) VLes.nil)))), rfl, z71run a1 (GPensionref1_wide.mk a2 a3) a4 (GRounding.mk a5 a6) x hx⟩
  · cases h

noncomputable def z60i0 : List Code := items (bodyOf Try.f60)
def ref1_Scale_out (x_1 : (Int × Int)) : Out := .data (.tup [(i64 x_1.1), (i64 x_1.2)])
def z60R (x_1 : (Int × Int)) : St := { tm := [sv 6 (i64 x_1.1), sv 7 (i64 x_1.2)], hp := [], nx := 0 }
theorem z60Rok (x_1 : (Int × Int)) : retK Try.prog [.tmp 6, .tmp 7] (OutOk (ref1_Scale_out x_1)) .ret (z60R x_1) :=
  retK.intro (v := (.tup [(i64 x_1.1), (i64 x_1.2)])) (by kernel_rfl) (VLe.tup (VLes.cons (VLe.rfl' _) (VLes.cons (VLe.rfl' _) (VLes.nil))))
def z60p0S (amount : Int) (f : GFraction) (r_1 : GRounding) : St := { tm := [sv 0 (i64 amount), sv 1 (.ag (eGFraction f)), sv 2 (.ag (eGRounding r_1))], hp := [], nx := 0 }
noncomputable def ref1_Scale_p0 (amount : Int) (f : GFraction) (r_1 : GRounding) : Option ((Int × Int)) := (ref1_ValidAmount amount).bind fun r_2 => (gd (((!(!r_2)) && true) = true → (ref1_ValidFraction f).isSome = true) (gd (((!(bif (!r_2) then true else (!((ref1_ValidFraction f).getD false)))) && true) = true → (ref1_ValidRounding r_1).isSome = true) ((bif (bif (bif (!r_2) then true else (!((ref1_ValidFraction f).getD false))) then true else (!((ref1_ValidRounding r_1).getD false))) then (some ((0 : Int), (1 : Int))) else (ref1_size amount).bind fun r_3 => ((ref1_size f.Num).bind fun r_4 => ((ref1_times r_3 r_4).bind fun r_5 => ((ref1_rounded (!((decide (amount < (0 : Int))) == (decide (f.Num < (0 : Int))))) r_5 (IntKind.u64.wrap f.Den) r_1).bind fun r_6 => ((some (r_6.1, r_6.2))))))))))
theorem z60p0ok (amount : Int) (f : GFraction) (r_1 : GRounding) (K : KT) (h : W (ref1_Scale_p0 amount f r_1) (rE z60R K)) : EvL Try.prog 40 (List.drop 0 z60i0) K (z60p0S amount f r_1) :=
  EvL.pE mixed (lookC_ok (l := [(44, .pure ref1_ValidFraction_C), (45, .pure ref1_times_C), (46, .pure ref1_size_C), (69, .pure ref1_ValidAmount_C), (70, .pure ref1_ValidRounding_C), (71, .pure ref1_rounded_C)]) ⟨ref1_ValidFraction_ok, ref1_times_ok, ref1_size_ok, ref1_ValidAmount_ok, ref1_ValidRounding_ok, ref1_rounded_ok, trivial⟩) [6, 7] 0 5 (.nf (X := fun K => ((ref1_ValidAmount amount).isSome = true) ∧ (((!(!((ref1_ValidAmount amount).getD false))) && true) = true → (ref1_ValidFraction f).isSome = true) ∧ (((!(bif (!((ref1_ValidAmount amount).getD false)) then true else (!((ref1_ValidFraction f).getD false)))) && true) = true → (ref1_ValidRounding r_1).isSome = true) ∧ ((bif (bif (bif (!((ref1_ValidAmount amount).getD false)) then true else (!((ref1_ValidFraction f).getD false))) then true else (!((ref1_ValidRounding r_1).getD false))) then wK K .ret (z60R ((0 : Int), (1 : Int))) else ((ref1_size amount).isSome = true) ∧ ((ref1_size f.Num).isSome = true) ∧ ((ref1_times ((ref1_size amount).getD (0 : Int)) ((ref1_size f.Num).getD (0 : Int))).isSome = true) ∧ ((ref1_rounded (!((decide (amount < (0 : Int))) == (decide (f.Num < (0 : Int))))) ((ref1_times ((ref1_size amount).getD (0 : Int)) ((ref1_size f.Num).getD (0 : Int))).getD zGPensionref1_wide) (IntKind.u64.wrap f.Den) r_1).isSome = true) ∧ (wK K .ret (z60R (((ref1_rounded (!((decide (amount < (0 : Int))) == (decide (f.Num < (0 : Int))))) ((ref1_times ((ref1_size amount).getD (0 : Int)) ((ref1_size f.Num).getD (0 : Int))).getD zGPensionref1_wide) (IntKind.u64.wrap f.Den) r_1).getD ((0 : Int), (0 : Int))).1, ((ref1_rounded (!((decide (amount < (0 : Int))) == (decide (f.Num < (0 : Int))))) ((ref1_times ((ref1_size amount).getD (0 : Int)) ((ref1_size f.Num).getD (0 : Int))).getD zGPensionref1_wide) (IntKind.u64.wrap f.Den) r_1).getD ((0 : Int), (0 : Int))).2)))))) (fun K => by kernel_rfl) (W_bind false h fun hp0 h => (W_gd h fun hp1 h => (W_gd h fun hp2 h => (W_bif h (fun _ h => ⟨_, .refl _, h⟩) (fun _ h => (W_bind (0 : Int) h fun hp3 h => (W_bind (0 : Int) h fun hp4 h => (W_bind zGPensionref1_wide h fun hp5 h => (W_bind ((0 : Int), (0 : Int)) h fun hp6 h => ⟨_, .refl _, h⟩))))))))))
noncomputable def ref1_Scale (amount : Int) (f : GFraction) (r_1 : GRounding) : Option ((Int × Int)) := ref1_Scale_p0 amount f r_1
theorem z60run (amount : Int) (f : GFraction) (r_1 : GRounding) (y_ : (Int × Int)) (h : ref1_Scale amount f r_1 = some y_) : EvL Try.prog 40 (items (bodyOf Try.f60)) (retK Try.prog [.tmp 6, .tmp 7] (OutOk (ref1_Scale_out y_))) (z60p0S amount f r_1) :=
  z60p0ok amount f r_1 _ (W_iff.2 ⟨y_, h, z60Rok y_⟩)
noncomputable def ref1_Scale_C : Con
  | [(.c (.lit (.int .i64 a1))), (.agg [(.c (.lit (.int .i64 a2))), (.c (.lit (.int .i64 a3)))]), (.agg [(.c (.lit (.int .i64 a4))), (.c (.lit (.int .i64 a5)))])] => some ([(ref1_Scale a1 (GFraction.mk a2 a3) (GRounding.mk a4 a5)).isSome = true], (ref1_Scale_out ((ref1_Scale a1 (GFraction.mk a2 a3) (GRounding.mk a4 a5)).getD ((0 : Int), (0 : Int)))))
  | _ => none
theorem ref1_Scale_ok : Meets Try.prog 60 ref1_Scale_C := by
  refine meets_fun (fn := Try.f60) (c := bodyOf Try.f60) (by kernel_rfl) (by kernel_rfl) (by kernel_rfl) (rs := [.tmp 6, .tmp 7]) (by kernel_rfl) (nt := 40) (by kernel_rfl) fun vs p out h hp => ?_
  unfold ref1_Scale_C at h
  split at h
  · next a1 a2 a3 a4 a5 =>
    cases h
    obtain ⟨g, hp⟩ := allq hp
    obtain ⟨x, hx⟩ := Option.isSome_iff_exists.1 g
    rw [hx]
    exact ⟨[(i64 a1), (.agg [(i64 (GFraction.mk a2 a3).Num), (i64 (GFraction.mk a2 a3).Den)]), (.agg [(i64 (GRounding.mk a4 a5).Mode), (i64 (GRounding.mk a4 a5).Unit)])], (VLes.cons (VLe.rfl' _) (VLes.cons (VLe.rfl' _) (VLes.cons (VLe.rfl' _) VLes.nil))), rfl, z60run a1 (GFraction.mk a2 a3) (GRounding.mk a4 a5) x hx⟩
  · cases h

noncomputable def z43i0 : List Code := items (bodyOf Try.f43)
def ref21_floor_out (x_1 : Int) : Out := .data (i64 x_1)
def z43R (x_1 : Int) : St := { tm := [sv 6 (i64 x_1)], hp := [], nx := 0 }
theorem z43Rok (x_1 : Int) : retK Try.prog [.tmp 6] (OutOk (ref21_floor_out x_1)) .ret (z43R x_1) :=
  retK.intro (v := (i64 x_1)) (by kernel_rfl) ((VLe.rfl' _))
def z43p0S (total num den : Int) : St := { tm := [sv 0 (i64 total), sv 1 (i64 num), sv 2 (i64 den)], hp := [], nx := 0 }
noncomputable def ref21_floor_p0 (total num den : Int) : Option (Int) := (ref1_MakeFraction num den).bind fun r_1 => ((ref21_down).bind fun r_2 => ((ref1_Scale total r_1.1 r_2).bind fun r_3 => ((some r_3.1))))
theorem z43p0ok (total num den : Int) (K : KT) (h : W (ref21_floor_p0 total num den) (rE z43R K)) : EvL Try.prog 25 (List.drop 0 z43i0) K (z43p0S total num den) :=
  EvL.pE mixed (lookC_ok (l := [(29, .pure ref1_MakeFraction_C), (60, .pure ref1_Scale_C), (61, .pure ref21_down_C)]) ⟨ref1_MakeFraction_ok, ref1_Scale_ok, ref21_down_ok, trivial⟩) [6] 0 5 (.nf (X := fun K => ((ref1_MakeFraction num den).isSome = true) ∧ (((ref21_down).isSome = true) ∧ ((ref1_Scale total (((ref1_MakeFraction num den).getD (zGFraction, (0 : Int))).1) ((ref21_down).getD zGRounding)).isSome = true) ∧ (wK K .ret (z43R (((ref1_Scale total (((ref1_MakeFraction num den).getD (zGFraction, (0 : Int))).1) ((ref21_down).getD zGRounding)).getD ((0 : Int), (0 : Int))).1))))) (fun K => by kernel_rfl) (W_bind (zGFraction, (0 : Int)) h fun hp0 h => (W_bind zGRounding h fun hp1 h => (W_bind ((0 : Int), (0 : Int)) h fun hp2 h => ⟨_, .refl _, h⟩))))
noncomputable def ref21_floor (total num den : Int) : Option (Int) := ref21_floor_p0 total num den
theorem z43run (total num den : Int) (y_ : Int) (h : ref21_floor total num den = some y_) : EvL Try.prog 25 (items (bodyOf Try.f43)) (retK Try.prog [.tmp 6] (OutOk (ref21_floor_out y_))) (z43p0S total num den) :=
  z43p0ok total num den _ (W_iff.2 ⟨y_, h, z43Rok y_⟩)
noncomputable def ref21_floor_C : Con
  | [(.c (.lit (.int .i64 a1))), (.c (.lit (.int .i64 a2))), (.c (.lit (.int .i64 a3)))] => some ([(ref21_floor a1 a2 a3).isSome = true], (ref21_floor_out ((ref21_floor a1 a2 a3).getD (0 : Int))))
  | _ => none
theorem ref21_floor_ok : Meets Try.prog 43 ref21_floor_C := by
  refine meets_fun (fn := Try.f43) (c := bodyOf Try.f43) (by kernel_rfl) (by kernel_rfl) (by kernel_rfl) (rs := [.tmp 6]) (by kernel_rfl) (nt := 25) (by kernel_rfl) fun vs p out h hp => ?_
  unfold ref21_floor_C at h
  split at h
  · next a1 a2 a3 =>
    cases h
    obtain ⟨g, hp⟩ := allq hp
    obtain ⟨x, hx⟩ := Option.isSome_iff_exists.1 g
    rw [hx]
    exact ⟨[(i64 a1), (i64 a2), (i64 a3)], (VLes.cons (VLe.rfl' _) (VLes.cons (VLe.rfl' _) (VLes.cons (VLe.rfl' _) VLes.nil))), rfl, z43run a1 a2 a3 x hx⟩
  · cases h

end Go.Ax
