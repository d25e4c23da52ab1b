import Derived.Test.YtklbaihmajbbdaaF3
import Derived.Test.YtklbaihmajbbdaaRows
/- Types of the program, and functions of it: printed by a program, checked by the kernel. -/
set_option linter.all false
set_option maxRecDepth 100000
namespace Go.Ax
open Go.Proofs Go.Proofs.Ytklbaihmajbbdaa
noncomputable def z63i0 : List Code := items (bodyOf Try.f63)
def ref1_wide_over_out (x_1 : (GPensionref1_wide × Int)) : Out := .data (.tup [(.agg [(.c (.lit (.int .u64 x_1.1.hi))), (.c (.lit (.int .u64 x_1.1.lo)))]), (.c (.lit (.int .u64 x_1.2)))])
def z63R (x_1 : (GPensionref1_wide × Int)) : St := { tm := [sv 4 (.ptr 0 2 0 0), sv 5 (.c (.lit (.int .u64 x_1.2)))], hp := [(0, some (.box [(.c (.lit (.int .u64 x_1.1.hi))), (.c (.lit (.int .u64 x_1.1.lo)))]))], nx := 1 }
theorem z63Rok (x_1 : (GPensionref1_wide × Int)) : retK Try.prog [.cell 4 83, .tmp 5] (OutOk (ref1_wide_over_out x_1)) .ret (z63R x_1) :=
  retK.intro (v := (.tup [(.agg [(.c (.lit (.int .u64 x_1.1.hi))), (.c (.lit (.int .u64 x_1.1.lo)))]), (.c (.lit (.int .u64 x_1.2)))])) (by kernel_rfl) (VLe.tup (VLes.cons (VLe.rfl' _) (VLes.cons (VLe.rfl' _) (VLes.nil))))
def z63p0S (w : GPensionref1_wide) (d_1 : Int) : St := { tm := [sv 0 (.ag (eGPensionref1_wide w)), sv 1 (.c (.lit (.int .u64 d_1)))], hp := [], nx := 0 }
noncomputable def ref1_wide_over_p0 (w : GPensionref1_wide) (d_1 : Int) : Option ((GPensionref1_wide × Int)) := gd (d_1 ≠ (0 : Int)) ((math_bits_Div64 (Int.tmod w.hi d_1) w.lo d_1).bind fun r_1 => (gd (d_1 ≠ (0 : Int)) ((some ((GPensionref1_wide.mk (IntKind.u64.wrap (Int.tdiv w.hi d_1)) r_1.1), r_1.2)))))
theorem z63p0ok (w : GPensionref1_wide) (d_1 : Int) (K : KT) (h : W (ref1_wide_over_p0 w d_1) (rE z63R K)) : EvL Try.prog 26 (List.drop 0 z63i0) K (z63p0S w d_1) :=
  EvL.pE mixed (lookC_ok (l := [(66, .pure math_bits_Div64_C)]) ⟨math_bits_Div64_ok, trivial⟩) [4, 5] 0 4 (.nf (X := fun K => (d_1 ≠ (0 : Int)) ∧ ((math_bits_Div64 (Int.tmod w.hi d_1) w.lo d_1).isSome = true) ∧ ((d_1 ≠ (0 : Int)) ∧ (wK K .ret (z63R ((GPensionref1_wide.mk (IntKind.u64.wrap (Int.tdiv w.hi d_1)) ((math_bits_Div64 (Int.tmod w.hi d_1) w.lo d_1).getD ((0 : Int), (0 : Int))).1), ((math_bits_Div64 (Int.tmod w.hi d_1) w.lo d_1).getD ((0 : Int), (0 : Int))).2))))) (fun K => by kernel_rfl) (W_gd h fun hp0 h => (W_bind ((0 : Int), (0 : Int)) h fun hp1 h => (W_gd h fun hp2 h => ⟨_, .refl _, h⟩))))
noncomputable def ref1_wide_over (w : GPensionref1_wide) (d_1 : Int) : Option ((GPensionref1_wide × Int)) := ref1_wide_over_p0 w d_1
theorem z63run (w : GPensionref1_wide) (d_1 : Int) (y_ : (GPensionref1_wide × Int)) (h : ref1_wide_over w d_1 = some y_) : EvL Try.prog 26 (items (bodyOf Try.f63)) (retK Try.prog [.cell 4 83, .tmp 5] (OutOk (ref1_wide_over_out y_))) (z63p0S w d_1) :=
  z63p0ok w d_1 _ (W_iff.2 ⟨y_, h, z63Rok y_⟩)
noncomputable def ref1_wide_over_C : Con
  | [(.agg [(.c (.lit (.int .u64 a1))), (.c (.lit (.int .u64 a2)))]), (.c (.lit (.int .u64 a3)))] => some ([(ref1_wide_over (GPensionref1_wide.mk a1 a2) a3).isSome = true], (ref1_wide_over_out ((ref1_wide_over (GPensionref1_wide.mk a1 a2) a3).getD (zGPensionref1_wide, (0 : Int)))))
  | _ => none
theorem ref1_wide_over_ok : Meets Try.prog 63 ref1_wide_over_C := by
  refine meets_fun (fn := Try.f63) (c := bodyOf Try.f63) (by kernel_rfl) (by kernel_rfl) (by kernel_rfl) (rs := [.cell 4 83, .tmp 5]) (by kernel_rfl) (nt := 26) (by kernel_rfl) fun vs p out h hp => ?_
  unfold ref1_wide_over_C at h
  split at h
  · next a1 a2 a3 =>
    cases h
    obtain ⟨g, hp⟩ := allq hp
    obtain ⟨x, hx⟩ := Option.isSome_iff_exists.1 g
    rw [hx]
    exact ⟨[(.agg [(.c (.lit (.int .u64 (GPensionref1_wide.mk a1 a2).hi))), (.c (.lit (.int .u64 (GPensionref1_wide.mk a1 a2).lo)))]), (.c (.lit (.int .u64 a3)))], (VLes.cons (VLe.rfl' _) (VLes.cons (VLe.rfl' _) VLes.nil)), rfl, z63run (GPensionref1_wide.mk a1 a2) a3 x hx⟩
  · cases h

noncomputable def z62i0 : List Code := items (bodyOf Try.f62)
noncomputable def z62i1 : List Code := items (inside (inside (nthI z62i0 1)))
def ref1_gcd_out (x_1 : Int) : Out := .data (.c (.lit (.int .u64 x_1)))
def z62R (x_1 : Int) : St := { tm := [sv 4 (.c (.lit (.int .u64 x_1)))], hp := [], nx := 0 }
theorem z62Rok (x_1 : Int) : retK Try.prog [.tmp 4] (OutOk (ref1_gcd_out x_1)) .ret (z62R x_1) :=
  retK.intro (v := (.c (.lit (.int .u64 x_1)))) (by kernel_rfl) ((VLe.rfl' _))
def z62l1S (a b : Int) (s : (Int × Int)) : St := match s with | (a_1, b_1) => { tm := [sv 0 (.c (.lit (.int .u64 a_1))), sv 1 (.c (.lit (.int .u64 b_1)))], hp := [], nx := 0 }
def z62l1C0 (a b : Int) (s : Int) : St := match s with | a_2 => { tm := [sv 0 (.c (.lit (.int .u64 a_2)))], hp := [], nx := 0 }
def z62l1E (a b : Int) (r : ((Int))) (K : KT) : Prop := match r with | s => K (.exit 0) (z62l1C0 a b s)
def z62p0S (a_1 b_1 : Int) : St := { tm := [sv 0 (.c (.lit (.int .u64 a_1))), sv 1 (.c (.lit (.int .u64 b_1)))], hp := [], nx := 0 }
noncomputable def ref1_gcd_p0 (a_1 b_1 : Int) : Option ((Int × Int) ⊕ ((Int))) := (bif (b_1 != (0 : Int)) then gd (b_1 ≠ (0 : Int)) ((some (Sum.inl (b_1, (Int.tmod a_1 b_1))))) else (some (Sum.inr a_1)))
theorem z62p0ok (a_1 b_1 a b : Int) (K : KT) (h : W (ref1_gcd_p0 a_1 b_1) (nE (z62l1S a b) (z62l1E a b) K)) : EvL Try.prog 12 (List.drop 0 z62i1) K (z62p0S a_1 b_1) :=
  EvL.pE mixed (lookC_ok (l := []) trivial) [0, 1] 0 3 (.nf (X := fun K => (bif (b_1 != (0 : Int)) then (b_1 ≠ (0 : Int)) ∧ (wK K .normal (z62l1S a b (b_1, (Int.tmod a_1 b_1)))) else wK K (.exit 0) ({ tm := [sv 0 (.c (.lit (.int .u64 a_1))), sv 1 (.c (.lit (.int .u64 b_1)))], hp := [], nx := 0 }))) (fun K => by kernel_rfl) (W_bif h (fun _ h => (W_gd h fun hp0 h => ⟨_, .refl _, h⟩)) (fun _ h => ⟨(z62l1C0 a b a_1), (.of (.q rfl .nil) .nil rfl), h⟩)))
noncomputable def ref1_gcd_l1 (a b : Int) (s : (Int × Int)) : Option ((Int × Int) ⊕ ((Int))) := match s with | (a_1, b_1) => ref1_gcd_p0 a_1 b_1
theorem z62l1ok (a b : Int) (s : (Int × Int)) : Pp Try.prog 12 (List.drop 0 z62i1) (z62l1S a b s) (ref1_gcd_l1 a b s) (nextE (z62l1S a b) (z62l1E a b)) := fun K h => match s, h with | (a_1, b_1), h => (z62p0ok a_1 b_1 a b _ h)
theorem z62l1Ethen (a b : Int) : ∀ (r : ((Int))) (J : St → Prop) (K : KT), z62l1E a b r K → z62l1E a b r (thenK J K)
  | s, _, _, h => h
def z62p1S (a_3 : Int) : St := { tm := [sv 0 (.c (.lit (.int .u64 a_3)))], hp := [], nx := 0 }
noncomputable def ref1_gcd_p1 (a_3 : Int) : Option (Int) := (some a_3)
theorem z62p1ok (a_3 : Int) (K : KT) (h : W (ref1_gcd_p1 a_3) (rE z62R K)) : EvL Try.prog 12 (List.drop 2 z62i0) K (z62p1S a_3) :=
  EvL.pE mixed (lookC_ok (l := []) trivial) [4] 2 2 (.nf (X := fun K => wK K .ret (z62R a_3)) (fun K => by kernel_rfl) (⟨_, .refl _, h⟩))
def z62p2S (a b : Int) : St := { tm := [sv 0 (.c (.lit (.int .u64 a))), sv 1 (.c (.lit (.int .u64 b)))], hp := [], nx := 0 }
noncomputable def ref1_gcd_p2_g (a b : Int) (r : ((Int))) : Option (Int) := match r with | a_2 => (ref1_gcd_p1 a_2)
noncomputable def ref1_gcd_p2 (a b : Int) : Option (Int) := (fixL (ref1_gcd_l1 a b) (a, b)).bind (ref1_gcd_p2_g a b)
theorem z62p2at : List.drop 1 z62i0 = .block 0 (.loop (inside (inside (nthI z62i0 1)))) :: List.drop 2 z62i0 := by kernel_rfl
theorem z62p2k (a b : Int) (K : KT) : ∀ r : ((Int)), W (ref1_gcd_p2_g a b r) (rE z62R K) → z62l1E a b r (wK (blockK 0 (thenK (EvL Try.prog 12 (List.drop 2 z62i0) K) K)))
  | a_2, h => ⟨(z62p1S a_2), (.refl _), (z62p1ok a_2 _ h)⟩
theorem z62p2ok (a b : Int) (K : KT) (h : W (ref1_gcd_p2 a b) (rE z62R K)) : EvL Try.prog 12 (List.drop 1 z62i0) K (z62p2S a b) :=
  EvL.at_ z62p2at (EvL.cons_loop (EvOk.weak (EvOk.ent (.refl _) (EvOk.loopF (x := inside (inside (nthI z62i0 1))) (f := ref1_gcd_l1 a b) (emb := z62l1S a b) (E := z62l1E a b) (z62l1ok a b) (z62l1Ethen a b) (W_loop h (z62p2k a b K))))))
def z62p3S (a b : Int) : St := { tm := [sv 0 (.c (.lit (.int .u64 a))), sv 1 (.c (.lit (.int .u64 b)))], hp := [], nx := 0 }
noncomputable def ref1_gcd_p3 (a b : Int) : Option (Int) := (ref1_gcd_p2 a b)
theorem z62p3ok (a b : Int) (K : KT) (h : W (ref1_gcd_p3 a b) (rE z62R K)) : EvL Try.prog 12 (List.drop 0 z62i0) K (z62p3S a b) :=
  EvL.pD mixed (lookC_ok (l := []) trivial) [0, 1] 0 1 1 (.nf (X := fun K => wK K .normal (z62p2S a b)) (fun K => by kernel_rfl) (⟨_, .refl _, (z62p2ok a b _ h)⟩))
noncomputable def ref1_gcd (a b : Int) : Option (Int) := ref1_gcd_p3 a b
theorem z62run (a b : Int) (y_ : Int) (h : ref1_gcd a b = some y_) : EvL Try.prog 12 (items (bodyOf Try.f62)) (retK Try.prog [.tmp 4] (OutOk (ref1_gcd_out y_))) (z62p3S a b) :=
  z62p3ok a b _ (W_iff.2 ⟨y_, h, z62Rok y_⟩)
noncomputable def ref1_gcd_C : Con
  | [(.c (.lit (.int .u64 a1))), (.c (.lit (.int .u64 a2)))] => some ([(ref1_gcd a1 a2).isSome = true], (ref1_gcd_out ((ref1_gcd a1 a2).getD (0 : Int))))
  | _ => none
theorem ref1_gcd_ok : Meets Try.prog 62 ref1_gcd_C := by
  refine meets_fun (fn := Try.f62) (c := bodyOf Try.f62) (by kernel_rfl) (by kernel_rfl) (by kernel_rfl) (rs := [.tmp 4]) (by kernel_rfl) (nt := 12) (by kernel_rfl) fun vs p out h hp => ?_
  unfold ref1_gcd_C at h
  split at h
  · next a1 a2 =>
    cases h
    obtain ⟨g, hp⟩ := allq hp
    obtain ⟨x, hx⟩ := Option.isSome_iff_exists.1 g
    rw [hx]
    exact ⟨[(.c (.lit (.int .u64 a1))), (.c (.lit (.int .u64 a2)))], (VLes.cons (VLe.rfl' _) (VLes.cons (VLe.rfl' _) VLes.nil)), rfl, z62run a1 a2 x hx⟩
  · cases h

noncomputable def z47i0 : List Code := items (bodyOf Try.f47)
def ref1_lowest_out (x_1 : (GFraction × Int)) : Out := .data (.tup [(.agg [(i64 x_1.1.Num), (i64 x_1.1.Den)]), (i64 x_1.2)])
def z47R (x_1 : (GFraction × Int)) : St := { tm := [sv 6 (.ptr 0 2 0 0), sv 7 (i64 x_1.2)], hp := [(0, some (.box [(i64 x_1.1.Num), (i64 x_1.1.Den)]))], nx := 1 }
theorem z47Rok (x_1 : (GFraction × Int)) : retK Try.prog [.cell 6 51, .tmp 7] (OutOk (ref1_lowest_out x_1)) .ret (z47R x_1) :=
  retK.intro (v := (.tup [(.agg [(i64 x_1.1.Num), (i64 x_1.1.Den)]), (i64 x_1.2)])) (by kernel_rfl) (VLe.tup (VLes.cons (VLe.rfl' _) (VLes.cons (VLe.rfl' _) (VLes.nil))))
def z47p0S (negative : Bool) (n : GPensionref1_wide) (d_1 : Int) : St := { tm := [sv 0 (bl negative), sv 1 (.ag (eGPensionref1_wide n)), sv 2 (.c (.lit (.int .u64 d_1)))], hp := [], nx := 0 }
noncomputable def ref1_lowest_p0 (negative : Bool) (n : GPensionref1_wide) (d_1 : Int) : Option ((GFraction × Int)) := (ref1_wide_over n d_1).bind fun r_1 => ((ref1_gcd d_1 r_1.2).bind fun r_2 => ((ref1_wide_over n r_2).bind fun r_3 => (gd (r_2 ≠ (0 : Int)) ((bif (bif (bif (r_3.1.hi != (0 : Int)) then true else (decide ((1000000000000000 : Int) < r_3.1.lo))) then true else (decide ((1000000000 : Int) < (IntKind.u64.wrap (Int.tdiv d_1 r_2))))) then (some ((GFraction.mk (0 : Int) (0 : Int)), (2 : Int))) else (bif negative then (some ((GFraction.mk (w64 ((0 : Int) - (w64 r_3.1.lo))) (w64 (IntKind.u64.wrap (Int.tdiv d_1 r_2)))), (0 : Int))) else (some ((GFraction.mk (w64 r_3.1.lo) (w64 (IntKind.u64.wrap (Int.tdiv d_1 r_2)))), (0 : Int)))))))))
theorem z47p0ok (negative : Bool) (n : GPensionref1_wide) (d_1 : Int) (K : KT) (h : W (ref1_lowest_p0 negative n d_1) (rE z47R K)) : EvL Try.prog 55 (List.drop 0 z47i0) K (z47p0S negative n d_1) :=
  EvL.pE mixed (lookC_ok (l := [(62, .pure ref1_gcd_C), (63, .pure ref1_wide_over_C)]) ⟨ref1_gcd_ok, ref1_wide_over_ok, trivial⟩) [6, 7] 0 12 (.nf (X := fun K => ((ref1_wide_over n d_1).isSome = true) ∧ (((ref1_gcd d_1 (((ref1_wide_over n d_1).getD (zGPensionref1_wide, (0 : Int))).2)).isSome = true) ∧ (((ref1_wide_over n ((ref1_gcd d_1 (((ref1_wide_over n d_1).getD (zGPensionref1_wide, (0 : Int))).2)).getD (0 : Int))).isSome = true) ∧ ((((ref1_gcd d_1 (((ref1_wide_over n d_1).getD (zGPensionref1_wide, (0 : Int))).2)).getD (0 : Int)) ≠ (0 : Int)) ∧ ((bif (bif (bif ((((ref1_wide_over n ((ref1_gcd d_1 (((ref1_wide_over n d_1).getD (zGPensionref1_wide, (0 : Int))).2)).getD (0 : Int))).getD (zGPensionref1_wide, (0 : Int))).1).hi != (0 : Int)) then true else (decide ((1000000000000000 : Int) < (((ref1_wide_over n ((ref1_gcd d_1 (((ref1_wide_over n d_1).getD (zGPensionref1_wide, (0 : Int))).2)).getD (0 : Int))).getD (zGPensionref1_wide, (0 : Int))).1).lo))) then true else (decide ((1000000000 : Int) < (IntKind.u64.wrap (Int.tdiv d_1 ((ref1_gcd d_1 (((ref1_wide_over n d_1).getD (zGPensionref1_wide, (0 : Int))).2)).getD (0 : Int))))))) then wK K .ret (z47R ((GFraction.mk (0 : Int) (0 : Int)), (2 : Int))) else (bif negative then wK K .ret (z47R ((GFraction.mk (w64 ((0 : Int) - (w64 (((ref1_wide_over n ((ref1_gcd d_1 (((ref1_wide_over n d_1).getD (zGPensionref1_wide, (0 : Int))).2)).getD (0 : Int))).getD (zGPensionref1_wide, (0 : Int))).1).lo))) (w64 (IntKind.u64.wrap (Int.tdiv d_1 ((ref1_gcd d_1 (((ref1_wide_over n d_1).getD (zGPensionref1_wide, (0 : Int))).2)).getD (0 : Int)))))), (0 : Int))) else wK K .ret (z47R ((GFraction.mk (w64 (((ref1_wide_over n ((ref1_gcd d_1 (((ref1_wide_over n d_1).getD (zGPensionref1_wide, (0 : Int))).2)).getD (0 : Int))).getD (zGPensionref1_wide, (0 : Int))).1).lo) (w64 (IntKind.u64.wrap (Int.tdiv d_1 ((ref1_gcd d_1 (((ref1_wide_over n d_1).getD (zGPensionref1_wide, (0 : Int))).2)).getD (0 : Int)))))), (0 : Int)))))))))) (fun K => by kernel_rfl) (W_bind (zGPensionref1_wide, (0 : Int)) h fun hp0 h => (W_bind (0 : Int) h fun hp1 h => (W_bind (zGPensionref1_wide, (0 : Int)) h fun hp2 h => (W_gd h fun hp3 h => (W_bif h (fun _ h => ⟨_, .refl _, h⟩) (fun _ h => (W_bif h (fun _ h => ⟨_, .refl _, h⟩) (fun _ h => ⟨_, .refl _, h⟩)))))))))
noncomputable def ref1_lowest (negative : Bool) (n : GPensionref1_wide) (d_1 : Int) : Option ((GFraction × Int)) := ref1_lowest_p0 negative n d_1
theorem z47run (negative : Bool) (n : GPensionref1_wide) (d_1 : Int) (y_ : (GFraction × Int)) (h : ref1_lowest negative n d_1 = some y_) : EvL Try.prog 55 (items (bodyOf Try.f47)) (retK Try.prog [.cell 6 51, .tmp 7] (OutOk (ref1_lowest_out y_))) (z47p0S negative n d_1) :=
  z47p0ok negative n d_1 _ (W_iff.2 ⟨y_, h, z47Rok y_⟩)
noncomputable def ref1_lowest_C : Con
  | [(.c (.lit (.bool a1))), (.agg [(.c (.lit (.int .u64 a2))), (.c (.lit (.int .u64 a3)))]), (.c (.lit (.int .u64 a4)))] => some ([(ref1_lowest a1 (GPensionref1_wide.mk a2 a3) a4).isSome = true], (ref1_lowest_out ((ref1_lowest a1 (GPensionref1_wide.mk a2 a3) a4).getD (zGFraction, (0 : Int)))))
  | _ => none
theorem ref1_lowest_ok : Meets Try.prog 47 ref1_lowest_C := by
  refine meets_fun (fn := Try.f47) (c := bodyOf Try.f47) (by kernel_rfl) (by kernel_rfl) (by kernel_rfl) (rs := [.cell 6 51, .tmp 7]) (by kernel_rfl) (nt := 55) (by kernel_rfl) fun vs p out h hp => ?_
  unfold ref1_lowest_C at h
  split at h
  · next a1 a2 a3 a4 =>
    cases h
    obtain ⟨g, hp⟩ := allq hp
    obtain ⟨x, hx⟩ := Option.isSome_iff_exists.1 g
    rw [hx]
    exact ⟨[(bl a1), (.agg [(.c (.lit (.int .u64 (GPensionref1_wide.mk a2 a3).hi))), (.c (.lit (.int .u64 (GPensionref1_wide.mk a2 a3).lo)))]), (.c (.lit (.int .u64 a4)))], (VLes.cons (VLe.rfl' _) (VLes.cons (VLe.rfl' _) (VLes.cons (VLe.rfl' _) VLes.nil))), rfl, z47run a1 (GPensionref1_wide.mk a2 a3) a4 x hx⟩
  · cases h

noncomputable def z29i0 : List Code := items (bodyOf Try.f29)
def ref1_MakeFraction_out (x_1 : (GFraction × Int)) : Out := .data (.tup [(.agg [(i64 x_1.1.Num), (i64 x_1.1.Den)]), (i64 x_1.2)])
def z29R (x_1 : (GFraction × Int)) : St := { tm := [sv 4 (.ptr 0 2 0 0), sv 5 (i64 x_1.2)], hp := [(0, some (.box [(i64 x_1.1.Num), (i64 x_1.1.Den)]))], nx := 1 }
theorem z29Rok (x_1 : (GFraction × Int)) : retK Try.prog [.cell 4 51, .tmp 5] (OutOk (ref1_MakeFraction_out x_1)) .ret (z29R x_1) :=
  retK.intro (v := (.tup [(.agg [(i64 x_1.1.Num), (i64 x_1.1.Den)]), (i64 x_1.2)])) (by kernel_rfl) (VLe.tup (VLes.cons (VLe.rfl' _) (VLes.cons (VLe.rfl' _) (VLes.nil))))
def z29p0S (num den : Int) : St := { tm := [sv 0 (i64 num), sv 1 (i64 den)], hp := [], nx := 0 }
noncomputable def ref1_MakeFraction_p0 (num den : Int) : Option ((GFraction × Int)) := (bif (den == (0 : Int)) then (some ((GFraction.mk (0 : Int) (0 : Int)), (3 : Int))) else (ref1_size num).bind fun r_1 => ((ref1_size den).bind fun r_2 => ((ref1_lowest (!((decide (num < (0 : Int))) == (decide (den < (0 : Int))))) (GPensionref1_wide.mk (0 : Int) r_1) r_2).bind fun r_3 => ((some (r_3.1, r_3.2))))))
theorem z29p0ok (num den : Int) (K : KT) (h : W (ref1_MakeFraction_p0 num den) (rE z29R K)) : EvL Try.prog 22 (List.drop 0 z29i0) K (z29p0S num den) :=
  EvL.pE mixed (lookC_ok (l := [(46, .pure ref1_size_C), (47, .pure ref1_lowest_C)]) ⟨ref1_size_ok, ref1_lowest_ok, trivial⟩) [4, 5] 0 5 (.nf (X := fun K => (bif (den == (0 : Int)) then wK K .ret (z29R ((GFraction.mk (0 : Int) (0 : Int)), (3 : Int))) else ((ref1_size num).isSome = true) ∧ ((ref1_size den).isSome = true) ∧ ((ref1_lowest (!((decide (num < (0 : Int))) == (decide (den < (0 : Int))))) (GPensionref1_wide.mk (0 : Int) ((ref1_size num).getD (0 : Int))) ((ref1_size den).getD (0 : Int))).isSome = true) ∧ (wK K .ret (z29R (((ref1_lowest (!((decide (num < (0 : Int))) == (decide (den < (0 : Int))))) (GPensionref1_wide.mk (0 : Int) ((ref1_size num).getD (0 : Int))) ((ref1_size den).getD (0 : Int))).getD (zGFraction, (0 : Int))).1, ((ref1_lowest (!((decide (num < (0 : Int))) == (decide (den < (0 : Int))))) (GPensionref1_wide.mk (0 : Int) ((ref1_size num).getD (0 : Int))) ((ref1_size den).getD (0 : Int))).getD (zGFraction, (0 : Int))).2))))) (fun K => by kernel_rfl) (W_bif h (fun _ h => ⟨_, .refl _, h⟩) (fun _ h => (W_bind (0 : Int) h fun hp0 h => (W_bind (0 : Int) h fun hp1 h => (W_bind (zGFraction, (0 : Int)) h fun hp2 h => ⟨_, .refl _, h⟩))))))
noncomputable def ref1_MakeFraction (num den : Int) : Option ((GFraction × Int)) := ref1_MakeFraction_p0 num den
theorem z29run (num den : Int) (y_ : (GFraction × Int)) (h : ref1_MakeFraction num den = some y_) : EvL Try.prog 22 (items (bodyOf Try.f29)) (retK Try.prog [.cell 4 51, .tmp 5] (OutOk (ref1_MakeFraction_out y_))) (z29p0S num den) :=
  z29p0ok num den _ (W_iff.2 ⟨y_, h, z29Rok y_⟩)
noncomputable def ref1_MakeFraction_C : Con
  | [(.c (.lit (.int .i64 a1))), (.c (.lit (.int .i64 a2)))] => some ([(ref1_MakeFraction a1 a2).isSome = true], (ref1_MakeFraction_out ((ref1_MakeFraction a1 a2).getD (zGFraction, (0 : Int)))))
  | _ => none
theorem ref1_MakeFraction_ok : Meets Try.prog 29 ref1_MakeFraction_C := by
  refine meets_fun (fn := Try.f29) (c := bodyOf Try.f29) (by kernel_rfl) (by kernel_rfl) (by kernel_rfl) (rs := [.cell 4 51, .tmp 5]) (by kernel_rfl) (nt := 22) (by kernel_rfl) fun vs p out h hp => ?_
  unfold ref1_MakeFraction_C at h
  split at h
  · next a1 a2 =>
    cases h
    obtain ⟨g, hp⟩ := allq hp
    obtain ⟨x, hx⟩ := Option.isSome_iff_exists.1 g
    rw [hx]
    exact ⟨[(i64 a1), (i64 a2)], (VLes.cons (VLe.rfl' _) (VLes.cons (VLe.rfl' _) VLes.nil)), rfl, z29run a1 a2 x hx⟩
  · cases h

end Go.Ax
