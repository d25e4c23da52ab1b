import Derived.Test.YtefjkielgagknaaGreatF4
import Derived.Test.YtefjkielgagknaaGreatLay
import Derived.Test.YtefjkielgagknaaGreatRows
/- Types of the program, and functions of it: printed by a program, checked by the kernel. -/
set_option linter.all false
set_option maxRecDepth 100000
namespace Go.Ax
open Go.Proofs Go.Proofs.YtefjkielgagknaaGreat
noncomputable def z47i0 : List Code := items (bodyOf Tryz.f47)
def career_greater_out (x_1 : GFact) : Out := .data (.agg [(i64 x_1.Issuer), (i64 x_1.Number), (i64 x_1.Version), (bl x_1.Withdrawn), (i64 x_1.Person), (i64 x_1.Kind), (i64 x_1.State), (i64 x_1.Span.From), (i64 x_1.Span.To), (i64 x_1.Seat), (i64 x_1.Share), (i64 x_1.Currency), (i64 x_1.Amount), (i64 x_1.Ref)])
def z47R (x_1 : GFact) : St := { tm := [sv 4 (.ptr 0 14 0 0)], hp := [(0, some (.box [(i64 x_1.Issuer), (i64 x_1.Number), (i64 x_1.Version), (bl x_1.Withdrawn), (i64 x_1.Person), (i64 x_1.Kind), (i64 x_1.State), (i64 x_1.Span.From), (i64 x_1.Span.To), (i64 x_1.Seat), (i64 x_1.Share), (i64 x_1.Currency), (i64 x_1.Amount), (i64 x_1.Ref)]))], nx := 1 }
theorem z47Rok (x_1 : GFact) : retK Tryz.prog [.cell 4 36] (OutOk (career_greater_out x_1)) .ret (z47R x_1) :=
  retK.intro (v := (.agg [(i64 x_1.Issuer), (i64 x_1.Number), (i64 x_1.Version), (bl x_1.Withdrawn), (i64 x_1.Person), (i64 x_1.Kind), (i64 x_1.State), (i64 x_1.Span.From), (i64 x_1.Span.To), (i64 x_1.Seat), (i64 x_1.Share), (i64 x_1.Currency), (i64 x_1.Amount), (i64 x_1.Ref)])) (by kernel_rfl) ((VLe.rfl' _))
def z47p0S (a b : GFact) : St := { tm := [sv 0 (.ag (eGFact a)), sv 1 (.ag (eGFact b))], hp := [], nx := 0 }
noncomputable def career_greater_p0 (a b : GFact) : Option (GFact) := (fact_Less a b).bind fun r_1 => ((bif r_1 then (some b) else (some a)))
theorem z47p0ok (a b : GFact) (K : KT) (h : W (career_greater_p0 a b) (rE z47R K)) : EvL Tryz.prog 10 (List.drop 0 z47i0) K (z47p0S a b) :=
  EvL.pE mixed (lookC_ok (l := [(67, .pure fact_Less_C)]) ⟨fact_Less_ok, trivial⟩) [4] 0 5 (.nf (X := fun K => ((fact_Less a b).isSome = true) ∧ ((bif ((fact_Less a b).getD false) then wK K .ret (z47R b) else wK K .ret (z47R a)))) (fun K => by kernel_rfl) (W_bind false h fun hp0 h => (W_bif h (fun _ h => ⟨_, .refl _, h⟩) (fun _ h => ⟨_, .refl _, h⟩))))
noncomputable def career_greater (a b : GFact) : Option (GFact) := career_greater_p0 a b
theorem z47run (a b : GFact) (y_ : GFact) (h : career_greater a b = some y_) : EvL Tryz.prog 10 (items (bodyOf Tryz.f47)) (retK Tryz.prog [.cell 4 36] (OutOk (career_greater_out y_))) (z47p0S a b) :=
  z47p0ok a b _ (W_iff.2 ⟨y_, h, z47Rok y_⟩)
noncomputable def career_greater_C : Con
  | [(.agg [(.c (.lit (.int .i64 a1))), (.c (.lit (.int .i64 a2))), (.c (.lit (.int .i64 a3))), (.c (.lit (.bool a4))), (.c (.lit (.int .i64 a5))), (.c (.lit (.int .i64 a6))), (.c (.lit (.int .i64 a7))), (.c (.lit (.int .i64 a8))), (.c (.lit (.int .i64 a9))), (.c (.lit (.int .i64 a10))), (.c (.lit (.int .i64 a11))), (.c (.lit (.int .i64 a12))), (.c (.lit (.int .i64 a13))), (.c (.lit (.int .i64 a14)))]), (.agg [(.c (.lit (.int .i64 a15))), (.c (.lit (.int .i64 a16))), (.c (.lit (.int .i64 a17))), (.c (.lit (.bool a18))), (.c (.lit (.int .i64 a19))), (.c (.lit (.int .i64 a20))), (.c (.lit (.int .i64 a21))), (.c (.lit (.int .i64 a22))), (.c (.lit (.int .i64 a23))), (.c (.lit (.int .i64 a24))), (.c (.lit (.int .i64 a25))), (.c (.lit (.int .i64 a26))), (.c (.lit (.int .i64 a27))), (.c (.lit (.int .i64 a28)))])] => some ([(career_greater (GFact.mk a1 a2 a3 a4 a5 a6 a7 (GSpan.mk a8 a9) a10 a11 a12 a13 a14) (GFact.mk a15 a16 a17 a18 a19 a20 a21 (GSpan.mk a22 a23) a24 a25 a26 a27 a28)).isSome = true], (career_greater_out ((career_greater (GFact.mk a1 a2 a3 a4 a5 a6 a7 (GSpan.mk a8 a9) a10 a11 a12 a13 a14) (GFact.mk a15 a16 a17 a18 a19 a20 a21 (GSpan.mk a22 a23) a24 a25 a26 a27 a28)).getD zGFact)))
  | _ => none
theorem career_greater_ok : Meets Tryz.prog 47 career_greater_C := by
  refine meets_fun (fn := Tryz.f47) (c := bodyOf Tryz.f47) (by kernel_rfl) (by kernel_rfl) (by kernel_rfl) (rs := [.cell 4 36]) (by kernel_rfl) (nt := 10) (by kernel_rfl) fun vs p out h hp => ?_
  unfold career_greater_C at h
  split at h
  · next a1 a2 a3 a4 a5 a6 a7 a8 a9 a10 a11 a12 a13 a14 a15 a16 a17 a18 a19 a20 a21 a22 a23 a24 a25 a26 a27 a28 =>
    cases h
    obtain ⟨g, hp⟩ := allq hp
    obtain ⟨x, hx⟩ := Option.isSome_iff_exists.1 g
    rw [hx]
    exact ⟨[(.agg [(i64 (GFact.mk a1 a2 a3 a4 a5 a6 a7 (GSpan.mk a8 a9) a10 a11 a12 a13 a14).Issuer), (i64 (GFact.mk a1 a2 a3 a4 a5 a6 a7 (GSpan.mk a8 a9) a10 a11 a12 a13 a14).Number), (i64 (GFact.mk a1 a2 a3 a4 a5 a6 a7 (GSpan.mk a8 a9) a10 a11 a12 a13 a14).Version), (bl (GFact.mk a1 a2 a3 a4 a5 a6 a7 (GSpan.mk a8 a9) a10 a11 a12 a13 a14).Withdrawn), (i64 (GFact.mk a1 a2 a3 a4 a5 a6 a7 (GSpan.mk a8 a9) a10 a11 a12 a13 a14).Person), (i64 (GFact.mk a1 a2 a3 a4 a5 a6 a7 (GSpan.mk a8 a9) a10 a11 a12 a13 a14).Kind), (i64 (GFact.mk a1 a2 a3 a4 a5 a6 a7 (GSpan.mk a8 a9) a10 a11 a12 a13 a14).State), (i64 ((GFact.mk a1 a2 a3 a4 a5 a6 a7 (GSpan.mk a8 a9) a10 a11 a12 a13 a14).Span).From), (i64 ((GFact.mk a1 a2 a3 a4 a5 a6 a7 (GSpan.mk a8 a9) a10 a11 a12 a13 a14).Span).To), (i64 (GFact.mk a1 a2 a3 a4 a5 a6 a7 (GSpan.mk a8 a9) a10 a11 a12 a13 a14).Seat), (i64 (GFact.mk a1 a2 a3 a4 a5 a6 a7 (GSpan.mk a8 a9) a10 a11 a12 a13 a14).Share), (i64 (GFact.mk a1 a2 a3 a4 a5 a6 a7 (GSpan.mk a8 a9) a10 a11 a12 a13 a14).Currency), (i64 (GFact.mk a1 a2 a3 a4 a5 a6 a7 (GSpan.mk a8 a9) a10 a11 a12 a13 a14).Amount), (i64 (GFact.mk a1 a2 a3 a4 a5 a6 a7 (GSpan.mk a8 a9) a10 a11 a12 a13 a14).Ref)]), (.agg [(i64 (GFact.mk a15 a16 a17 a18 a19 a20 a21 (GSpan.mk a22 a23) a24 a25 a26 a27 a28).Issuer), (i64 (GFact.mk a15 a16 a17 a18 a19 a20 a21 (GSpan.mk a22 a23) a24 a25 a26 a27 a28).Number), (i64 (GFact.mk a15 a16 a17 a18 a19 a20 a21 (GSpan.mk a22 a23) a24 a25 a26 a27 a28).Version), (bl (GFact.mk a15 a16 a17 a18 a19 a20 a21 (GSpan.mk a22 a23) a24 a25 a26 a27 a28).Withdrawn), (i64 (GFact.mk a15 a16 a17 a18 a19 a20 a21 (GSpan.mk a22 a23) a24 a25 a26 a27 a28).Person), (i64 (GFact.mk a15 a16 a17 a18 a19 a20 a21 (GSpan.mk a22 a23) a24 a25 a26 a27 a28).Kind), (i64 (GFact.mk a15 a16 a17 a18 a19 a20 a21 (GSpan.mk a22 a23) a24 a25 a26 a27 a28).State), (i64 ((GFact.mk a15 a16 a17 a18 a19 a20 a21 (GSpan.mk a22 a23) a24 a25 a26 a27 a28).Span).From), (i64 ((GFact.mk a15 a16 a17 a18 a19 a20 a21 (GSpan.mk a22 a23) a24 a25 a26 a27 a28).Span).To), (i64 (GFact.mk a15 a16 a17 a18 a19 a20 a21 (GSpan.mk a22 a23) a24 a25 a26 a27 a28).Seat), (i64 (GFact.mk a15 a16 a17 a18 a19 a20 a21 (GSpan.mk a22 a23) a24 a25 a26 a27 a28).Share), (i64 (GFact.mk a15 a16 a17 a18 a19 a20 a21 (GSpan.mk a22 a23) a24 a25 a26 a27 a28).Currency), (i64 (GFact.mk a15 a16 a17 a18 a19 a20 a21 (GSpan.mk a22 a23) a24 a25 a26 a27 a28).Amount), (i64 (GFact.mk a15 a16 a17 a18 a19 a20 a21 (GSpan.mk a22 a23) a24 a25 a26 a27 a28).Ref)])], (VLes.cons (VLe.rfl' _) (VLes.cons (VLe.rfl' _) VLes.nil)), rfl, z47run (GFact.mk a1 a2 a3 a4 a5 a6 a7 (GSpan.mk a8 a9) a10 a11 a12 a13 a14) (GFact.mk a15 a16 a17 a18 a19 a20 a21 (GSpan.mk a22 a23) a24 a25 a26 a27 a28) x hx⟩
  · cases h

noncomputable def z44i0 : List Code := items (bodyOf Tryz.f44)
noncomputable def z44i1 : List Code := items (inside (inside (nthI z44i0 2)))
def career_merge_api_Fact_byIdentity_greater_out (x_1 : (List GFact)) : Out := .own true 36 14 (x_1).length (lsEl eGFact zGFact x_1)
def z44R (x_1 : (List GFact)) : St := { tm := [sv 8 (.row 0 14 0 x_1.length)], hp := [(0, some (.row 36 14 x_1.length (lsEl eGFact zGFact x_1)))], nx := 1 }
theorem z44Rok (x_1 : (List GFact)) : retK Tryz.prog [.tmp 8] (OutOk (career_merge_api_Fact_byIdentity_greater_out x_1)) .ret (z44R x_1) :=
  retK.intro (v := (.row 0 14 0 x_1.length)) (by kernel_rfl) (⟨_, _, _, rfl, rfl, rfl, fun _ _ => rfl, fun _ i hi d hd => scal_GFact _ d hd⟩)
def z44l1S (a b : (List GFact)) (s : ((List GFact) × (List GFact) × (List GFact))) : St := match s with | (a_1, b_1, out_1) => { tm := [sv 0 (.c (.sl 14 a_1.length (lsEl eGFact zGFact a_1))), sv 1 (.c (.sl 14 b_1.length (lsEl eGFact zGFact b_1))), sv 2 (.fn 46 []), sv 3 (.fn 47 []), sv 9 (.row 0 14 0 out_1.length)], hp := [(0, some (.row 36 14 out_1.length (lsEl eGFact zGFact out_1)))], nx := 1 }
def z44l1C0 (a b : (List GFact)) (s : (List GFact) × (List GFact) × (List GFact)) : St := match s with | (a_2, b_2, out_2) => { tm := [sv 0 (.c (.sl 14 a_2.length (lsEl eGFact zGFact a_2))), sv 1 (.c (.sl 14 b_2.length (lsEl eGFact zGFact b_2))), sv 9 (.row 0 14 0 out_2.length)], hp := [(0, some (.row 36 14 out_2.length (lsEl eGFact zGFact out_2)))], nx := 1 }
def z44l1E (a b : (List GFact)) (r : (((List GFact) × (List GFact) × (List GFact)))) (K : KT) : Prop := match r with | s => K (.exit 0) (z44l1C0 a b s)
def z44p0S (a_1 b_1 out_1 : (List GFact)) : St := { tm := [sv 0 (.c (.sl 14 a_1.length (lsEl eGFact zGFact a_1))), sv 1 (.c (.sl 14 b_1.length (lsEl eGFact zGFact b_1))), sv 2 (.fn 46 []), sv 3 (.fn 47 []), sv 9 (.row 0 14 0 out_1.length)], hp := [(0, some (.row 36 14 out_1.length (lsEl eGFact zGFact out_1)))], nx := 1 }
noncomputable def career_merge_api_Fact_byIdentity_greater_p0 (a_1 b_1 out_1 : (List GFact)) : Option (((List GFact) × (List GFact) × (List GFact)) ⊕ (((List GFact) × (List GFact) × (List GFact)))) := (bif (bif (decide ((0 : Int) < ((a_1.length : Nat) : Int))) then (decide ((0 : Int) < ((b_1.length : Nat) : Int))) else false) then gd ((0 : Int) ≤ (0 : Int) ∧ (0 : Int) < ((a_1.length : Nat) : Int)) (gd ((0 : Int) ≤ (0 : Int) ∧ (0 : Int) < ((b_1.length : Nat) : Int)) ((career_byIdentity (a_1.getD 0 zGFact) (b_1.getD 0 zGFact)).bind fun r_1 => ((bif (decide (r_1 < (0 : Int))) then gd ((0 : Int) ≤ (0 : Int) ∧ (0 : Int) < ((a_1.length : Nat) : Int)) (gd (capB (out_1.length + 1) 112) (gd ((0 : Int) ≤ (1 : Int) ∧ (1 : Int) ≤ ((a_1.length : Nat) : Int) ∧ ((a_1.length : Nat) : Int) ≤ ((a_1.length : Nat) : Int)) ((some (Sum.inl ((subL zGFact a_1 1 (Int.toNat (((a_1.length : Nat) : Int) - (1 : Int)))), b_1, (out_1 ++ ([(a_1.getD 0 zGFact)] : List GFact)))))))) else (bif (decide ((0 : Int) < r_1)) then gd ((0 : Int) ≤ (0 : Int) ∧ (0 : Int) < ((b_1.length : Nat) : Int)) (gd (capB (out_1.length + 1) 112) (gd ((0 : Int) ≤ (1 : Int) ∧ (1 : Int) ≤ ((b_1.length : Nat) : Int) ∧ ((b_1.length : Nat) : Int) ≤ ((b_1.length : Nat) : Int)) ((some (Sum.inl (a_1, (subL zGFact b_1 1 (Int.toNat (((b_1.length : Nat) : Int) - (1 : Int)))), (out_1 ++ ([(b_1.getD 0 zGFact)] : List GFact)))))))) else gd ((0 : Int) ≤ (0 : Int) ∧ (0 : Int) < ((a_1.length : Nat) : Int)) (gd ((0 : Int) ≤ (0 : Int) ∧ (0 : Int) < ((b_1.length : Nat) : Int)) ((career_greater (a_1.getD 0 zGFact) (b_1.getD 0 zGFact)).bind fun r_2 => (gd (capB (out_1.length + 1) 112) (gd ((0 : Int) ≤ (1 : Int) ∧ (1 : Int) ≤ ((a_1.length : Nat) : Int) ∧ ((a_1.length : Nat) : Int) ≤ ((a_1.length : Nat) : Int)) (gd ((0 : Int) ≤ (1 : Int) ∧ (1 : Int) ≤ ((b_1.length : Nat) : Int) ∧ ((b_1.length : Nat) : Int) ≤ ((b_1.length : Nat) : Int)) ((some (Sum.inl ((subL zGFact a_1 1 (Int.toNat (((a_1.length : Nat) : Int) - (1 : Int)))), (subL zGFact b_1 1 (Int.toNat (((b_1.length : Nat) : Int) - (1 : Int)))), (out_1 ++ ([r_2] : List GFact)))))))))))))))) else (some (Sum.inr (a_1, b_1, out_1))))
theorem z44p0ok (a_1 b_1 out_1 a b : (List GFact)) (K : KT) (h : W (career_merge_api_Fact_byIdentity_greater_p0 a_1 b_1 out_1) (nE (z44l1S a b) (z44l1E a b) K)) : EvL Tryz.prog 69 (List.drop 0 z44i1) K (z44p0S a_1 b_1 out_1) :=
  EvL.pE mixed (lookC_ok (l := [(46, .pure career_byIdentity_C), (47, .pure career_greater_C)]) ⟨career_byIdentity_ok, career_greater_ok, trivial⟩) [0, 1, 2, 3, 9, 15, 16, 17] 0 3 (.nf (X := fun K => (bif (bif (decide ((0 : Int) < ((a_1.length : Nat) : Int))) then (decide ((0 : Int) < ((b_1.length : Nat) : Int))) else false) then ((0 : Int) ≤ (0 : Int)) ∧ ((0 : Int) < ((a_1.length : Nat) : Int)) ∧ ((0 : Int) ≤ (0 : Int)) ∧ ((0 : Int) < ((b_1.length : Nat) : Int)) ∧ ((career_byIdentity (a_1.getD 0 zGFact) (b_1.getD 0 zGFact)).isSome = true) ∧ ((bif (decide (((career_byIdentity (a_1.getD 0 zGFact) (b_1.getD 0 zGFact)).getD (0 : Int)) < (0 : Int))) then ((0 : Int) ≤ (0 : Int)) ∧ ((0 : Int) < ((a_1.length : Nat) : Int)) ∧ (out_1.length = out_1.length) ∧ ((out_1.length + 1) * 112 ≤ 140737488355328) ∧ ((out_1.length + 1) ≤ 140737488355328) ∧ ((0 : Int) ≤ (1 : Int)) ∧ ((1 : Int) ≤ ((a_1.length : Nat) : Int)) ∧ (((a_1.length : Nat) : Int) ≤ ((a_1.length : Nat) : Int)) ∧ (wK K .normal ({ tm := [sv 0 (.c (.sl 14 (Int.toNat (((a_1.length : Nat) : Int) - (1 : Int))) (fun i => (lsEl eGFact zGFact a_1) (1 + i)))), sv 1 (.c (.sl 14 b_1.length (lsEl eGFact zGFact b_1))), sv 2 (.fn 46 []), sv 3 (.fn 47 []), sv 9 (.row 0 14 0 (out_1.length + 1)), sv 15 (.c .unk), sv 16 (.c .unk), sv 17 (.c .unk)], hp := [(0, some (.row 36 14 (out_1.length + 1) (fun i => bif Nat.blt i out_1.length then (lsEl eGFact zGFact out_1) i else (fun i => (litE 14 (eGFact (a_1.getD 0 zGFact))) (0 + i)) (i - out_1.length))))], nx := 1 })) else (bif (decide ((0 : Int) < ((career_byIdentity (a_1.getD 0 zGFact) (b_1.getD 0 zGFact)).getD (0 : Int)))) then ((0 : Int) ≤ (0 : Int)) ∧ ((0 : Int) < ((b_1.length : Nat) : Int)) ∧ (out_1.length = out_1.length) ∧ ((out_1.length + 1) * 112 ≤ 140737488355328) ∧ ((out_1.length + 1) ≤ 140737488355328) ∧ ((0 : Int) ≤ (1 : Int)) ∧ ((1 : Int) ≤ ((b_1.length : Nat) : Int)) ∧ (((b_1.length : Nat) : Int) ≤ ((b_1.length : Nat) : Int)) ∧ (wK K .normal ({ tm := [sv 0 (.c (.sl 14 a_1.length (lsEl eGFact zGFact a_1))), sv 1 (.c (.sl 14 (Int.toNat (((b_1.length : Nat) : Int) - (1 : Int))) (fun i => (lsEl eGFact zGFact b_1) (1 + i)))), sv 2 (.fn 46 []), sv 3 (.fn 47 []), sv 9 (.row 0 14 0 (out_1.length + 1)), sv 15 (.c .unk), sv 16 (.c .unk), sv 17 (.c .unk)], hp := [(0, some (.row 36 14 (out_1.length + 1) (fun i => bif Nat.blt i out_1.length then (lsEl eGFact zGFact out_1) i else (fun i => (litE 14 (eGFact (b_1.getD 0 zGFact))) (0 + i)) (i - out_1.length))))], nx := 1 })) else ((0 : Int) ≤ (0 : Int)) ∧ ((0 : Int) < ((a_1.length : Nat) : Int)) ∧ ((0 : Int) ≤ (0 : Int)) ∧ ((0 : Int) < ((b_1.length : Nat) : Int)) ∧ ((career_greater (a_1.getD 0 zGFact) (b_1.getD 0 zGFact)).isSome = true) ∧ (out_1.length = out_1.length) ∧ ((out_1.length + 1) * 112 ≤ 140737488355328) ∧ ((out_1.length + 1) ≤ 140737488355328) ∧ ((0 : Int) ≤ (1 : Int)) ∧ ((1 : Int) ≤ ((a_1.length : Nat) : Int)) ∧ (((a_1.length : Nat) : Int) ≤ ((a_1.length : Nat) : Int)) ∧ ((0 : Int) ≤ (1 : Int)) ∧ ((1 : Int) ≤ ((b_1.length : Nat) : Int)) ∧ (((b_1.length : Nat) : Int) ≤ ((b_1.length : Nat) : Int)) ∧ (wK K .normal ({ tm := [sv 0 (.c (.sl 14 (Int.toNat (((a_1.length : Nat) : Int) - (1 : Int))) (fun i => (lsEl eGFact zGFact a_1) (1 + i)))), sv 1 (.c (.sl 14 (Int.toNat (((b_1.length : Nat) : Int) - (1 : Int))) (fun i => (lsEl eGFact zGFact b_1) (1 + i)))), sv 2 (.fn 46 []), sv 3 (.fn 47 []), sv 9 (.row 0 14 0 (out_1.length + 1)), sv 15 (.c .unk), sv 16 (.c .unk), sv 17 (.c .unk)], hp := [(0, some (.row 36 14 (out_1.length + 1) (fun i => bif Nat.blt i out_1.length then (lsEl eGFact zGFact out_1) i else (fun i => (litE 14 (eGFact ((career_greater (a_1.getD 0 zGFact) (b_1.getD 0 zGFact)).getD zGFact))) (0 + i)) (i - out_1.length))))], nx := 1 }))))) else wK K (.exit 0) ({ tm := [sv 0 (.c (.sl 14 a_1.length (lsEl eGFact zGFact a_1))), sv 1 (.c (.sl 14 b_1.length (lsEl eGFact zGFact b_1))), sv 2 (.fn 46 []), sv 3 (.fn 47 []), sv 9 (.row 0 14 0 out_1.length), sv 15 (.c .unk), sv 16 (.c .unk), sv 17 (.c .unk)], hp := [(0, some (.row 36 14 out_1.length (lsEl eGFact zGFact out_1)))], nx := 1 }))) (fun K => by kernel_rfl) (W_bif h (fun _ h => (W_gd2 h fun hp0 h => (W_gd2 h fun hp1 h => (W_bind (0 : Int) h fun hp2 h => (W_bif h (fun _ h => (W_gd2 h fun hp3 h => ⟨rfl, (W_gd2 h fun hp4 h => (W_gd3 h fun hp5 h => ⟨(z44l1S a b ((subL zGFact a_1 1 (Int.toNat (((a_1.length : Nat) : Int) - (1 : Int)))), b_1, (out_1 ++ ([(a_1.getD 0 zGFact)] : List GFact)))), (.of (.cons rfl (.sl (RowIs.sub eGFact zGFact a_1 1 (Int.toNat (((a_1.length : Nat) : Int) - (1 : Int))))) (.q rfl (.q rfl (.q rfl (.cons rfl (.rown (len_app rfl rfl)) .nil))))) (.row rfl (RowIs.app (RowIs.ls eGFact zGFact out_1) (RowIs.zero (RowIs.l1 (enc := eGFact) (z := zGFact) 14 (a_1.getD 0 zGFact) rfl))) .nil rfl) rfl), h⟩))⟩)) (fun _ h => (W_bif h (fun _ h => (W_gd2 h fun hp6 h => ⟨rfl, (W_gd2 h fun hp7 h => (W_gd3 h fun hp8 h => ⟨(z44l1S a b (a_1, (subL zGFact b_1 1 (Int.toNat (((b_1.length : Nat) : Int) - (1 : Int)))), (out_1 ++ ([(b_1.getD 0 zGFact)] : List GFact)))), (.of (.q rfl (.cons rfl (.sl (RowIs.sub eGFact zGFact b_1 1 (Int.toNat (((b_1.length : Nat) : Int) - (1 : Int))))) (.q rfl (.q rfl (.cons rfl (.rown (len_app rfl rfl)) .nil))))) (.row rfl (RowIs.app (RowIs.ls eGFact zGFact out_1) (RowIs.zero (RowIs.l1 (enc := eGFact) (z := zGFact) 14 (b_1.getD 0 zGFact) rfl))) .nil rfl) rfl), h⟩))⟩)) (fun _ h => (W_gd2 h fun hp9 h => (W_gd2 h fun hp10 h => (W_bind zGFact h fun hp11 h => ⟨rfl, (W_gd2 h fun hp12 h => (W_gd3 h fun hp13 h => (W_gd3 h fun hp14 h => ⟨(z44l1S a b ((subL zGFact a_1 1 (Int.toNat (((a_1.length : Nat) : Int) - (1 : Int)))), (subL zGFact b_1 1 (Int.toNat (((b_1.length : Nat) : Int) - (1 : Int)))), (out_1 ++ ([((career_greater (a_1.getD 0 zGFact) (b_1.getD 0 zGFact)).getD zGFact)] : List GFact)))), (.of (.cons rfl (.sl (RowIs.sub eGFact zGFact a_1 1 (Int.toNat (((a_1.length : Nat) : Int) - (1 : Int))))) (.cons rfl (.sl (RowIs.sub eGFact zGFact b_1 1 (Int.toNat (((b_1.length : Nat) : Int) - (1 : Int))))) (.q rfl (.q rfl (.cons rfl (.rown (len_app rfl rfl)) .nil))))) (.row rfl (RowIs.app (RowIs.ls eGFact zGFact out_1) (RowIs.zero (RowIs.l1 (enc := eGFact) (z := zGFact) 14 ((career_greater (a_1.getD 0 zGFact) (b_1.getD 0 zGFact)).getD zGFact) rfl))) .nil rfl) rfl), h⟩)))⟩))))))))))) (fun _ h => ⟨(z44l1C0 a b (a_1, b_1, out_1)), (.of (.q rfl (.q rfl (.q rfl .nil))) (.same rfl .nil) rfl), h⟩)))
noncomputable def career_merge_api_Fact_byIdentity_greater_l1 (a b : (List GFact)) (s : ((List GFact) × (List GFact) × (List GFact))) : Option (((List GFact) × (List GFact) × (List GFact)) ⊕ (((List GFact) × (List GFact) × (List GFact)))) := match s with | (a_1, b_1, out_1) => career_merge_api_Fact_byIdentity_greater_p0 a_1 b_1 out_1
theorem z44l1ok (a b : (List GFact)) (s : ((List GFact) × (List GFact) × (List GFact))) : Pp Tryz.prog 69 (List.drop 0 z44i1) (z44l1S a b s) (career_merge_api_Fact_byIdentity_greater_l1 a b s) (nextE (z44l1S a b) (z44l1E a b)) := fun K h => match s, h with | (a_1, b_1, out_1), h => (z44p0ok a_1 b_1 out_1 a b _ h)
theorem z44l1Ethen (a b : (List GFact)) : ∀ (r : (((List GFact) × (List GFact) × (List GFact)))) (J : St → Prop) (K : KT), z44l1E a b r K → z44l1E a b r (thenK J K)
  | s, _, _, h => h
def z44p1S (a_3 b_3 out_3 : (List GFact)) : St := { tm := [sv 0 (.c (.sl 14 a_3.length (lsEl eGFact zGFact a_3))), sv 1 (.c (.sl 14 b_3.length (lsEl eGFact zGFact b_3))), sv 9 (.row 0 14 0 out_3.length)], hp := [(0, some (.row 36 14 out_3.length (lsEl eGFact zGFact out_3)))], nx := 1 }
noncomputable def career_merge_api_Fact_byIdentity_greater_p1 (a_3 b_3 out_3 : (List GFact)) : Option ((List GFact)) := gd (capB (out_3.length + a_3.length) 112) (gd (capB ((out_3.length + a_3.length) + b_3.length) 112) ((some ((out_3 ++ a_3) ++ b_3))))
theorem z44p1ok (a_3 b_3 out_3 : (List GFact)) (K : KT) (h : W (career_merge_api_Fact_byIdentity_greater_p1 a_3 b_3 out_3) (rE z44R K)) : EvL Tryz.prog 69 (List.drop 3 z44i0) K (z44p1S a_3 b_3 out_3) :=
  EvL.pE mixed (lookC_ok (l := []) trivial) [8] 3 2 (.nf (X := fun K => (out_3.length = out_3.length) ∧ ((out_3.length + a_3.length) * 112 ≤ 140737488355328) ∧ ((out_3.length + a_3.length) ≤ 140737488355328) ∧ ((out_3.length + a_3.length) = (out_3.length + a_3.length)) ∧ (((out_3.length + a_3.length) + b_3.length) * 112 ≤ 140737488355328) ∧ (((out_3.length + a_3.length) + b_3.length) ≤ 140737488355328) ∧ (wK K .ret ({ tm := [sv 8 (.row 0 14 0 ((out_3.length + a_3.length) + b_3.length))], hp := [(0, some (.row 36 14 ((out_3.length + a_3.length) + b_3.length) (fun i => bif Nat.blt i (out_3.length + a_3.length) then (fun i => bif Nat.blt i out_3.length then (lsEl eGFact zGFact out_3) i else (lsEl eGFact zGFact a_3) (i - out_3.length)) i else (lsEl eGFact zGFact b_3) (i - (out_3.length + a_3.length)))))], nx := 1 }))) (fun K => by kernel_rfl) (⟨rfl, (W_gd2 h fun hp0 h => ⟨rfl, (W_gd2 h fun hp1 h => ⟨(z44R ((out_3 ++ a_3) ++ b_3)), (.of (.cons rfl (.rown (len_app (len_app rfl rfl) rfl)) .nil) (.row rfl (RowIs.app (RowIs.app (RowIs.ls eGFact zGFact out_3) (RowIs.ls eGFact zGFact a_3)) (RowIs.ls eGFact zGFact b_3)) .nil rfl) rfl), h⟩)⟩)⟩))
def z44p2S (a b : (List GFact)) : St := { tm := [sv 0 (.c (.sl 14 a.length (lsEl eGFact zGFact a))), sv 1 (.c (.sl 14 b.length (lsEl eGFact zGFact b))), sv 2 (.fn 46 []), sv 3 (.fn 47 []), sv 9 (.c .nil)], hp := [], nx := 0 }
noncomputable def career_merge_api_Fact_byIdentity_greater_p2_g (a b : (List GFact)) (r : (((List GFact) × (List GFact) × (List GFact)))) : Option ((List GFact)) := match r with | (a_2, b_2, out_2) => (career_merge_api_Fact_byIdentity_greater_p1 a_2 b_2 out_2)
noncomputable def career_merge_api_Fact_byIdentity_greater_p2 (a b : (List GFact)) : Option ((List GFact)) := (fixL (career_merge_api_Fact_byIdentity_greater_l1 a b) (a, b, ([] : List GFact))).bind (career_merge_api_Fact_byIdentity_greater_p2_g a b)
theorem z44p2at : List.drop 2 z44i0 = .block 0 (.loop (inside (inside (nthI z44i0 2)))) :: List.drop 3 z44i0 := by kernel_rfl
theorem z44p2k (a b : (List GFact)) (K : KT) : ∀ r : (((List GFact) × (List GFact) × (List GFact))), W (career_merge_api_Fact_byIdentity_greater_p2_g a b r) (rE z44R K) → z44l1E a b r (wK (blockK 0 (thenK (EvL Tryz.prog 69 (List.drop 3 z44i0) K) K)))
  | (a_2, b_2, out_2), h => ⟨(z44p1S a_2 b_2 out_2), (.refl _), (z44p1ok a_2 b_2 out_2 _ h)⟩
theorem z44p2ok (a b : (List GFact)) (K : KT) (h : W (career_merge_api_Fact_byIdentity_greater_p2 a b) (rE z44R K)) : EvL Tryz.prog 69 (List.drop 2 z44i0) K (z44p2S a b) :=
  EvL.at_ z44p2at (EvL.cons_loop (EvOk.weak (EvOk.ent (.trans (.nilrow 9 0 36 14 (lsEl eGFact zGFact []) (Nat.le_of_ble_eq_true rfl) rfl) (.cn [0, 1, 2, 3, 9])) (EvOk.loopF (x := inside (inside (nthI z44i0 2))) (f := career_merge_api_Fact_byIdentity_greater_l1 a b) (emb := z44l1S a b) (E := z44l1E a b) (z44l1ok a b) (z44l1Ethen a b) (W_loop h (z44p2k a b K))))))
def z44p3S (a b : (List GFact)) : St := { tm := [sv 0 (.c (.sl 14 a.length (lsEl eGFact zGFact a))), sv 1 (.c (.sl 14 b.length (lsEl eGFact zGFact b))), sv 2 (.fn 46 []), sv 3 (.fn 47 [])], hp := [], nx := 0 }
noncomputable def career_merge_api_Fact_byIdentity_greater_p3 (a b : (List GFact)) : Option ((List GFact)) := (career_merge_api_Fact_byIdentity_greater_p2 a b)
theorem z44p3ok (a b : (List GFact)) (K : KT) (h : W (career_merge_api_Fact_byIdentity_greater_p3 a b) (rE z44R K)) : EvL Tryz.prog 69 (List.drop 0 z44i0) K (z44p3S a b) :=
  EvL.pD mixed (lookC_ok (l := []) trivial) [0, 1, 2, 3, 9, 15, 16, 17] 0 2 2 (.nf (X := fun K => wK K .normal (z44p2S a b)) (fun K => by kernel_rfl) (⟨_, .refl _, (z44p2ok a b _ h)⟩))
noncomputable def career_merge_api_Fact_byIdentity_greater (a b : (List GFact)) : Option ((List GFact)) := career_merge_api_Fact_byIdentity_greater_p3 a b
theorem z44run (a b : (List GFact)) (y_ : (List GFact)) (h : career_merge_api_Fact_byIdentity_greater a b = some y_) : EvL Tryz.prog 69 (items (bodyOf Tryz.f44)) (retK Tryz.prog [.tmp 8] (OutOk (career_merge_api_Fact_byIdentity_greater_out y_))) (z44p3S a b) :=
  z44p3ok a b _ (W_iff.2 ⟨y_, h, z44Rok y_⟩)
noncomputable def career_merge_api_Fact_byIdentity_greater_C : Con
  | [(.c (.sl k1 n2 e3)), (.c (.sl k4 n5 e6)), (.fn 46 []), (.fn 47 [])] => some ([LstOk eGFact dGFact 14 k1 n2 e3, LstOk eGFact dGFact 14 k4 n5 e6, (career_merge_api_Fact_byIdentity_greater (lst dGFact n2 e3) (lst dGFact n5 e6)).isSome = true], (career_merge_api_Fact_byIdentity_greater_out ((career_merge_api_Fact_byIdentity_greater (lst dGFact n2 e3) (lst dGFact n5 e6)).getD ([] : List GFact))))
  | _ => none
theorem career_merge_api_Fact_byIdentity_greater_ok : Meets Tryz.prog 44 career_merge_api_Fact_byIdentity_greater_C := by
  refine meets_fun (fn := Tryz.f44) (c := bodyOf Tryz.f44) (by kernel_rfl) (by kernel_rfl) (by kernel_rfl) (rs := [.tmp 8]) (by kernel_rfl) (nt := 69) (by kernel_rfl) fun vs p out h hp => ?_
  unfold career_merge_api_Fact_byIdentity_greater_C at h
  split at h
  · next k1 n2 e3 k4 n5 e6 =>
    cases h
    obtain ⟨g0, hp⟩ := allq hp
    obtain ⟨g1, hp⟩ := allq hp
    obtain ⟨g, hp⟩ := allq hp
    obtain ⟨x, hx⟩ := Option.isSome_iff_exists.1 g
    rw [hx]
    exact ⟨[(.c (.sl 14 ((lst dGFact n2 e3)).length (lsEl eGFact zGFact (lst dGFact n2 e3)))), (.c (.sl 14 ((lst dGFact n5 e6)).length (lsEl eGFact zGFact (lst dGFact n5 e6)))), (.fn 46 []), (.fn 47 [])], (VLes.cons (VLe.slk g0.1 (RowIs.of_ok g0)) (VLes.cons (VLe.slk g1.1 (RowIs.of_ok g1)) (VLes.cons (VLe.rfl' _) (VLes.cons (VLe.rfl' _) VLes.nil)))), rfl, z44run (lst dGFact n2 e3) (lst dGFact n5 e6) x hx⟩
  · cases h

noncomputable def z45i0 : List Code := items (bodyOf Tryz.f45)
noncomputable def z45i1 : List Code := items (inside (inside (nthI z45i0 3)))
def career_ascending_out (x_1 : (List GFact)) : Out := .own true 36 14 (x_1).length (lsEl eGFact zGFact x_1)
def z45R (x_1 : (List GFact)) : St := { tm := [sv 2 (.row 0 14 0 x_1.length)], hp := [(0, some (.row 36 14 x_1.length (lsEl eGFact zGFact x_1)))], nx := 1 }
theorem z45Rok (x_1 : (List GFact)) : retK Tryz.prog [.tmp 2] (OutOk (career_ascending_out x_1)) .ret (z45R x_1) :=
  retK.intro (v := (.row 0 14 0 x_1.length)) (by kernel_rfl) (⟨_, _, _, rfl, rfl, rfl, fun _ _ => rfl, fun _ i hi d hd => scal_GFact _ d hd⟩)
def z45l1S (l : (List GFact)) (s : ((List GFact) × Int)) : St := match s with | (out_1, t8) => { tm := [sv 3 (.row 0 14 0 out_1.length), sv 6 (.c (.sl 14 l.length (lsEl eGFact zGFact l))), sv 7 (i64 ((l.length : Nat) : Int)), sv 8 (i64 t8)], hp := [(0, some (.row 36 14 out_1.length (lsEl eGFact zGFact out_1)))], nx := 1 }
def z45l1C0 (l : (List GFact)) (s : (List GFact)) : St := match s with | out_2 => { tm := [sv 3 (.row 0 14 0 out_2.length)], hp := [(0, some (.row 36 14 out_2.length (lsEl eGFact zGFact out_2)))], nx := 1 }
def z45l1E (l : (List GFact)) (r : (((List GFact)))) (K : KT) : Prop := match r with | s => K (.exit 0) (z45l1C0 l s)
def z45p0S (out_1 l : (List GFact)) (t8 : Int) : St := { tm := [sv 3 (.row 0 14 0 out_1.length), sv 6 (.c (.sl 14 l.length (lsEl eGFact zGFact l))), sv 7 (i64 ((l.length : Nat) : Int)), sv 8 (i64 t8)], hp := [(0, some (.row 36 14 out_1.length (lsEl eGFact zGFact out_1)))], nx := 1 }
noncomputable def career_ascending_p0 (out_1 l : (List GFact)) (t8 : Int) : Option (((List GFact) × Int) ⊕ (((List GFact)))) := (bif (decide (t8 < ((l.length : Nat) : Int))) then gd ((0 : Int) ≤ t8 ∧ t8 < ((l.length : Nat) : Int)) ((fact_Valid (l.getD (Int.toNat t8) zGFact)).bind fun r_1 => ((bif r_1 then (career_merge_api_Fact_byIdentity_greater out_1 ([(l.getD (Int.toNat t8) zGFact)] : List GFact)).bind fun r_2 => ((some (Sum.inl (r_2, (w64 (t8 + (1 : Int))))))) else (some (Sum.inl (out_1, (w64 (t8 + (1 : Int))))))))) else (some (Sum.inr out_1)))
theorem z45p0nf (out_1 l : (List GFact)) (t8 : Int) (K : KT) (L1_ : List GFact) (hL1_ : lst dGFact out_1.length (fun i => (lsEl eGFact zGFact out_1) (0 + i)) = L1_) (L2_ : List GFact) (hL2_ : lst dGFact 1 (fun i => (litE 14 (eGFact (l.getD (Int.toNat t8) zGFact))) (0 + i)) = L2_) :
    ev Tryz.prog (lookC [(42, .pure fact_Valid_C), (44, .pure career_merge_api_Fact_byIdentity_greater_C)]) 20 (ofItems ((List.drop 0 z45i1).take 4)) (cN [3, 6, 7, 8] K) (z45p0S out_1 l t8) =
    ((bif (decide (t8 < ((l.length : Nat) : Int))) then ((0 : Int) ≤ t8) ∧ (t8 < ((l.length : Nat) : Int)) ∧ (((fact_Valid (l.getD (Int.toNat t8) zGFact)).isSome = true) ∧ ((bif ((fact_Valid (l.getD (Int.toNat t8) zGFact)).getD false) then (LstOk eGFact dGFact 14 14 out_1.length (fun i => (lsEl eGFact zGFact out_1) (0 + i))) ∧ (LstOk eGFact dGFact 14 14 1 (fun i => (litE 14 (eGFact (l.getD (Int.toNat t8) zGFact))) (0 + i))) ∧ ((career_merge_api_Fact_byIdentity_greater L1_ L2_).isSome = true) ∧ (wK K .normal (z45l1S l (((career_merge_api_Fact_byIdentity_greater L1_ L2_).getD ([] : List GFact)), (w64 (t8 + (1 : Int)))))) else wK K .normal (z45l1S l (out_1, (w64 (t8 + (1 : Int)))))))) else wK K (.exit 0) ({ tm := [sv 3 (.row 0 14 0 out_1.length), sv 6 (.c (.sl 14 l.length (lsEl eGFact zGFact l))), sv 7 (i64 ((l.length : Nat) : Int)), sv 8 (i64 t8)], hp := [(0, some (.row 36 14 out_1.length (lsEl eGFact zGFact out_1)))], nx := 1 }))) := by subst hL1_ hL2_; kernel_rfl
theorem z45p0ok (out_1 l : (List GFact)) (t8 : Int) (K : KT) (h : W (career_ascending_p0 out_1 l t8) (nE (z45l1S l) (z45l1E l) K)) : EvL Tryz.prog 20 (List.drop 0 z45i1) K (z45p0S out_1 l t8) :=
  EvL.pE mixed (lookC_ok (l := [(42, .pure fact_Valid_C), (44, .pure career_merge_api_Fact_byIdentity_greater_C)]) ⟨fact_Valid_ok, career_merge_api_Fact_byIdentity_greater_ok, trivial⟩) [3, 6, 7, 8] 0 4 (.of (z45p0nf out_1 l t8 _ _ (RowIs.lst dGFact_eGFact (RowIs.zero (RowIs.ls eGFact zGFact out_1))) _ (RowIs.lst dGFact_eGFact (RowIs.zero (RowIs.l1 (enc := eGFact) (z := zGFact) 14 (l.getD (Int.toNat t8) zGFact) rfl)))) (W_bif h (fun _ h => (W_gd2 h fun hp0 h => (W_bind false h fun hp1 h => (W_bif h (fun _ h => ⟨RowIs.ok dGFact_eGFact (RowIs.zero (RowIs.ls eGFact zGFact out_1)), ⟨RowIs.ok dGFact_eGFact (RowIs.zero (RowIs.l1 (enc := eGFact) (z := zGFact) 14 (l.getD (Int.toNat t8) zGFact) rfl)), (W_bind ([] : List GFact) h fun hp2 h => ⟨_, .refl _, h⟩)⟩⟩) (fun _ h => ⟨_, .refl _, h⟩))))) (fun _ h => ⟨(z45l1C0 l out_1), (.of (.q rfl .nil) (.same rfl .nil) rfl), h⟩)))
noncomputable def career_ascending_l1 (l : (List GFact)) (s : ((List GFact) × Int)) : Option (((List GFact) × Int) ⊕ (((List GFact)))) := match s with | (out_1, t8) => career_ascending_p0 out_1 l t8
theorem z45l1ok (l : (List GFact)) (s : ((List GFact) × Int)) : Pp Tryz.prog 20 (List.drop 0 z45i1) (z45l1S l s) (career_ascending_l1 l s) (nextE (z45l1S l) (z45l1E l)) := fun K h => match s, h with | (out_1, t8), h => (z45p0ok out_1 l t8 _ h)
theorem z45l1Ethen (l : (List GFact)) : ∀ (r : (((List GFact)))) (J : St → Prop) (K : KT), z45l1E l r K → z45l1E l r (thenK J K)
  | s, _, _, h => h
def z45p1S (out_3 : (List GFact)) : St := { tm := [sv 3 (.row 0 14 0 out_3.length)], hp := [(0, some (.row 36 14 out_3.length (lsEl eGFact zGFact out_3)))], nx := 1 }
noncomputable def career_ascending_p1 (out_3 : (List GFact)) : Option ((List GFact)) := (some out_3)
theorem z45p1ok (out_3 : (List GFact)) (K : KT) (h : W (career_ascending_p1 out_3) (rE z45R K)) : EvL Tryz.prog 20 (List.drop 4 z45i0) K (z45p1S out_3) :=
  EvL.pE mixed (lookC_ok (l := []) trivial) [2] 4 2 (.nf (X := fun K => wK K .ret (z45R out_3)) (fun K => by kernel_rfl) (⟨_, .refl _, h⟩))
def z45p2S (l : (List GFact)) : St := { tm := [sv 3 (.c .nil), sv 6 (.c (.sl 14 l.length (lsEl eGFact zGFact l))), sv 7 (i64 ((l.length : Nat) : Int)), sv 8 (i64 (0 : Int))], hp := [], nx := 0 }
noncomputable def career_ascending_p2_g (l : (List GFact)) (r : (((List GFact)))) : Option ((List GFact)) := match r with | out_2 => (career_ascending_p1 out_2)
noncomputable def career_ascending_p2 (l : (List GFact)) : Option ((List GFact)) := (fixL (career_ascending_l1 l) (([] : List GFact), (0 : Int))).bind (career_ascending_p2_g l)
theorem z45p2at : List.drop 3 z45i0 = .block 0 (.loop (inside (inside (nthI z45i0 3)))) :: List.drop 4 z45i0 := by kernel_rfl
theorem z45p2k (l : (List GFact)) (K : KT) : ∀ r : (((List GFact))), W (career_ascending_p2_g l r) (rE z45R K) → z45l1E l r (wK (blockK 0 (thenK (EvL Tryz.prog 20 (List.drop 4 z45i0) K) K)))
  | out_2, h => ⟨(z45p1S out_2), (.refl _), (z45p1ok out_2 _ h)⟩
theorem z45p2ok (l : (List GFact)) (K : KT) (h : W (career_ascending_p2 l) (rE z45R K)) : EvL Tryz.prog 20 (List.drop 3 z45i0) K (z45p2S l) :=
  EvL.at_ z45p2at (EvL.cons_loop (EvOk.weak (EvOk.ent (.trans (.nilrow 3 0 36 14 (lsEl eGFact zGFact []) (Nat.le_of_ble_eq_true rfl) rfl) (.cn [3, 6, 7, 8])) (EvOk.loopF (x := inside (inside (nthI z45i0 3))) (f := career_ascending_l1 l) (emb := z45l1S l) (E := z45l1E l) (z45l1ok l) (z45l1Ethen l) (W_loop h (z45p2k l K))))))
def z45p3S (l : (List GFact)) : St := { tm := [sv 0 (.c (.sl 14 l.length (lsEl eGFact zGFact l)))], hp := [], nx := 0 }
noncomputable def career_ascending_p3 (l : (List GFact)) : Option ((List GFact)) := (career_ascending_p2 l)
theorem z45p3ok (l : (List GFact)) (K : KT) (h : W (career_ascending_p3 l) (rE z45R K)) : EvL Tryz.prog 20 (List.drop 0 z45i0) K (z45p3S l) :=
  EvL.pD mixed (lookC_ok (l := []) trivial) [3, 6, 7, 8] 0 3 3 (.nf (X := fun K => wK K .normal (z45p2S l)) (fun K => by kernel_rfl) (⟨_, .refl _, (z45p2ok l _ h)⟩))
noncomputable def career_ascending (l : (List GFact)) : Option ((List GFact)) := career_ascending_p3 l
theorem z45run (l : (List GFact)) (y_ : (List GFact)) (h : career_ascending l = some y_) : EvL Tryz.prog 20 (items (bodyOf Tryz.f45)) (retK Tryz.prog [.tmp 2] (OutOk (career_ascending_out y_))) (z45p3S l) :=
  z45p3ok l _ (W_iff.2 ⟨y_, h, z45Rok y_⟩)
noncomputable def career_ascending_C : Con
  | [(.c (.sl k1 n2 e3))] => some ([LstOk eGFact dGFact 14 k1 n2 e3, (career_ascending (lst dGFact n2 e3)).isSome = true], (career_ascending_out ((career_ascending (lst dGFact n2 e3)).getD ([] : List GFact))))
  | _ => none
theorem career_ascending_ok : Meets Tryz.prog 45 career_ascending_C := by
  refine meets_fun (fn := Tryz.f45) (c := bodyOf Tryz.f45) (by kernel_rfl) (by kernel_rfl) (by kernel_rfl) (rs := [.tmp 2]) (by kernel_rfl) (nt := 20) (by kernel_rfl) fun vs p out h hp => ?_
  unfold career_ascending_C at h
  split at h
  · next k1 n2 e3 =>
    cases h
    obtain ⟨g0, hp⟩ := allq hp
    obtain ⟨g, hp⟩ := allq hp
    obtain ⟨x, hx⟩ := Option.isSome_iff_exists.1 g
    rw [hx]
    exact ⟨[(.c (.sl 14 ((lst dGFact n2 e3)).length (lsEl eGFact zGFact (lst dGFact n2 e3))))], (VLes.cons (VLe.slk g0.1 (RowIs.of_ok g0)) VLes.nil), rfl, z45run (lst dGFact n2 e3) x hx⟩
  · cases h

noncomputable def z24i0 : List Code := items (bodyOf Tryz.f24)
def career_Merge_out (x_1 : (List GFact)) : Out := .own true 36 14 (x_1).length (lsEl eGFact zGFact x_1)
def z24R (x_1 : (List GFact)) : St := { tm := [sv 4 (.row 0 14 0 x_1.length)], hp := [(0, some (.row 36 14 x_1.length (lsEl eGFact zGFact x_1)))], nx := 1 }
theorem z24Rok (x_1 : (List GFact)) : retK Tryz.prog [.tmp 4] (OutOk (career_Merge_out x_1)) .ret (z24R x_1) :=
  retK.intro (v := (.row 0 14 0 x_1.length)) (by kernel_rfl) (⟨_, _, _, rfl, rfl, rfl, fun _ _ => rfl, fun _ i hi d hd => scal_GFact _ d hd⟩)
def z24p0S (a b : (List GFact)) : St := { tm := [sv 0 (.c (.sl 14 a.length (lsEl eGFact zGFact a))), sv 1 (.c (.sl 14 b.length (lsEl eGFact zGFact b)))], hp := [], nx := 0 }
noncomputable def career_Merge_p0 (a b : (List GFact)) : Option ((List GFact)) := (career_ascending a).bind fun r_1 => ((career_ascending b).bind fun r_2 => ((career_merge_api_Fact_byIdentity_greater r_1 r_2).bind fun r_3 => ((some r_3))))
theorem z24p0nf (a b : (List GFact)) (K : KT) (L1_ : List GFact) (hL1_ : lst dGFact a.length (lsEl eGFact zGFact a) = L1_) (L2_ : List GFact) (hL2_ : lst dGFact b.length (lsEl eGFact zGFact b) = L2_) (L3_ : List GFact) (hL3_ : lst dGFact ((((career_ascending L1_).getD ([] : List GFact))).length) (fun i => (lsEl eGFact zGFact ((career_ascending L1_).getD ([] : List GFact))) (0 + i)) = L3_) (L4_ : List GFact) (hL4_ : lst dGFact ((((career_ascending L2_).getD ([] : List GFact))).length) (fun i => (lsEl eGFact zGFact ((career_ascending L2_).getD ([] : List GFact))) (0 + i)) = L4_) :
    ev Tryz.prog (lookC [(44, .pure career_merge_api_Fact_byIdentity_greater_C), (45, .pure career_ascending_C)]) 10 (ofItems ((List.drop 0 z24i0).take 3)) (cN [4] K) (z24p0S a b) =
    ((LstOk eGFact dGFact 14 14 a.length (lsEl eGFact zGFact a)) ∧ ((career_ascending L1_).isSome = true) ∧ (LstOk eGFact dGFact 14 14 b.length (lsEl eGFact zGFact b)) ∧ ((career_ascending L2_).isSome = true) ∧ (LstOk eGFact dGFact 14 14 ((((career_ascending L1_).getD ([] : List GFact))).length) (fun i => (lsEl eGFact zGFact ((career_ascending L1_).getD ([] : List GFact))) (0 + i))) ∧ (LstOk eGFact dGFact 14 14 ((((career_ascending L2_).getD ([] : List GFact))).length) (fun i => (lsEl eGFact zGFact ((career_ascending L2_).getD ([] : List GFact))) (0 + i))) ∧ ((career_merge_api_Fact_byIdentity_greater L3_ L4_).isSome = true) ∧ (wK K .ret (z24R ((career_merge_api_Fact_byIdentity_greater L3_ L4_).getD ([] : List GFact))))) := by subst hL1_ hL2_ hL3_ hL4_; kernel_rfl
theorem z24p0ok (a b : (List GFact)) (K : KT) (h : W (career_Merge_p0 a b) (rE z24R K)) : EvL Tryz.prog 10 (List.drop 0 z24i0) K (z24p0S a b) :=
  EvL.pE mixed (lookC_ok (l := [(44, .pure career_merge_api_Fact_byIdentity_greater_C), (45, .pure career_ascending_C)]) ⟨career_merge_api_Fact_byIdentity_greater_ok, career_ascending_ok, trivial⟩) [4] 0 3 (.of (z24p0nf a b _ _ (RowIs.lst dGFact_eGFact (RowIs.ls eGFact zGFact a)) _ (RowIs.lst dGFact_eGFact (RowIs.ls eGFact zGFact b)) _ (RowIs.lst dGFact_eGFact (RowIs.zero (RowIs.ls eGFact zGFact ((career_ascending a).getD ([] : List GFact))))) _ (RowIs.lst dGFact_eGFact (RowIs.zero (RowIs.ls eGFact zGFact ((career_ascending b).getD ([] : List GFact)))))) (⟨RowIs.ok dGFact_eGFact (RowIs.ls eGFact zGFact a), (W_bind ([] : List GFact) h fun hp0 h => ⟨RowIs.ok dGFact_eGFact (RowIs.ls eGFact zGFact b), (W_bind ([] : List GFact) h fun hp1 h => ⟨RowIs.ok dGFact_eGFact (RowIs.zero (RowIs.ls eGFact zGFact ((career_ascending a).getD ([] : List GFact)))), ⟨RowIs.ok dGFact_eGFact (RowIs.zero (RowIs.ls eGFact zGFact ((career_ascending b).getD ([] : List GFact)))), (W_bind ([] : List GFact) h fun hp2 h => ⟨_, .refl _, h⟩)⟩⟩)⟩)⟩))
noncomputable def career_Merge (a b : (List GFact)) : Option ((List GFact)) := career_Merge_p0 a b
theorem z24run (a b : (List GFact)) (y_ : (List GFact)) (h : career_Merge a b = some y_) : EvL Tryz.prog 10 (items (bodyOf Tryz.f24)) (retK Tryz.prog [.tmp 4] (OutOk (career_Merge_out y_))) (z24p0S a b) :=
  z24p0ok a b _ (W_iff.2 ⟨y_, h, z24Rok y_⟩)
noncomputable def career_Merge_C : Con
  | [(.c (.sl k1 n2 e3)), (.c (.sl k4 n5 e6))] => some ([LstOk eGFact dGFact 14 k1 n2 e3, LstOk eGFact dGFact 14 k4 n5 e6, (career_Merge (lst dGFact n2 e3) (lst dGFact n5 e6)).isSome = true], (career_Merge_out ((career_Merge (lst dGFact n2 e3) (lst dGFact n5 e6)).getD ([] : List GFact))))
  | _ => none
theorem career_Merge_ok : Meets Tryz.prog 24 career_Merge_C := by
  refine meets_fun (fn := Tryz.f24) (c := bodyOf Tryz.f24) (by kernel_rfl) (by kernel_rfl) (by kernel_rfl) (rs := [.tmp 4]) (by kernel_rfl) (nt := 10) (by kernel_rfl) fun vs p out h hp => ?_
  unfold career_Merge_C at h
  split at h
  · next k1 n2 e3 k4 n5 e6 =>
    cases h
    obtain ⟨g0, hp⟩ := allq hp
    obtain ⟨g1, hp⟩ := allq hp
    obtain ⟨g, hp⟩ := allq hp
    obtain ⟨x, hx⟩ := Option.isSome_iff_exists.1 g
    rw [hx]
    exact ⟨[(.c (.sl 14 ((lst dGFact n2 e3)).length (lsEl eGFact zGFact (lst dGFact n2 e3)))), (.c (.sl 14 ((lst dGFact n5 e6)).length (lsEl eGFact zGFact (lst dGFact n5 e6))))], (VLes.cons (VLe.slk g0.1 (RowIs.of_ok g0)) (VLes.cons (VLe.slk g1.1 (RowIs.of_ok g1)) VLes.nil)), rfl, z24run (lst dGFact n2 e3) (lst dGFact n5 e6) x hx⟩
  · cases h

noncomputable def z8i0 : List Code := items (bodyOf Tryz.f8)
def law13_awake_out (x_1 : Bool) : Out := .data (bl x_1)
def z8R (x_1 : Bool) : St := { tm := [sv 0 (bl x_1)], hp := [], nx := 0 }
theorem z8Rok (x_1 : Bool) : retK Tryz.prog [.tmp 0] (OutOk (law13_awake_out x_1)) .ret (z8R x_1) :=
  retK.intro (v := (bl x_1)) (by kernel_rfl) ((VLe.rfl' _))
def z8p0S : St := { tm := [], hp := [], nx := 0 }
noncomputable def law13_awake_p0 : Option (Bool) := (career_Merge ([(GFact.mk (0 : Int) (1 : Int) (2 : Int) false (1 : Int) (11 : Int) (0 : Int) (GSpan.mk (10 : Int) (11 : Int)) (0 : Int) (0 : Int) (0 : Int) (0 : Int) (0 : Int))] : List GFact) ([(GFact.mk (0 : Int) (1 : Int) (1 : Int) false (1 : Int) (11 : Int) (0 : Int) (GSpan.mk (10 : Int) (11 : Int)) (0 : Int) (0 : Int) (0 : Int) (0 : Int) (0 : Int))] : List GFact)).bind fun r_1 => (gd (((((r_1.length : Nat) : Int) == (1 : Int)) && true) = true → (0 : Int) ≤ (0 : Int)) (gd (((((r_1.length : Nat) : Int) == (1 : Int)) && true) = true → (0 : Int) < ((r_1.length : Nat) : Int)) ((some (bif (((r_1.length : Nat) : Int) == (1 : Int)) then (((r_1.getD 0 zGFact).Issuer == (0 : Int)) && (((r_1.getD 0 zGFact).Number == (1 : Int)) && (((r_1.getD 0 zGFact).Version == (2 : Int)) && (((r_1.getD 0 zGFact).Withdrawn == false) && (((r_1.getD 0 zGFact).Person == (1 : Int)) && (((r_1.getD 0 zGFact).Kind == (11 : Int)) && (((r_1.getD 0 zGFact).State == (0 : Int)) && (((((r_1.getD 0 zGFact).Span).From == (10 : Int)) && ((((r_1.getD 0 zGFact).Span).To == (11 : Int)) && true)) && (((r_1.getD 0 zGFact).Seat == (0 : Int)) && (((r_1.getD 0 zGFact).Share == (0 : Int)) && (((r_1.getD 0 zGFact).Currency == (0 : Int)) && (((r_1.getD 0 zGFact).Amount == (0 : Int)) && (((r_1.getD 0 zGFact).Ref == (0 : Int)) && true))))))))))))) else false)))))
theorem z8p0nf (K : KT) (L1_ : List GFact) (hL1_ : lst dGFact 1 (fun i => (litE 14 (eGFact (GFact.mk (0 : Int) (1 : Int) (2 : Int) false (1 : Int) (11 : Int) (0 : Int) (GSpan.mk (10 : Int) (11 : Int)) (0 : Int) (0 : Int) (0 : Int) (0 : Int) (0 : Int)))) (0 + i)) = L1_) (L2_ : List GFact) (hL2_ : lst dGFact 1 (fun i => (litE 14 (eGFact (GFact.mk (0 : Int) (1 : Int) (1 : Int) false (1 : Int) (11 : Int) (0 : Int) (GSpan.mk (10 : Int) (11 : Int)) (0 : Int) (0 : Int) (0 : Int) (0 : Int) (0 : Int)))) (0 + i)) = L2_) :
    ev Tryz.prog (lookC [(24, .pure career_Merge_C)]) 23 (ofItems ((List.drop 0 z8i0).take 7)) (cN [0] K) (z8p0S) =
    ((LstOk eGFact dGFact 14 14 1 (fun i => (litE 14 (eGFact (GFact.mk (0 : Int) (1 : Int) (2 : Int) false (1 : Int) (11 : Int) (0 : Int) (GSpan.mk (10 : Int) (11 : Int)) (0 : Int) (0 : Int) (0 : Int) (0 : Int) (0 : Int)))) (0 + i))) ∧ (LstOk eGFact dGFact 14 14 1 (fun i => (litE 14 (eGFact (GFact.mk (0 : Int) (1 : Int) (1 : Int) false (1 : Int) (11 : Int) (0 : Int) (GSpan.mk (10 : Int) (11 : Int)) (0 : Int) (0 : Int) (0 : Int) (0 : Int) (0 : Int)))) (0 + i))) ∧ ((career_Merge L1_ L2_).isSome = true) ∧ (((((((((career_Merge L1_ L2_).getD ([] : List GFact))).length : Nat) : Int) == (1 : Int)) && true) = true → (0 : Int) ≤ (0 : Int)) ∧ ((((((((career_Merge L1_ L2_).getD ([] : List GFact))).length : Nat) : Int) == (1 : Int)) && true) = true → (0 : Int) < (((((career_Merge L1_ L2_).getD ([] : List GFact))).length : Nat) : Int)) ∧ (wK K .ret (z8R (bif ((((((career_Merge L1_ L2_).getD ([] : List GFact))).length : Nat) : Int) == (1 : Int)) then (((((career_Merge L1_ L2_).getD ([] : List GFact)).getD 0 zGFact).Issuer == (0 : Int)) && (((((career_Merge L1_ L2_).getD ([] : List GFact)).getD 0 zGFact).Number == (1 : Int)) && (((((career_Merge L1_ L2_).getD ([] : List GFact)).getD 0 zGFact).Version == (2 : Int)) && (((((career_Merge L1_ L2_).getD ([] : List GFact)).getD 0 zGFact).Withdrawn == false) && (((((career_Merge L1_ L2_).getD ([] : List GFact)).getD 0 zGFact).Person == (1 : Int)) && (((((career_Merge L1_ L2_).getD ([] : List GFact)).getD 0 zGFact).Kind == (11 : Int)) && (((((career_Merge L1_ L2_).getD ([] : List GFact)).getD 0 zGFact).State == (0 : Int)) && (((((((career_Merge L1_ L2_).getD ([] : List GFact)).getD 0 zGFact).Span).From == (10 : Int)) && ((((((career_Merge L1_ L2_).getD ([] : List GFact)).getD 0 zGFact).Span).To == (11 : Int)) && true)) && (((((career_Merge L1_ L2_).getD ([] : List GFact)).getD 0 zGFact).Seat == (0 : Int)) && (((((career_Merge L1_ L2_).getD ([] : List GFact)).getD 0 zGFact).Share == (0 : Int)) && (((((career_Merge L1_ L2_).getD ([] : List GFact)).getD 0 zGFact).Currency == (0 : Int)) && (((((career_Merge L1_ L2_).getD ([] : List GFact)).getD 0 zGFact).Amount == (0 : Int)) && (((((career_Merge L1_ L2_).getD ([] : List GFact)).getD 0 zGFact).Ref == (0 : Int)) && true))))))))))))) else false))))) := by subst hL1_ hL2_; kernel_rfl
theorem z8p0ok (K : KT) (h : W (law13_awake_p0) (rE z8R K)) : EvL Tryz.prog 23 (List.drop 0 z8i0) K (z8p0S) :=
  EvL.pE mixed (lookC_ok (l := [(24, .pure career_Merge_C)]) ⟨career_Merge_ok, trivial⟩) [0] 0 7 (.of (z8p0nf _ _ (RowIs.lst dGFact_eGFact (RowIs.zero (RowIs.l1 (enc := eGFact) (z := zGFact) 14 (GFact.mk (0 : Int) (1 : Int) (2 : Int) false (1 : Int) (11 : Int) (0 : Int) (GSpan.mk (10 : Int) (11 : Int)) (0 : Int) (0 : Int) (0 : Int) (0 : Int) (0 : Int)) rfl))) _ (RowIs.lst dGFact_eGFact (RowIs.zero (RowIs.l1 (enc := eGFact) (z := zGFact) 14 (GFact.mk (0 : Int) (1 : Int) (1 : Int) false (1 : Int) (11 : Int) (0 : Int) (GSpan.mk (10 : Int) (11 : Int)) (0 : Int) (0 : Int) (0 : Int) (0 : Int) (0 : Int)) rfl)))) (⟨RowIs.ok dGFact_eGFact (RowIs.zero (RowIs.l1 (enc := eGFact) (z := zGFact) 14 (GFact.mk (0 : Int) (1 : Int) (2 : Int) false (1 : Int) (11 : Int) (0 : Int) (GSpan.mk (10 : Int) (11 : Int)) (0 : Int) (0 : Int) (0 : Int) (0 : Int) (0 : Int)) rfl)), ⟨RowIs.ok dGFact_eGFact (RowIs.zero (RowIs.l1 (enc := eGFact) (z := zGFact) 14 (GFact.mk (0 : Int) (1 : Int) (1 : Int) false (1 : Int) (11 : Int) (0 : Int) (GSpan.mk (10 : Int) (11 : Int)) (0 : Int) (0 : Int) (0 : Int) (0 : Int) (0 : Int)) rfl)), (W_bind ([] : List GFact) h fun hp0 h => (W_gd h fun hp1 h => (W_gd h fun hp2 h => ⟨_, .refl _, h⟩)))⟩⟩))
noncomputable def law13_awake : Option (Bool) := law13_awake_p0
theorem z8run (y_ : Bool) (h : law13_awake = some y_) : EvL Tryz.prog 23 (items (bodyOf Tryz.f8)) (retK Tryz.prog [.tmp 0] (OutOk (law13_awake_out y_))) (z8p0S) :=
  z8p0ok _ (W_iff.2 ⟨y_, h, z8Rok y_⟩)
noncomputable def law13_awake_C : Con
  | [] => some ([(law13_awake).isSome = true], (law13_awake_out ((law13_awake).getD false)))
  | _ => none
theorem law13_awake_ok : Meets Tryz.prog 8 law13_awake_C := by
  refine meets_fun (fn := Tryz.f8) (c := bodyOf Tryz.f8) (by kernel_rfl) (by kernel_rfl) (by kernel_rfl) (rs := [.tmp 0]) (by kernel_rfl) (nt := 23) (by kernel_rfl) fun vs p out h hp => ?_
  unfold law13_awake_C at h
  split at h
  ·
    cases h
    obtain ⟨g, hp⟩ := allq hp
    obtain ⟨x, hx⟩ := Option.isSome_iff_exists.1 g
    rw [hx]
    exact ⟨[], VLes.nil, rfl, z8run x hx⟩
  · cases h

noncomputable def z25i0 : List Code := items (bodyOf Tryz.f25)
noncomputable def z25i1 : List Code := items (inside (inside (nthI z25i0 3)))
def ref12_Current_out (x_1 : (List GFact)) : Out := .own true 36 14 (x_1).length (lsEl eGFact zGFact x_1)
def z25R (x_1 : (List GFact)) : St := { tm := [sv 2 (.row 0 14 0 x_1.length)], hp := [(0, some (.row 36 14 x_1.length (lsEl eGFact zGFact x_1)))], nx := 1 }
theorem z25Rok (x_1 : (List GFact)) : retK Tryz.prog [.tmp 2] (OutOk (ref12_Current_out x_1)) .ret (z25R x_1) :=
  retK.intro (v := (.row 0 14 0 x_1.length)) (by kernel_rfl) (⟨_, _, _, rfl, rfl, rfl, fun _ _ => rfl, fun _ i hi d hd => scal_GFact _ d hd⟩)
def z25l1S (l : (List GFact)) (s : ((List GFact) × Int)) : St := match s with | (out_1, i_1) => { tm := [sv 0 (.c (.sl 14 l.length (lsEl eGFact zGFact l))), sv 3 (.row 0 14 0 out_1.length), sv 4 (i64 i_1)], hp := [(0, some (.row 36 14 out_1.length (lsEl eGFact zGFact out_1)))], nx := 1 }
def z25l1C0 (l : (List GFact)) (s : (List GFact)) : St := match s with | out_2 => { tm := [sv 3 (.row 0 14 0 out_2.length)], hp := [(0, some (.row 36 14 out_2.length (lsEl eGFact zGFact out_2)))], nx := 1 }
def z25l1E (l : (List GFact)) (r : (((List GFact)))) (K : KT) : Prop := match r with | s => K (.exit 0) (z25l1C0 l s)
def z25p0S (l out_1 : (List GFact)) (i_1 : Int) : St := { tm := [sv 0 (.c (.sl 14 l.length (lsEl eGFact zGFact l))), sv 3 (.row 0 14 0 out_1.length), sv 4 (i64 i_1)], hp := [(0, some (.row 36 14 out_1.length (lsEl eGFact zGFact out_1)))], nx := 1 }
noncomputable def ref12_Current_p0 (l out_1 : (List GFact)) (i_1 : Int) : Option (((List GFact) × Int) ⊕ (((List GFact)))) := (bif (decide (i_1 < ((l.length : Nat) : Int))) then gd ((0 : Int) ≤ i_1 ∧ i_1 < ((l.length : Nat) : Int)) ((ref12_Valid (l.getD (Int.toNat i_1) zGFact)).bind fun r_1 => (gd ((r_1 && true) = true → (0 : Int) ≤ i_1) (gd ((r_1 && true) = true → i_1 < ((l.length : Nat) : Int)) ((bif (bif r_1 then (!(l.getD (Int.toNat i_1) zGFact).Withdrawn) else false) then gd ((0 : Int) ≤ i_1 ∧ i_1 < ((l.length : Nat) : Int)) (gd (capB (out_1.length + 1) 112) ((some (Sum.inl ((out_1 ++ ([(l.getD (Int.toNat i_1) zGFact)] : List GFact)), (w64 (i_1 + (1 : Int)))))))) else (some (Sum.inl (out_1, (w64 (i_1 + (1 : Int))))))))))) else (some (Sum.inr out_1)))
theorem z25p0ok (l out_1 : (List GFact)) (i_1 : Int) (K : KT) (h : W (ref12_Current_p0 l out_1 i_1) (nE (z25l1S l) (z25l1E l) K)) : EvL Tryz.prog 32 (List.drop 0 z25i1) K (z25p0S l out_1 i_1) :=
  EvL.pE mixed (lookC_ok (l := [(39, .pure ref12_Valid_C)]) ⟨ref12_Valid_ok, trivial⟩) [0, 3, 4, 17, 18, 19, 20, 21, 22] 0 4 (.nf (X := fun K => (bif (decide (i_1 < ((l.length : Nat) : Int))) then ((0 : Int) ≤ i_1) ∧ (i_1 < ((l.length : Nat) : Int)) ∧ ((ref12_Valid (l.getD (Int.toNat i_1) zGFact)).isSome = true) ∧ ((((ref12_Valid (l.getD (Int.toNat i_1) zGFact)).getD false) && true) = true → (0 : Int) ≤ i_1) ∧ ((((ref12_Valid (l.getD (Int.toNat i_1) zGFact)).getD false) && true) = true → i_1 < ((l.length : Nat) : Int)) ∧ ((bif (bif ((ref12_Valid (l.getD (Int.toNat i_1) zGFact)).getD false) then (!(l.getD (Int.toNat i_1) zGFact).Withdrawn) else false) then ((0 : Int) ≤ i_1) ∧ (i_1 < ((l.length : Nat) : Int)) ∧ (out_1.length = out_1.length) ∧ ((out_1.length + 1) * 112 ≤ 140737488355328) ∧ ((out_1.length + 1) ≤ 140737488355328) ∧ (wK K .normal ({ tm := [sv 0 (.c (.sl 14 l.length (lsEl eGFact zGFact l))), sv 3 (.row 0 14 0 (out_1.length + 1)), sv 4 (i64 (w64 (i_1 + (1 : Int)))), sv 17 (.c .unk), sv 18 (.c .unk), sv 19 (.c .unk), sv 20 (.c .unk), sv 21 (.c .unk), sv 22 (.c .unk)], hp := [(0, some (.row 36 14 (out_1.length + 1) (fun i => bif Nat.blt i out_1.length then (lsEl eGFact zGFact out_1) i else (fun i => (litE 14 (eGFact (l.getD (Int.toNat i_1) zGFact))) (0 + i)) (i - out_1.length))))], nx := 1 })) else wK K .normal ({ tm := [sv 0 (.c (.sl 14 l.length (lsEl eGFact zGFact l))), sv 3 (.row 0 14 0 out_1.length), sv 4 (i64 (w64 (i_1 + (1 : Int)))), sv 17 (.c .unk), sv 18 (.c .unk), sv 19 (.c .unk), sv 20 (.c .unk), sv 21 (.c .unk), sv 22 (.c .unk)], hp := [(0, some (.row 36 14 out_1.length (lsEl eGFact zGFact out_1)))], nx := 1 }))) else wK K (.exit 0) ({ tm := [sv 0 (.c (.sl 14 l.length (lsEl eGFact zGFact l))), sv 3 (.row 0 14 0 out_1.length), sv 4 (i64 i_1)], hp := [(0, some (.row 36 14 out_1.length (lsEl eGFact zGFact out_1)))], nx := 1 }))) (fun K => by kernel_rfl) (W_bif h (fun _ h => (W_gd2 h fun hp0 h => (W_bind false h fun hp1 h => (W_gd h fun hp2 h => (W_gd h fun hp3 h => (W_bif h (fun _ h => (W_gd2 h fun hp4 h => ⟨rfl, (W_gd2 h fun hp5 h => ⟨(z25l1S l ((out_1 ++ ([(l.getD (Int.toNat i_1) zGFact)] : List GFact)), (w64 (i_1 + (1 : Int))))), (.of (.q rfl (.cons rfl (.rown (len_app rfl rfl)) (.q rfl .nil))) (.row rfl (RowIs.app (RowIs.ls eGFact zGFact out_1) (RowIs.zero (RowIs.l1 (enc := eGFact) (z := zGFact) 14 (l.getD (Int.toNat i_1) zGFact) rfl))) .nil rfl) rfl), h⟩)⟩)) (fun _ h => ⟨(z25l1S l (out_1, (w64 (i_1 + (1 : Int))))), (.of (.q rfl (.q rfl (.q rfl .nil))) (.same rfl .nil) rfl), h⟩))))))) (fun _ h => ⟨(z25l1C0 l out_1), (.of (.q rfl .nil) (.same rfl .nil) rfl), h⟩)))
noncomputable def ref12_Current_l1 (l : (List GFact)) (s : ((List GFact) × Int)) : Option (((List GFact) × Int) ⊕ (((List GFact)))) := match s with | (out_1, i_1) => ref12_Current_p0 l out_1 i_1
theorem z25l1ok (l : (List GFact)) (s : ((List GFact) × Int)) : Pp Tryz.prog 32 (List.drop 0 z25i1) (z25l1S l s) (ref12_Current_l1 l s) (nextE (z25l1S l) (z25l1E l)) := fun K h => match s, h with | (out_1, i_1), h => (z25p0ok l out_1 i_1 _ h)
theorem z25l1Ethen (l : (List GFact)) : ∀ (r : (((List GFact)))) (J : St → Prop) (K : KT), z25l1E l r K → z25l1E l r (thenK J K)
  | s, _, _, h => h
def z25p1S (out_3 : (List GFact)) : St := { tm := [sv 3 (.row 0 14 0 out_3.length)], hp := [(0, some (.row 36 14 out_3.length (lsEl eGFact zGFact out_3)))], nx := 1 }
noncomputable def ref12_Current_p1 (out_3 : (List GFact)) : Option ((List GFact)) := (some out_3)
theorem z25p1ok (out_3 : (List GFact)) (K : KT) (h : W (ref12_Current_p1 out_3) (rE z25R K)) : EvL Tryz.prog 32 (List.drop 4 z25i0) K (z25p1S out_3) :=
  EvL.pE mixed (lookC_ok (l := []) trivial) [2] 4 2 (.nf (X := fun K => wK K .ret (z25R out_3)) (fun K => by kernel_rfl) (⟨_, .refl _, h⟩))
def z25p2S (l : (List GFact)) : St := { tm := [sv 0 (.c (.sl 14 l.length (lsEl eGFact zGFact l))), sv 3 (.c .nil), sv 4 (i64 (0 : Int))], hp := [], nx := 0 }
noncomputable def ref12_Current_p2_g (l : (List GFact)) (r : (((List GFact)))) : Option ((List GFact)) := match r with | out_2 => (ref12_Current_p1 out_2)
noncomputable def ref12_Current_p2 (l : (List GFact)) : Option ((List GFact)) := (fixL (ref12_Current_l1 l) (([] : List GFact), (0 : Int))).bind (ref12_Current_p2_g l)
theorem z25p2at : List.drop 3 z25i0 = .block 0 (.loop (inside (inside (nthI z25i0 3)))) :: List.drop 4 z25i0 := by kernel_rfl
theorem z25p2k (l : (List GFact)) (K : KT) : ∀ r : (((List GFact))), W (ref12_Current_p2_g l r) (rE z25R K) → z25l1E l r (wK (blockK 0 (thenK (EvL Tryz.prog 32 (List.drop 4 z25i0) K) K)))
  | out_2, h => ⟨(z25p1S out_2), (.refl _), (z25p1ok out_2 _ h)⟩
theorem z25p2ok (l : (List GFact)) (K : KT) (h : W (ref12_Current_p2 l) (rE z25R K)) : EvL Tryz.prog 32 (List.drop 3 z25i0) K (z25p2S l) :=
  EvL.at_ z25p2at (EvL.cons_loop (EvOk.weak (EvOk.ent (.trans (.nilrow 3 0 36 14 (lsEl eGFact zGFact []) (Nat.le_of_ble_eq_true rfl) rfl) (.cn [0, 3, 4])) (EvOk.loopF (x := inside (inside (nthI z25i0 3))) (f := ref12_Current_l1 l) (emb := z25l1S l) (E := z25l1E l) (z25l1ok l) (z25l1Ethen l) (W_loop h (z25p2k l K))))))
def z25p3S (l : (List GFact)) : St := { tm := [sv 0 (.c (.sl 14 l.length (lsEl eGFact zGFact l)))], hp := [], nx := 0 }
noncomputable def ref12_Current_p3 (l : (List GFact)) : Option ((List GFact)) := (ref12_Current_p2 l)
theorem z25p3ok (l : (List GFact)) (K : KT) (h : W (ref12_Current_p3 l) (rE z25R K)) : EvL Tryz.prog 32 (List.drop 0 z25i0) K (z25p3S l) :=
  EvL.pD mixed (lookC_ok (l := []) trivial) [0, 3, 4, 17, 18, 19, 20, 21, 22] 0 3 3 (.nf (X := fun K => wK K .normal (z25p2S l)) (fun K => by kernel_rfl) (⟨_, .refl _, (z25p2ok l _ h)⟩))
noncomputable def ref12_Current (l : (List GFact)) : Option ((List GFact)) := ref12_Current_p3 l
theorem z25run (l : (List GFact)) (y_ : (List GFact)) (h : ref12_Current l = some y_) : EvL Tryz.prog 32 (items (bodyOf Tryz.f25)) (retK Tryz.prog [.tmp 2] (OutOk (ref12_Current_out y_))) (z25p3S l) :=
  z25p3ok l _ (W_iff.2 ⟨y_, h, z25Rok y_⟩)
noncomputable def ref12_Current_C : Con
  | [(.c (.sl k1 n2 e3))] => some ([LstOk eGFact dGFact 14 k1 n2 e3, (ref12_Current (lst dGFact n2 e3)).isSome = true], (ref12_Current_out ((ref12_Current (lst dGFact n2 e3)).getD ([] : List GFact))))
  | _ => none
theorem ref12_Current_ok : Meets Tryz.prog 25 ref12_Current_C := by
  refine meets_fun (fn := Tryz.f25) (c := bodyOf Tryz.f25) (by kernel_rfl) (by kernel_rfl) (by kernel_rfl) (rs := [.tmp 2]) (by kernel_rfl) (nt := 32) (by kernel_rfl) fun vs p out h hp => ?_
  unfold ref12_Current_C at h
  split at h
  · next k1 n2 e3 =>
    cases h
    obtain ⟨g0, hp⟩ := allq hp
    obtain ⟨g, hp⟩ := allq hp
    obtain ⟨x, hx⟩ := Option.isSome_iff_exists.1 g
    rw [hx]
    exact ⟨[(.c (.sl 14 ((lst dGFact n2 e3)).length (lsEl eGFact zGFact (lst dGFact n2 e3))))], (VLes.cons (VLe.slk g0.1 (RowIs.of_ok g0)) VLes.nil), rfl, z25run (lst dGFact n2 e3) x hx⟩
  · cases h

noncomputable def z71i0 : List Code := items (bodyOf Tryz.f71)
noncomputable def z71i1 : List Code := items (inside (inside (nthI z71i0 4)))
def ref12_least_out (x_1 : (Int × Bool)) : Out := .data (.tup [(i64 x_1.1), (bl x_1.2)])
def z71R (x_1 : (Int × Bool)) : St := { tm := [sv 4 (i64 x_1.1), sv 5 (bl x_1.2)], hp := [], nx := 0 }
theorem z71Rok (x_1 : (Int × Bool)) : retK Tryz.prog [.tmp 4, .tmp 5] (OutOk (ref12_least_out x_1)) .ret (z71R x_1) :=
  retK.intro (v := (.tup [(i64 x_1.1), (bl x_1.2)])) (by kernel_rfl) (VLe.tup (VLes.cons (VLe.rfl' _) (VLes.cons (VLe.rfl' _) (VLes.nil))))
def z71l1S (kind : Int) (c : (List GFact)) (s : (Int × Bool × Int)) : St := match s with | (day, ok, i_1) => { tm := [sv 1 (i64 kind), sv 6 (.row 0 14 0 c.length), sv 7 (i64 day), sv 8 (bl ok), sv 9 (i64 i_1)], hp := [(0, some (.row 36 14 c.length (lsEl eGFact zGFact c)))], nx := 1 }
def z71l1C0 (kind : Int) (c : (List GFact)) (s : Int × Bool) : St := match s with | (day_1, ok_1) => { tm := [sv 7 (i64 day_1), sv 8 (bl ok_1)], hp := [], nx := 0 }
def z71l1E (kind : Int) (c : (List GFact)) (r : ((Int × Bool))) (K : KT) : Prop := match r with | s => K (.exit 0) (z71l1C0 kind c s)
def z71p0S (kind : Int) (c : (List GFact)) (day : Int) (ok : Bool) (i_1 : Int) : St := { tm := [sv 1 (i64 kind), sv 6 (.row 0 14 0 c.length), sv 7 (i64 day), sv 8 (bl ok), sv 9 (i64 i_1)], hp := [(0, some (.row 36 14 c.length (lsEl eGFact zGFact c)))], nx := 1 }
noncomputable def ref12_least_p0 (kind : Int) (c : (List GFact)) (day : Int) (ok : Bool) (i_1 : Int) : Option ((Int × Bool × Int) ⊕ ((Int × Bool))) := (bif (decide (i_1 < ((c.length : Nat) : Int))) then gd ((0 : Int) ≤ i_1 ∧ i_1 < ((c.length : Nat) : Int)) (gd (((!(!ok)) && (((c.getD (0 + (Int.toNat i_1)) zGFact).Kind == kind) && true)) = true → (0 : Int) ≤ i_1) (gd (((!(!ok)) && (((c.getD (0 + (Int.toNat i_1)) zGFact).Kind == kind) && true)) = true → i_1 < ((c.length : Nat) : Int)) ((bif (bif ((c.getD (0 + (Int.toNat i_1)) zGFact).Kind == kind) then (bif (!ok) then true else (decide (((c.getD (0 + (Int.toNat i_1)) zGFact).Span).From < day))) else false) then gd ((0 : Int) ≤ i_1 ∧ i_1 < ((c.length : Nat) : Int)) ((some (Sum.inl (((c.getD (0 + (Int.toNat i_1)) zGFact).Span).From, true, (w64 (i_1 + (1 : Int))))))) else (some (Sum.inl (day, ok, (w64 (i_1 + (1 : Int)))))))))) else (some (Sum.inr (day, ok))))
theorem z71p0ok (kind : Int) (c : (List GFact)) (day : Int) (ok : Bool) (i_1 : Int) (K : KT) (h : W (ref12_least_p0 kind c day ok i_1) (nE (z71l1S kind c) (z71l1E kind c) K)) : EvL Tryz.prog 47 (List.drop 0 z71i1) K (z71p0S kind c day ok i_1) :=
  EvL.pE mixed (lookC_ok (l := []) trivial) [1, 6, 7, 8, 9, 26, 27, 28, 29, 30, 31, 32, 33, 34, 35, 36, 37] 0 4 (.nf (X := fun K => (bif (decide (i_1 < ((c.length : Nat) : Int))) then ((0 : Int) ≤ i_1) ∧ (i_1 < ((c.length : Nat) : Int)) ∧ (((!(!ok)) && (((c.getD (0 + (Int.toNat i_1)) zGFact).Kind == kind) && true)) = true → (0 : Int) ≤ i_1) ∧ (((!(!ok)) && (((c.getD (0 + (Int.toNat i_1)) zGFact).Kind == kind) && true)) = true → i_1 < ((c.length : Nat) : Int)) ∧ ((bif (bif ((c.getD (0 + (Int.toNat i_1)) zGFact).Kind == kind) then (bif (!ok) then true else (decide (((c.getD (0 + (Int.toNat i_1)) zGFact).Span).From < day))) else false) then ((0 : Int) ≤ i_1) ∧ (i_1 < ((c.length : Nat) : Int)) ∧ (wK K .normal ({ tm := [sv 1 (i64 kind), sv 6 (.row 0 14 0 c.length), sv 7 (i64 ((c.getD (0 + (Int.toNat i_1)) zGFact).Span).From), sv 8 (bl true), sv 9 (i64 (w64 (i_1 + (1 : Int)))), sv 26 (.c .unk), sv 27 (.c .unk), sv 28 (.c .unk), sv 29 (.c .unk), sv 30 (.c .unk), sv 31 (.c .unk), sv 32 (.c .unk), sv 33 (.c .unk), sv 34 (.c .unk), sv 35 (.c .unk), sv 36 (.c .unk), sv 37 (.c .unk)], hp := [(0, some (.row 36 14 c.length (lsEl eGFact zGFact c)))], nx := 1 })) else wK K .normal ({ tm := [sv 1 (i64 kind), sv 6 (.row 0 14 0 c.length), sv 7 (i64 day), sv 8 (bl ok), sv 9 (i64 (w64 (i_1 + (1 : Int)))), sv 26 (.c .unk), sv 27 (.c .unk), sv 28 (.c .unk), sv 29 (.c .unk), sv 30 (.c .unk), sv 31 (.c .unk), sv 32 (.c .unk), sv 33 (.c .unk), sv 34 (.c .unk), sv 35 (.c .unk), sv 36 (.c .unk), sv 37 (.c .unk)], hp := [(0, some (.row 36 14 c.length (lsEl eGFact zGFact c)))], nx := 1 }))) else wK K (.exit 0) ({ tm := [sv 1 (i64 kind), sv 6 (.row 0 14 0 c.length), sv 7 (i64 day), sv 8 (bl ok), sv 9 (i64 i_1)], hp := [(0, some (.row 36 14 c.length (lsEl eGFact zGFact c)))], nx := 1 }))) (fun K => by kernel_rfl) (W_bif h (fun _ h => (W_gd2 h fun hp0 h => (W_gd h fun hp1 h => (W_gd h fun hp2 h => (W_bif h (fun _ h => (W_gd2 h fun hp3 h => ⟨(z71l1S kind c (((c.getD (0 + (Int.toNat i_1)) zGFact).Span).From, true, (w64 (i_1 + (1 : Int))))), (.of (.q rfl (.q rfl (.q rfl (.q rfl (.q rfl .nil))))) (.same rfl .nil) rfl), h⟩)) (fun _ h => ⟨(z71l1S kind c (day, ok, (w64 (i_1 + (1 : Int))))), (.of (.q rfl (.q rfl (.q rfl (.q rfl (.q rfl .nil))))) (.same rfl .nil) rfl), h⟩)))))) (fun _ h => ⟨(z71l1C0 kind c (day, ok)), (.cn [7, 8]), h⟩)))
noncomputable def ref12_least_l1 (kind : Int) (c : (List GFact)) (s : (Int × Bool × Int)) : Option ((Int × Bool × Int) ⊕ ((Int × Bool))) := match s with | (day, ok, i_1) => ref12_least_p0 kind c day ok i_1
theorem z71l1ok (kind : Int) (c : (List GFact)) (s : (Int × Bool × Int)) : Pp Tryz.prog 47 (List.drop 0 z71i1) (z71l1S kind c s) (ref12_least_l1 kind c s) (nextE (z71l1S kind c) (z71l1E kind c)) := fun K h => match s, h with | (day, ok, i_1), h => (z71p0ok kind c day ok i_1 _ h)
theorem z71l1Ethen (kind : Int) (c : (List GFact)) : ∀ (r : ((Int × Bool))) (J : St → Prop) (K : KT), z71l1E kind c r K → z71l1E kind c r (thenK J K)
  | s, _, _, h => h
def z71p1S (day_2 : Int) (ok_2 : Bool) : St := { tm := [sv 7 (i64 day_2), sv 8 (bl ok_2)], hp := [], nx := 0 }
noncomputable def ref12_least_p1 (day_2 : Int) (ok_2 : Bool) : Option ((Int × Bool)) := (some (day_2, ok_2))
theorem z71p1ok (day_2 : Int) (ok_2 : Bool) (K : KT) (h : W (ref12_least_p1 day_2 ok_2) (rE z71R K)) : EvL Tryz.prog 47 (List.drop 5 z71i0) K (z71p1S day_2 ok_2) :=
  EvL.pE mixed (lookC_ok (l := []) trivial) [4, 5] 5 2 (.nf (X := fun K => wK K .ret (z71R (day_2, ok_2))) (fun K => by kernel_rfl) (⟨_, .refl _, h⟩))
def z71p2S (kind : Int) (c : (List GFact)) : St := { tm := [sv 1 (i64 kind), sv 6 (.row 0 14 0 c.length), sv 7 (i64 (0 : Int)), sv 8 (bl false), sv 9 (i64 (0 : Int))], hp := [(0, some (.row 36 14 c.length (lsEl eGFact zGFact c)))], nx := 1 }
noncomputable def ref12_least_p2_g (kind : Int) (c : (List GFact)) (r : ((Int × Bool))) : Option ((Int × Bool)) := match r with | (day_1, ok_1) => (ref12_least_p1 day_1 ok_1)
noncomputable def ref12_least_p2 (kind : Int) (c : (List GFact)) : Option ((Int × Bool)) := (fixL (ref12_least_l1 kind c) ((0 : Int), false, (0 : Int))).bind (ref12_least_p2_g kind c)
theorem z71p2at : List.drop 4 z71i0 = .block 0 (.loop (inside (inside (nthI z71i0 4)))) :: List.drop 5 z71i0 := by kernel_rfl
theorem z71p2k (kind : Int) (c : (List GFact)) (K : KT) : ∀ r : ((Int × Bool)), W (ref12_least_p2_g kind c r) (rE z71R K) → z71l1E kind c r (wK (blockK 0 (thenK (EvL Tryz.prog 47 (List.drop 5 z71i0) K) K)))
  | (day_1, ok_1), h => ⟨(z71p1S day_1 ok_1), (.refl _), (z71p1ok day_1 ok_1 _ h)⟩
theorem z71p2ok (kind : Int) (c : (List GFact)) (K : KT) (h : W (ref12_least_p2 kind c) (rE z71R K)) : EvL Tryz.prog 47 (List.drop 4 z71i0) K (z71p2S kind c) :=
  EvL.at_ z71p2at (EvL.cons_loop (EvOk.weak (EvOk.ent (.refl _) (EvOk.loopF (x := inside (inside (nthI z71i0 4))) (f := ref12_least_l1 kind c) (emb := z71l1S kind c) (E := z71l1E kind c) (z71l1ok kind c) (z71l1Ethen kind c) (W_loop h (z71p2k kind c K))))))
def z71p3S (l : (List GFact)) (kind : Int) : St := { tm := [sv 0 (.c (.sl 14 l.length (lsEl eGFact zGFact l))), sv 1 (i64 kind)], hp := [], nx := 0 }
noncomputable def ref12_least_p3 (l : (List GFact)) (kind : Int) : Option ((Int × Bool)) := (ref12_Current l).bind fun r_1 => ((ref12_least_p2 kind r_1))
theorem z71p3nf (l : (List GFact)) (kind : Int) (K : KT) (L1_ : List GFact) (hL1_ : lst dGFact l.length (lsEl eGFact zGFact l) = L1_) :
    ev Tryz.prog (lookC [(25, .pure ref12_Current_C)]) 47 (ofItems ((List.drop 0 z71i0).take 4)) (cN [1, 6, 7, 8, 9, 26, 27, 28, 29, 30, 31, 32, 33, 34, 35, 36, 37] K) (z71p3S l kind) =
    ((LstOk eGFact dGFact 14 14 l.length (lsEl eGFact zGFact l)) ∧ ((ref12_Current L1_).isSome = true) ∧ (wK K .normal (z71p2S kind ((ref12_Current L1_).getD ([] : List GFact))))) := by subst hL1_; kernel_rfl
theorem z71p3ok (l : (List GFact)) (kind : Int) (K : KT) (h : W (ref12_least_p3 l kind) (rE z71R K)) : EvL Tryz.prog 47 (List.drop 0 z71i0) K (z71p3S l kind) :=
  EvL.pD mixed (lookC_ok (l := [(25, .pure ref12_Current_C)]) ⟨ref12_Current_ok, trivial⟩) [1, 6, 7, 8, 9, 26, 27, 28, 29, 30, 31, 32, 33, 34, 35, 36, 37] 0 4 4 (.of (z71p3nf l kind _ _ (RowIs.lst dGFact_eGFact (RowIs.ls eGFact zGFact l))) (⟨RowIs.ok dGFact_eGFact (RowIs.ls eGFact zGFact l), (W_bind ([] : List GFact) h fun hp0 h => ⟨_, .refl _, (z71p2ok kind ((ref12_Current l).getD ([] : List GFact)) _ h)⟩)⟩))
noncomputable def ref12_least (l : (List GFact)) (kind : Int) : Option ((Int × Bool)) := ref12_least_p3 l kind
theorem z71run (l : (List GFact)) (kind : Int) (y_ : (Int × Bool)) (h : ref12_least l kind = some y_) : EvL Tryz.prog 47 (items (bodyOf Tryz.f71)) (retK Tryz.prog [.tmp 4, .tmp 5] (OutOk (ref12_least_out y_))) (z71p3S l kind) :=
  z71p3ok l kind _ (W_iff.2 ⟨y_, h, z71Rok y_⟩)
noncomputable def ref12_least_C : Con
  | [(.c (.sl k1 n2 e3)), (.c (.lit (.int .i64 a4)))] => some ([LstOk eGFact dGFact 14 k1 n2 e3, (ref12_least (lst dGFact n2 e3) a4).isSome = true], (ref12_least_out ((ref12_least (lst dGFact n2 e3) a4).getD ((0 : Int), false))))
  | _ => none
theorem ref12_least_ok : Meets Tryz.prog 71 ref12_least_C := by
  refine meets_fun (fn := Tryz.f71) (c := bodyOf Tryz.f71) (by kernel_rfl) (by kernel_rfl) (by kernel_rfl) (rs := [.tmp 4, .tmp 5]) (by kernel_rfl) (nt := 47) (by kernel_rfl) fun vs p out h hp => ?_
  unfold ref12_least_C at h
  split at h
  · next k1 n2 e3 a4 =>
    cases h
    obtain ⟨g0, hp⟩ := allq hp
    obtain ⟨g, hp⟩ := allq hp
    obtain ⟨x, hx⟩ := Option.isSome_iff_exists.1 g
    rw [hx]
    exact ⟨[(.c (.sl 14 ((lst dGFact n2 e3)).length (lsEl eGFact zGFact (lst dGFact n2 e3)))), (i64 a4)], (VLes.cons (VLe.slk g0.1 (RowIs.of_ok g0)) (VLes.cons (VLe.rfl' _) VLes.nil)), rfl, z71run (lst dGFact n2 e3) a4 x hx⟩
  · cases h

noncomputable def z49i0 : List Code := items (bodyOf Tryz.f49)
def ref12_Birth_out (x_1 : (Int × Bool)) : Out := .data (.tup [(i64 x_1.1), (bl x_1.2)])
def z49R (x_1 : (Int × Bool)) : St := { tm := [sv 2 (i64 x_1.1), sv 3 (bl x_1.2)], hp := [], nx := 0 }
theorem z49Rok (x_1 : (Int × Bool)) : retK Tryz.prog [.tmp 2, .tmp 3] (OutOk (ref12_Birth_out x_1)) .ret (z49R x_1) :=
  retK.intro (v := (.tup [(i64 x_1.1), (bl x_1.2)])) (by kernel_rfl) (VLe.tup (VLes.cons (VLe.rfl' _) (VLes.cons (VLe.rfl' _) (VLes.nil))))
def z49p0S (l : (List GFact)) : St := { tm := [sv 0 (.c (.sl 14 l.length (lsEl eGFact zGFact l)))], hp := [], nx := 0 }
noncomputable def ref12_Birth_p0 (l : (List GFact)) : Option ((Int × Bool)) := (ref12_least l (11 : Int)).bind fun r_1 => ((some (r_1.1, r_1.2)))
theorem z49p0nf (l : (List GFact)) (K : KT) (L1_ : List GFact) (hL1_ : lst dGFact l.length (lsEl eGFact zGFact l) = L1_) :
    ev Tryz.prog (lookC [(71, .pure ref12_least_C)]) 8 (ofItems ((List.drop 0 z49i0).take 3)) (cN [2, 3] K) (z49p0S l) =
    ((LstOk eGFact dGFact 14 14 l.length (lsEl eGFact zGFact l)) ∧ ((ref12_least L1_ (11 : Int)).isSome = true) ∧ (wK K .ret (z49R (((ref12_least L1_ (11 : Int)).getD ((0 : Int), false)).1, ((ref12_least L1_ (11 : Int)).getD ((0 : Int), false)).2)))) := by subst hL1_; kernel_rfl
theorem z49p0ok (l : (List GFact)) (K : KT) (h : W (ref12_Birth_p0 l) (rE z49R K)) : EvL Tryz.prog 8 (List.drop 0 z49i0) K (z49p0S l) :=
  EvL.pE mixed (lookC_ok (l := [(71, .pure ref12_least_C)]) ⟨ref12_least_ok, trivial⟩) [2, 3] 0 3 (.of (z49p0nf l _ _ (RowIs.lst dGFact_eGFact (RowIs.ls eGFact zGFact l))) (⟨RowIs.ok dGFact_eGFact (RowIs.ls eGFact zGFact l), (W_bind ((0 : Int), false) h fun hp0 h => ⟨_, .refl _, h⟩)⟩))
noncomputable def ref12_Birth (l : (List GFact)) : Option ((Int × Bool)) := ref12_Birth_p0 l
theorem z49run (l : (List GFact)) (y_ : (Int × Bool)) (h : ref12_Birth l = some y_) : EvL Tryz.prog 8 (items (bodyOf Tryz.f49)) (retK Tryz.prog [.tmp 2, .tmp 3] (OutOk (ref12_Birth_out y_))) (z49p0S l) :=
  z49p0ok l _ (W_iff.2 ⟨y_, h, z49Rok y_⟩)
noncomputable def ref12_Birth_C : Con
  | [(.c (.sl k1 n2 e3))] => some ([LstOk eGFact dGFact 14 k1 n2 e3, (ref12_Birth (lst dGFact n2 e3)).isSome = true], (ref12_Birth_out ((ref12_Birth (lst dGFact n2 e3)).getD ((0 : Int), false))))
  | _ => none
theorem ref12_Birth_ok : Meets Tryz.prog 49 ref12_Birth_C := by
  refine meets_fun (fn := Tryz.f49) (c := bodyOf Tryz.f49) (by kernel_rfl) (by kernel_rfl) (by kernel_rfl) (rs := [.tmp 2, .tmp 3]) (by kernel_rfl) (nt := 8) (by kernel_rfl) fun vs p out h hp => ?_
  unfold ref12_Birth_C at h
  split at h
  · next k1 n2 e3 =>
    cases h
    obtain ⟨g0, hp⟩ := allq hp
    obtain ⟨g, hp⟩ := allq hp
    obtain ⟨x, hx⟩ := Option.isSome_iff_exists.1 g
    rw [hx]
    exact ⟨[(.c (.sl 14 ((lst dGFact n2 e3)).length (lsEl eGFact zGFact (lst dGFact n2 e3))))], (VLes.cons (VLe.slk g0.1 (RowIs.of_ok g0)) VLes.nil), rfl, z49run (lst dGFact n2 e3) x hx⟩
  · cases h

noncomputable def z50i0 : List Code := items (bodyOf Tryz.f50)
def ref12_Death_out (x_1 : (Int × Bool)) : Out := .data (.tup [(i64 x_1.1), (bl x_1.2)])
def z50R (x_1 : (Int × Bool)) : St := { tm := [sv 2 (i64 x_1.1), sv 3 (bl x_1.2)], hp := [], nx := 0 }
theorem z50Rok (x_1 : (Int × Bool)) : retK Tryz.prog [.tmp 2, .tmp 3] (OutOk (ref12_Death_out x_1)) .ret (z50R x_1) :=
  retK.intro (v := (.tup [(i64 x_1.1), (bl x_1.2)])) (by kernel_rfl) (VLe.tup (VLes.cons (VLe.rfl' _) (VLes.cons (VLe.rfl' _) (VLes.nil))))
def z50p0S (l : (List GFact)) : St := { tm := [sv 0 (.c (.sl 14 l.length (lsEl eGFact zGFact l)))], hp := [], nx := 0 }
noncomputable def ref12_Death_p0 (l : (List GFact)) : Option ((Int × Bool)) := (ref12_least l (12 : Int)).bind fun r_1 => ((some (r_1.1, r_1.2)))
theorem z50p0nf (l : (List GFact)) (K : KT) (L1_ : List GFact) (hL1_ : lst dGFact l.length (lsEl eGFact zGFact l) = L1_) :
    ev Tryz.prog (lookC [(71, .pure ref12_least_C)]) 8 (ofItems ((List.drop 0 z50i0).take 3)) (cN [2, 3] K) (z50p0S l) =
    ((LstOk eGFact dGFact 14 14 l.length (lsEl eGFact zGFact l)) ∧ ((ref12_least L1_ (12 : Int)).isSome = true) ∧ (wK K .ret (z50R (((ref12_least L1_ (12 : Int)).getD ((0 : Int), false)).1, ((ref12_least L1_ (12 : Int)).getD ((0 : Int), false)).2)))) := by subst hL1_; kernel_rfl
theorem z50p0ok (l : (List GFact)) (K : KT) (h : W (ref12_Death_p0 l) (rE z50R K)) : EvL Tryz.prog 8 (List.drop 0 z50i0) K (z50p0S l) :=
  EvL.pE mixed (lookC_ok (l := [(71, .pure ref12_least_C)]) ⟨ref12_least_ok, trivial⟩) [2, 3] 0 3 (.of (z50p0nf l _ _ (RowIs.lst dGFact_eGFact (RowIs.ls eGFact zGFact l))) (⟨RowIs.ok dGFact_eGFact (RowIs.ls eGFact zGFact l), (W_bind ((0 : Int), false) h fun hp0 h => ⟨_, .refl _, h⟩)⟩))
noncomputable def ref12_Death (l : (List GFact)) : Option ((Int × Bool)) := ref12_Death_p0 l
theorem z50run (l : (List GFact)) (y_ : (Int × Bool)) (h : ref12_Death l = some y_) : EvL Tryz.prog 8 (items (bodyOf Tryz.f50)) (retK Tryz.prog [.tmp 2, .tmp 3] (OutOk (ref12_Death_out y_))) (z50p0S l) :=
  z50p0ok l _ (W_iff.2 ⟨y_, h, z50Rok y_⟩)
noncomputable def ref12_Death_C : Con
  | [(.c (.sl k1 n2 e3))] => some ([LstOk eGFact dGFact 14 k1 n2 e3, (ref12_Death (lst dGFact n2 e3)).isSome = true], (ref12_Death_out ((ref12_Death (lst dGFact n2 e3)).getD ((0 : Int), false))))
  | _ => none
theorem ref12_Death_ok : Meets Tryz.prog 50 ref12_Death_C := by
  refine meets_fun (fn := Tryz.f50) (c := bodyOf Tryz.f50) (by kernel_rfl) (by kernel_rfl) (by kernel_rfl) (rs := [.tmp 2, .tmp 3]) (by kernel_rfl) (nt := 8) (by kernel_rfl) fun vs p out h hp => ?_
  unfold ref12_Death_C at h
  split at h
  · next k1 n2 e3 =>
    cases h
    obtain ⟨g0, hp⟩ := allq hp
    obtain ⟨g, hp⟩ := allq hp
    obtain ⟨x, hx⟩ := Option.isSome_iff_exists.1 g
    rw [hx]
    exact ⟨[(.c (.sl 14 ((lst dGFact n2 e3)).length (lsEl eGFact zGFact (lst dGFact n2 e3))))], (VLes.cons (VLe.slk g0.1 (RowIs.of_ok g0)) VLes.nil), rfl, z50run (lst dGFact n2 e3) x hx⟩
  · cases h

noncomputable def z27i0 : List Code := items (bodyOf Tryz.f27)
def ref12_Life_out (x_1 : GSpan) : Out := .data (.agg [(i64 x_1.From), (i64 x_1.To)])
def z27R (x_1 : GSpan) : St := { tm := [sv 2 (.ptr 0 2 0 0)], hp := [(0, some (.box [(i64 x_1.From), (i64 x_1.To)]))], nx := 1 }
theorem z27Rok (x_1 : GSpan) : retK Tryz.prog [.cell 2 34] (OutOk (ref12_Life_out x_1)) .ret (z27R x_1) :=
  retK.intro (v := (.agg [(i64 x_1.From), (i64 x_1.To)])) (by kernel_rfl) ((VLe.rfl' _))
def z27p0S (from_1 to_1 : Int) : St := { tm := [sv 2 (.ptr 0 2 0 0), sv 3 (i64 from_1), sv 5 (i64 to_1)], hp := [(0, some (.box [(i64 (0 : Int)), (i64 (0 : Int))]))], nx := 1 }
noncomputable def ref12_Life_p0 (from_1 to_1 : Int) : Option (GSpan) := (bif (decide (to_1 < from_1)) then (some (GSpan.mk (0 : Int) (0 : Int))) else (some (GSpan.mk from_1 (w64 (to_1 + (1 : Int))))))
theorem z27p0ok (from_1 to_1 : Int) (K : KT) (h : W (ref12_Life_p0 from_1 to_1) (rE z27R K)) : EvL Tryz.prog 27 (List.drop 5 z27i0) K (z27p0S from_1 to_1) :=
  EvL.pE mixed (lookC_ok (l := []) trivial) [2] 5 4 (.nf (X := fun K => (bif (decide (to_1 < from_1)) then wK K .ret (z27R (GSpan.mk (0 : Int) (0 : Int))) else wK K .ret (z27R (GSpan.mk from_1 (w64 (to_1 + (1 : Int))))))) (fun K => by kernel_rfl) (W_bif h (fun _ h => ⟨_, .refl _, h⟩) (fun _ h => ⟨_, .refl _, h⟩)))
def z27p1S (l : (List GFact)) : St := { tm := [sv 0 (.c (.sl 14 l.length (lsEl eGFact zGFact l)))], hp := [], nx := 0 }
noncomputable def ref12_Life_p1 (l : (List GFact)) : Option (GSpan) := (ref12_Birth l).bind fun r_1 => ((ref12_Death l).bind fun r_2 => ((bif (!r_2.2) then (ref12_Life_p0 r_1.1 (73048 : Int)) else (ref12_Life_p0 r_1.1 r_2.1))))
theorem z27p1nf (l : (List GFact)) (K : KT) (L1_ : List GFact) (hL1_ : lst dGFact l.length (lsEl eGFact zGFact l) = L1_) (L2_ : List GFact) (hL2_ : lst dGFact l.length (lsEl eGFact zGFact l) = L2_) :
    ev Tryz.prog (lookC [(49, .pure ref12_Birth_C), (50, .pure ref12_Death_C)]) 27 (ofItems ((List.drop 0 z27i0).take 5)) (cN [2, 3, 5] K) (z27p1S l) =
    ((LstOk eGFact dGFact 14 14 l.length (lsEl eGFact zGFact l)) ∧ ((ref12_Birth L1_).isSome = true) ∧ ((LstOk eGFact dGFact 14 14 l.length (lsEl eGFact zGFact l)) ∧ ((ref12_Death L2_).isSome = true) ∧ ((bif (!((ref12_Death L2_).getD ((0 : Int), false)).2) then wK K .normal (z27p0S (((ref12_Birth L1_).getD ((0 : Int), false)).1) (73048 : Int)) else wK K .normal (z27p0S (((ref12_Birth L1_).getD ((0 : Int), false)).1) (((ref12_Death L2_).getD ((0 : Int), false)).1)))))) := by subst hL1_ hL2_; kernel_rfl
theorem z27p1ok (l : (List GFact)) (K : KT) (h : W (ref12_Life_p1 l) (rE z27R K)) : EvL Tryz.prog 27 (List.drop 0 z27i0) K (z27p1S l) :=
  EvL.pD mixed (lookC_ok (l := [(49, .pure ref12_Birth_C), (50, .pure ref12_Death_C)]) ⟨ref12_Birth_ok, ref12_Death_ok, trivial⟩) [2, 3, 5] 0 5 5 (.of (z27p1nf l _ _ (RowIs.lst dGFact_eGFact (RowIs.ls eGFact zGFact l)) _ (RowIs.lst dGFact_eGFact (RowIs.ls eGFact zGFact l))) (⟨RowIs.ok dGFact_eGFact (RowIs.ls eGFact zGFact l), (W_bind ((0 : Int), false) h fun hp0 h => ⟨RowIs.ok dGFact_eGFact (RowIs.ls eGFact zGFact l), (W_bind ((0 : Int), false) h fun hp1 h => (W_bif h (fun _ h => ⟨_, .refl _, (z27p0ok (((ref12_Birth l).getD ((0 : Int), false)).1) (73048 : Int) _ h)⟩) (fun _ h => ⟨_, .refl _, (z27p0ok (((ref12_Birth l).getD ((0 : Int), false)).1) (((ref12_Death l).getD ((0 : Int), false)).1) _ h)⟩)))⟩)⟩))
noncomputable def ref12_Life (l : (List GFact)) : Option (GSpan) := ref12_Life_p1 l
theorem z27run (l : (List GFact)) (y_ : GSpan) (h : ref12_Life l = some y_) : EvL Tryz.prog 27 (items (bodyOf Tryz.f27)) (retK Tryz.prog [.cell 2 34] (OutOk (ref12_Life_out y_))) (z27p1S l) :=
  z27p1ok l _ (W_iff.2 ⟨y_, h, z27Rok y_⟩)
noncomputable def ref12_Life_C : Con
  | [(.c (.sl k1 n2 e3))] => some ([LstOk eGFact dGFact 14 k1 n2 e3, (ref12_Life (lst dGFact n2 e3)).isSome = true], (ref12_Life_out ((ref12_Life (lst dGFact n2 e3)).getD zGSpan)))
  | _ => none
theorem ref12_Life_ok : Meets Tryz.prog 27 ref12_Life_C := by
  refine meets_fun (fn := Tryz.f27) (c := bodyOf Tryz.f27) (by kernel_rfl) (by kernel_rfl) (by kernel_rfl) (rs := [.cell 2 34]) (by kernel_rfl) (nt := 27) (by kernel_rfl) fun vs p out h hp => ?_
  unfold ref12_Life_C at h
  split at h
  · next k1 n2 e3 =>
    cases h
    obtain ⟨g0, hp⟩ := allq hp
    obtain ⟨g, hp⟩ := allq hp
    obtain ⟨x, hx⟩ := Option.isSome_iff_exists.1 g
    rw [hx]
    exact ⟨[(.c (.sl 14 ((lst dGFact n2 e3)).length (lsEl eGFact zGFact (lst dGFact n2 e3))))], (VLes.cons (VLe.slk g0.1 (RowIs.of_ok g0)) VLes.nil), rfl, z27run (lst dGFact n2 e3) x hx⟩
  · cases h

noncomputable def z93i0 : List Code := items (bodyOf Tryz.f93)
def ref1_cutSpan_out (x_1 : (GSpan × Bool)) : Out := .data (.tup [(.agg [(i64 x_1.1.From), (i64 x_1.1.To)]), (bl x_1.2)])
def z93R (x_1 : (GSpan × Bool)) : St := { tm := [sv 2 (.ptr 0 2 0 0), sv 3 (bl x_1.2)], hp := [(0, some (.box [(i64 x_1.1.From), (i64 x_1.1.To)]))], nx := 1 }
theorem z93Rok (x_1 : (GSpan × Bool)) : retK Tryz.prog [.cell 2 34, .tmp 3] (OutOk (ref1_cutSpan_out x_1)) .ret (z93R x_1) :=
  retK.intro (v := (.tup [(.agg [(i64 x_1.1.From), (i64 x_1.1.To)]), (bl x_1.2)])) (by kernel_rfl) (VLe.tup (VLes.cons (VLe.rfl' _) (VLes.cons (VLe.rfl' _) (VLes.nil))))
def z93p0S (s_1 : GSpan) : St := { tm := [sv 0 (.ag (eGSpan s_1))], hp := [], nx := 0 }
noncomputable def ref1_cutSpan_p0 (s_1 : GSpan) : Option ((GSpan × Bool)) := (some ((GSpan.mk (if s_1.From < (0 : Int) then (0 : Int) else s_1.From) (if (73049 : Int) < s_1.To then (73049 : Int) else s_1.To)), (decide ((if s_1.From < (0 : Int) then (0 : Int) else s_1.From) < (if (73049 : Int) < s_1.To then (73049 : Int) else s_1.To)))))
theorem z93p0ok (s_1 : GSpan) (K : KT) (h : W (ref1_cutSpan_p0 s_1) (rE z93R K)) : EvL Tryz.prog 17 (List.drop 0 z93i0) K (z93p0S s_1) :=
  EvL.pE mixed (lookC_ok (l := []) trivial) [2, 3] 0 4 (.nf (X := fun K => wK K .ret (z93R ((GSpan.mk (if s_1.From < (0 : Int) then (0 : Int) else s_1.From) (if (73049 : Int) < s_1.To then (73049 : Int) else s_1.To)), (decide ((if s_1.From < (0 : Int) then (0 : Int) else s_1.From) < (if (73049 : Int) < s_1.To then (73049 : Int) else s_1.To)))))) (fun K => by kernel_rfl) (⟨_, .refl _, h⟩))
noncomputable def ref1_cutSpan (s_1 : GSpan) : Option ((GSpan × Bool)) := ref1_cutSpan_p0 s_1
theorem z93run (s_1 : GSpan) (y_ : (GSpan × Bool)) (h : ref1_cutSpan s_1 = some y_) : EvL Tryz.prog 17 (items (bodyOf Tryz.f93)) (retK Tryz.prog [.cell 2 34, .tmp 3] (OutOk (ref1_cutSpan_out y_))) (z93p0S s_1) :=
  z93p0ok s_1 _ (W_iff.2 ⟨y_, h, z93Rok y_⟩)
noncomputable def ref1_cutSpan_C : Con
  | [(.agg [(.c (.lit (.int .i64 a1))), (.c (.lit (.int .i64 a2)))])] => some ([(ref1_cutSpan (GSpan.mk a1 a2)).isSome = true], (ref1_cutSpan_out ((ref1_cutSpan (GSpan.mk a1 a2)).getD (zGSpan, false))))
  | _ => none
theorem ref1_cutSpan_ok : Meets Tryz.prog 93 ref1_cutSpan_C := by
  refine meets_fun (fn := Tryz.f93) (c := bodyOf Tryz.f93) (by kernel_rfl) (by kernel_rfl) (by kernel_rfl) (rs := [.cell 2 34, .tmp 3]) (by kernel_rfl) (nt := 17) (by kernel_rfl) fun vs p out h hp => ?_
  unfold ref1_cutSpan_C at h
  split at h
  · next a1 a2 =>
    cases h
    obtain ⟨g, hp⟩ := allq hp
    obtain ⟨x, hx⟩ := Option.isSome_iff_exists.1 g
    rw [hx]
    exact ⟨[(.agg [(i64 (GSpan.mk a1 a2).From), (i64 (GSpan.mk a1 a2).To)])], (VLes.cons (VLe.rfl' _) VLes.nil), rfl, z93run (GSpan.mk a1 a2) x hx⟩
  · cases h

noncomputable def z94i0 : List Code := items (bodyOf Tryz.f94)
noncomputable def z94i1 : List Code := items (inside (inside (nthI z94i0 2)))
def z94R (x_1 : (List Int)) : St := { tm := [sv 4 (.row 0 1 0 x_1.length)], hp := [(0, some (.row 3 1 x_1.length (lsEl eI64 (0 : Int) x_1)))], nx := 1 }
theorem z94Rok (x_1 : (List Int)) {H : Heap} {nid : Nat} {ps : List Prop} {o : Nat} : retM Tryz.prog [.tmp 4] (fun σ v => ∃ m, Left [o] nid H false { pre := ps, val := .row o 1 0 x_1.length, eff := [(o, some (.row 3 1 x_1.length (lsEl eI64 (0 : Int) x_1)))], kill := [o] } m σ v) .ret (z94R x_1) :=
  retM.intro (v := (.row 0 1 0 x_1.length)) (by kernel_rfl) ⟨_, left_row (q := 0) rfl (fun _ _ => rfl) (.inr fun i hi d hd => scal_I64 _ d hd)⟩
theorem z94RokN (x_1 : (List Int)) {H : Heap} {nid : Nat} {ps : List Prop} : retM Tryz.prog [.tmp 4] (fun σ v => ∃ m, Left [] nid H false { pre := ps, val := .row nid 1 0 x_1.length, eff := [(nid, some (.row 3 1 x_1.length (lsEl eI64 (0 : Int) x_1)))], kill := [] } m σ v) .ret (z94R x_1) :=
  retM.intro (v := (.row 0 1 0 x_1.length)) (by kernel_rfl) ⟨_, left_new (q := 0) rfl (fun _ _ => rfl) (.inr fun i hi d hd => scal_I64 _ d hd)⟩
def z94l1S (l : (List Int)) (n : Int) (s : (Int)) : St := match s with | at_1 => { tm := [sv 0 (.row 0 1 0 l.length), sv 1 (i64 n), sv 5 (i64 at_1)], hp := [(0, some (.row 3 1 l.length (lsEl eI64 (0 : Int) l)))], nx := 1 }
def z94l1C0 (l : (List Int)) (n : Int) (s : Int) : St := match s with | at_2 => { tm := [sv 0 (.row 0 1 0 l.length), sv 1 (i64 n), sv 5 (i64 at_2)], hp := [(0, some (.row 3 1 l.length (lsEl eI64 (0 : Int) l)))], nx := 1 }
def z94l1E (l : (List Int)) (n : Int) (r : ((Int))) (K : KT) : Prop := match r with | s => K (.exit 0) (z94l1C0 l n s)
def z94p0S (l : (List Int)) (n at_1 : Int) : St := { tm := [sv 0 (.row 0 1 0 l.length), sv 1 (i64 n), sv 5 (i64 at_1)], hp := [(0, some (.row 3 1 l.length (lsEl eI64 (0 : Int) l)))], nx := 1 }
noncomputable def ref1_Ins_p0 (l : (List Int)) (n at_1 : Int) : Option ((Int) ⊕ ((Int))) := gd (((decide ((0 : Int) < at_1)) && true) = true → (0 : Int) ≤ (w64 (at_1 - (1 : Int)))) (gd (((decide ((0 : Int) < at_1)) && true) = true → (w64 (at_1 - (1 : Int))) < ((l.length : Nat) : Int)) ((bif (bif (decide ((0 : Int) < at_1)) then (decide (n ≤ (l.getD (0 + (Int.toNat (w64 (at_1 - (1 : Int))))) (0 : Int)))) else false) then (some (Sum.inl (w64 (at_1 - (1 : Int))))) else (some (Sum.inr at_1)))))
theorem z94p0ok (l : (List Int)) (n at_1 : Int) (K : KT) (h : W (ref1_Ins_p0 l n at_1) (nE (z94l1S l n) (z94l1E l n) K)) : EvL Tryz.prog 45 (List.drop 0 z94i1) K (z94p0S l n at_1) :=
  EvL.pE mixed (lookC_ok (l := []) trivial) [0, 1, 5, 11, 12, 13, 14, 15, 16, 17, 26, 27, 28, 29, 30, 31] 0 3 (.nf (X := fun K => (((decide ((0 : Int) < at_1)) && true) = true → (0 : Int) ≤ (w64 (at_1 - (1 : Int)))) ∧ (((decide ((0 : Int) < at_1)) && true) = true → (w64 (at_1 - (1 : Int))) < ((l.length : Nat) : Int)) ∧ ((bif (bif (decide ((0 : Int) < at_1)) then (decide (n ≤ (l.getD (0 + (Int.toNat (w64 (at_1 - (1 : Int))))) (0 : Int)))) else false) then wK K .normal ({ tm := [sv 0 (.row 0 1 0 l.length), sv 1 (i64 n), sv 5 (i64 (w64 (at_1 - (1 : Int)))), sv 11 (.c .unk), sv 12 (.c .unk), sv 13 (.c .unk), sv 14 (.c .unk), sv 15 (.c .unk), sv 16 (.c .unk), sv 17 (.c .unk)], hp := [(0, some (.row 3 1 l.length (lsEl eI64 (0 : Int) l)))], nx := 1 }) else wK K (.exit 0) ({ tm := [sv 0 (.row 0 1 0 l.length), sv 1 (i64 n), sv 5 (i64 at_1), sv 11 (.c .unk), sv 12 (.c .unk), sv 13 (.c .unk), sv 14 (.c .unk), sv 15 (.c .unk), sv 16 (.c .unk), sv 17 (.c .unk)], hp := [(0, some (.row 3 1 l.length (lsEl eI64 (0 : Int) l)))], nx := 1 })))) (fun K => by kernel_rfl) (W_gd h fun hp0 h => (W_gd h fun hp1 h => (W_bif h (fun _ h => ⟨(z94l1S l n (w64 (at_1 - (1 : Int)))), (.of (.q rfl (.q rfl (.q rfl .nil))) (.same rfl .nil) rfl), h⟩) (fun _ h => ⟨(z94l1C0 l n at_1), (.of (.q rfl (.q rfl (.q rfl .nil))) (.same rfl .nil) rfl), h⟩)))))
noncomputable def ref1_Ins_l1 (l : (List Int)) (n : Int) (s : (Int)) : Option ((Int) ⊕ ((Int))) := match s with | at_1 => ref1_Ins_p0 l n at_1
theorem z94l1ok (l : (List Int)) (n : Int) (s : (Int)) : Pp Tryz.prog 45 (List.drop 0 z94i1) (z94l1S l n s) (ref1_Ins_l1 l n s) (nextE (z94l1S l n) (z94l1E l n)) := fun K h => match s, h with | at_1, h => (z94p0ok l n at_1 _ h)
theorem z94l1Ethen (l : (List Int)) (n : Int) : ∀ (r : ((Int))) (J : St → Prop) (K : KT), z94l1E l n r K → z94l1E l n r (thenK J K)
  | s, _, _, h => h
def z94p1S (l : (List Int)) (n at_3 : Int) : St := { tm := [sv 0 (.row 0 1 0 l.length), sv 1 (i64 n), sv 5 (i64 at_3)], hp := [(0, some (.row 3 1 l.length (lsEl eI64 (0 : Int) l)))], nx := 1 }
noncomputable def ref1_Ins_p1 (l : (List Int)) (n at_3 : Int) : Option ((List Int)) := gd (((decide (at_3 < ((l.length : Nat) : Int))) && true) = true → (0 : Int) ≤ at_3) (gd (((decide (at_3 < ((l.length : Nat) : Int))) && true) = true → at_3 < ((l.length : Nat) : Int)) ((bif (bif (decide (at_3 < ((l.length : Nat) : Int))) then ((l.getD (0 + (Int.toNat at_3)) (0 : Int)) == n) else false) then (some l) else gd ((0 : Int) ≤ (0 : Int) ∧ (0 : Int) ≤ at_3 ∧ at_3 ≤ ((l.length : Nat) : Int)) (gd (capB (Int.toNat (at_3 - (0 : Int))) 8) (gd (capB ((Int.toNat (at_3 - (0 : Int))) + 1) 8) (gd ((0 : Int) ≤ at_3 ∧ at_3 ≤ ((l.length : Nat) : Int) ∧ ((l.length : Nat) : Int) ≤ ((l.length : Nat) : Int)) (gd (capB (((Int.toNat (at_3 - (0 : Int))) + 1) + (Int.toNat (((l.length : Nat) : Int) - at_3))) 8) ((some (((subL (0 : Int) l 0 (Int.toNat (at_3 - (0 : Int)))) ++ ([n] : List Int)) ++ (subL (0 : Int) l (0 + (Int.toNat at_3)) (Int.toNat (((l.length : Nat) : Int) - at_3)))))))))))))
theorem z94p1ok (l : (List Int)) (n at_3 : Int) (K : KT) (h : W (ref1_Ins_p1 l n at_3) (rE z94R K)) : EvL Tryz.prog 45 (List.drop 3 z94i0) K (z94p1S l n at_3) :=
  EvL.pE mixed (lookC_ok (l := []) trivial) [4] 3 4 (.nf (X := fun K => (((decide (at_3 < ((l.length : Nat) : Int))) && true) = true → (0 : Int) ≤ at_3) ∧ (((decide (at_3 < ((l.length : Nat) : Int))) && true) = true → at_3 < ((l.length : Nat) : Int)) ∧ ((bif (bif (decide (at_3 < ((l.length : Nat) : Int))) then ((l.getD (0 + (Int.toNat at_3)) (0 : Int)) == n) else false) then wK K .ret (z94R l) else ((0 : Int) ≤ (0 : Int)) ∧ ((0 : Int) ≤ at_3) ∧ (at_3 ≤ ((l.length : Nat) : Int)) ∧ ((Int.toNat (at_3 - (0 : Int))) * 8 ≤ 140737488355328) ∧ ((Int.toNat (at_3 - (0 : Int))) ≤ 140737488355328) ∧ ((Int.toNat (at_3 - (0 : Int))) = (Int.toNat (at_3 - (0 : Int)))) ∧ (((Int.toNat (at_3 - (0 : Int))) + 1) * 8 ≤ 140737488355328) ∧ (((Int.toNat (at_3 - (0 : Int))) + 1) ≤ 140737488355328) ∧ ((0 : Int) ≤ at_3) ∧ (at_3 ≤ ((l.length : Nat) : Int)) ∧ (((l.length : Nat) : Int) ≤ ((l.length : Nat) : Int)) ∧ (((Int.toNat (at_3 - (0 : Int))) + 1) = ((Int.toNat (at_3 - (0 : Int))) + 1)) ∧ ((((Int.toNat (at_3 - (0 : Int))) + 1) + (Int.toNat (((l.length : Nat) : Int) - at_3))) * 8 ≤ 140737488355328) ∧ ((((Int.toNat (at_3 - (0 : Int))) + 1) + (Int.toNat (((l.length : Nat) : Int) - at_3))) ≤ 140737488355328) ∧ (wK K .ret ({ tm := [sv 4 (.row 0 1 0 (((Int.toNat (at_3 - (0 : Int))) + 1) + (Int.toNat (((l.length : Nat) : Int) - at_3))))], hp := [(0, some (.row 3 1 (((Int.toNat (at_3 - (0 : Int))) + 1) + (Int.toNat (((l.length : Nat) : Int) - at_3))) (fun i => bif Nat.blt i ((Int.toNat (at_3 - (0 : Int))) + 1) then (fun i => bif Nat.blt i (Int.toNat (at_3 - (0 : Int))) then (fun i => (lsEl eI64 (0 : Int) l) (0 + i)) i else (fun i => (lsEl eI64 (0 : Int) ([n] : List Int)) (0 + i)) (i - (Int.toNat (at_3 - (0 : Int))))) i else (fun i => (lsEl eI64 (0 : Int) l) ((0 + (Int.toNat at_3)) + i)) (i - ((Int.toNat (at_3 - (0 : Int))) + 1)))))], nx := 1 }))))) (fun K => by kernel_rfl) (W_gd h fun hp0 h => (W_gd h fun hp1 h => (W_bif h (fun _ h => ⟨_, .refl _, h⟩) (fun _ h => (W_gd3 h fun hp2 h => (W_gd2 h fun hp3 h => ⟨rfl, (W_gd2 h fun hp4 h => (W_gd3 h fun hp5 h => ⟨rfl, (W_gd2 h fun hp6 h => ⟨(z94R (((subL (0 : Int) l 0 (Int.toNat (at_3 - (0 : Int)))) ++ ([n] : List Int)) ++ (subL (0 : Int) l (0 + (Int.toNat at_3)) (Int.toNat (((l.length : Nat) : Int) - at_3))))), (.of (.cons rfl (.rown (len_app (len_app subL_len rfl) subL_len)) .nil) (.row rfl (RowIs.app (RowIs.app (RowIs.sub eI64 (0 : Int) l 0 (Int.toNat (at_3 - (0 : Int)))) (RowIs.zero (RowIs.ls eI64 (0 : Int) ([n] : List Int)))) (RowIs.sub eI64 (0 : Int) l (0 + (Int.toNat at_3)) (Int.toNat (((l.length : Nat) : Int) - at_3)))) .nil rfl) rfl), h⟩)⟩))⟩)))))))
def z94p2S (l : (List Int)) (n : Int) : St := { tm := [sv 0 (.row 0 1 0 l.length), sv 1 (i64 n), sv 5 (i64 ((l.length : Nat) : Int))], hp := [(0, some (.row 3 1 l.length (lsEl eI64 (0 : Int) l)))], nx := 1 }
noncomputable def ref1_Ins_p2_g (l : (List Int)) (n : Int) (r : ((Int))) : Option ((List Int)) := match r with | at_2 => (ref1_Ins_p1 l n at_2)
noncomputable def ref1_Ins_p2 (l : (List Int)) (n : Int) : Option ((List Int)) := (fixL (ref1_Ins_l1 l n) ((l.length : Nat) : Int)).bind (ref1_Ins_p2_g l n)
theorem z94p2at : List.drop 2 z94i0 = .block 0 (.loop (inside (inside (nthI z94i0 2)))) :: List.drop 3 z94i0 := by kernel_rfl
theorem z94p2k (l : (List Int)) (n : Int) (K : KT) : ∀ r : ((Int)), W (ref1_Ins_p2_g l n r) (rE z94R K) → z94l1E l n r (wK (blockK 0 (thenK (EvL Tryz.prog 45 (List.drop 3 z94i0) K) K)))
  | at_2, h => ⟨(z94p1S l n at_2), (.refl _), (z94p1ok l n at_2 _ h)⟩
theorem z94p2ok (l : (List Int)) (n : Int) (K : KT) (h : W (ref1_Ins_p2 l n) (rE z94R K)) : EvL Tryz.prog 45 (List.drop 2 z94i0) K (z94p2S l n) :=
  EvL.at_ z94p2at (EvL.cons_loop (EvOk.weak (EvOk.ent (.refl _) (EvOk.loopF (x := inside (inside (nthI z94i0 2))) (f := ref1_Ins_l1 l n) (emb := z94l1S l n) (E := z94l1E l n) (z94l1ok l n) (z94l1Ethen l n) (W_loop h (z94p2k l n K))))))
def z94p3S (l : (List Int)) (n : Int) : St := { tm := [sv 0 (.row 0 1 0 l.length), sv 1 (i64 n)], hp := [(0, some (.row 3 1 l.length (lsEl eI64 (0 : Int) l)))], nx := 1 }
noncomputable def ref1_Ins_p3 (l : (List Int)) (n : Int) : Option ((List Int)) := (ref1_Ins_p2 l n)
theorem z94p3ok (l : (List Int)) (n : Int) (K : KT) (h : W (ref1_Ins_p3 l n) (rE z94R K)) : EvL Tryz.prog 45 (List.drop 0 z94i0) K (z94p3S l n) :=
  EvL.pD mixed (lookC_ok (l := []) trivial) [0, 1, 5, 11, 12, 13, 14, 15, 16, 17, 26, 27, 28, 29, 30, 31] 0 2 2 (.nf (X := fun K => wK K .normal (z94p2S l n)) (fun K => by kernel_rfl) (⟨_, .refl _, (z94p2ok l n _ h)⟩))
noncomputable def ref1_Ins (l : (List Int)) (n : Int) : Option ((List Int)) := ref1_Ins_p3 l n
noncomputable def ref1_Ins_C : Heap → Nat → List V → Option Res := fun H nid args => match viewF H [true, false] args with
  | [(.row o_ k_ f_ n_), (.c (.lit (.int .i64 a1)))] => (match Heap.get H o_ with
    | some (.row t_ k2_ m_ e_) => bif Nat.beq t_ 3 && Nat.beq k2_ 1 && Nat.beq k_ 1 && Nat.beq f_ 0 && handOk [o_] H false [true, false] args then some { pre := [n_ = m_, LstOk eI64 dI64 1 1 m_ e_, (ref1_Ins (lst dI64 m_ e_) a1).isSome = true], val := .row o_ 1 0 ((ref1_Ins (lst dI64 m_ e_) a1).getD ([] : List Int)).length, eff := [(o_, some (.row 3 1 ((ref1_Ins (lst dI64 m_ e_) a1).getD ([] : List Int)).length (lsEl eI64 (0 : Int) ((ref1_Ins (lst dI64 m_ e_) a1).getD ([] : List Int)))))], kill := [o_] } else none
    | _ => none)
  | [(.c .nil), (.c (.lit (.int .i64 a1)))] => bif handOk [] H false [true, false] args then some { pre := [(ref1_Ins ([] : List Int) a1).isSome = true], val := .row nid 1 0 ((ref1_Ins ([] : List Int) a1).getD ([] : List Int)).length, eff := [(nid, some (.row 3 1 ((ref1_Ins ([] : List Int) a1).getD ([] : List Int)).length (lsEl eI64 (0 : Int) ((ref1_Ins ([] : List Int) a1).getD ([] : List Int)))))], kill := [] } else none
  | _ => none
theorem ref1_Ins_ok : MeetsC Tryz.prog 94 (.mut ref1_Ins_C) := by
  refine meets_row (fn := Tryz.f94) (c := bodyOf Tryz.f94) (by kernel_rfl) (by kernel_rfl) (by kernel_rfl) (rs := [.tmp 4]) (by kernel_rfl) (nt := 45) (by kernel_rfl) fun H nid args r h hp => ?_
  unfold ref1_Ins_C at h
  split at h
  · next o_ k_ f_ n_ a1 hv =>
    split at h
    · next t_ k2_ m_ e_ hg =>
      cases hb : (Nat.beq t_ 3 && Nat.beq k2_ 1 && Nat.beq k_ 1 && Nat.beq f_ 0 && handOk [o_] H false [true, false] args) with
      | false => rw [hb] at h; cases h
      | true =>
        rw [hb] at h
        simp only [Bool.and_eq_true, Nat.beq_eq] at hb
        obtain ⟨⟨⟨⟨rfl, rfl⟩, rfl⟩, rfl⟩, hk⟩ := hb
        cases h
        obtain ⟨hn, hp⟩ := allq hp
        obtain ⟨gr, hp⟩ := allq hp
        obtain ⟨g, hp⟩ := allq hp
        obtain ⟨x, hx⟩ := Option.isSome_iff_exists.1 g
        rw [hx]
        subst hn
        exact .inl ⟨false, [true, false], o_, 3, 1, _, e_, [.row 0 1 0 (lst dI64 _ e_).length, (i64 a1)], hg, hk, by rw [hv]; simp only [renF, cond_true, cond_false, ren_row1]; exact (VLes.cons (VLe.rown (RowIs.of_ok (z := (0 : Int)) gr).len) (VLes.cons (VLe.rfl' _) VLes.nil)), rfl, EvL.ent (Ent.of (tmLe.cons rfl (VLe.rfl' _) (tmLe.cons rfl (VLe.rfl' _) tmLe.nil)) (hpLe.row rfl (RowIs.of_ok gr) hpLe.nil rfl) rfl) (z94p3ok (lst dI64 _ e_) a1 _ (W_iff.2 ⟨x, hx, z94Rok x⟩))⟩
    · cases h
  · next a1 hv =>
    cases hb : handOk [] H false [true, false] args with
      | false => rw [hb] at h; cases h
      | true =>
        rw [hb] at h
        cases h
        obtain ⟨g, hp⟩ := allq hp
        obtain ⟨x, hx⟩ := Option.isSome_iff_exists.1 g
        rw [hx]
        exact .inr ⟨false, [true, false], [.c .nil, (i64 a1)], hb, by rw [hv]; simp only [renF, cond_true, cond_false]; exact (VLes.cons (VLe.rfl' _) (VLes.cons (VLe.rfl' _) VLes.nil)), rfl, EvL.ent (Ent.trans (Ent.nilrow 0 0 3 1 (lsEl eI64 (0 : Int) []) (Nat.le_refl _) rfl) (Ent.of (tmLe.cons rfl (VLe.rown rfl) (tmLe.cons rfl (VLe.rfl' _) tmLe.nil)) (hpLe.row rfl (RowIs.ls eI64 (0 : Int) []) hpLe.nil rfl) rfl)) (z94p3ok ([] : List Int) a1 _ (W_iff.2 ⟨x, hx, z94RokN x⟩))⟩
  · cases h

noncomputable def z68i0 : List Code := items (bodyOf Tryz.f68)
noncomputable def z68i1 : List Code := items (inside (inside (nthI z68i0 3)))
noncomputable def z68i2 : List Code := items (inside (nthI z68i1 2))
noncomputable def z68i3 : List Code := items (inside (inside (nthI z68i2 1)))
def ref1_edges_out (x_1 : (List Int)) : Out := .own true 3 1 (x_1).length (lsEl eI64 (0 : Int) x_1)
def z68R (x_1 : (List Int)) : St := { tm := [sv 2 (.row 0 1 0 x_1.length)], hp := [(0, some (.row 3 1 x_1.length (lsEl eI64 (0 : Int) x_1)))], nx := 1 }
theorem z68Rok (x_1 : (List Int)) : retK Tryz.prog [.tmp 2] (OutOk (ref1_edges_out x_1)) .ret (z68R x_1) :=
  retK.intro (v := (.row 0 1 0 x_1.length)) (by kernel_rfl) (⟨_, _, _, rfl, rfl, rfl, fun _ _ => rfl, fun _ i hi d hd => scal_I64 _ d hd⟩)
def z68l1S (lists : (List (List GSpan))) (s : ((List Int) × Int)) : St := match s with | (out_4, i_1) => { tm := [sv 0 (.c (.sl 1 lists.length (lsEl eLeGSpan ([] : List GSpan) lists))), sv 3 (.row 0 1 0 out_4.length), sv 4 (i64 i_1)], hp := [(0, some (.row 3 1 out_4.length (lsEl eI64 (0 : Int) out_4)))], nx := 1 }
def z68l1C0 (lists : (List (List GSpan))) (s : (List Int)) : St := match s with | out_6 => { tm := [sv 3 (.row 0 1 0 out_6.length)], hp := [(0, some (.row 3 1 out_6.length (lsEl eI64 (0 : Int) out_6)))], nx := 1 }
def z68l1E (lists : (List (List GSpan))) (r : (((List Int)))) (K : KT) : Prop := match r with | s => K (.exit 0) (z68l1C0 lists s)
def z68l2S (lists : (List (List GSpan))) (out_9 : (List Int)) (i_4 : Int) (s : ((List Int) × Int × Int)) : St := match s with | (out_1, i_5, k) => { tm := [sv 0 (.c (.sl 1 lists.length (lsEl eLeGSpan ([] : List GSpan) lists))), sv 3 (.row 0 1 0 out_1.length), sv 4 (i64 i_5), sv 5 (i64 k)], hp := [(0, some (.row 3 1 out_1.length (lsEl eI64 (0 : Int) out_1)))], nx := 1 }
def z68l2C0 (lists : (List (List GSpan))) (out_9 : (List Int)) (i_4 : Int) (s : (List Int) × Int) : St := match s with | (out_2, i_6) => { tm := [sv 0 (.c (.sl 1 lists.length (lsEl eLeGSpan ([] : List GSpan) lists))), sv 3 (.row 0 1 0 out_2.length), sv 4 (i64 i_6)], hp := [(0, some (.row 3 1 out_2.length (lsEl eI64 (0 : Int) out_2)))], nx := 1 }
def z68l2E (lists : (List (List GSpan))) (out_9 : (List Int)) (i_4 : Int) (r : (((List Int) × Int))) (K : KT) : Prop := match r with | s => K (.exit 2) (z68l2C0 lists out_9 i_4 s)
def z68p0S (lists : (List (List GSpan))) (out_1 : (List Int)) (i_5 k : Int) : St := { tm := [sv 0 (.c (.sl 1 lists.length (lsEl eLeGSpan ([] : List GSpan) lists))), sv 3 (.row 0 1 0 out_1.length), sv 4 (i64 i_5), sv 5 (i64 k)], hp := [(0, some (.row 3 1 out_1.length (lsEl eI64 (0 : Int) out_1)))], nx := 1 }
noncomputable def ref1_edges_p0 (lists : (List (List GSpan))) (out_1 : (List Int)) (i_5 k : Int) : Option (((List Int) × Int × Int) ⊕ (((List Int) × Int))) := gd ((0 : Int) ≤ i_5 ∧ i_5 < ((lists.length : Nat) : Int)) ((bif (decide (k < ((((lists.getD (Int.toNat i_5) ([] : List GSpan))).length : Nat) : Int))) then gd ((0 : Int) ≤ i_5 ∧ i_5 < ((lists.length : Nat) : Int)) (gd ((0 : Int) ≤ k ∧ k < ((((lists.getD (Int.toNat i_5) ([] : List GSpan))).length : Nat) : Int)) ((ref1_cutSpan ((lists.getD (Int.toNat i_5) ([] : List GSpan)).getD (Int.toNat k) zGSpan)).bind fun r_1 => ((bif r_1.2 then (ref1_Ins out_1 r_1.1.From).bind fun r_2 => ((ref1_Ins r_2 r_1.1.To).bind fun r_3 => ((some (Sum.inl (r_3, i_5, (w64 (k + (1 : Int)))))))) else (some (Sum.inl (out_1, i_5, (w64 (k + (1 : Int)))))))))) else (some (Sum.inr (out_1, i_5)))))
theorem z68p0nf (lists : (List (List GSpan))) (out_1 : (List Int)) (i_5 k : Int) (out_9 : (List Int)) (i_4 : Int) (K : KT) (L1_ : List Int) (hL1_ : lst dI64 out_1.length (lsEl eI64 (0 : Int) out_1) = L1_) (L2_ : List Int) (hL2_ : lst dI64 ((((ref1_Ins L1_ ((((ref1_cutSpan ((lists.getD (Int.toNat i_5) ([] : List GSpan)).getD (Int.toNat k) zGSpan)).getD (zGSpan, false)).1).From)).getD ([] : List Int))).length) (lsEl eI64 (0 : Int) ((ref1_Ins L1_ ((((ref1_cutSpan ((lists.getD (Int.toNat i_5) ([] : List GSpan)).getD (Int.toNat k) zGSpan)).getD (zGSpan, false)).1).From)).getD ([] : List Int))) = L2_) :
    ev Tryz.prog (lookC [(93, .pure ref1_cutSpan_C), (94, .mut ref1_Ins_C)]) 43 (ofItems ((List.drop 0 z68i3).take 4)) (cN [0, 3, 4, 5] K) (z68p0S lists out_1 i_5 k) =
    (((0 : Int) ≤ i_5) ∧ (i_5 < ((lists.length : Nat) : Int)) ∧ ((bif (decide (k < ((((lists.getD (Int.toNat i_5) ([] : List GSpan))).length : Nat) : Int))) then ((0 : Int) ≤ i_5) ∧ (i_5 < ((lists.length : Nat) : Int)) ∧ ((0 : Int) ≤ k) ∧ (k < ((((lists.getD (Int.toNat i_5) ([] : List GSpan))).length : Nat) : Int)) ∧ ((ref1_cutSpan ((lists.getD (Int.toNat i_5) ([] : List GSpan)).getD (Int.toNat k) zGSpan)).isSome = true) ∧ ((bif ((ref1_cutSpan ((lists.getD (Int.toNat i_5) ([] : List GSpan)).getD (Int.toNat k) zGSpan)).getD (zGSpan, false)).2 then (out_1.length = out_1.length) ∧ (LstOk eI64 dI64 1 1 out_1.length (lsEl eI64 (0 : Int) out_1)) ∧ ((ref1_Ins L1_ ((((ref1_cutSpan ((lists.getD (Int.toNat i_5) ([] : List GSpan)).getD (Int.toNat k) zGSpan)).getD (zGSpan, false)).1).From)).isSome = true) ∧ ((((ref1_Ins L1_ ((((ref1_cutSpan ((lists.getD (Int.toNat i_5) ([] : List GSpan)).getD (Int.toNat k) zGSpan)).getD (zGSpan, false)).1).From)).getD ([] : List Int))).length = (((ref1_Ins L1_ ((((ref1_cutSpan ((lists.getD (Int.toNat i_5) ([] : List GSpan)).getD (Int.toNat k) zGSpan)).getD (zGSpan, false)).1).From)).getD ([] : List Int))).length) ∧ (LstOk eI64 dI64 1 1 ((((ref1_Ins L1_ ((((ref1_cutSpan ((lists.getD (Int.toNat i_5) ([] : List GSpan)).getD (Int.toNat k) zGSpan)).getD (zGSpan, false)).1).From)).getD ([] : List Int))).length) (lsEl eI64 (0 : Int) ((ref1_Ins L1_ ((((ref1_cutSpan ((lists.getD (Int.toNat i_5) ([] : List GSpan)).getD (Int.toNat k) zGSpan)).getD (zGSpan, false)).1).From)).getD ([] : List Int)))) ∧ ((ref1_Ins L2_ ((((ref1_cutSpan ((lists.getD (Int.toNat i_5) ([] : List GSpan)).getD (Int.toNat k) zGSpan)).getD (zGSpan, false)).1).To)).isSome = true) ∧ (wK K .normal (z68l2S lists out_9 i_4 (((ref1_Ins L2_ ((((ref1_cutSpan ((lists.getD (Int.toNat i_5) ([] : List GSpan)).getD (Int.toNat k) zGSpan)).getD (zGSpan, false)).1).To)).getD ([] : List Int)), i_5, (w64 (k + (1 : Int)))))) else wK K .normal (z68l2S lists out_9 i_4 (out_1, i_5, (w64 (k + (1 : Int))))))) else wK K (.exit 2) ({ tm := [sv 0 (.c (.sl 1 lists.length (lsEl eLeGSpan ([] : List GSpan) lists))), sv 3 (.row 0 1 0 out_1.length), sv 4 (i64 i_5), sv 5 (i64 k)], hp := [(0, some (.row 3 1 out_1.length (lsEl eI64 (0 : Int) out_1)))], nx := 1 })))) := by subst hL1_ hL2_; kernel_rfl
theorem z68p0ok (lists : (List (List GSpan))) (out_1 : (List Int)) (i_5 k : Int) (out_9 : (List Int)) (i_4 : Int) (K : KT) (h : W (ref1_edges_p0 lists out_1 i_5 k) (nE (z68l2S lists out_9 i_4) (z68l2E lists out_9 i_4) K)) : EvL Tryz.prog 43 (List.drop 0 z68i3) K (z68p0S lists out_1 i_5 k) :=
  EvL.pE mixed (lookC_ok (l := [(93, .pure ref1_cutSpan_C), (94, .mut ref1_Ins_C)]) ⟨ref1_cutSpan_ok, ref1_Ins_ok, trivial⟩) [0, 3, 4, 5] 0 4 (.of (z68p0nf lists out_1 i_5 k out_9 i_4 _ _ (RowIs.lst dI64_eI64 (RowIs.ls eI64 (0 : Int) out_1)) _ (RowIs.lst dI64_eI64 (RowIs.ls eI64 (0 : Int) ((ref1_Ins out_1 (((ref1_cutSpan ((lists.getD (Int.toNat i_5) ([] : List GSpan)).getD (Int.toNat k) zGSpan)).getD (zGSpan, false)).1).From).getD ([] : List Int))))) (W_gd2 h fun hp0 h => (W_bif h (fun _ h => (W_gd2 h fun hp1 h => (W_gd2 h fun hp2 h => (W_bind (zGSpan, false) h fun hp3 h => (W_bif h (fun _ h => ⟨(rfl), ⟨RowIs.ok dI64_eI64 (RowIs.ls eI64 (0 : Int) out_1), (W_bind ([] : List Int) h fun hp4 h => ⟨(rfl), ⟨RowIs.ok dI64_eI64 (RowIs.ls eI64 (0 : Int) ((ref1_Ins out_1 (((ref1_cutSpan ((lists.getD (Int.toNat i_5) ([] : List GSpan)).getD (Int.toNat k) zGSpan)).getD (zGSpan, false)).1).From).getD ([] : List Int))), (W_bind ([] : List Int) h fun hp5 h => ⟨_, .refl _, h⟩)⟩⟩)⟩⟩) (fun _ h => ⟨_, .refl _, h⟩)))))) (fun _ h => ⟨(z68l2C0 lists out_9 i_4 (out_1, i_5)), (.of (.q rfl (.q rfl (.q rfl .nil))) (.same rfl .nil) rfl), h⟩))))
noncomputable def ref1_edges_l2 (lists : (List (List GSpan))) (out_9 : (List Int)) (i_4 : Int) (s : ((List Int) × Int × Int)) : Option (((List Int) × Int × Int) ⊕ (((List Int) × Int))) := match s with | (out_1, i_5, k) => ref1_edges_p0 lists out_1 i_5 k
theorem z68l2ok (lists : (List (List GSpan))) (out_9 : (List Int)) (i_4 : Int) (s : ((List Int) × Int × Int)) : Pp Tryz.prog 43 (List.drop 0 z68i3) (z68l2S lists out_9 i_4 s) (ref1_edges_l2 lists out_9 i_4 s) (nextE (z68l2S lists out_9 i_4) (z68l2E lists out_9 i_4)) := fun K h => match s, h with | (out_1, i_5, k), h => (z68p0ok lists out_1 i_5 k out_9 i_4 _ h)
theorem z68l2Ethen (lists : (List (List GSpan))) (out_9 : (List Int)) (i_4 : Int) : ∀ (r : (((List Int) × Int))) (J : St → Prop) (K : KT), z68l2E lists out_9 i_4 r K → z68l2E lists out_9 i_4 r (thenK J K)
  | s, _, _, h => h
def z68p1S (lists : (List (List GSpan))) (out_3 : (List Int)) (i_7 : Int) : St := { tm := [sv 0 (.c (.sl 1 lists.length (lsEl eLeGSpan ([] : List GSpan) lists))), sv 3 (.row 0 1 0 out_3.length), sv 4 (i64 i_7)], hp := [(0, some (.row 3 1 out_3.length (lsEl eI64 (0 : Int) out_3)))], nx := 1 }
noncomputable def ref1_edges_p1 (lists : (List (List GSpan))) (out_3 : (List Int)) (i_7 : Int) : Option (((List Int) × Int) ⊕ (((List Int)))) := (some (Sum.inl (out_3, (w64 (i_7 + (1 : Int))))))
theorem z68p1ok (lists : (List (List GSpan))) (out_3 : (List Int)) (i_7 : Int) (K : KT) (h : W (ref1_edges_p1 lists out_3 i_7) (nE (z68l1S lists) (z68l1E lists) K)) : EvL Tryz.prog 43 (List.drop 3 z68i1) K (z68p1S lists out_3 i_7) :=
  EvL.pE mixed (lookC_ok (l := []) trivial) [0, 3, 4] 3 1 (.nf (X := fun K => wK K .normal (z68l1S lists (out_3, (w64 (i_7 + (1 : Int)))))) (fun K => by kernel_rfl) (⟨_, .refl _, h⟩))
def z68p2S (lists : (List (List GSpan))) (out_9 : (List Int)) (i_4 : Int) : St := { tm := [sv 0 (.c (.sl 1 lists.length (lsEl eLeGSpan ([] : List GSpan) lists))), sv 3 (.row 0 1 0 out_9.length), sv 4 (i64 i_4), sv 5 (i64 (0 : Int))], hp := [(0, some (.row 3 1 out_9.length (lsEl eI64 (0 : Int) out_9)))], nx := 1 }
noncomputable def ref1_edges_p2_g (lists : (List (List GSpan))) (out_9 : (List Int)) (i_4 : Int) (r : (((List Int) × Int))) : Option (((List Int) × Int) ⊕ (((List Int)))) := match r with | (out_2, i_6) => (ref1_edges_p1 lists out_2 i_6)
noncomputable def ref1_edges_p2 (lists : (List (List GSpan))) (out_9 : (List Int)) (i_4 : Int) : Option (((List Int) × Int) ⊕ (((List Int)))) := (fixL (ref1_edges_l2 lists out_9 i_4) (out_9, i_4, (0 : Int))).bind (ref1_edges_p2_g lists out_9 i_4)
theorem z68p2at : List.drop 1 z68i2 = .block 2 (.loop (inside (inside (nthI z68i2 1)))) :: List.drop 2 z68i2 := by kernel_rfl
theorem z68p2k (lists : (List (List GSpan))) (out_9 : (List Int)) (i_4 : Int) (K : KT) : ∀ r : (((List Int) × Int)), W (ref1_edges_p2_g lists out_9 i_4 r) (nE (z68l1S lists) (z68l1E lists) K) → z68l2E lists out_9 i_4 r (wK (blockK 2 (thenK (EvL Tryz.prog 43 (List.drop 2 z68i2) (blockK 1 (thenK (EvL Tryz.prog 43 (List.drop 3 z68i1) K) K))) (blockK 1 (thenK (EvL Tryz.prog 43 (List.drop 3 z68i1) K) K)))))
  | (out_2, i_6), h => ⟨(z68p1S lists out_2 i_6), (.refl _), (EvL.end_ (by kernel_rfl : List.drop 2 z68i2 = []) (z68p1ok lists out_2 i_6 _ h))⟩
theorem z68p2ok (lists : (List (List GSpan))) (out_9 : (List Int)) (i_4 : Int) (K : KT) (h : W (ref1_edges_p2 lists out_9 i_4) (nE (z68l1S lists) (z68l1E lists) K)) : EvL Tryz.prog 43 (List.drop 1 z68i2) (blockK 1 (thenK (EvL Tryz.prog 43 (List.drop 3 z68i1) K) K)) (z68p2S lists out_9 i_4) :=
  EvL.at_ z68p2at (EvL.cons_loop (EvOk.weak (EvOk.ent (.refl _) (EvOk.loopF (x := inside (inside (nthI z68i2 1))) (f := ref1_edges_l2 lists out_9 i_4) (emb := z68l2S lists out_9 i_4) (E := z68l2E lists out_9 i_4) (z68l2ok lists out_9 i_4) (z68l2Ethen lists out_9 i_4) (W_loop h (z68p2k lists out_9 i_4 K))))))
def z68p3S (lists : (List (List GSpan))) (out_7 : (List Int)) (i_3 : Int) : St := { tm := [sv 0 (.c (.sl 1 lists.length (lsEl eLeGSpan ([] : List GSpan) lists))), sv 3 (.row 0 1 0 out_7.length), sv 4 (i64 i_3)], hp := [(0, some (.row 3 1 out_7.length (lsEl eI64 (0 : Int) out_7)))], nx := 1 }
noncomputable def ref1_edges_p3 (lists : (List (List GSpan))) (out_7 : (List Int)) (i_3 : Int) : Option (((List Int) × Int) ⊕ (((List Int)))) := (ref1_edges_p2 lists out_7 i_3)
theorem z68p3ok (lists : (List (List GSpan))) (out_7 : (List Int)) (i_3 : Int) (K : KT) (h : W (ref1_edges_p3 lists out_7 i_3) (nE (z68l1S lists) (z68l1E lists) K)) : EvL Tryz.prog 43 (List.drop 0 z68i2) (blockK 1 (thenK (EvL Tryz.prog 43 (List.drop 3 z68i1) K) K)) (z68p3S lists out_7 i_3) :=
  EvL.pD mixed (lookC_ok (l := []) trivial) [0, 3, 4, 5] 0 1 1 (.nf (X := fun K => wK K .normal (z68p2S lists out_7 i_3)) (fun K => by kernel_rfl) (⟨_, .refl _, (z68p2ok lists out_7 i_3 _ h)⟩))
def z68p4S (lists : (List (List GSpan))) (out_5 : (List Int)) (i_2 : Int) : St := { tm := [sv 0 (.c (.sl 1 lists.length (lsEl eLeGSpan ([] : List GSpan) lists))), sv 3 (.row 0 1 0 out_5.length), sv 4 (i64 i_2)], hp := [(0, some (.row 3 1 out_5.length (lsEl eI64 (0 : Int) out_5)))], nx := 1 }
noncomputable def ref1_edges_p4 (lists : (List (List GSpan))) (out_5 : (List Int)) (i_2 : Int) : Option (((List Int) × Int) ⊕ (((List Int)))) := (ref1_edges_p3 lists out_5 i_2)
theorem z68p4at : List.drop 2 z68i1 = .block 1 (inside (nthI z68i1 2)) :: List.drop 3 z68i1 := by kernel_rfl
theorem z68p4ok (lists : (List (List GSpan))) (out_5 : (List Int)) (i_2 : Int) (K : KT) (h : W (ref1_edges_p4 lists out_5 i_2) (nE (z68l1S lists) (z68l1E lists) K)) : EvL Tryz.prog 43 (List.drop 2 z68i1) K (z68p4S lists out_5 i_2) :=
  EvL.at_ z68p4at (EvL.cons_block (EvL.ent (.refl _) (z68p3ok lists out_5 i_2 _ h)))
def z68p5S (lists : (List (List GSpan))) (out_4 : (List Int)) (i_1 : Int) : St := { tm := [sv 0 (.c (.sl 1 lists.length (lsEl eLeGSpan ([] : List GSpan) lists))), sv 3 (.row 0 1 0 out_4.length), sv 4 (i64 i_1)], hp := [(0, some (.row 3 1 out_4.length (lsEl eI64 (0 : Int) out_4)))], nx := 1 }
noncomputable def ref1_edges_p5 (lists : (List (List GSpan))) (out_4 : (List Int)) (i_1 : Int) : Option (((List Int) × Int) ⊕ (((List Int)))) := (bif (decide (i_1 < ((lists.length : Nat) : Int))) then (ref1_edges_p4 lists out_4 i_1) else (some (Sum.inr out_4)))
theorem z68p5ok (lists : (List (List GSpan))) (out_4 : (List Int)) (i_1 : Int) (K : KT) (h : W (ref1_edges_p5 lists out_4 i_1) (nE (z68l1S lists) (z68l1E lists) K)) : EvL Tryz.prog 43 (List.drop 0 z68i1) K (z68p5S lists out_4 i_1) :=
  EvL.pD mixed (lookC_ok (l := []) trivial) [0, 3, 4] 0 2 2 (.nf (X := fun K => (bif (decide (i_1 < ((lists.length : Nat) : Int))) then wK K .normal (z68p4S lists out_4 i_1) else wK K (.exit 0) ({ tm := [sv 0 (.c (.sl 1 lists.length (lsEl eLeGSpan ([] : List GSpan) lists))), sv 3 (.row 0 1 0 out_4.length), sv 4 (i64 i_1)], hp := [(0, some (.row 3 1 out_4.length (lsEl eI64 (0 : Int) out_4)))], nx := 1 }))) (fun K => by kernel_rfl) (W_bif h (fun _ h => ⟨_, .refl _, (z68p4ok lists out_4 i_1 _ h)⟩) (fun _ h => ⟨(z68l1C0 lists out_4), (.of (.q rfl .nil) (.same rfl .nil) rfl), h⟩)))
noncomputable def ref1_edges_l1 (lists : (List (List GSpan))) (s : ((List Int) × Int)) : Option (((List Int) × Int) ⊕ (((List Int)))) := match s with | (out_4, i_1) => ref1_edges_p5 lists out_4 i_1
theorem z68l1ok (lists : (List (List GSpan))) (s : ((List Int) × Int)) : Pp Tryz.prog 43 (List.drop 0 z68i1) (z68l1S lists s) (ref1_edges_l1 lists s) (nextE (z68l1S lists) (z68l1E lists)) := fun K h => match s, h with | (out_4, i_1), h => (z68p5ok lists out_4 i_1 _ h)
theorem z68l1Ethen (lists : (List (List GSpan))) : ∀ (r : (((List Int)))) (J : St → Prop) (K : KT), z68l1E lists r K → z68l1E lists r (thenK J K)
  | s, _, _, h => h
def z68p6S (out_8 : (List Int)) : St := { tm := [sv 3 (.row 0 1 0 out_8.length)], hp := [(0, some (.row 3 1 out_8.length (lsEl eI64 (0 : Int) out_8)))], nx := 1 }
noncomputable def ref1_edges_p6 (out_8 : (List Int)) : Option ((List Int)) := (some out_8)
theorem z68p6ok (out_8 : (List Int)) (K : KT) (h : W (ref1_edges_p6 out_8) (rE z68R K)) : EvL Tryz.prog 43 (List.drop 4 z68i0) K (z68p6S out_8) :=
  EvL.pE mixed (lookC_ok (l := []) trivial) [2] 4 2 (.nf (X := fun K => wK K .ret (z68R out_8)) (fun K => by kernel_rfl) (⟨_, .refl _, h⟩))
def z68p7S (lists : (List (List GSpan))) : St := { tm := [sv 0 (.c (.sl 1 lists.length (lsEl eLeGSpan ([] : List GSpan) lists))), sv 3 (.c .nil), sv 4 (i64 (0 : Int))], hp := [], nx := 0 }
noncomputable def ref1_edges_p7_g (lists : (List (List GSpan))) (r : (((List Int)))) : Option ((List Int)) := match r with | out_6 => (ref1_edges_p6 out_6)
noncomputable def ref1_edges_p7 (lists : (List (List GSpan))) : Option ((List Int)) := (fixL (ref1_edges_l1 lists) (([] : List Int), (0 : Int))).bind (ref1_edges_p7_g lists)
theorem z68p7at : List.drop 3 z68i0 = .block 0 (.loop (inside (inside (nthI z68i0 3)))) :: List.drop 4 z68i0 := by kernel_rfl
theorem z68p7k (lists : (List (List GSpan))) (K : KT) : ∀ r : (((List Int))), W (ref1_edges_p7_g lists r) (rE z68R K) → z68l1E lists r (wK (blockK 0 (thenK (EvL Tryz.prog 43 (List.drop 4 z68i0) K) K)))
  | out_6, h => ⟨(z68p6S out_6), (.refl _), (z68p6ok out_6 _ h)⟩
theorem z68p7ok (lists : (List (List GSpan))) (K : KT) (h : W (ref1_edges_p7 lists) (rE z68R K)) : EvL Tryz.prog 43 (List.drop 3 z68i0) K (z68p7S lists) :=
  EvL.at_ z68p7at (EvL.cons_loop (EvOk.weak (EvOk.ent (.trans (.nilrow 3 0 3 1 (lsEl eI64 (0 : Int) []) (Nat.le_of_ble_eq_true rfl) rfl) (.cn [0, 3, 4])) (EvOk.loopF (x := inside (inside (nthI z68i0 3))) (f := ref1_edges_l1 lists) (emb := z68l1S lists) (E := z68l1E lists) (z68l1ok lists) (z68l1Ethen lists) (W_loop h (z68p7k lists K))))))
def z68p8S (lists : (List (List GSpan))) : St := { tm := [sv 0 (.c (.sl 1 lists.length (lsEl eLeGSpan ([] : List GSpan) lists)))], hp := [], nx := 0 }
noncomputable def ref1_edges_p8 (lists : (List (List GSpan))) : Option ((List Int)) := (ref1_edges_p7 lists)
theorem z68p8ok (lists : (List (List GSpan))) (K : KT) (h : W (ref1_edges_p8 lists) (rE z68R K)) : EvL Tryz.prog 43 (List.drop 0 z68i0) K (z68p8S lists) :=
  EvL.pD mixed (lookC_ok (l := []) trivial) [0, 3, 4] 0 3 3 (.nf (X := fun K => wK K .normal (z68p7S lists)) (fun K => by kernel_rfl) (⟨_, .refl _, (z68p7ok lists _ h)⟩))
noncomputable def ref1_edges (lists : (List (List GSpan))) : Option ((List Int)) := ref1_edges_p8 lists
theorem z68run (lists : (List (List GSpan))) (y_ : (List Int)) (h : ref1_edges lists = some y_) : EvL Tryz.prog 43 (items (bodyOf Tryz.f68)) (retK Tryz.prog [.tmp 2] (OutOk (ref1_edges_out y_))) (z68p8S lists) :=
  z68p8ok lists _ (W_iff.2 ⟨y_, h, z68Rok y_⟩)
noncomputable def ref1_edges_C : Con
  | [(.c (.sl k1 n2 e3))] => some ([LstOk eLeGSpan dLeGSpan 1 k1 n2 e3, (ref1_edges (lst dLeGSpan n2 e3)).isSome = true], (ref1_edges_out ((ref1_edges (lst dLeGSpan n2 e3)).getD ([] : List Int))))
  | _ => none
theorem ref1_edges_ok : Meets Tryz.prog 68 ref1_edges_C := by
  refine meets_fun (fn := Tryz.f68) (c := bodyOf Tryz.f68) (by kernel_rfl) (by kernel_rfl) (by kernel_rfl) (rs := [.tmp 2]) (by kernel_rfl) (nt := 43) (by kernel_rfl) fun vs p out h hp => ?_
  unfold ref1_edges_C at h
  split at h
  · next k1 n2 e3 =>
    cases h
    obtain ⟨g0, hp⟩ := allq hp
    obtain ⟨g, hp⟩ := allq hp
    obtain ⟨x, hx⟩ := Option.isSome_iff_exists.1 g
    rw [hx]
    exact ⟨[(.c (.sl 1 ((lst dLeGSpan n2 e3)).length (lsEl eLeGSpan ([] : List GSpan) (lst dLeGSpan n2 e3))))], (VLes.cons (VLe.slk g0.1 (RowIs.of_ok g0)) VLes.nil), rfl, z68run (lst dLeGSpan n2 e3) x hx⟩
  · cases h

noncomputable def z95i0 : List Code := items (bodyOf Tryz.f95)
def ref1_ValidDay_out (x_1 : Bool) : Out := .data (bl x_1)
def z95R (x_1 : Bool) : St := { tm := [sv 2 (bl x_1)], hp := [], nx := 0 }
theorem z95Rok (x_1 : Bool) : retK Tryz.prog [.tmp 2] (OutOk (ref1_ValidDay_out x_1)) .ret (z95R x_1) :=
  retK.intro (v := (bl x_1)) (by kernel_rfl) ((VLe.rfl' _))
def z95p0S (day : Int) : St := { tm := [sv 0 (i64 day)], hp := [], nx := 0 }
noncomputable def ref1_ValidDay_p0 (day : Int) : Option (Bool) := (some (bif (decide ((0 : Int) ≤ day)) then (decide (day ≤ (73048 : Int))) else false))
theorem z95p0ok (day : Int) (K : KT) (h : W (ref1_ValidDay_p0 day) (rE z95R K)) : EvL Tryz.prog 9 (List.drop 0 z95i0) K (z95p0S day) :=
  EvL.pE mixed (lookC_ok (l := []) trivial) [2] 0 3 (.nf (X := fun K => wK K .ret (z95R (bif (decide ((0 : Int) ≤ day)) then (decide (day ≤ (73048 : Int))) else false))) (fun K => by kernel_rfl) (⟨_, .refl _, h⟩))
noncomputable def ref1_ValidDay (day : Int) : Option (Bool) := ref1_ValidDay_p0 day
theorem z95run (day : Int) (y_ : Bool) (h : ref1_ValidDay day = some y_) : EvL Tryz.prog 9 (items (bodyOf Tryz.f95)) (retK Tryz.prog [.tmp 2] (OutOk (ref1_ValidDay_out y_))) (z95p0S day) :=
  z95p0ok day _ (W_iff.2 ⟨y_, h, z95Rok y_⟩)
noncomputable def ref1_ValidDay_C : Con
  | [(.c (.lit (.int .i64 a1)))] => some ([(ref1_ValidDay a1).isSome = true], (ref1_ValidDay_out ((ref1_ValidDay a1).getD false)))
  | _ => none
theorem ref1_ValidDay_ok : Meets Tryz.prog 95 ref1_ValidDay_C := by
  refine meets_fun (fn := Tryz.f95) (c := bodyOf Tryz.f95) (by kernel_rfl) (by kernel_rfl) (by kernel_rfl) (rs := [.tmp 2]) (by kernel_rfl) (nt := 9) (by kernel_rfl) fun vs p out h hp => ?_
  unfold ref1_ValidDay_C at h
  split at h
  · next a1 =>
    cases h
    obtain ⟨g, hp⟩ := allq hp
    obtain ⟨x, hx⟩ := Option.isSome_iff_exists.1 g
    rw [hx]
    exact ⟨[(i64 a1)], (VLes.cons (VLe.rfl' _) VLes.nil), rfl, z95run a1 x hx⟩
  · cases h

end Go.Ax
