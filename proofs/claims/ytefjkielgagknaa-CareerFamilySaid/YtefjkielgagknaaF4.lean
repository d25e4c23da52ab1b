import Derived.Test.YtefjkielgagknaaF3
import Derived.Test.YtefjkielgagknaaLay
import Derived.Test.YtefjkielgagknaaRows
/- Types of the program, and functions of it: printed by a program, checked by the kernel. -/
set_option linter.all false
set_option maxRecDepth 100000
namespace Go.Ax
open Go.Proofs Go.Proofs.Ytefjkielgagknaa
noncomputable def z6i0 : List Code := items (bodyOf Try.f6)
noncomputable def z6i1 : List Code := items (inside (inside (nthI z6i0 5)))
def career_Residence_out (x_1 : (Int × Bool)) : Out := .data (.tup [(i64 x_1.1), (bl x_1.2)])
def z6R (x_1 : (Int × Bool)) : St := { tm := [sv 4 (i64 x_1.1), sv 5 (bl x_1.2)], hp := [], nx := 0 }
theorem z6Rok (x_1 : (Int × Bool)) : retK Try.prog [.tmp 4, .tmp 5] (OutOk (career_Residence_out x_1)) .ret (z6R x_1) :=
  retK.intro (v := (.tup [(i64 x_1.1), (bl x_1.2)])) (by kernel_rfl) (VLe.tup (VLes.cons (VLe.rfl' _) (VLes.cons (VLe.rfl' _) (VLes.nil))))
def z6l1S (day : Int) (l : (List GFact)) (s : (Bool × Int × GFact)) : St := match s with | (ok, t24, best) => { tm := [sv 1 (i64 day), sv 6 (.ptr 0 14 0 0), sv 7 (bl ok), sv 22 (.c (.sl 14 l.length (lsEl eGFact zGFact l))), sv 23 (i64 ((l.length : Nat) : Int)), sv 24 (i64 t24)], hp := [(0, some (.box [(i64 best.Issuer), (i64 best.Number), (i64 best.Version), (bl best.Withdrawn), (i64 best.Person), (i64 best.Kind), (i64 best.State), (i64 best.Span.From), (i64 best.Span.To), (i64 best.Seat), (i64 best.Share), (i64 best.Currency), (i64 best.Amount), (i64 best.Ref)]))], nx := 1 }
def z6l1C0 (day : Int) (l : (List GFact)) (s : Bool × GFact) : St := match s with | (ok_1, best_1) => { tm := [sv 6 (.ptr 0 14 0 0), sv 7 (bl ok_1)], hp := [(0, some (.box [(i64 best_1.Issuer), (i64 best_1.Number), (i64 best_1.Version), (bl best_1.Withdrawn), (i64 best_1.Person), (i64 best_1.Kind), (i64 best_1.State), (i64 best_1.Span.From), (i64 best_1.Span.To), (i64 best_1.Seat), (i64 best_1.Share), (i64 best_1.Currency), (i64 best_1.Amount), (i64 best_1.Ref)]))], nx := 1 }
def z6l1E (day : Int) (l : (List GFact)) (r : ((Bool × GFact))) (K : KT) : Prop := match r with | s => K (.exit 0) (z6l1C0 day l s)
def z6p0S (day : Int) (ok : Bool) (l : (List GFact)) (t24 : Int) (best : GFact) : St := { tm := [sv 1 (i64 day), sv 6 (.ptr 0 14 0 0), sv 7 (bl ok), sv 22 (.c (.sl 14 l.length (lsEl eGFact zGFact l))), sv 23 (i64 ((l.length : Nat) : Int)), sv 24 (i64 t24)], hp := [(0, some (.box [(i64 best.Issuer), (i64 best.Number), (i64 best.Version), (bl best.Withdrawn), (i64 best.Person), (i64 best.Kind), (i64 best.State), (i64 best.Span.From), (i64 best.Span.To), (i64 best.Seat), (i64 best.Share), (i64 best.Currency), (i64 best.Amount), (i64 best.Ref)]))], nx := 1 }
noncomputable def career_Residence_p0 (day : Int) (ok : Bool) (l : (List GFact)) (t24 : Int) (best : GFact) : Option ((Bool × Int × GFact) ⊕ ((Bool × GFact))) := (bif (decide (t24 < ((l.length : Nat) : Int))) then gd ((0 : Int) ≤ t24 ∧ t24 < ((l.length : Nat) : Int)) ((career_current (l.getD (Int.toNat t24) zGFact)).bind fun r_2 => ((bif (bif (bif (bif (!r_2) then true else ((l.getD (Int.toNat t24) zGFact).Kind != (5 : Int))) then true else (decide (day < ((l.getD (Int.toNat t24) zGFact).Span).From))) then true else (decide (((l.getD (Int.toNat t24) zGFact).Span).To ≤ day))) then (some (Sum.inl (ok, (w64 (t24 + (1 : Int))), best))) else (bif (bif (bif (!ok) then true else (decide (best.Span.From < ((l.getD (Int.toNat t24) zGFact).Span).From))) then true else (bif (((l.getD (Int.toNat t24) zGFact).Span).From == best.Span.From) then (decide ((l.getD (Int.toNat t24) zGFact).State < best.State)) else false)) then (some (Sum.inl (true, (w64 (t24 + (1 : Int))), (l.getD (Int.toNat t24) zGFact)))) else (some (Sum.inl (ok, (w64 (t24 + (1 : Int))), best))))))) else (some (Sum.inr (ok, best))))
theorem z6p0ok (day : Int) (ok : Bool) (l : (List GFact)) (t24 : Int) (best : GFact) (K : KT) (h : W (career_Residence_p0 day ok l t24 best) (nE (z6l1S day l) (z6l1E day l) K)) : EvL Try.prog 82 (List.drop 0 z6i1) K (z6p0S day ok l t24 best) :=
  EvL.pE mixed (lookC_ok (l := [(19, .pure career_current_C)]) ⟨career_current_ok, trivial⟩) [1, 6, 7, 22, 23, 24, 32, 33, 34, 37, 38, 39, 40, 41, 44, 45, 46, 47, 48, 53, 54, 55, 56, 57, 58, 59, 62, 63, 64, 65, 66, 67, 68, 69, 70, 71, 72, 73, 74, 75] 0 4 (.nf (X := fun K => (bif (decide (t24 < ((l.length : Nat) : Int))) then ((0 : Int) ≤ t24) ∧ (t24 < ((l.length : Nat) : Int)) ∧ (((career_current (l.getD (Int.toNat t24) zGFact)).isSome = true) ∧ ((bif (bif (bif (bif (!((career_current (l.getD (Int.toNat t24) zGFact)).getD false)) then true else ((l.getD (Int.toNat t24) zGFact).Kind != (5 : Int))) then true else (decide (day < ((l.getD (Int.toNat t24) zGFact).Span).From))) then true else (decide (((l.getD (Int.toNat t24) zGFact).Span).To ≤ day))) then wK K .normal ({ tm := [sv 1 (i64 day), sv 6 (.ptr 0 14 0 0), sv 7 (bl ok), sv 22 (.c (.sl 14 l.length (lsEl eGFact zGFact l))), sv 23 (i64 ((l.length : Nat) : Int)), sv 24 (i64 (w64 (t24 + (1 : Int)))), sv 32 (.c .unk), sv 33 (.c .unk), sv 34 (.c .unk), sv 37 (.c .unk), sv 38 (.c .unk), sv 39 (.c .unk), sv 40 (.c .unk), sv 41 (.c .unk), sv 44 (.c .unk), sv 45 (.c .unk), sv 46 (.c .unk), sv 47 (.c .unk), sv 48 (.c .unk)], hp := [(0, some (.box [(i64 best.Issuer), (i64 best.Number), (i64 best.Version), (bl best.Withdrawn), (i64 best.Person), (i64 best.Kind), (i64 best.State), (i64 best.Span.From), (i64 best.Span.To), (i64 best.Seat), (i64 best.Share), (i64 best.Currency), (i64 best.Amount), (i64 best.Ref)]))], nx := 1 }) else (bif (bif (bif (!ok) then true else (decide (best.Span.From < ((l.getD (Int.toNat t24) zGFact).Span).From))) then true else (bif (((l.getD (Int.toNat t24) zGFact).Span).From == best.Span.From) then (decide ((l.getD (Int.toNat t24) zGFact).State < best.State)) else false)) then wK K .normal ({ tm := [sv 1 (i64 day), sv 6 (.ptr 0 14 0 0), sv 7 (bl true), sv 22 (.c (.sl 14 l.length (lsEl eGFact zGFact l))), sv 23 (i64 ((l.length : Nat) : Int)), sv 24 (i64 (w64 (t24 + (1 : Int)))), sv 32 (.c .unk), sv 33 (.c .unk), sv 34 (.c .unk), sv 37 (.c .unk), sv 38 (.c .unk), sv 39 (.c .unk), sv 40 (.c .unk), sv 41 (.c .unk), sv 44 (.c .unk), sv 45 (.c .unk), sv 46 (.c .unk), sv 47 (.c .unk), sv 48 (.c .unk), sv 53 (.c .unk), sv 54 (.c .unk), sv 55 (.c .unk), sv 56 (.c .unk), sv 57 (.c .unk), sv 58 (.c .unk), sv 59 (.c .unk), sv 62 (.c .unk), sv 63 (.c .unk), sv 64 (.c .unk), sv 65 (.c .unk), sv 66 (.c .unk), sv 67 (.c .unk), sv 68 (.c .unk), sv 69 (.c .unk), sv 70 (.c .unk), sv 71 (.c .unk), sv 72 (.c .unk), sv 73 (.c .unk), sv 74 (.c .unk), sv 75 (.c .unk)], hp := [(0, some (.box [(i64 (l.getD (Int.toNat t24) zGFact).Issuer), (i64 (l.getD (Int.toNat t24) zGFact).Number), (i64 (l.getD (Int.toNat t24) zGFact).Version), (bl (l.getD (Int.toNat t24) zGFact).Withdrawn), (i64 (l.getD (Int.toNat t24) zGFact).Person), (i64 (l.getD (Int.toNat t24) zGFact).Kind), (i64 (l.getD (Int.toNat t24) zGFact).State), (i64 ((l.getD (Int.toNat t24) zGFact).Span).From), (i64 ((l.getD (Int.toNat t24) zGFact).Span).To), (i64 (l.getD (Int.toNat t24) zGFact).Seat), (i64 (l.getD (Int.toNat t24) zGFact).Share), (i64 (l.getD (Int.toNat t24) zGFact).Currency), (i64 (l.getD (Int.toNat t24) zGFact).Amount), (i64 (l.getD (Int.toNat t24) zGFact).Ref)]))], nx := 1 }) else wK K .normal ({ tm := [sv 1 (i64 day), sv 6 (.ptr 0 14 0 0), sv 7 (bl ok), sv 22 (.c (.sl 14 l.length (lsEl eGFact zGFact l))), sv 23 (i64 ((l.length : Nat) : Int)), sv 24 (i64 (w64 (t24 + (1 : Int)))), sv 32 (.c .unk), sv 33 (.c .unk), sv 34 (.c .unk), sv 37 (.c .unk), sv 38 (.c .unk), sv 39 (.c .unk), sv 40 (.c .unk), sv 41 (.c .unk), sv 44 (.c .unk), sv 45 (.c .unk), sv 46 (.c .unk), sv 47 (.c .unk), sv 48 (.c .unk), sv 53 (.c .unk), sv 54 (.c .unk), sv 55 (.c .unk), sv 56 (.c .unk), sv 57 (.c .unk), sv 58 (.c .unk), sv 59 (.c .unk), sv 62 (.c .unk), sv 63 (.c .unk), sv 64 (.c .unk), sv 65 (.c .unk), sv 66 (.c .unk), sv 67 (.c .unk), sv 68 (.c .unk), sv 69 (.c .unk), sv 70 (.c .unk), sv 71 (.c .unk), sv 72 (.c .unk), sv 73 (.c .unk), sv 74 (.c .unk), sv 75 (.c .unk)], hp := [(0, some (.box [(i64 best.Issuer), (i64 best.Number), (i64 best.Version), (bl best.Withdrawn), (i64 best.Person), (i64 best.Kind), (i64 best.State), (i64 best.Span.From), (i64 best.Span.To), (i64 best.Seat), (i64 best.Share), (i64 best.Currency), (i64 best.Amount), (i64 best.Ref)]))], nx := 1 }))))) else wK K (.exit 0) ({ tm := [sv 1 (i64 day), sv 6 (.ptr 0 14 0 0), sv 7 (bl ok), sv 22 (.c (.sl 14 l.length (lsEl eGFact zGFact l))), sv 23 (i64 ((l.length : Nat) : Int)), sv 24 (i64 t24)], hp := [(0, some (.box [(i64 best.Issuer), (i64 best.Number), (i64 best.Version), (bl best.Withdrawn), (i64 best.Person), (i64 best.Kind), (i64 best.State), (i64 best.Span.From), (i64 best.Span.To), (i64 best.Seat), (i64 best.Share), (i64 best.Currency), (i64 best.Amount), (i64 best.Ref)]))], nx := 1 }))) (fun K => by kernel_rfl) (W_bif h (fun _ h => (W_gd2 h fun hp0 h => (W_bind false h fun hp1 h => (W_bif h (fun _ h => ⟨(z6l1S day l (ok, (w64 (t24 + (1 : Int))), best)), (.of (.q rfl (.q rfl (.q rfl (.q rfl (.q rfl (.q rfl .nil)))))) (.same rfl .nil) rfl), h⟩) (fun _ h => (W_bif h (fun _ h => ⟨(z6l1S day l (true, (w64 (t24 + (1 : Int))), (l.getD (Int.toNat t24) zGFact))), (.of (.q rfl (.q rfl (.q rfl (.q rfl (.q rfl (.q rfl .nil)))))) (.same rfl .nil) rfl), h⟩) (fun _ h => ⟨(z6l1S day l (ok, (w64 (t24 + (1 : Int))), best)), (.of (.q rfl (.q rfl (.q rfl (.q rfl (.q rfl (.q rfl .nil)))))) (.same rfl .nil) rfl), h⟩))))))) (fun _ h => ⟨(z6l1C0 day l (ok, best)), (.of (.q rfl (.q rfl .nil)) (.same rfl .nil) rfl), h⟩)))
noncomputable def career_Residence_l1 (day : Int) (l : (List GFact)) (s : (Bool × Int × GFact)) : Option ((Bool × Int × GFact) ⊕ ((Bool × GFact))) := match s with | (ok, t24, best) => career_Residence_p0 day ok l t24 best
theorem z6l1ok (day : Int) (l : (List GFact)) (s : (Bool × Int × GFact)) : Pp Try.prog 82 (List.drop 0 z6i1) (z6l1S day l s) (career_Residence_l1 day l s) (nextE (z6l1S day l) (z6l1E day l)) := fun K h => match s, h with | (ok, t24, best), h => (z6p0ok day ok l t24 best _ h)
theorem z6l1Ethen (day : Int) (l : (List GFact)) : ∀ (r : ((Bool × GFact))) (J : St → Prop) (K : KT), z6l1E day l r K → z6l1E day l r (thenK J K)
  | s, _, _, h => h
def z6p1S (ok_2 : Bool) (best_2 : GFact) : St := { tm := [sv 6 (.ptr 0 14 0 0), sv 7 (bl ok_2)], hp := [(0, some (.box [(i64 best_2.Issuer), (i64 best_2.Number), (i64 best_2.Version), (bl best_2.Withdrawn), (i64 best_2.Person), (i64 best_2.Kind), (i64 best_2.State), (i64 best_2.Span.From), (i64 best_2.Span.To), (i64 best_2.Seat), (i64 best_2.Share), (i64 best_2.Currency), (i64 best_2.Amount), (i64 best_2.Ref)]))], nx := 1 }
noncomputable def career_Residence_p1 (ok_2 : Bool) (best_2 : GFact) : Option ((Int × Bool)) := (some (best_2.State, ok_2))
theorem z6p1ok (ok_2 : Bool) (best_2 : GFact) (K : KT) (h : W (career_Residence_p1 ok_2 best_2) (rE z6R K)) : EvL Try.prog 82 (List.drop 6 z6i0) K (z6p1S ok_2 best_2) :=
  EvL.pE mixed (lookC_ok (l := []) trivial) [4, 5] 6 2 (.nf (X := fun K => wK K .ret (z6R (best_2.State, ok_2))) (fun K => by kernel_rfl) (⟨_, .refl _, h⟩))
def z6p2S (day : Int) (l : (List GFact)) : St := { tm := [sv 1 (i64 day), sv 6 (.ptr 0 14 0 0), sv 7 (bl false), sv 22 (.c (.sl 14 l.length (lsEl eGFact zGFact l))), sv 23 (i64 ((l.length : Nat) : Int)), sv 24 (i64 (0 : Int))], hp := [(0, some (.box [(i64 (0 : Int)), (i64 (0 : Int)), (i64 (0 : Int)), (bl false), (i64 (0 : Int)), (i64 (0 : Int)), (i64 (0 : Int)), (i64 (0 : Int)), (i64 (0 : Int)), (i64 (0 : Int)), (i64 (0 : Int)), (i64 (0 : Int)), (i64 (0 : Int)), (i64 (0 : Int))]))], nx := 1 }
noncomputable def career_Residence_p2_g (day : Int) (l : (List GFact)) (r : ((Bool × GFact))) : Option ((Int × Bool)) := match r with | (ok_1, best_1) => (career_Residence_p1 ok_1 best_1)
noncomputable def career_Residence_p2 (day : Int) (l : (List GFact)) : Option ((Int × Bool)) := (fixL (career_Residence_l1 day l) (false, (0 : Int), (GFact.mk (0 : Int) (0 : Int) (0 : Int) false (0 : Int) (0 : Int) (0 : Int) (GSpan.mk (0 : Int) (0 : Int)) (0 : Int) (0 : Int) (0 : Int) (0 : Int) (0 : Int)))).bind (career_Residence_p2_g day l)
theorem z6p2at : List.drop 5 z6i0 = .block 0 (.loop (inside (inside (nthI z6i0 5)))) :: List.drop 6 z6i0 := by kernel_rfl
theorem z6p2k (day : Int) (l : (List GFact)) (K : KT) : ∀ r : ((Bool × GFact)), W (career_Residence_p2_g day l r) (rE z6R K) → z6l1E day l r (wK (blockK 0 (thenK (EvL Try.prog 82 (List.drop 6 z6i0) K) K)))
  | (ok_1, best_1), h => ⟨(z6p1S ok_1 best_1), (.refl _), (z6p1ok ok_1 best_1 _ h)⟩
theorem z6p2ok (day : Int) (l : (List GFact)) (K : KT) (h : W (career_Residence_p2 day l) (rE z6R K)) : EvL Try.prog 82 (List.drop 5 z6i0) K (z6p2S day l) :=
  EvL.at_ z6p2at (EvL.cons_loop (EvOk.weak (EvOk.ent (.refl _) (EvOk.loopF (x := inside (inside (nthI z6i0 5))) (f := career_Residence_l1 day l) (emb := z6l1S day l) (E := z6l1E day l) (z6l1ok day l) (z6l1Ethen day l) (W_loop h (z6p2k day l K))))))
def z6p3S (l : (List GFact)) (day : Int) (t20 : Bool) : St := { tm := [sv 0 (.c (.sl 14 l.length (lsEl eGFact zGFact l))), sv 1 (i64 day), sv 20 (bl t20)], hp := [], nx := 0 }
noncomputable def career_Residence_p3 (l : (List GFact)) (day : Int) (t20 : Bool) : Option ((Int × Bool)) := (bif t20 then (some ((0 : Int), false)) else (career_Residence_p2 day l))
theorem z6p3ok (l : (List GFact)) (day : Int) (t20 : Bool) (K : KT) (h : W (career_Residence_p3 l day t20) (rE z6R K)) : EvL Try.prog 82 (List.drop 2 z6i0) K (z6p3S l day t20) :=
  EvL.pD mixed (lookC_ok (l := []) trivial) [1, 4, 5, 6, 7, 22, 23, 24, 32, 33, 34, 37, 38, 39, 40, 41, 44, 45, 46, 47, 48, 53, 54, 55, 56, 57, 58, 59, 62, 63, 64, 65, 66, 67, 68, 69, 70, 71, 72, 73, 74, 75] 2 3 5 (.nf (X := fun K => (bif t20 then wK K .ret ({ tm := [sv 1 (i64 day), sv 4 (i64 (0 : Int)), sv 5 (bl false)], hp := [], nx := 0 }) else wK K .normal (z6p2S day l))) (fun K => by kernel_rfl) (W_bif h (fun _ h => ⟨(z6R ((0 : Int), false)), (.of (.q rfl (.q rfl .nil)) .nil rfl), h⟩) (fun _ h => ⟨_, .refl _, (z6p2ok day l _ h)⟩)))
def z6p4S (l : (List GFact)) (day : Int) : St := { tm := [sv 0 (.c (.sl 14 l.length (lsEl eGFact zGFact l))), sv 1 (i64 day)], hp := [], nx := 0 }
noncomputable def career_Residence_p4 (l : (List GFact)) (day : Int) : Option ((Int × Bool)) := (calendar_Valid day).bind fun r_1 => ((bif (!r_1) then (career_Residence_p3 l day true) else (career_Life l).bind fun r_3 => ((spans_Contains ([r_3] : List GSpan) day).bind fun r_4 => ((career_Residence_p3 l day (!r_4))))))
theorem z6p4nf (l : (List GFact)) (day : Int) (K : KT) (L1_ : List GFact) (hL1_ : lst dGFact l.length (lsEl eGFact zGFact l) = L1_) (L2_ : List GSpan) (hL2_ : lst dGSpan 1 (fun i => (litE 2 (eGSpan ((career_Life L1_).getD zGSpan))) (0 + i)) = L2_) :
    ev Try.prog (lookC [(16, .pure calendar_Valid_C), (17, .pure spans_Contains_C), (18, .pure career_Life_C)]) 82 (ofItems ((List.drop 0 z6i0).take 2)) (cN [0, 1, 20, 32, 33, 34, 37, 38, 39, 40, 41, 44, 45, 46, 47, 48, 53, 54, 55, 56, 57, 58, 59, 62, 63, 64, 65, 66, 67, 68, 69, 70, 71, 72, 73, 74, 75] K) (z6p4S l day) =
    (((calendar_Valid day).isSome = true) ∧ ((bif (!((calendar_Valid day).getD false)) then wK K .normal (z6p3S l day true) else (LstOk eGFact dGFact 14 14 l.length (lsEl eGFact zGFact l)) ∧ ((career_Life L1_).isSome = true) ∧ ((LstOk eGSpan dGSpan 2 2 1 (fun i => (litE 2 (eGSpan ((career_Life L1_).getD zGSpan))) (0 + i))) ∧ ((spans_Contains L2_ day).isSome = true) ∧ (wK K .normal (z6p3S l day (!((spans_Contains L2_ day).getD false)))))))) := by subst hL1_ hL2_; kernel_rfl
theorem z6p4ok (l : (List GFact)) (day : Int) (K : KT) (h : W (career_Residence_p4 l day) (rE z6R K)) : EvL Try.prog 82 (List.drop 0 z6i0) K (z6p4S l day) :=
  EvL.pD mixed (lookC_ok (l := [(16, .pure calendar_Valid_C), (17, .pure spans_Contains_C), (18, .pure career_Life_C)]) ⟨calendar_Valid_ok, spans_Contains_ok, career_Life_ok, trivial⟩) [0, 1, 20, 32, 33, 34, 37, 38, 39, 40, 41, 44, 45, 46, 47, 48, 53, 54, 55, 56, 57, 58, 59, 62, 63, 64, 65, 66, 67, 68, 69, 70, 71, 72, 73, 74, 75] 0 2 2 (.of (z6p4nf l day _ _ (RowIs.lst dGFact_eGFact (RowIs.ls eGFact zGFact l)) _ (RowIs.lst dGSpan_eGSpan (RowIs.zero (RowIs.l1 (enc := eGSpan) (z := zGSpan) 2 ((career_Life l).getD zGSpan) rfl)))) (W_bind false h fun hp0 h => (W_bif h (fun _ h => ⟨_, .refl _, (z6p3ok l day true _ h)⟩) (fun _ h => ⟨RowIs.ok dGFact_eGFact (RowIs.ls eGFact zGFact l), (W_bind zGSpan h fun hp1 h => ⟨RowIs.ok dGSpan_eGSpan (RowIs.zero (RowIs.l1 (enc := eGSpan) (z := zGSpan) 2 ((career_Life l).getD zGSpan) rfl)), (W_bind false h fun hp2 h => ⟨_, .refl _, (z6p3ok l day (!((spans_Contains ([((career_Life l).getD zGSpan)] : List GSpan) day).getD false)) _ h)⟩)⟩)⟩))))
noncomputable def career_Residence (l : (List GFact)) (day : Int) : Option ((Int × Bool)) := career_Residence_p4 l day
theorem z6run (l : (List GFact)) (day : Int) (y_ : (Int × Bool)) (h : career_Residence l day = some y_) : EvL Try.prog 82 (items (bodyOf Try.f6)) (retK Try.prog [.tmp 4, .tmp 5] (OutOk (career_Residence_out y_))) (z6p4S l day) :=
  z6p4ok l day _ (W_iff.2 ⟨y_, h, z6Rok y_⟩)
noncomputable def career_Residence_C : Con
  | [(.c (.sl k1 n2 e3)), (.c (.lit (.int .i64 a4)))] => some ([LstOk eGFact dGFact 14 k1 n2 e3, (career_Residence (lst dGFact n2 e3) a4).isSome = true], (career_Residence_out ((career_Residence (lst dGFact n2 e3) a4).getD ((0 : Int), false))))
  | _ => none
theorem career_Residence_ok : Meets Try.prog 6 career_Residence_C := by
  refine meets_fun (fn := Try.f6) (c := bodyOf Try.f6) (by kernel_rfl) (by kernel_rfl) (by kernel_rfl) (rs := [.tmp 4, .tmp 5]) (by kernel_rfl) (nt := 82) (by kernel_rfl) fun vs p out h hp => ?_
  unfold career_Residence_C at h
  split at h
  · next k1 n2 e3 a4 =>
    cases h
    obtain ⟨g0, hp⟩ := allq hp
    obtain ⟨g, hp⟩ := allq hp
    obtain ⟨x, hx⟩ := Option.isSome_iff_exists.1 g
    rw [hx]
    exact ⟨[(.c (.sl 14 ((lst dGFact n2 e3)).length (lsEl eGFact zGFact (lst dGFact n2 e3)))), (i64 a4)], (VLes.cons (VLe.slk g0.1 (RowIs.of_ok g0)) (VLes.cons (VLe.rfl' _) VLes.nil)), rfl, z6run (lst dGFact n2 e3) a4 x hx⟩
  · cases h

noncomputable def z20i0 : List Code := items (bodyOf Try.f20)
noncomputable def z20i1 : List Code := items (inside (inside (nthI z20i0 3)))
def ref12_Current_out (x_1 : (List GFact)) : Out := .own true 38 14 (x_1).length (lsEl eGFact zGFact x_1)
def z20R (x_1 : (List GFact)) : St := { tm := [sv 2 (.row 0 14 0 x_1.length)], hp := [(0, some (.row 38 14 x_1.length (lsEl eGFact zGFact x_1)))], nx := 1 }
theorem z20Rok (x_1 : (List GFact)) : retK Try.prog [.tmp 2] (OutOk (ref12_Current_out x_1)) .ret (z20R x_1) :=
  retK.intro (v := (.row 0 14 0 x_1.length)) (by kernel_rfl) (⟨_, _, _, rfl, rfl, rfl, fun _ _ => rfl, fun _ i hi d hd => scal_GFact _ d hd⟩)
def z20l1S (l : (List GFact)) (s : ((List GFact) × Int)) : St := match s with | (out_1, i_1) => { tm := [sv 0 (.c (.sl 14 l.length (lsEl eGFact zGFact l))), sv 3 (.row 0 14 0 out_1.length), sv 4 (i64 i_1)], hp := [(0, some (.row 38 14 out_1.length (lsEl eGFact zGFact out_1)))], nx := 1 }
def z20l1C0 (l : (List GFact)) (s : (List GFact)) : St := match s with | out_2 => { tm := [sv 3 (.row 0 14 0 out_2.length)], hp := [(0, some (.row 38 14 out_2.length (lsEl eGFact zGFact out_2)))], nx := 1 }
def z20l1E (l : (List GFact)) (r : (((List GFact)))) (K : KT) : Prop := match r with | s => K (.exit 0) (z20l1C0 l s)
def z20p0S (l out_1 : (List GFact)) (i_1 : Int) : St := { tm := [sv 0 (.c (.sl 14 l.length (lsEl eGFact zGFact l))), sv 3 (.row 0 14 0 out_1.length), sv 4 (i64 i_1)], hp := [(0, some (.row 38 14 out_1.length (lsEl eGFact zGFact out_1)))], nx := 1 }
noncomputable def ref12_Current_p0 (l out_1 : (List GFact)) (i_1 : Int) : Option (((List GFact) × Int) ⊕ (((List GFact)))) := (bif (decide (i_1 < ((l.length : Nat) : Int))) then gd ((0 : Int) ≤ i_1 ∧ i_1 < ((l.length : Nat) : Int)) ((ref12_Valid (l.getD (Int.toNat i_1) zGFact)).bind fun r_1 => (gd ((r_1 && true) = true → (0 : Int) ≤ i_1) (gd ((r_1 && true) = true → i_1 < ((l.length : Nat) : Int)) ((bif (bif r_1 then (!(l.getD (Int.toNat i_1) zGFact).Withdrawn) else false) then gd ((0 : Int) ≤ i_1 ∧ i_1 < ((l.length : Nat) : Int)) (gd (capB (out_1.length + 1) 112) ((some (Sum.inl ((out_1 ++ ([(l.getD (Int.toNat i_1) zGFact)] : List GFact)), (w64 (i_1 + (1 : Int)))))))) else (some (Sum.inl (out_1, (w64 (i_1 + (1 : Int))))))))))) else (some (Sum.inr out_1)))
theorem z20p0ok (l out_1 : (List GFact)) (i_1 : Int) (K : KT) (h : W (ref12_Current_p0 l out_1 i_1) (nE (z20l1S l) (z20l1E l) K)) : EvL Try.prog 32 (List.drop 0 z20i1) K (z20p0S l out_1 i_1) :=
  EvL.pE mixed (lookC_ok (l := [(31, .pure ref12_Valid_C)]) ⟨ref12_Valid_ok, trivial⟩) [0, 3, 4, 17, 18, 19, 20, 21, 22] 0 4 (.nf (X := fun K => (bif (decide (i_1 < ((l.length : Nat) : Int))) then ((0 : Int) ≤ i_1) ∧ (i_1 < ((l.length : Nat) : Int)) ∧ ((ref12_Valid (l.getD (Int.toNat i_1) zGFact)).isSome = true) ∧ ((((ref12_Valid (l.getD (Int.toNat i_1) zGFact)).getD false) && true) = true → (0 : Int) ≤ i_1) ∧ ((((ref12_Valid (l.getD (Int.toNat i_1) zGFact)).getD false) && true) = true → i_1 < ((l.length : Nat) : Int)) ∧ ((bif (bif ((ref12_Valid (l.getD (Int.toNat i_1) zGFact)).getD false) then (!(l.getD (Int.toNat i_1) zGFact).Withdrawn) else false) then ((0 : Int) ≤ i_1) ∧ (i_1 < ((l.length : Nat) : Int)) ∧ (out_1.length = out_1.length) ∧ ((out_1.length + 1) * 112 ≤ 140737488355328) ∧ ((out_1.length + 1) ≤ 140737488355328) ∧ (wK K .normal ({ tm := [sv 0 (.c (.sl 14 l.length (lsEl eGFact zGFact l))), sv 3 (.row 0 14 0 (out_1.length + 1)), sv 4 (i64 (w64 (i_1 + (1 : Int)))), sv 17 (.c .unk), sv 18 (.c .unk), sv 19 (.c .unk), sv 20 (.c .unk), sv 21 (.c .unk), sv 22 (.c .unk)], hp := [(0, some (.row 38 14 (out_1.length + 1) (fun i => bif Nat.blt i out_1.length then (lsEl eGFact zGFact out_1) i else (fun i => (litE 14 (eGFact (l.getD (Int.toNat i_1) zGFact))) (0 + i)) (i - out_1.length))))], nx := 1 })) else wK K .normal ({ tm := [sv 0 (.c (.sl 14 l.length (lsEl eGFact zGFact l))), sv 3 (.row 0 14 0 out_1.length), sv 4 (i64 (w64 (i_1 + (1 : Int)))), sv 17 (.c .unk), sv 18 (.c .unk), sv 19 (.c .unk), sv 20 (.c .unk), sv 21 (.c .unk), sv 22 (.c .unk)], hp := [(0, some (.row 38 14 out_1.length (lsEl eGFact zGFact out_1)))], nx := 1 }))) else wK K (.exit 0) ({ tm := [sv 0 (.c (.sl 14 l.length (lsEl eGFact zGFact l))), sv 3 (.row 0 14 0 out_1.length), sv 4 (i64 i_1)], hp := [(0, some (.row 38 14 out_1.length (lsEl eGFact zGFact out_1)))], nx := 1 }))) (fun K => by kernel_rfl) (W_bif h (fun _ h => (W_gd2 h fun hp0 h => (W_bind false h fun hp1 h => (W_gd h fun hp2 h => (W_gd h fun hp3 h => (W_bif h (fun _ h => (W_gd2 h fun hp4 h => ⟨rfl, (W_gd2 h fun hp5 h => ⟨(z20l1S l ((out_1 ++ ([(l.getD (Int.toNat i_1) zGFact)] : List GFact)), (w64 (i_1 + (1 : Int))))), (.of (.q rfl (.cons rfl (.rown (len_app rfl rfl)) (.q rfl .nil))) (.row rfl (RowIs.app (RowIs.ls eGFact zGFact out_1) (RowIs.zero (RowIs.l1 (enc := eGFact) (z := zGFact) 14 (l.getD (Int.toNat i_1) zGFact) rfl))) .nil rfl) rfl), h⟩)⟩)) (fun _ h => ⟨(z20l1S l (out_1, (w64 (i_1 + (1 : Int))))), (.of (.q rfl (.q rfl (.q rfl .nil))) (.same rfl .nil) rfl), h⟩))))))) (fun _ h => ⟨(z20l1C0 l out_1), (.of (.q rfl .nil) (.same rfl .nil) rfl), h⟩)))
noncomputable def ref12_Current_l1 (l : (List GFact)) (s : ((List GFact) × Int)) : Option (((List GFact) × Int) ⊕ (((List GFact)))) := match s with | (out_1, i_1) => ref12_Current_p0 l out_1 i_1
theorem z20l1ok (l : (List GFact)) (s : ((List GFact) × Int)) : Pp Try.prog 32 (List.drop 0 z20i1) (z20l1S l s) (ref12_Current_l1 l s) (nextE (z20l1S l) (z20l1E l)) := fun K h => match s, h with | (out_1, i_1), h => (z20p0ok l out_1 i_1 _ h)
theorem z20l1Ethen (l : (List GFact)) : ∀ (r : (((List GFact)))) (J : St → Prop) (K : KT), z20l1E l r K → z20l1E l r (thenK J K)
  | s, _, _, h => h
def z20p1S (out_3 : (List GFact)) : St := { tm := [sv 3 (.row 0 14 0 out_3.length)], hp := [(0, some (.row 38 14 out_3.length (lsEl eGFact zGFact out_3)))], nx := 1 }
noncomputable def ref12_Current_p1 (out_3 : (List GFact)) : Option ((List GFact)) := (some out_3)
theorem z20p1ok (out_3 : (List GFact)) (K : KT) (h : W (ref12_Current_p1 out_3) (rE z20R K)) : EvL Try.prog 32 (List.drop 4 z20i0) K (z20p1S out_3) :=
  EvL.pE mixed (lookC_ok (l := []) trivial) [2] 4 2 (.nf (X := fun K => wK K .ret (z20R out_3)) (fun K => by kernel_rfl) (⟨_, .refl _, h⟩))
def z20p2S (l : (List GFact)) : St := { tm := [sv 0 (.c (.sl 14 l.length (lsEl eGFact zGFact l))), sv 3 (.c .nil), sv 4 (i64 (0 : Int))], hp := [], nx := 0 }
noncomputable def ref12_Current_p2_g (l : (List GFact)) (r : (((List GFact)))) : Option ((List GFact)) := match r with | out_2 => (ref12_Current_p1 out_2)
noncomputable def ref12_Current_p2 (l : (List GFact)) : Option ((List GFact)) := (fixL (ref12_Current_l1 l) (([] : List GFact), (0 : Int))).bind (ref12_Current_p2_g l)
theorem z20p2at : List.drop 3 z20i0 = .block 0 (.loop (inside (inside (nthI z20i0 3)))) :: List.drop 4 z20i0 := by kernel_rfl
theorem z20p2k (l : (List GFact)) (K : KT) : ∀ r : (((List GFact))), W (ref12_Current_p2_g l r) (rE z20R K) → z20l1E l r (wK (blockK 0 (thenK (EvL Try.prog 32 (List.drop 4 z20i0) K) K)))
  | out_2, h => ⟨(z20p1S out_2), (.refl _), (z20p1ok out_2 _ h)⟩
theorem z20p2ok (l : (List GFact)) (K : KT) (h : W (ref12_Current_p2 l) (rE z20R K)) : EvL Try.prog 32 (List.drop 3 z20i0) K (z20p2S l) :=
  EvL.at_ z20p2at (EvL.cons_loop (EvOk.weak (EvOk.ent (.trans (.nilrow 3 0 38 14 (lsEl eGFact zGFact []) (Nat.le_of_ble_eq_true rfl) rfl) (.cn [0, 3, 4])) (EvOk.loopF (x := inside (inside (nthI z20i0 3))) (f := ref12_Current_l1 l) (emb := z20l1S l) (E := z20l1E l) (z20l1ok l) (z20l1Ethen l) (W_loop h (z20p2k l K))))))
def z20p3S (l : (List GFact)) : St := { tm := [sv 0 (.c (.sl 14 l.length (lsEl eGFact zGFact l)))], hp := [], nx := 0 }
noncomputable def ref12_Current_p3 (l : (List GFact)) : Option ((List GFact)) := (ref12_Current_p2 l)
theorem z20p3ok (l : (List GFact)) (K : KT) (h : W (ref12_Current_p3 l) (rE z20R K)) : EvL Try.prog 32 (List.drop 0 z20i0) K (z20p3S l) :=
  EvL.pD mixed (lookC_ok (l := []) trivial) [0, 3, 4, 17, 18, 19, 20, 21, 22] 0 3 3 (.nf (X := fun K => wK K .normal (z20p2S l)) (fun K => by kernel_rfl) (⟨_, .refl _, (z20p2ok l _ h)⟩))
noncomputable def ref12_Current (l : (List GFact)) : Option ((List GFact)) := ref12_Current_p3 l
theorem z20run (l : (List GFact)) (y_ : (List GFact)) (h : ref12_Current l = some y_) : EvL Try.prog 32 (items (bodyOf Try.f20)) (retK Try.prog [.tmp 2] (OutOk (ref12_Current_out y_))) (z20p3S l) :=
  z20p3ok l _ (W_iff.2 ⟨y_, h, z20Rok y_⟩)
noncomputable def ref12_Current_C : Con
  | [(.c (.sl k1 n2 e3))] => some ([LstOk eGFact dGFact 14 k1 n2 e3, (ref12_Current (lst dGFact n2 e3)).isSome = true], (ref12_Current_out ((ref12_Current (lst dGFact n2 e3)).getD ([] : List GFact))))
  | _ => none
theorem ref12_Current_ok : Meets Try.prog 20 ref12_Current_C := by
  refine meets_fun (fn := Try.f20) (c := bodyOf Try.f20) (by kernel_rfl) (by kernel_rfl) (by kernel_rfl) (rs := [.tmp 2]) (by kernel_rfl) (nt := 32) (by kernel_rfl) fun vs p out h hp => ?_
  unfold ref12_Current_C at h
  split at h
  · next k1 n2 e3 =>
    cases h
    obtain ⟨g0, hp⟩ := allq hp
    obtain ⟨g, hp⟩ := allq hp
    obtain ⟨x, hx⟩ := Option.isSome_iff_exists.1 g
    rw [hx]
    exact ⟨[(.c (.sl 14 ((lst dGFact n2 e3)).length (lsEl eGFact zGFact (lst dGFact n2 e3))))], (VLes.cons (VLe.slk g0.1 (RowIs.of_ok g0)) VLes.nil), rfl, z20run (lst dGFact n2 e3) x hx⟩
  · cases h

noncomputable def z57i0 : List Code := items (bodyOf Try.f57)
noncomputable def z57i1 : List Code := items (inside (inside (nthI z57i0 4)))
def ref12_least_out (x_1 : (Int × Bool)) : Out := .data (.tup [(i64 x_1.1), (bl x_1.2)])
def z57R (x_1 : (Int × Bool)) : St := { tm := [sv 4 (i64 x_1.1), sv 5 (bl x_1.2)], hp := [], nx := 0 }
theorem z57Rok (x_1 : (Int × Bool)) : retK Try.prog [.tmp 4, .tmp 5] (OutOk (ref12_least_out x_1)) .ret (z57R x_1) :=
  retK.intro (v := (.tup [(i64 x_1.1), (bl x_1.2)])) (by kernel_rfl) (VLe.tup (VLes.cons (VLe.rfl' _) (VLes.cons (VLe.rfl' _) (VLes.nil))))
def z57l1S (kind : Int) (c : (List GFact)) (s : (Int × Bool × Int)) : St := match s with | (day, ok, i_1) => { tm := [sv 1 (i64 kind), sv 6 (.row 0 14 0 c.length), sv 7 (i64 day), sv 8 (bl ok), sv 9 (i64 i_1)], hp := [(0, some (.row 38 14 c.length (lsEl eGFact zGFact c)))], nx := 1 }
def z57l1C0 (kind : Int) (c : (List GFact)) (s : Int × Bool) : St := match s with | (day_1, ok_1) => { tm := [sv 7 (i64 day_1), sv 8 (bl ok_1)], hp := [], nx := 0 }
def z57l1E (kind : Int) (c : (List GFact)) (r : ((Int × Bool))) (K : KT) : Prop := match r with | s => K (.exit 0) (z57l1C0 kind c s)
def z57p0S (kind : Int) (c : (List GFact)) (day : Int) (ok : Bool) (i_1 : Int) : St := { tm := [sv 1 (i64 kind), sv 6 (.row 0 14 0 c.length), sv 7 (i64 day), sv 8 (bl ok), sv 9 (i64 i_1)], hp := [(0, some (.row 38 14 c.length (lsEl eGFact zGFact c)))], nx := 1 }
noncomputable def ref12_least_p0 (kind : Int) (c : (List GFact)) (day : Int) (ok : Bool) (i_1 : Int) : Option ((Int × Bool × Int) ⊕ ((Int × Bool))) := (bif (decide (i_1 < ((c.length : Nat) : Int))) then gd ((0 : Int) ≤ i_1 ∧ i_1 < ((c.length : Nat) : Int)) (gd (((!(!ok)) && (((c.getD (0 + (Int.toNat i_1)) zGFact).Kind == kind) && true)) = true → (0 : Int) ≤ i_1) (gd (((!(!ok)) && (((c.getD (0 + (Int.toNat i_1)) zGFact).Kind == kind) && true)) = true → i_1 < ((c.length : Nat) : Int)) ((bif (bif ((c.getD (0 + (Int.toNat i_1)) zGFact).Kind == kind) then (bif (!ok) then true else (decide (((c.getD (0 + (Int.toNat i_1)) zGFact).Span).From < day))) else false) then gd ((0 : Int) ≤ i_1 ∧ i_1 < ((c.length : Nat) : Int)) ((some (Sum.inl (((c.getD (0 + (Int.toNat i_1)) zGFact).Span).From, true, (w64 (i_1 + (1 : Int))))))) else (some (Sum.inl (day, ok, (w64 (i_1 + (1 : Int)))))))))) else (some (Sum.inr (day, ok))))
theorem z57p0ok (kind : Int) (c : (List GFact)) (day : Int) (ok : Bool) (i_1 : Int) (K : KT) (h : W (ref12_least_p0 kind c day ok i_1) (nE (z57l1S kind c) (z57l1E kind c) K)) : EvL Try.prog 47 (List.drop 0 z57i1) K (z57p0S kind c day ok i_1) :=
  EvL.pE mixed (lookC_ok (l := []) trivial) [1, 6, 7, 8, 9, 26, 27, 28, 29, 30, 31, 32, 33, 34, 35, 36, 37] 0 4 (.nf (X := fun K => (bif (decide (i_1 < ((c.length : Nat) : Int))) then ((0 : Int) ≤ i_1) ∧ (i_1 < ((c.length : Nat) : Int)) ∧ (((!(!ok)) && (((c.getD (0 + (Int.toNat i_1)) zGFact).Kind == kind) && true)) = true → (0 : Int) ≤ i_1) ∧ (((!(!ok)) && (((c.getD (0 + (Int.toNat i_1)) zGFact).Kind == kind) && true)) = true → i_1 < ((c.length : Nat) : Int)) ∧ ((bif (bif ((c.getD (0 + (Int.toNat i_1)) zGFact).Kind == kind) then (bif (!ok) then true else (decide (((c.getD (0 + (Int.toNat i_1)) zGFact).Span).From < day))) else false) then ((0 : Int) ≤ i_1) ∧ (i_1 < ((c.length : Nat) : Int)) ∧ (wK K .normal ({ tm := [sv 1 (i64 kind), sv 6 (.row 0 14 0 c.length), sv 7 (i64 ((c.getD (0 + (Int.toNat i_1)) zGFact).Span).From), sv 8 (bl true), sv 9 (i64 (w64 (i_1 + (1 : Int)))), sv 26 (.c .unk), sv 27 (.c .unk), sv 28 (.c .unk), sv 29 (.c .unk), sv 30 (.c .unk), sv 31 (.c .unk), sv 32 (.c .unk), sv 33 (.c .unk), sv 34 (.c .unk), sv 35 (.c .unk), sv 36 (.c .unk), sv 37 (.c .unk)], hp := [(0, some (.row 38 14 c.length (lsEl eGFact zGFact c)))], nx := 1 })) else wK K .normal ({ tm := [sv 1 (i64 kind), sv 6 (.row 0 14 0 c.length), sv 7 (i64 day), sv 8 (bl ok), sv 9 (i64 (w64 (i_1 + (1 : Int)))), sv 26 (.c .unk), sv 27 (.c .unk), sv 28 (.c .unk), sv 29 (.c .unk), sv 30 (.c .unk), sv 31 (.c .unk), sv 32 (.c .unk), sv 33 (.c .unk), sv 34 (.c .unk), sv 35 (.c .unk), sv 36 (.c .unk), sv 37 (.c .unk)], hp := [(0, some (.row 38 14 c.length (lsEl eGFact zGFact c)))], nx := 1 }))) else wK K (.exit 0) ({ tm := [sv 1 (i64 kind), sv 6 (.row 0 14 0 c.length), sv 7 (i64 day), sv 8 (bl ok), sv 9 (i64 i_1)], hp := [(0, some (.row 38 14 c.length (lsEl eGFact zGFact c)))], nx := 1 }))) (fun K => by kernel_rfl) (W_bif h (fun _ h => (W_gd2 h fun hp0 h => (W_gd h fun hp1 h => (W_gd h fun hp2 h => (W_bif h (fun _ h => (W_gd2 h fun hp3 h => ⟨(z57l1S kind c (((c.getD (0 + (Int.toNat i_1)) zGFact).Span).From, true, (w64 (i_1 + (1 : Int))))), (.of (.q rfl (.q rfl (.q rfl (.q rfl (.q rfl .nil))))) (.same rfl .nil) rfl), h⟩)) (fun _ h => ⟨(z57l1S kind c (day, ok, (w64 (i_1 + (1 : Int))))), (.of (.q rfl (.q rfl (.q rfl (.q rfl (.q rfl .nil))))) (.same rfl .nil) rfl), h⟩)))))) (fun _ h => ⟨(z57l1C0 kind c (day, ok)), (.cn [7, 8]), h⟩)))
noncomputable def ref12_least_l1 (kind : Int) (c : (List GFact)) (s : (Int × Bool × Int)) : Option ((Int × Bool × Int) ⊕ ((Int × Bool))) := match s with | (day, ok, i_1) => ref12_least_p0 kind c day ok i_1
theorem z57l1ok (kind : Int) (c : (List GFact)) (s : (Int × Bool × Int)) : Pp Try.prog 47 (List.drop 0 z57i1) (z57l1S kind c s) (ref12_least_l1 kind c s) (nextE (z57l1S kind c) (z57l1E kind c)) := fun K h => match s, h with | (day, ok, i_1), h => (z57p0ok kind c day ok i_1 _ h)
theorem z57l1Ethen (kind : Int) (c : (List GFact)) : ∀ (r : ((Int × Bool))) (J : St → Prop) (K : KT), z57l1E kind c r K → z57l1E kind c r (thenK J K)
  | s, _, _, h => h
def z57p1S (day_2 : Int) (ok_2 : Bool) : St := { tm := [sv 7 (i64 day_2), sv 8 (bl ok_2)], hp := [], nx := 0 }
noncomputable def ref12_least_p1 (day_2 : Int) (ok_2 : Bool) : Option ((Int × Bool)) := (some (day_2, ok_2))
theorem z57p1ok (day_2 : Int) (ok_2 : Bool) (K : KT) (h : W (ref12_least_p1 day_2 ok_2) (rE z57R K)) : EvL Try.prog 47 (List.drop 5 z57i0) K (z57p1S day_2 ok_2) :=
  EvL.pE mixed (lookC_ok (l := []) trivial) [4, 5] 5 2 (.nf (X := fun K => wK K .ret (z57R (day_2, ok_2))) (fun K => by kernel_rfl) (⟨_, .refl _, h⟩))
def z57p2S (kind : Int) (c : (List GFact)) : St := { tm := [sv 1 (i64 kind), sv 6 (.row 0 14 0 c.length), sv 7 (i64 (0 : Int)), sv 8 (bl false), sv 9 (i64 (0 : Int))], hp := [(0, some (.row 38 14 c.length (lsEl eGFact zGFact c)))], nx := 1 }
noncomputable def ref12_least_p2_g (kind : Int) (c : (List GFact)) (r : ((Int × Bool))) : Option ((Int × Bool)) := match r with | (day_1, ok_1) => (ref12_least_p1 day_1 ok_1)
noncomputable def ref12_least_p2 (kind : Int) (c : (List GFact)) : Option ((Int × Bool)) := (fixL (ref12_least_l1 kind c) ((0 : Int), false, (0 : Int))).bind (ref12_least_p2_g kind c)
theorem z57p2at : List.drop 4 z57i0 = .block 0 (.loop (inside (inside (nthI z57i0 4)))) :: List.drop 5 z57i0 := by kernel_rfl
theorem z57p2k (kind : Int) (c : (List GFact)) (K : KT) : ∀ r : ((Int × Bool)), W (ref12_least_p2_g kind c r) (rE z57R K) → z57l1E kind c r (wK (blockK 0 (thenK (EvL Try.prog 47 (List.drop 5 z57i0) K) K)))
  | (day_1, ok_1), h => ⟨(z57p1S day_1 ok_1), (.refl _), (z57p1ok day_1 ok_1 _ h)⟩
theorem z57p2ok (kind : Int) (c : (List GFact)) (K : KT) (h : W (ref12_least_p2 kind c) (rE z57R K)) : EvL Try.prog 47 (List.drop 4 z57i0) K (z57p2S kind c) :=
  EvL.at_ z57p2at (EvL.cons_loop (EvOk.weak (EvOk.ent (.refl _) (EvOk.loopF (x := inside (inside (nthI z57i0 4))) (f := ref12_least_l1 kind c) (emb := z57l1S kind c) (E := z57l1E kind c) (z57l1ok kind c) (z57l1Ethen kind c) (W_loop h (z57p2k kind c K))))))
def z57p3S (l : (List GFact)) (kind : Int) : St := { tm := [sv 0 (.c (.sl 14 l.length (lsEl eGFact zGFact l))), sv 1 (i64 kind)], hp := [], nx := 0 }
noncomputable def ref12_least_p3 (l : (List GFact)) (kind : Int) : Option ((Int × Bool)) := (ref12_Current l).bind fun r_1 => ((ref12_least_p2 kind r_1))
theorem z57p3nf (l : (List GFact)) (kind : Int) (K : KT) (L1_ : List GFact) (hL1_ : lst dGFact l.length (lsEl eGFact zGFact l) = L1_) :
    ev Try.prog (lookC [(20, .pure ref12_Current_C)]) 47 (ofItems ((List.drop 0 z57i0).take 4)) (cN [1, 6, 7, 8, 9, 26, 27, 28, 29, 30, 31, 32, 33, 34, 35, 36, 37] K) (z57p3S l kind) =
    ((LstOk eGFact dGFact 14 14 l.length (lsEl eGFact zGFact l)) ∧ ((ref12_Current L1_).isSome = true) ∧ (wK K .normal (z57p2S kind ((ref12_Current L1_).getD ([] : List GFact))))) := by subst hL1_; kernel_rfl
theorem z57p3ok (l : (List GFact)) (kind : Int) (K : KT) (h : W (ref12_least_p3 l kind) (rE z57R K)) : EvL Try.prog 47 (List.drop 0 z57i0) K (z57p3S l kind) :=
  EvL.pD mixed (lookC_ok (l := [(20, .pure ref12_Current_C)]) ⟨ref12_Current_ok, trivial⟩) [1, 6, 7, 8, 9, 26, 27, 28, 29, 30, 31, 32, 33, 34, 35, 36, 37] 0 4 4 (.of (z57p3nf l kind _ _ (RowIs.lst dGFact_eGFact (RowIs.ls eGFact zGFact l))) (⟨RowIs.ok dGFact_eGFact (RowIs.ls eGFact zGFact l), (W_bind ([] : List GFact) h fun hp0 h => ⟨_, .refl _, (z57p2ok kind ((ref12_Current l).getD ([] : List GFact)) _ h)⟩)⟩))
noncomputable def ref12_least (l : (List GFact)) (kind : Int) : Option ((Int × Bool)) := ref12_least_p3 l kind
theorem z57run (l : (List GFact)) (kind : Int) (y_ : (Int × Bool)) (h : ref12_least l kind = some y_) : EvL Try.prog 47 (items (bodyOf Try.f57)) (retK Try.prog [.tmp 4, .tmp 5] (OutOk (ref12_least_out y_))) (z57p3S l kind) :=
  z57p3ok l kind _ (W_iff.2 ⟨y_, h, z57Rok y_⟩)
noncomputable def ref12_least_C : Con
  | [(.c (.sl k1 n2 e3)), (.c (.lit (.int .i64 a4)))] => some ([LstOk eGFact dGFact 14 k1 n2 e3, (ref12_least (lst dGFact n2 e3) a4).isSome = true], (ref12_least_out ((ref12_least (lst dGFact n2 e3) a4).getD ((0 : Int), false))))
  | _ => none
theorem ref12_least_ok : Meets Try.prog 57 ref12_least_C := by
  refine meets_fun (fn := Try.f57) (c := bodyOf Try.f57) (by kernel_rfl) (by kernel_rfl) (by kernel_rfl) (rs := [.tmp 4, .tmp 5]) (by kernel_rfl) (nt := 47) (by kernel_rfl) fun vs p out h hp => ?_
  unfold ref12_least_C at h
  split at h
  · next k1 n2 e3 a4 =>
    cases h
    obtain ⟨g0, hp⟩ := allq hp
    obtain ⟨g, hp⟩ := allq hp
    obtain ⟨x, hx⟩ := Option.isSome_iff_exists.1 g
    rw [hx]
    exact ⟨[(.c (.sl 14 ((lst dGFact n2 e3)).length (lsEl eGFact zGFact (lst dGFact n2 e3)))), (i64 a4)], (VLes.cons (VLe.slk g0.1 (RowIs.of_ok g0)) (VLes.cons (VLe.rfl' _) VLes.nil)), rfl, z57run (lst dGFact n2 e3) a4 x hx⟩
  · cases h

noncomputable def z39i0 : List Code := items (bodyOf Try.f39)
def ref12_Birth_out (x_1 : (Int × Bool)) : Out := .data (.tup [(i64 x_1.1), (bl x_1.2)])
def z39R (x_1 : (Int × Bool)) : St := { tm := [sv 2 (i64 x_1.1), sv 3 (bl x_1.2)], hp := [], nx := 0 }
theorem z39Rok (x_1 : (Int × Bool)) : retK Try.prog [.tmp 2, .tmp 3] (OutOk (ref12_Birth_out x_1)) .ret (z39R x_1) :=
  retK.intro (v := (.tup [(i64 x_1.1), (bl x_1.2)])) (by kernel_rfl) (VLe.tup (VLes.cons (VLe.rfl' _) (VLes.cons (VLe.rfl' _) (VLes.nil))))
def z39p0S (l : (List GFact)) : St := { tm := [sv 0 (.c (.sl 14 l.length (lsEl eGFact zGFact l)))], hp := [], nx := 0 }
noncomputable def ref12_Birth_p0 (l : (List GFact)) : Option ((Int × Bool)) := (ref12_least l (11 : Int)).bind fun r_1 => ((some (r_1.1, r_1.2)))
theorem z39p0nf (l : (List GFact)) (K : KT) (L1_ : List GFact) (hL1_ : lst dGFact l.length (lsEl eGFact zGFact l) = L1_) :
    ev Try.prog (lookC [(57, .pure ref12_least_C)]) 8 (ofItems ((List.drop 0 z39i0).take 3)) (cN [2, 3] K) (z39p0S l) =
    ((LstOk eGFact dGFact 14 14 l.length (lsEl eGFact zGFact l)) ∧ ((ref12_least L1_ (11 : Int)).isSome = true) ∧ (wK K .ret (z39R (((ref12_least L1_ (11 : Int)).getD ((0 : Int), false)).1, ((ref12_least L1_ (11 : Int)).getD ((0 : Int), false)).2)))) := by subst hL1_; kernel_rfl
theorem z39p0ok (l : (List GFact)) (K : KT) (h : W (ref12_Birth_p0 l) (rE z39R K)) : EvL Try.prog 8 (List.drop 0 z39i0) K (z39p0S l) :=
  EvL.pE mixed (lookC_ok (l := [(57, .pure ref12_least_C)]) ⟨ref12_least_ok, trivial⟩) [2, 3] 0 3 (.of (z39p0nf l _ _ (RowIs.lst dGFact_eGFact (RowIs.ls eGFact zGFact l))) (⟨RowIs.ok dGFact_eGFact (RowIs.ls eGFact zGFact l), (W_bind ((0 : Int), false) h fun hp0 h => ⟨_, .refl _, h⟩)⟩))
noncomputable def ref12_Birth (l : (List GFact)) : Option ((Int × Bool)) := ref12_Birth_p0 l
theorem z39run (l : (List GFact)) (y_ : (Int × Bool)) (h : ref12_Birth l = some y_) : EvL Try.prog 8 (items (bodyOf Try.f39)) (retK Try.prog [.tmp 2, .tmp 3] (OutOk (ref12_Birth_out y_))) (z39p0S l) :=
  z39p0ok l _ (W_iff.2 ⟨y_, h, z39Rok y_⟩)
noncomputable def ref12_Birth_C : Con
  | [(.c (.sl k1 n2 e3))] => some ([LstOk eGFact dGFact 14 k1 n2 e3, (ref12_Birth (lst dGFact n2 e3)).isSome = true], (ref12_Birth_out ((ref12_Birth (lst dGFact n2 e3)).getD ((0 : Int), false))))
  | _ => none
theorem ref12_Birth_ok : Meets Try.prog 39 ref12_Birth_C := by
  refine meets_fun (fn := Try.f39) (c := bodyOf Try.f39) (by kernel_rfl) (by kernel_rfl) (by kernel_rfl) (rs := [.tmp 2, .tmp 3]) (by kernel_rfl) (nt := 8) (by kernel_rfl) fun vs p out h hp => ?_
  unfold ref12_Birth_C at h
  split at h
  · next k1 n2 e3 =>
    cases h
    obtain ⟨g0, hp⟩ := allq hp
    obtain ⟨g, hp⟩ := allq hp
    obtain ⟨x, hx⟩ := Option.isSome_iff_exists.1 g
    rw [hx]
    exact ⟨[(.c (.sl 14 ((lst dGFact n2 e3)).length (lsEl eGFact zGFact (lst dGFact n2 e3))))], (VLes.cons (VLe.slk g0.1 (RowIs.of_ok g0)) VLes.nil), rfl, z39run (lst dGFact n2 e3) x hx⟩
  · cases h

noncomputable def z40i0 : List Code := items (bodyOf Try.f40)
def ref12_Death_out (x_1 : (Int × Bool)) : Out := .data (.tup [(i64 x_1.1), (bl x_1.2)])
def z40R (x_1 : (Int × Bool)) : St := { tm := [sv 2 (i64 x_1.1), sv 3 (bl x_1.2)], hp := [], nx := 0 }
theorem z40Rok (x_1 : (Int × Bool)) : retK Try.prog [.tmp 2, .tmp 3] (OutOk (ref12_Death_out x_1)) .ret (z40R x_1) :=
  retK.intro (v := (.tup [(i64 x_1.1), (bl x_1.2)])) (by kernel_rfl) (VLe.tup (VLes.cons (VLe.rfl' _) (VLes.cons (VLe.rfl' _) (VLes.nil))))
def z40p0S (l : (List GFact)) : St := { tm := [sv 0 (.c (.sl 14 l.length (lsEl eGFact zGFact l)))], hp := [], nx := 0 }
noncomputable def ref12_Death_p0 (l : (List GFact)) : Option ((Int × Bool)) := (ref12_least l (12 : Int)).bind fun r_1 => ((some (r_1.1, r_1.2)))
theorem z40p0nf (l : (List GFact)) (K : KT) (L1_ : List GFact) (hL1_ : lst dGFact l.length (lsEl eGFact zGFact l) = L1_) :
    ev Try.prog (lookC [(57, .pure ref12_least_C)]) 8 (ofItems ((List.drop 0 z40i0).take 3)) (cN [2, 3] K) (z40p0S l) =
    ((LstOk eGFact dGFact 14 14 l.length (lsEl eGFact zGFact l)) ∧ ((ref12_least L1_ (12 : Int)).isSome = true) ∧ (wK K .ret (z40R (((ref12_least L1_ (12 : Int)).getD ((0 : Int), false)).1, ((ref12_least L1_ (12 : Int)).getD ((0 : Int), false)).2)))) := by subst hL1_; kernel_rfl
theorem z40p0ok (l : (List GFact)) (K : KT) (h : W (ref12_Death_p0 l) (rE z40R K)) : EvL Try.prog 8 (List.drop 0 z40i0) K (z40p0S l) :=
  EvL.pE mixed (lookC_ok (l := [(57, .pure ref12_least_C)]) ⟨ref12_least_ok, trivial⟩) [2, 3] 0 3 (.of (z40p0nf l _ _ (RowIs.lst dGFact_eGFact (RowIs.ls eGFact zGFact l))) (⟨RowIs.ok dGFact_eGFact (RowIs.ls eGFact zGFact l), (W_bind ((0 : Int), false) h fun hp0 h => ⟨_, .refl _, h⟩)⟩))
noncomputable def ref12_Death (l : (List GFact)) : Option ((Int × Bool)) := ref12_Death_p0 l
theorem z40run (l : (List GFact)) (y_ : (Int × Bool)) (h : ref12_Death l = some y_) : EvL Try.prog 8 (items (bodyOf Try.f40)) (retK Try.prog [.tmp 2, .tmp 3] (OutOk (ref12_Death_out y_))) (z40p0S l) :=
  z40p0ok l _ (W_iff.2 ⟨y_, h, z40Rok y_⟩)
noncomputable def ref12_Death_C : Con
  | [(.c (.sl k1 n2 e3))] => some ([LstOk eGFact dGFact 14 k1 n2 e3, (ref12_Death (lst dGFact n2 e3)).isSome = true], (ref12_Death_out ((ref12_Death (lst dGFact n2 e3)).getD ((0 : Int), false))))
  | _ => none
theorem ref12_Death_ok : Meets Try.prog 40 ref12_Death_C := by
  refine meets_fun (fn := Try.f40) (c := bodyOf Try.f40) (by kernel_rfl) (by kernel_rfl) (by kernel_rfl) (rs := [.tmp 2, .tmp 3]) (by kernel_rfl) (nt := 8) (by kernel_rfl) fun vs p out h hp => ?_
  unfold ref12_Death_C at h
  split at h
  · next k1 n2 e3 =>
    cases h
    obtain ⟨g0, hp⟩ := allq hp
    obtain ⟨g, hp⟩ := allq hp
    obtain ⟨x, hx⟩ := Option.isSome_iff_exists.1 g
    rw [hx]
    exact ⟨[(.c (.sl 14 ((lst dGFact n2 e3)).length (lsEl eGFact zGFact (lst dGFact n2 e3))))], (VLes.cons (VLe.slk g0.1 (RowIs.of_ok g0)) VLes.nil), rfl, z40run (lst dGFact n2 e3) x hx⟩
  · cases h

noncomputable def z22i0 : List Code := items (bodyOf Try.f22)
def ref12_Life_out (x_1 : GSpan) : Out := .data (.agg [(i64 x_1.From), (i64 x_1.To)])
def z22R (x_1 : GSpan) : St := { tm := [sv 2 (.ptr 0 2 0 0)], hp := [(0, some (.box [(i64 x_1.From), (i64 x_1.To)]))], nx := 1 }
theorem z22Rok (x_1 : GSpan) : retK Try.prog [.cell 2 36] (OutOk (ref12_Life_out x_1)) .ret (z22R x_1) :=
  retK.intro (v := (.agg [(i64 x_1.From), (i64 x_1.To)])) (by kernel_rfl) ((VLe.rfl' _))
def z22p0S (from_1 to_1 : Int) : St := { tm := [sv 2 (.ptr 0 2 0 0), sv 3 (i64 from_1), sv 5 (i64 to_1)], hp := [(0, some (.box [(i64 (0 : Int)), (i64 (0 : Int))]))], nx := 1 }
noncomputable def ref12_Life_p0 (from_1 to_1 : Int) : Option (GSpan) := (bif (decide (to_1 < from_1)) then (some (GSpan.mk (0 : Int) (0 : Int))) else (some (GSpan.mk from_1 (w64 (to_1 + (1 : Int))))))
theorem z22p0ok (from_1 to_1 : Int) (K : KT) (h : W (ref12_Life_p0 from_1 to_1) (rE z22R K)) : EvL Try.prog 27 (List.drop 5 z22i0) K (z22p0S from_1 to_1) :=
  EvL.pE mixed (lookC_ok (l := []) trivial) [2] 5 4 (.nf (X := fun K => (bif (decide (to_1 < from_1)) then wK K .ret (z22R (GSpan.mk (0 : Int) (0 : Int))) else wK K .ret (z22R (GSpan.mk from_1 (w64 (to_1 + (1 : Int))))))) (fun K => by kernel_rfl) (W_bif h (fun _ h => ⟨_, .refl _, h⟩) (fun _ h => ⟨_, .refl _, h⟩)))
def z22p1S (l : (List GFact)) : St := { tm := [sv 0 (.c (.sl 14 l.length (lsEl eGFact zGFact l)))], hp := [], nx := 0 }
noncomputable def ref12_Life_p1 (l : (List GFact)) : Option (GSpan) := (ref12_Birth l).bind fun r_1 => ((ref12_Death l).bind fun r_2 => ((bif (!r_2.2) then (ref12_Life_p0 r_1.1 (73048 : Int)) else (ref12_Life_p0 r_1.1 r_2.1))))
theorem z22p1nf (l : (List GFact)) (K : KT) (L1_ : List GFact) (hL1_ : lst dGFact l.length (lsEl eGFact zGFact l) = L1_) (L2_ : List GFact) (hL2_ : lst dGFact l.length (lsEl eGFact zGFact l) = L2_) :
    ev Try.prog (lookC [(39, .pure ref12_Birth_C), (40, .pure ref12_Death_C)]) 27 (ofItems ((List.drop 0 z22i0).take 5)) (cN [2, 3, 5] K) (z22p1S l) =
    ((LstOk eGFact dGFact 14 14 l.length (lsEl eGFact zGFact l)) ∧ ((ref12_Birth L1_).isSome = true) ∧ ((LstOk eGFact dGFact 14 14 l.length (lsEl eGFact zGFact l)) ∧ ((ref12_Death L2_).isSome = true) ∧ ((bif (!((ref12_Death L2_).getD ((0 : Int), false)).2) then wK K .normal (z22p0S (((ref12_Birth L1_).getD ((0 : Int), false)).1) (73048 : Int)) else wK K .normal (z22p0S (((ref12_Birth L1_).getD ((0 : Int), false)).1) (((ref12_Death L2_).getD ((0 : Int), false)).1)))))) := by subst hL1_ hL2_; kernel_rfl
theorem z22p1ok (l : (List GFact)) (K : KT) (h : W (ref12_Life_p1 l) (rE z22R K)) : EvL Try.prog 27 (List.drop 0 z22i0) K (z22p1S l) :=
  EvL.pD mixed (lookC_ok (l := [(39, .pure ref12_Birth_C), (40, .pure ref12_Death_C)]) ⟨ref12_Birth_ok, ref12_Death_ok, trivial⟩) [2, 3, 5] 0 5 5 (.of (z22p1nf l _ _ (RowIs.lst dGFact_eGFact (RowIs.ls eGFact zGFact l)) _ (RowIs.lst dGFact_eGFact (RowIs.ls eGFact zGFact l))) (⟨RowIs.ok dGFact_eGFact (RowIs.ls eGFact zGFact l), (W_bind ((0 : Int), false) h fun hp0 h => ⟨RowIs.ok dGFact_eGFact (RowIs.ls eGFact zGFact l), (W_bind ((0 : Int), false) h fun hp1 h => (W_bif h (fun _ h => ⟨_, .refl _, (z22p0ok (((ref12_Birth l).getD ((0 : Int), false)).1) (73048 : Int) _ h)⟩) (fun _ h => ⟨_, .refl _, (z22p0ok (((ref12_Birth l).getD ((0 : Int), false)).1) (((ref12_Death l).getD ((0 : Int), false)).1) _ h)⟩)))⟩)⟩))
noncomputable def ref12_Life (l : (List GFact)) : Option (GSpan) := ref12_Life_p1 l
theorem z22run (l : (List GFact)) (y_ : GSpan) (h : ref12_Life l = some y_) : EvL Try.prog 27 (items (bodyOf Try.f22)) (retK Try.prog [.cell 2 36] (OutOk (ref12_Life_out y_))) (z22p1S l) :=
  z22p1ok l _ (W_iff.2 ⟨y_, h, z22Rok y_⟩)
noncomputable def ref12_Life_C : Con
  | [(.c (.sl k1 n2 e3))] => some ([LstOk eGFact dGFact 14 k1 n2 e3, (ref12_Life (lst dGFact n2 e3)).isSome = true], (ref12_Life_out ((ref12_Life (lst dGFact n2 e3)).getD zGSpan)))
  | _ => none
theorem ref12_Life_ok : Meets Try.prog 22 ref12_Life_C := by
  refine meets_fun (fn := Try.f22) (c := bodyOf Try.f22) (by kernel_rfl) (by kernel_rfl) (by kernel_rfl) (rs := [.cell 2 36]) (by kernel_rfl) (nt := 27) (by kernel_rfl) fun vs p out h hp => ?_
  unfold ref12_Life_C at h
  split at h
  · next k1 n2 e3 =>
    cases h
    obtain ⟨g0, hp⟩ := allq hp
    obtain ⟨g, hp⟩ := allq hp
    obtain ⟨x, hx⟩ := Option.isSome_iff_exists.1 g
    rw [hx]
    exact ⟨[(.c (.sl 14 ((lst dGFact n2 e3)).length (lsEl eGFact zGFact (lst dGFact n2 e3))))], (VLes.cons (VLe.slk g0.1 (RowIs.of_ok g0)) VLes.nil), rfl, z22run (lst dGFact n2 e3) x hx⟩
  · cases h

noncomputable def z21i0 : List Code := items (bodyOf Try.f21)
def ref12_in_out (x_1 : Bool) : Out := .data (bl x_1)
def z21R (x_1 : Bool) : St := { tm := [sv 4 (bl x_1)], hp := [], nx := 0 }
theorem z21Rok (x_1 : Bool) : retK Try.prog [.tmp 4] (OutOk (ref12_in_out x_1)) .ret (z21R x_1) :=
  retK.intro (v := (bl x_1)) (by kernel_rfl) ((VLe.rfl' _))
def z21p0S (s_1 : GSpan) (day : Int) : St := { tm := [sv 0 (.ag (eGSpan s_1)), sv 1 (i64 day)], hp := [], nx := 0 }
noncomputable def ref12_in_p0 (s_1 : GSpan) (day : Int) : Option (Bool) := (some (bif (decide (s_1.From ≤ day)) then (decide (day < s_1.To)) else false))
theorem z21p0ok (s_1 : GSpan) (day : Int) (K : KT) (h : W (ref12_in_p0 s_1 day) (rE z21R K)) : EvL Try.prog 15 (List.drop 0 z21i0) K (z21p0S s_1 day) :=
  EvL.pE mixed (lookC_ok (l := []) trivial) [4] 0 3 (.nf (X := fun K => wK K .ret (z21R (bif (decide (s_1.From ≤ day)) then (decide (day < s_1.To)) else false))) (fun K => by kernel_rfl) (⟨_, .refl _, h⟩))
noncomputable def ref12_in (s_1 : GSpan) (day : Int) : Option (Bool) := ref12_in_p0 s_1 day
theorem z21run (s_1 : GSpan) (day : Int) (y_ : Bool) (h : ref12_in s_1 day = some y_) : EvL Try.prog 15 (items (bodyOf Try.f21)) (retK Try.prog [.tmp 4] (OutOk (ref12_in_out y_))) (z21p0S s_1 day) :=
  z21p0ok s_1 day _ (W_iff.2 ⟨y_, h, z21Rok y_⟩)
noncomputable def ref12_in_C : Con
  | [(.agg [(.c (.lit (.int .i64 a1))), (.c (.lit (.int .i64 a2)))]), (.c (.lit (.int .i64 a3)))] => some ([(ref12_in (GSpan.mk a1 a2) a3).isSome = true], (ref12_in_out ((ref12_in (GSpan.mk a1 a2) a3).getD false)))
  | _ => none
theorem ref12_in_ok : Meets Try.prog 21 ref12_in_C := by
  refine meets_fun (fn := Try.f21) (c := bodyOf Try.f21) (by kernel_rfl) (by kernel_rfl) (by kernel_rfl) (rs := [.tmp 4]) (by kernel_rfl) (nt := 15) (by kernel_rfl) fun vs p out h hp => ?_
  unfold ref12_in_C at h
  split at h
  · next a1 a2 a3 =>
    cases h
    obtain ⟨g, hp⟩ := allq hp
    obtain ⟨x, hx⟩ := Option.isSome_iff_exists.1 g
    rw [hx]
    exact ⟨[(.agg [(i64 (GSpan.mk a1 a2).From), (i64 (GSpan.mk a1 a2).To)]), (i64 a3)], (VLes.cons (VLe.rfl' _) (VLes.cons (VLe.rfl' _) VLes.nil)), rfl, z21run (GSpan.mk a1 a2) a3 x hx⟩
  · cases h

noncomputable def z7i0 : List Code := items (bodyOf Try.f7)
noncomputable def z7i1 : List Code := items (inside (inside (nthI z7i0 4)))
def ref12_Residence_out (x_1 : (Int × Bool)) : Out := .data (.tup [(i64 x_1.1), (bl x_1.2)])
def z7R (x_1 : (Int × Bool)) : St := { tm := [sv 4 (i64 x_1.1), sv 5 (bl x_1.2)], hp := [], nx := 0 }
theorem z7Rok (x_1 : (Int × Bool)) : retK Try.prog [.tmp 4, .tmp 5] (OutOk (ref12_Residence_out x_1)) .ret (z7R x_1) :=
  retK.intro (v := (.tup [(i64 x_1.1), (bl x_1.2)])) (by kernel_rfl) (VLe.tup (VLes.cons (VLe.rfl' _) (VLes.cons (VLe.rfl' _) (VLes.nil))))
def z7l1S (l : (List GFact)) (day : Int) (c : (List GFact)) (s : (Int × Int)) : St := match s with | (at_1, i_1) => { tm := [sv 0 (.c (.sl 14 l.length (lsEl eGFact zGFact l))), sv 1 (i64 day), sv 6 (.row 0 14 0 c.length), sv 7 (i64 at_1), sv 8 (i64 i_1)], hp := [(0, some (.row 38 14 c.length (lsEl eGFact zGFact c)))], nx := 1 }
def z7l1C0 (l : (List GFact)) (day : Int) (c : (List GFact)) (s : Int) : St := match s with | at_2 => { tm := [sv 6 (.row 0 14 0 c.length), sv 7 (i64 at_2)], hp := [(0, some (.row 38 14 c.length (lsEl eGFact zGFact c)))], nx := 1 }
def z7l1E (l : (List GFact)) (day : Int) (c : (List GFact)) (r : ((Int))) (K : KT) : Prop := match r with | s => K (.exit 0) (z7l1C0 l day c s)
def z7p0S (l : (List GFact)) (day : Int) (c : (List GFact)) (at_1 i_1 : Int) : St := { tm := [sv 0 (.c (.sl 14 l.length (lsEl eGFact zGFact l))), sv 1 (i64 day), sv 6 (.row 0 14 0 c.length), sv 7 (i64 at_1), sv 8 (i64 i_1)], hp := [(0, some (.row 38 14 c.length (lsEl eGFact zGFact c)))], nx := 1 }
noncomputable def ref12_Residence_p0 (l : (List GFact)) (day : Int) (c : (List GFact)) (at_1 i_1 : Int) : Option ((Int × Int) ⊕ ((Int))) := gd (((decide (i_1 < ((c.length : Nat) : Int))) && true) = true → (ref12_Life l).isSome = true) (gd (((decide (i_1 < ((c.length : Nat) : Int))) && true) = true → (ref12_in ((ref12_Life l).getD zGSpan) day).isSome = true) ((bif (bif (decide (i_1 < ((c.length : Nat) : Int))) then ((ref12_in ((ref12_Life l).getD zGSpan) day).getD false) else false) then gd ((0 : Int) ≤ i_1 ∧ i_1 < ((c.length : Nat) : Int)) (gd (((!((c.getD (0 + (Int.toNat i_1)) zGFact).Kind != (5 : Int))) && true) = true → (0 : Int) ≤ i_1) (gd (((!((c.getD (0 + (Int.toNat i_1)) zGFact).Kind != (5 : Int))) && true) = true → i_1 < ((c.length : Nat) : Int)) (gd (((!((c.getD (0 + (Int.toNat i_1)) zGFact).Kind != (5 : Int))) && true) = true → (ref12_in ((c.getD (0 + (Int.toNat i_1)) zGFact).Span) day).isSome = true) ((bif (bif ((c.getD (0 + (Int.toNat i_1)) zGFact).Kind != (5 : Int)) then true else (!((ref12_in (c.getD (0 + (Int.toNat i_1)) zGFact).Span day).getD false))) then (some (Sum.inl (at_1, (w64 (i_1 + (1 : Int)))))) else gd (((!(decide (at_1 < (0 : Int)))) && true) = true → (0 : Int) ≤ i_1) (gd (((!(decide (at_1 < (0 : Int)))) && true) = true → i_1 < ((c.length : Nat) : Int)) (gd (((!(decide (at_1 < (0 : Int)))) && true) = true → (0 : Int) ≤ at_1) (gd (((!(decide (at_1 < (0 : Int)))) && true) = true → at_1 < ((c.length : Nat) : Int)) (gd (((!(bif (decide (at_1 < (0 : Int))) then true else (decide (((c.getD (0 + (Int.toNat at_1)) zGFact).Span).From < ((c.getD (0 + (Int.toNat i_1)) zGFact).Span).From)))) && true) = true → (0 : Int) ≤ i_1) (gd (((!(bif (decide (at_1 < (0 : Int))) then true else (decide (((c.getD (0 + (Int.toNat at_1)) zGFact).Span).From < ((c.getD (0 + (Int.toNat i_1)) zGFact).Span).From)))) && true) = true → i_1 < ((c.length : Nat) : Int)) (gd (((!(bif (decide (at_1 < (0 : Int))) then true else (decide (((c.getD (0 + (Int.toNat at_1)) zGFact).Span).From < ((c.getD (0 + (Int.toNat i_1)) zGFact).Span).From)))) && true) = true → (0 : Int) ≤ at_1) (gd (((!(bif (decide (at_1 < (0 : Int))) then true else (decide (((c.getD (0 + (Int.toNat at_1)) zGFact).Span).From < ((c.getD (0 + (Int.toNat i_1)) zGFact).Span).From)))) && true) = true → at_1 < ((c.length : Nat) : Int)) (gd (((((c.getD (0 + (Int.toNat i_1)) zGFact).Span).From == ((c.getD (0 + (Int.toNat at_1)) zGFact).Span).From) && ((!(bif (decide (at_1 < (0 : Int))) then true else (decide (((c.getD (0 + (Int.toNat at_1)) zGFact).Span).From < ((c.getD (0 + (Int.toNat i_1)) zGFact).Span).From)))) && true)) = true → (0 : Int) ≤ i_1) (gd (((((c.getD (0 + (Int.toNat i_1)) zGFact).Span).From == ((c.getD (0 + (Int.toNat at_1)) zGFact).Span).From) && ((!(bif (decide (at_1 < (0 : Int))) then true else (decide (((c.getD (0 + (Int.toNat at_1)) zGFact).Span).From < ((c.getD (0 + (Int.toNat i_1)) zGFact).Span).From)))) && true)) = true → i_1 < ((c.length : Nat) : Int)) (gd (((((c.getD (0 + (Int.toNat i_1)) zGFact).Span).From == ((c.getD (0 + (Int.toNat at_1)) zGFact).Span).From) && ((!(bif (decide (at_1 < (0 : Int))) then true else (decide (((c.getD (0 + (Int.toNat at_1)) zGFact).Span).From < ((c.getD (0 + (Int.toNat i_1)) zGFact).Span).From)))) && true)) = true → (0 : Int) ≤ at_1) (gd (((((c.getD (0 + (Int.toNat i_1)) zGFact).Span).From == ((c.getD (0 + (Int.toNat at_1)) zGFact).Span).From) && ((!(bif (decide (at_1 < (0 : Int))) then true else (decide (((c.getD (0 + (Int.toNat at_1)) zGFact).Span).From < ((c.getD (0 + (Int.toNat i_1)) zGFact).Span).From)))) && true)) = true → at_1 < ((c.length : Nat) : Int)) ((bif (bif (bif (decide (at_1 < (0 : Int))) then true else (decide (((c.getD (0 + (Int.toNat at_1)) zGFact).Span).From < ((c.getD (0 + (Int.toNat i_1)) zGFact).Span).From))) then true else (bif (((c.getD (0 + (Int.toNat i_1)) zGFact).Span).From == ((c.getD (0 + (Int.toNat at_1)) zGFact).Span).From) then (decide ((c.getD (0 + (Int.toNat i_1)) zGFact).State < (c.getD (0 + (Int.toNat at_1)) zGFact).State)) else false)) then (some (Sum.inl (i_1, (w64 (i_1 + (1 : Int)))))) else (some (Sum.inl (at_1, (w64 (i_1 + (1 : Int)))))))))))))))))))))))) else (some (Sum.inr at_1)))))
theorem z7p0nf (l : (List GFact)) (day : Int) (c : (List GFact)) (at_1 i_1 : Int) (K : KT) (L1_ : List GFact) (hL1_ : lst dGFact l.length (lsEl eGFact zGFact l) = L1_) :
    ev Try.prog (lookC [(21, .pure ref12_in_C), (22, .pure ref12_Life_C)]) 92 (ofItems ((List.drop 0 z7i1).take 4)) (cN [0, 1, 6, 7, 8, 16, 17, 18, 19, 30, 31, 32, 33, 34, 35, 36, 37, 42, 43, 44, 45, 46, 47, 48, 49, 50, 51, 52, 53, 54, 57, 58, 59, 60, 61, 62, 63, 64, 65, 66, 67, 68, 69, 70, 71, 72, 73, 74, 75, 76, 77, 78, 79, 80, 81, 82] K) (z7p0S l day c at_1 i_1) =
    ((((decide (i_1 < ((c.length : Nat) : Int))) && true) = true → LstOk eGFact dGFact 14 14 l.length (lsEl eGFact zGFact l)) ∧ (((decide (i_1 < ((c.length : Nat) : Int))) && true) = true → (ref12_Life L1_).isSome = true) ∧ (((decide (i_1 < ((c.length : Nat) : Int))) && true) = true → (ref12_in ((ref12_Life L1_).getD zGSpan) day).isSome = true) ∧ ((bif (bif (decide (i_1 < ((c.length : Nat) : Int))) then ((ref12_in ((ref12_Life L1_).getD zGSpan) day).getD false) else false) then ((0 : Int) ≤ i_1) ∧ (i_1 < ((c.length : Nat) : Int)) ∧ (((!((c.getD (0 + (Int.toNat i_1)) zGFact).Kind != (5 : Int))) && true) = true → (0 : Int) ≤ i_1) ∧ (((!((c.getD (0 + (Int.toNat i_1)) zGFact).Kind != (5 : Int))) && true) = true → i_1 < ((c.length : Nat) : Int)) ∧ (((!((c.getD (0 + (Int.toNat i_1)) zGFact).Kind != (5 : Int))) && true) = true → (ref12_in ((c.getD (0 + (Int.toNat i_1)) zGFact).Span) day).isSome = true) ∧ ((bif (bif ((c.getD (0 + (Int.toNat i_1)) zGFact).Kind != (5 : Int)) then true else (!((ref12_in ((c.getD (0 + (Int.toNat i_1)) zGFact).Span) day).getD false))) then wK K .normal ({ tm := [sv 0 (.c (.sl 14 l.length (lsEl eGFact zGFact l))), sv 1 (i64 day), sv 6 (.row 0 14 0 c.length), sv 7 (i64 at_1), sv 8 (i64 (w64 (i_1 + (1 : Int)))), sv 16 (.c .unk), sv 17 (.c .unk), sv 18 (.c .unk), sv 19 (.c .unk), sv 30 (.c .unk), sv 31 (.c .unk), sv 32 (.c .unk), sv 33 (.c .unk), sv 34 (.c .unk), sv 35 (.c .unk), sv 36 (.c .unk), sv 37 (.c .unk)], hp := [(0, some (.row 38 14 c.length (lsEl eGFact zGFact c)))], nx := 1 }) else (((!(decide (at_1 < (0 : Int)))) && true) = true → (0 : Int) ≤ i_1) ∧ (((!(decide (at_1 < (0 : Int)))) && true) = true → i_1 < ((c.length : Nat) : Int)) ∧ (((!(decide (at_1 < (0 : Int)))) && true) = true → (0 : Int) ≤ at_1) ∧ (((!(decide (at_1 < (0 : Int)))) && true) = true → at_1 < ((c.length : Nat) : Int)) ∧ (((!(bif (decide (at_1 < (0 : Int))) then true else (decide (((c.getD (0 + (Int.toNat at_1)) zGFact).Span).From < ((c.getD (0 + (Int.toNat i_1)) zGFact).Span).From)))) && true) = true → (0 : Int) ≤ i_1) ∧ (((!(bif (decide (at_1 < (0 : Int))) then true else (decide (((c.getD (0 + (Int.toNat at_1)) zGFact).Span).From < ((c.getD (0 + (Int.toNat i_1)) zGFact).Span).From)))) && true) = true → i_1 < ((c.length : Nat) : Int)) ∧ (((!(bif (decide (at_1 < (0 : Int))) then true else (decide (((c.getD (0 + (Int.toNat at_1)) zGFact).Span).From < ((c.getD (0 + (Int.toNat i_1)) zGFact).Span).From)))) && true) = true → (0 : Int) ≤ at_1) ∧ (((!(bif (decide (at_1 < (0 : Int))) then true else (decide (((c.getD (0 + (Int.toNat at_1)) zGFact).Span).From < ((c.getD (0 + (Int.toNat i_1)) zGFact).Span).From)))) && true) = true → at_1 < ((c.length : Nat) : Int)) ∧ (((((c.getD (0 + (Int.toNat i_1)) zGFact).Span).From == ((c.getD (0 + (Int.toNat at_1)) zGFact).Span).From) && ((!(bif (decide (at_1 < (0 : Int))) then true else (decide (((c.getD (0 + (Int.toNat at_1)) zGFact).Span).From < ((c.getD (0 + (Int.toNat i_1)) zGFact).Span).From)))) && true)) = true → (0 : Int) ≤ i_1) ∧ (((((c.getD (0 + (Int.toNat i_1)) zGFact).Span).From == ((c.getD (0 + (Int.toNat at_1)) zGFact).Span).From) && ((!(bif (decide (at_1 < (0 : Int))) then true else (decide (((c.getD (0 + (Int.toNat at_1)) zGFact).Span).From < ((c.getD (0 + (Int.toNat i_1)) zGFact).Span).From)))) && true)) = true → i_1 < ((c.length : Nat) : Int)) ∧ (((((c.getD (0 + (Int.toNat i_1)) zGFact).Span).From == ((c.getD (0 + (Int.toNat at_1)) zGFact).Span).From) && ((!(bif (decide (at_1 < (0 : Int))) then true else (decide (((c.getD (0 + (Int.toNat at_1)) zGFact).Span).From < ((c.getD (0 + (Int.toNat i_1)) zGFact).Span).From)))) && true)) = true → (0 : Int) ≤ at_1) ∧ (((((c.getD (0 + (Int.toNat i_1)) zGFact).Span).From == ((c.getD (0 + (Int.toNat at_1)) zGFact).Span).From) && ((!(bif (decide (at_1 < (0 : Int))) then true else (decide (((c.getD (0 + (Int.toNat at_1)) zGFact).Span).From < ((c.getD (0 + (Int.toNat i_1)) zGFact).Span).From)))) && true)) = true → at_1 < ((c.length : Nat) : Int)) ∧ ((bif (bif (bif (decide (at_1 < (0 : Int))) then true else (decide (((c.getD (0 + (Int.toNat at_1)) zGFact).Span).From < ((c.getD (0 + (Int.toNat i_1)) zGFact).Span).From))) then true else (bif (((c.getD (0 + (Int.toNat i_1)) zGFact).Span).From == ((c.getD (0 + (Int.toNat at_1)) zGFact).Span).From) then (decide ((c.getD (0 + (Int.toNat i_1)) zGFact).State < (c.getD (0 + (Int.toNat at_1)) zGFact).State)) else false)) then wK K .normal ({ tm := [sv 0 (.c (.sl 14 l.length (lsEl eGFact zGFact l))), sv 1 (i64 day), sv 6 (.row 0 14 0 c.length), sv 7 (i64 i_1), sv 8 (i64 (w64 (i_1 + (1 : Int)))), sv 16 (.c .unk), sv 17 (.c .unk), sv 18 (.c .unk), sv 19 (.c .unk), sv 30 (.c .unk), sv 31 (.c .unk), sv 32 (.c .unk), sv 33 (.c .unk), sv 34 (.c .unk), sv 35 (.c .unk), sv 36 (.c .unk), sv 37 (.c .unk), sv 42 (.c .unk), sv 43 (.c .unk), sv 44 (.c .unk), sv 45 (.c .unk), sv 46 (.c .unk), sv 47 (.c .unk), sv 48 (.c .unk), sv 49 (.c .unk), sv 50 (.c .unk), sv 51 (.c .unk), sv 52 (.c .unk), sv 53 (.c .unk), sv 54 (.c .unk), sv 57 (.c .unk), sv 58 (.c .unk), sv 59 (.c .unk), sv 60 (.c .unk), sv 61 (.c .unk), sv 62 (.c .unk), sv 63 (.c .unk), sv 64 (.c .unk), sv 65 (.c .unk), sv 66 (.c .unk), sv 67 (.c .unk), sv 68 (.c .unk), sv 69 (.c .unk), sv 70 (.c .unk), sv 71 (.c .unk), sv 72 (.c .unk), sv 73 (.c .unk), sv 74 (.c .unk), sv 75 (.c .unk), sv 76 (.c .unk), sv 77 (.c .unk), sv 78 (.c .unk), sv 79 (.c .unk), sv 80 (.c .unk), sv 81 (.c .unk), sv 82 (.c .unk)], hp := [(0, some (.row 38 14 c.length (lsEl eGFact zGFact c)))], nx := 1 }) else wK K .normal ({ tm := [sv 0 (.c (.sl 14 l.length (lsEl eGFact zGFact l))), sv 1 (i64 day), sv 6 (.row 0 14 0 c.length), sv 7 (i64 at_1), sv 8 (i64 (w64 (i_1 + (1 : Int)))), sv 16 (.c .unk), sv 17 (.c .unk), sv 18 (.c .unk), sv 19 (.c .unk), sv 30 (.c .unk), sv 31 (.c .unk), sv 32 (.c .unk), sv 33 (.c .unk), sv 34 (.c .unk), sv 35 (.c .unk), sv 36 (.c .unk), sv 37 (.c .unk), sv 42 (.c .unk), sv 43 (.c .unk), sv 44 (.c .unk), sv 45 (.c .unk), sv 46 (.c .unk), sv 47 (.c .unk), sv 48 (.c .unk), sv 49 (.c .unk), sv 50 (.c .unk), sv 51 (.c .unk), sv 52 (.c .unk), sv 53 (.c .unk), sv 54 (.c .unk), sv 57 (.c .unk), sv 58 (.c .unk), sv 59 (.c .unk), sv 60 (.c .unk), sv 61 (.c .unk), sv 62 (.c .unk), sv 63 (.c .unk), sv 64 (.c .unk), sv 65 (.c .unk), sv 66 (.c .unk), sv 67 (.c .unk), sv 68 (.c .unk), sv 69 (.c .unk), sv 70 (.c .unk), sv 71 (.c .unk), sv 72 (.c .unk), sv 73 (.c .unk), sv 74 (.c .unk), sv 75 (.c .unk), sv 76 (.c .unk), sv 77 (.c .unk), sv 78 (.c .unk), sv 79 (.c .unk), sv 80 (.c .unk), sv 81 (.c .unk), sv 82 (.c .unk)], hp := [(0, some (.row 38 14 c.length (lsEl eGFact zGFact c)))], nx := 1 }))))) else wK K (.exit 0) ({ tm := [sv 0 (.c (.sl 14 l.length (lsEl eGFact zGFact l))), sv 1 (i64 day), sv 6 (.row 0 14 0 c.length), sv 7 (i64 at_1), sv 8 (i64 i_1), sv 16 (.c .unk), sv 17 (.c .unk), sv 18 (.c .unk), sv 19 (.c .unk)], hp := [(0, some (.row 38 14 c.length (lsEl eGFact zGFact c)))], nx := 1 })))) := by subst hL1_; kernel_rfl
theorem z7p0ok (l : (List GFact)) (day : Int) (c : (List GFact)) (at_1 i_1 : Int) (K : KT) (h : W (ref12_Residence_p0 l day c at_1 i_1) (nE (z7l1S l day c) (z7l1E l day c) K)) : EvL Try.prog 92 (List.drop 0 z7i1) K (z7p0S l day c at_1 i_1) :=
  EvL.pE mixed (lookC_ok (l := [(21, .pure ref12_in_C), (22, .pure ref12_Life_C)]) ⟨ref12_in_ok, ref12_Life_ok, trivial⟩) [0, 1, 6, 7, 8, 16, 17, 18, 19, 30, 31, 32, 33, 34, 35, 36, 37, 42, 43, 44, 45, 46, 47, 48, 49, 50, 51, 52, 53, 54, 57, 58, 59, 60, 61, 62, 63, 64, 65, 66, 67, 68, 69, 70, 71, 72, 73, 74, 75, 76, 77, 78, 79, 80, 81, 82] 0 4 (.of (z7p0nf l day c at_1 i_1 _ _ (RowIs.lst dGFact_eGFact (RowIs.ls eGFact zGFact l))) (⟨(fun _ => RowIs.ok dGFact_eGFact (RowIs.ls eGFact zGFact l)), (W_gd h fun hp0 h => (W_gd h fun hp1 h => (W_bif h (fun _ h => (W_gd2 h fun hp2 h => (W_gd h fun hp3 h => (W_gd h fun hp4 h => (W_gd h fun hp5 h => (W_bif h (fun _ h => ⟨(z7l1S l day c (at_1, (w64 (i_1 + (1 : Int))))), (.of (.q rfl (.q rfl (.q rfl (.q rfl (.q rfl .nil))))) (.same rfl .nil) rfl), h⟩) (fun _ h => (W_gd h fun hp6 h => (W_gd h fun hp7 h => (W_gd h fun hp8 h => (W_gd h fun hp9 h => (W_gd h fun hp10 h => (W_gd h fun hp11 h => (W_gd h fun hp12 h => (W_gd h fun hp13 h => (W_gd h fun hp14 h => (W_gd h fun hp15 h => (W_gd h fun hp16 h => (W_gd h fun hp17 h => (W_bif h (fun _ h => ⟨(z7l1S l day c (i_1, (w64 (i_1 + (1 : Int))))), (.of (.q rfl (.q rfl (.q rfl (.q rfl (.q rfl .nil))))) (.same rfl .nil) rfl), h⟩) (fun _ h => ⟨(z7l1S l day c (at_1, (w64 (i_1 + (1 : Int))))), (.of (.q rfl (.q rfl (.q rfl (.q rfl (.q rfl .nil))))) (.same rfl .nil) rfl), h⟩))))))))))))))))))))) (fun _ h => ⟨(z7l1C0 l day c at_1), (.of (.q rfl (.q rfl .nil)) (.same rfl .nil) rfl), h⟩))))⟩))
noncomputable def ref12_Residence_l1 (l : (List GFact)) (day : Int) (c : (List GFact)) (s : (Int × Int)) : Option ((Int × Int) ⊕ ((Int))) := match s with | (at_1, i_1) => ref12_Residence_p0 l day c at_1 i_1
theorem z7l1ok (l : (List GFact)) (day : Int) (c : (List GFact)) (s : (Int × Int)) : Pp Try.prog 92 (List.drop 0 z7i1) (z7l1S l day c s) (ref12_Residence_l1 l day c s) (nextE (z7l1S l day c) (z7l1E l day c)) := fun K h => match s, h with | (at_1, i_1), h => (z7p0ok l day c at_1 i_1 _ h)
theorem z7l1Ethen (l : (List GFact)) (day : Int) (c : (List GFact)) : ∀ (r : ((Int))) (J : St → Prop) (K : KT), z7l1E l day c r K → z7l1E l day c r (thenK J K)
  | s, _, _, h => h
def z7p1S (c : (List GFact)) (at_3 : Int) : St := { tm := [sv 6 (.row 0 14 0 c.length), sv 7 (i64 at_3)], hp := [(0, some (.row 38 14 c.length (lsEl eGFact zGFact c)))], nx := 1 }
noncomputable def ref12_Residence_p1 (c : (List GFact)) (at_3 : Int) : Option ((Int × Bool)) := (bif (decide (at_3 < (0 : Int))) then (some ((0 : Int), false)) else gd ((0 : Int) ≤ at_3 ∧ at_3 < ((c.length : Nat) : Int)) ((some ((c.getD (0 + (Int.toNat at_3)) zGFact).State, true))))
theorem z7p1ok (c : (List GFact)) (at_3 : Int) (K : KT) (h : W (ref12_Residence_p1 c at_3) (rE z7R K)) : EvL Try.prog 92 (List.drop 5 z7i0) K (z7p1S c at_3) :=
  EvL.pE mixed (lookC_ok (l := []) trivial) [4, 5] 5 4 (.nf (X := fun K => (bif (decide (at_3 < (0 : Int))) then wK K .ret (z7R ((0 : Int), false)) else ((0 : Int) ≤ at_3) ∧ (at_3 < ((c.length : Nat) : Int)) ∧ (wK K .ret (z7R ((c.getD (0 + (Int.toNat at_3)) zGFact).State, true))))) (fun K => by kernel_rfl) (W_bif h (fun _ h => ⟨_, .refl _, h⟩) (fun _ h => (W_gd2 h fun hp0 h => ⟨_, .refl _, h⟩))))
def z7p2S (l : (List GFact)) (day : Int) (c : (List GFact)) : St := { tm := [sv 0 (.c (.sl 14 l.length (lsEl eGFact zGFact l))), sv 1 (i64 day), sv 6 (.row 0 14 0 c.length), sv 7 (i64 (-1 : Int)), sv 8 (i64 (0 : Int))], hp := [(0, some (.row 38 14 c.length (lsEl eGFact zGFact c)))], nx := 1 }
noncomputable def ref12_Residence_p2_g (l : (List GFact)) (day : Int) (c : (List GFact)) (r : ((Int))) : Option ((Int × Bool)) := match r with | at_2 => (ref12_Residence_p1 c at_2)
noncomputable def ref12_Residence_p2 (l : (List GFact)) (day : Int) (c : (List GFact)) : Option ((Int × Bool)) := (fixL (ref12_Residence_l1 l day c) ((-1 : Int), (0 : Int))).bind (ref12_Residence_p2_g l day c)
theorem z7p2at : List.drop 4 z7i0 = .block 0 (.loop (inside (inside (nthI z7i0 4)))) :: List.drop 5 z7i0 := by kernel_rfl
theorem z7p2k (l : (List GFact)) (day : Int) (c : (List GFact)) (K : KT) : ∀ r : ((Int)), W (ref12_Residence_p2_g l day c r) (rE z7R K) → z7l1E l day c r (wK (blockK 0 (thenK (EvL Try.prog 92 (List.drop 5 z7i0) K) K)))
  | at_2, h => ⟨(z7p1S c at_2), (.refl _), (z7p1ok c at_2 _ h)⟩
theorem z7p2ok (l : (List GFact)) (day : Int) (c : (List GFact)) (K : KT) (h : W (ref12_Residence_p2 l day c) (rE z7R K)) : EvL Try.prog 92 (List.drop 4 z7i0) K (z7p2S l day c) :=
  EvL.at_ z7p2at (EvL.cons_loop (EvOk.weak (EvOk.ent (.refl _) (EvOk.loopF (x := inside (inside (nthI z7i0 4))) (f := ref12_Residence_l1 l day c) (emb := z7l1S l day c) (E := z7l1E l day c) (z7l1ok l day c) (z7l1Ethen l day c) (W_loop h (z7p2k l day c K))))))
def z7p3S (l : (List GFact)) (day : Int) : St := { tm := [sv 0 (.c (.sl 14 l.length (lsEl eGFact zGFact l))), sv 1 (i64 day)], hp := [], nx := 0 }
noncomputable def ref12_Residence_p3 (l : (List GFact)) (day : Int) : Option ((Int × Bool)) := (ref12_Current l).bind fun r_1 => ((ref12_Residence_p2 l day r_1))
theorem z7p3nf (l : (List GFact)) (day : Int) (K : KT) (L1_ : List GFact) (hL1_ : lst dGFact l.length (lsEl eGFact zGFact l) = L1_) :
    ev Try.prog (lookC [(20, .pure ref12_Current_C)]) 92 (ofItems ((List.drop 0 z7i0).take 4)) (cN [0, 1, 6, 7, 8, 16, 17, 18, 19, 30, 31, 32, 33, 34, 35, 36, 37, 42, 43, 44, 45, 46, 47, 48, 49, 50, 51, 52, 53, 54, 57, 58, 59, 60, 61, 62, 63, 64, 65, 66, 67, 68, 69, 70, 71, 72, 73, 74, 75, 76, 77, 78, 79, 80, 81, 82] K) (z7p3S l day) =
    ((LstOk eGFact dGFact 14 14 l.length (lsEl eGFact zGFact l)) ∧ ((ref12_Current L1_).isSome = true) ∧ (wK K .normal (z7p2S l day ((ref12_Current L1_).getD ([] : List GFact))))) := by subst hL1_; kernel_rfl
theorem z7p3ok (l : (List GFact)) (day : Int) (K : KT) (h : W (ref12_Residence_p3 l day) (rE z7R K)) : EvL Try.prog 92 (List.drop 0 z7i0) K (z7p3S l day) :=
  EvL.pD mixed (lookC_ok (l := [(20, .pure ref12_Current_C)]) ⟨ref12_Current_ok, trivial⟩) [0, 1, 6, 7, 8, 16, 17, 18, 19, 30, 31, 32, 33, 34, 35, 36, 37, 42, 43, 44, 45, 46, 47, 48, 49, 50, 51, 52, 53, 54, 57, 58, 59, 60, 61, 62, 63, 64, 65, 66, 67, 68, 69, 70, 71, 72, 73, 74, 75, 76, 77, 78, 79, 80, 81, 82] 0 4 4 (.of (z7p3nf l day _ _ (RowIs.lst dGFact_eGFact (RowIs.ls eGFact zGFact l))) (⟨RowIs.ok dGFact_eGFact (RowIs.ls eGFact zGFact l), (W_bind ([] : List GFact) h fun hp0 h => ⟨_, .refl _, (z7p2ok l day ((ref12_Current l).getD ([] : List GFact)) _ h)⟩)⟩))
noncomputable def ref12_Residence (l : (List GFact)) (day : Int) : Option ((Int × Bool)) := ref12_Residence_p3 l day
theorem z7run (l : (List GFact)) (day : Int) (y_ : (Int × Bool)) (h : ref12_Residence l day = some y_) : EvL Try.prog 92 (items (bodyOf Try.f7)) (retK Try.prog [.tmp 4, .tmp 5] (OutOk (ref12_Residence_out y_))) (z7p3S l day) :=
  z7p3ok l day _ (W_iff.2 ⟨y_, h, z7Rok y_⟩)
noncomputable def ref12_Residence_C : Con
  | [(.c (.sl k1 n2 e3)), (.c (.lit (.int .i64 a4)))] => some ([LstOk eGFact dGFact 14 k1 n2 e3, (ref12_Residence (lst dGFact n2 e3) a4).isSome = true], (ref12_Residence_out ((ref12_Residence (lst dGFact n2 e3) a4).getD ((0 : Int), false))))
  | _ => none
theorem ref12_Residence_ok : Meets Try.prog 7 ref12_Residence_C := by
  refine meets_fun (fn := Try.f7) (c := bodyOf Try.f7) (by kernel_rfl) (by kernel_rfl) (by kernel_rfl) (rs := [.tmp 4, .tmp 5]) (by kernel_rfl) (nt := 92) (by kernel_rfl) fun vs p out h hp => ?_
  unfold ref12_Residence_C at h
  split at h
  · next k1 n2 e3 a4 =>
    cases h
    obtain ⟨g0, hp⟩ := allq hp
    obtain ⟨g, hp⟩ := allq hp
    obtain ⟨x, hx⟩ := Option.isSome_iff_exists.1 g
    rw [hx]
    exact ⟨[(.c (.sl 14 ((lst dGFact n2 e3)).length (lsEl eGFact zGFact (lst dGFact n2 e3)))), (i64 a4)], (VLes.cons (VLe.slk g0.1 (RowIs.of_ok g0)) (VLes.cons (VLe.rfl' _) VLes.nil)), rfl, z7run (lst dGFact n2 e3) a4 x hx⟩
  · cases h

noncomputable def z75i0 : List Code := items (bodyOf Try.f75)
def cmp_isNaN_int_out (x_2 : Bool) : Out := .data (bl x_2)
def z75R (x_2 : Bool) : St := { tm := [sv 2 (bl x_2)], hp := [], nx := 0 }
theorem z75Rok (x_2 : Bool) : retK Try.prog [.tmp 2] (OutOk (cmp_isNaN_int_out x_2)) .ret (z75R x_2) :=
  retK.intro (v := (bl x_2)) (by kernel_rfl) ((VLe.rfl' _))
def z75p0S (x_1 : Int) : St := { tm := [sv 0 (i64 x_1)], hp := [], nx := 0 }
noncomputable def cmp_isNaN_int_p0 (x_1 : Int) : Option (Bool) := (some (x_1 != x_1))
theorem z75p0ok (x_1 : Int) (K : KT) (h : W (cmp_isNaN_int_p0 x_1) (rE z75R K)) : EvL Try.prog 6 (List.drop 0 z75i0) K (z75p0S x_1) :=
  EvL.pE mixed (lookC_ok (l := []) trivial) [2] 0 3 (.nf (X := fun K => wK K .ret (z75R (x_1 != x_1))) (fun K => by kernel_rfl) (⟨_, .refl _, h⟩))
noncomputable def cmp_isNaN_int (x_1 : Int) : Option (Bool) := cmp_isNaN_int_p0 x_1
theorem z75run (x_1 : Int) (y_ : Bool) (h : cmp_isNaN_int x_1 = some y_) : EvL Try.prog 6 (items (bodyOf Try.f75)) (retK Try.prog [.tmp 2] (OutOk (cmp_isNaN_int_out y_))) (z75p0S x_1) :=
  z75p0ok x_1 _ (W_iff.2 ⟨y_, h, z75Rok y_⟩)
noncomputable def cmp_isNaN_int_C : Con
  | [(.c (.lit (.int .i64 a1)))] => some ([(cmp_isNaN_int a1).isSome = true], (cmp_isNaN_int_out ((cmp_isNaN_int a1).getD false)))
  | _ => none
theorem cmp_isNaN_int_ok : Meets Try.prog 75 cmp_isNaN_int_C := by
  refine meets_fun (fn := Try.f75) (c := bodyOf Try.f75) (by kernel_rfl) (by kernel_rfl) (by kernel_rfl) (rs := [.tmp 2]) (by kernel_rfl) (nt := 6) (by kernel_rfl) fun vs p out h hp => ?_
  unfold cmp_isNaN_int_C at h
  split at h
  · next a1 =>
    cases h
    obtain ⟨g, hp⟩ := allq hp
    obtain ⟨x, hx⟩ := Option.isSome_iff_exists.1 g
    rw [hx]
    exact ⟨[(i64 a1)], (VLes.cons (VLe.rfl' _) VLes.nil), rfl, z75run a1 x hx⟩
  · cases h

noncomputable def z59i0 : List Code := items (bodyOf Try.f59)
def cmp_Compare_int_out (x_2 : Int) : Out := .data (i64 x_2)
def z59R (x_2 : Int) : St := { tm := [sv 4 (i64 x_2)], hp := [], nx := 0 }
theorem z59Rok (x_2 : Int) : retK Try.prog [.tmp 4] (OutOk (cmp_Compare_int_out x_2)) .ret (z59R x_2) :=
  retK.intro (v := (i64 x_2)) (by kernel_rfl) ((VLe.rfl' _))
def z59p0S (x_1 y : Int) : St := { tm := [sv 0 (i64 x_1), sv 1 (i64 y)], hp := [], nx := 0 }
noncomputable def cmp_Compare_int_p0 (x_1 y : Int) : Option (Int) := (cmp_isNaN_int x_1).bind fun r_1 => ((cmp_isNaN_int y).bind fun r_2 => ((bif r_1 then (bif r_2 then (some (0 : Int)) else (some (-1 : Int))) else (bif r_2 then (some (1 : Int)) else (bif (decide (x_1 < y)) then (some (-1 : Int)) else (bif (decide (y < x_1)) then (some (1 : Int)) else (some (0 : Int))))))))
theorem z59p0ok (x_1 y : Int) (K : KT) (h : W (cmp_Compare_int_p0 x_1 y) (rE z59R K)) : EvL Try.prog 20 (List.drop 0 z59i0) K (z59p0S x_1 y) :=
  EvL.pE mixed (lookC_ok (l := [(75, .pure cmp_isNaN_int_C)]) ⟨cmp_isNaN_int_ok, trivial⟩) [4] 0 13 (.nf (X := fun K => ((cmp_isNaN_int x_1).isSome = true) ∧ (((cmp_isNaN_int y).isSome = true) ∧ ((bif ((cmp_isNaN_int x_1).getD false) then (bif ((cmp_isNaN_int y).getD false) then wK K .ret (z59R (0 : Int)) else wK K .ret (z59R (-1 : Int))) else (bif ((cmp_isNaN_int y).getD false) then wK K .ret (z59R (1 : Int)) else (bif (decide (x_1 < y)) then wK K .ret (z59R (-1 : Int)) else (bif (decide (y < x_1)) then wK K .ret (z59R (1 : Int)) else wK K .ret (z59R (0 : Int))))))))) (fun K => by kernel_rfl) (W_bind false h fun hp0 h => (W_bind false h fun hp1 h => (W_bif h (fun _ h => (W_bif h (fun _ h => ⟨_, .refl _, h⟩) (fun _ h => ⟨_, .refl _, h⟩))) (fun _ h => (W_bif h (fun _ h => ⟨_, .refl _, h⟩) (fun _ h => (W_bif h (fun _ h => ⟨_, .refl _, h⟩) (fun _ h => (W_bif h (fun _ h => ⟨_, .refl _, h⟩) (fun _ h => ⟨_, .refl _, h⟩)))))))))))
noncomputable def cmp_Compare_int (x_1 y : Int) : Option (Int) := cmp_Compare_int_p0 x_1 y
theorem z59run (x_1 y : Int) (y_ : Int) (h : cmp_Compare_int x_1 y = some y_) : EvL Try.prog 20 (items (bodyOf Try.f59)) (retK Try.prog [.tmp 4] (OutOk (cmp_Compare_int_out y_))) (z59p0S x_1 y) :=
  z59p0ok x_1 y _ (W_iff.2 ⟨y_, h, z59Rok y_⟩)
noncomputable def cmp_Compare_int_C : Con
  | [(.c (.lit (.int .i64 a1))), (.c (.lit (.int .i64 a2)))] => some ([(cmp_Compare_int a1 a2).isSome = true], (cmp_Compare_int_out ((cmp_Compare_int a1 a2).getD (0 : Int))))
  | _ => none
theorem cmp_Compare_int_ok : Meets Try.prog 59 cmp_Compare_int_C := by
  refine meets_fun (fn := Try.f59) (c := bodyOf Try.f59) (by kernel_rfl) (by kernel_rfl) (by kernel_rfl) (rs := [.tmp 4]) (by kernel_rfl) (nt := 20) (by kernel_rfl) fun vs p out h hp => ?_
  unfold cmp_Compare_int_C at h
  split at h
  · next a1 a2 =>
    cases h
    obtain ⟨g, hp⟩ := allq hp
    obtain ⟨x, hx⟩ := Option.isSome_iff_exists.1 g
    rw [hx]
    exact ⟨[(i64 a1), (i64 a2)], (VLes.cons (VLe.rfl' _) (VLes.cons (VLe.rfl' _) VLes.nil)), rfl, z59run a1 a2 x hx⟩
  · cases h

noncomputable def z58i0 : List Code := items (bodyOf Try.f58)
noncomputable def z58i1 : List Code := items (inside (inside (nthI z58i0 3)))
def cmp_Or_int_out (x_1 : Int) : Out := .data (i64 x_1)
def z58R (x_1 : Int) : St := { tm := [sv 2 (i64 x_1)], hp := [], nx := 0 }
theorem z58Rok (x_1 : Int) : retK Try.prog [.tmp 2] (OutOk (cmp_Or_int_out x_1)) .ret (z58R x_1) :=
  retK.intro (v := (i64 x_1)) (by kernel_rfl) ((VLe.rfl' _))
def z58l1S (vals : (List Int)) (s : (Int)) : St := match s with | t8 => { tm := [sv 3 (i64 (0 : Int)), sv 6 (.c (.sl 1 vals.length (lsEl eI64 (0 : Int) vals))), sv 7 (i64 ((vals.length : Nat) : Int)), sv 8 (i64 t8)], hp := [], nx := 0 }
def z58l1C0 (vals : (List Int)) (s : Int) : St := match s with | t2 => { tm := [sv 2 (i64 t2)], hp := [], nx := 0 }
def z58l1C1 (vals : (List Int)) (s : Unit) : St := match s with | () => { tm := [sv 3 (i64 (0 : Int))], hp := [], nx := 0 }
def z58l1E (vals : (List Int)) (r : ((Int) ⊕ (Unit))) (K : KT) : Prop := match r with | (.inl s) => K .ret (z58l1C0 vals s) | (.inr s) => K (.exit 0) (z58l1C1 vals s)
def z58p0S (vals : (List Int)) (t8 : Int) : St := { tm := [sv 3 (i64 (0 : Int)), sv 6 (.c (.sl 1 vals.length (lsEl eI64 (0 : Int) vals))), sv 7 (i64 ((vals.length : Nat) : Int)), sv 8 (i64 t8)], hp := [], nx := 0 }
noncomputable def cmp_Or_int_p0 (vals : (List Int)) (t8 : Int) : Option ((Int) ⊕ ((Int) ⊕ (Unit))) := (bif (decide (t8 < ((vals.length : Nat) : Int))) then gd ((0 : Int) ≤ t8 ∧ t8 < ((vals.length : Nat) : Int)) ((bif ((vals.getD (Int.toNat t8) (0 : Int)) != (0 : Int)) then (some (Sum.inr (Sum.inl (vals.getD (Int.toNat t8) (0 : Int))))) else (some (Sum.inl (w64 (t8 + (1 : Int))))))) else (some (Sum.inr (Sum.inr ()))))
theorem z58p0ok (vals : (List Int)) (t8 : Int) (K : KT) (h : W (cmp_Or_int_p0 vals t8) (nE (z58l1S vals) (z58l1E vals) K)) : EvL Try.prog 18 (List.drop 0 z58i1) K (z58p0S vals t8) :=
  EvL.pE mixed (lookC_ok (l := []) trivial) [2, 3, 6, 7, 8] 0 4 (.nf (X := fun K => (bif (decide (t8 < ((vals.length : Nat) : Int))) then ((0 : Int) ≤ t8) ∧ (t8 < ((vals.length : Nat) : Int)) ∧ ((bif ((vals.getD (Int.toNat t8) (0 : Int)) != (0 : Int)) then wK K .ret ({ tm := [sv 2 (i64 (vals.getD (Int.toNat t8) (0 : Int))), sv 3 (i64 (0 : Int)), sv 6 (.c (.sl 1 vals.length (lsEl eI64 (0 : Int) vals))), sv 7 (i64 ((vals.length : Nat) : Int)), sv 8 (i64 t8)], hp := [], nx := 0 }) else wK K .normal (z58l1S vals (w64 (t8 + (1 : Int)))))) else wK K (.exit 0) ({ tm := [sv 3 (i64 (0 : Int)), sv 6 (.c (.sl 1 vals.length (lsEl eI64 (0 : Int) vals))), sv 7 (i64 ((vals.length : Nat) : Int)), sv 8 (i64 t8)], hp := [], nx := 0 }))) (fun K => by kernel_rfl) (W_bif h (fun _ h => (W_gd2 h fun hp0 h => (W_bif h (fun _ h => ⟨(z58l1C0 vals (vals.getD (Int.toNat t8) (0 : Int))), (.of (.q rfl .nil) .nil rfl), h⟩) (fun _ h => ⟨_, .refl _, h⟩)))) (fun _ h => ⟨(z58l1C1 vals ()), (.of (.q rfl .nil) .nil rfl), h⟩)))
noncomputable def cmp_Or_int_l1 (vals : (List Int)) (s : (Int)) : Option ((Int) ⊕ ((Int) ⊕ (Unit))) := match s with | t8 => cmp_Or_int_p0 vals t8
theorem z58l1ok (vals : (List Int)) (s : (Int)) : Pp Try.prog 18 (List.drop 0 z58i1) (z58l1S vals s) (cmp_Or_int_l1 vals s) (nextE (z58l1S vals) (z58l1E vals)) := fun K h => match s, h with | t8, h => (z58p0ok vals t8 _ h)
theorem z58l1Ethen (vals : (List Int)) : ∀ (r : ((Int) ⊕ (Unit))) (J : St → Prop) (K : KT), z58l1E vals r K → z58l1E vals r (thenK J K)
  | (.inl s), _, _, h => h
  | (.inr s), _, _, h => h
def z58p1S : St := { tm := [sv 3 (i64 (0 : Int))], hp := [], nx := 0 }
noncomputable def cmp_Or_int_p1 : Option (Int) := (some (0 : Int))
theorem z58p1ok (K : KT) (h : W (cmp_Or_int_p1) (rE z58R K)) : EvL Try.prog 18 (List.drop 4 z58i0) K (z58p1S) :=
  EvL.pE mixed (lookC_ok (l := []) trivial) [2] 4 2 (.nf (X := fun K => wK K .ret (z58R (0 : Int))) (fun K => by kernel_rfl) (⟨_, .refl _, h⟩))
def z58p2S (vals : (List Int)) : St := { tm := [sv 3 (i64 (0 : Int)), sv 6 (.c (.sl 1 vals.length (lsEl eI64 (0 : Int) vals))), sv 7 (i64 ((vals.length : Nat) : Int)), sv 8 (i64 (0 : Int))], hp := [], nx := 0 }
noncomputable def cmp_Or_int_p2_g (vals : (List Int)) (r : ((Int) ⊕ (Unit))) : Option (Int) := match r with | (.inl t2) => (some t2) | (.inr ()) => cmp_Or_int_p1
noncomputable def cmp_Or_int_p2 (vals : (List Int)) : Option (Int) := (fixL (cmp_Or_int_l1 vals) (0 : Int)).bind (cmp_Or_int_p2_g vals)
theorem z58p2at : List.drop 3 z58i0 = .block 0 (.loop (inside (inside (nthI z58i0 3)))) :: List.drop 4 z58i0 := by kernel_rfl
theorem z58p2k (vals : (List Int)) (K : KT) : ∀ r : ((Int) ⊕ (Unit)), W (cmp_Or_int_p2_g vals r) (rE z58R K) → z58l1E vals r (wK (blockK 0 (thenK (EvL Try.prog 18 (List.drop 4 z58i0) K) K)))
  | (.inl t2), h => ⟨(z58R t2), (.refl _), h⟩
  | (.inr ()), h => ⟨(z58p1S), (.refl _), (z58p1ok _ h)⟩
theorem z58p2ok (vals : (List Int)) (K : KT) (h : W (cmp_Or_int_p2 vals) (rE z58R K)) : EvL Try.prog 18 (List.drop 3 z58i0) K (z58p2S vals) :=
  EvL.at_ z58p2at (EvL.cons_loop (EvOk.weak (EvOk.ent (.refl _) (EvOk.loopF (x := inside (inside (nthI z58i0 3))) (f := cmp_Or_int_l1 vals) (emb := z58l1S vals) (E := z58l1E vals) (z58l1ok vals) (z58l1Ethen vals) (W_loop h (z58p2k vals K))))))
def z58p3S (vals : (List Int)) : St := { tm := [sv 0 (.c (.sl 1 vals.length (lsEl eI64 (0 : Int) vals)))], hp := [], nx := 0 }
noncomputable def cmp_Or_int_p3 (vals : (List Int)) : Option (Int) := (cmp_Or_int_p2 vals)
theorem z58p3ok (vals : (List Int)) (K : KT) (h : W (cmp_Or_int_p3 vals) (rE z58R K)) : EvL Try.prog 18 (List.drop 0 z58i0) K (z58p3S vals) :=
  EvL.pD mixed (lookC_ok (l := []) trivial) [3, 6, 7, 8] 0 3 3 (.nf (X := fun K => wK K .normal (z58p2S vals)) (fun K => by kernel_rfl) (⟨_, .refl _, (z58p2ok vals _ h)⟩))
noncomputable def cmp_Or_int (vals : (List Int)) : Option (Int) := cmp_Or_int_p3 vals
theorem z58run (vals : (List Int)) (y_ : Int) (h : cmp_Or_int vals = some y_) : EvL Try.prog 18 (items (bodyOf Try.f58)) (retK Try.prog [.tmp 2] (OutOk (cmp_Or_int_out y_))) (z58p3S vals) :=
  z58p3ok vals _ (W_iff.2 ⟨y_, h, z58Rok y_⟩)
noncomputable def cmp_Or_int_C : Con
  | [(.c (.sl k1 n2 e3))] => some ([LstOk eI64 dI64 1 k1 n2 e3, (cmp_Or_int (lst dI64 n2 e3)).isSome = true], (cmp_Or_int_out ((cmp_Or_int (lst dI64 n2 e3)).getD (0 : Int))))
  | _ => none
theorem cmp_Or_int_ok : Meets Try.prog 58 cmp_Or_int_C := by
  refine meets_fun (fn := Try.f58) (c := bodyOf Try.f58) (by kernel_rfl) (by kernel_rfl) (by kernel_rfl) (rs := [.tmp 2]) (by kernel_rfl) (nt := 18) (by kernel_rfl) fun vs p out h hp => ?_
  unfold cmp_Or_int_C at h
  split at h
  · next k1 n2 e3 =>
    cases h
    obtain ⟨g0, hp⟩ := allq hp
    obtain ⟨g, hp⟩ := allq hp
    obtain ⟨x, hx⟩ := Option.isSome_iff_exists.1 g
    rw [hx]
    exact ⟨[(.c (.sl 1 ((lst dI64 n2 e3)).length (lsEl eI64 (0 : Int) (lst dI64 n2 e3))))], (VLes.cons (VLe.slk g0.1 (RowIs.of_ok g0)) VLes.nil), rfl, z58run (lst dI64 n2 e3) x hx⟩
  · cases h

noncomputable def z43i0 : List Code := items (bodyOf Try.f43)
def career_byIdentity_out (x_1 : Int) : Out := .data (i64 x_1)
def z43R (x_1 : Int) : St := { tm := [sv 4 (i64 x_1)], hp := [], nx := 0 }
theorem z43Rok (x_1 : Int) : retK Try.prog [.tmp 4] (OutOk (career_byIdentity_out x_1)) .ret (z43R x_1) :=
  retK.intro (v := (i64 x_1)) (by kernel_rfl) ((VLe.rfl' _))
def z43p0S (a b : GFact) : St := { tm := [sv 0 (.ag (eGFact a)), sv 1 (.ag (eGFact b))], hp := [], nx := 0 }
noncomputable def career_byIdentity_p0 (a b : GFact) : Option (Int) := (cmp_Compare_int a.Issuer b.Issuer).bind fun r_1 => ((cmp_Compare_int a.Number b.Number).bind fun r_2 => ((cmp_Or_int ([r_1, r_2] : List Int)).bind fun r_3 => ((some r_3))))
theorem z43p0nf (a b : GFact) (K : KT) (L1_ : List Int) (hL1_ : lst dI64 2 (fun i => (lsEl eI64 (0 : Int) ([((cmp_Compare_int a.Issuer b.Issuer).getD (0 : Int)), ((cmp_Compare_int a.Number b.Number).getD (0 : Int))] : List Int)) (0 + i)) = L1_) :
    ev Try.prog (lookC [(58, .pure cmp_Or_int_C), (59, .pure cmp_Compare_int_C)]) 17 (ofItems ((List.drop 0 z43i0).take 3)) (cN [4] K) (z43p0S a b) =
    (((cmp_Compare_int a.Issuer b.Issuer).isSome = true) ∧ ((cmp_Compare_int a.Number b.Number).isSome = true) ∧ (LstOk eI64 dI64 1 1 2 (fun i => (lsEl eI64 (0 : Int) ([((cmp_Compare_int a.Issuer b.Issuer).getD (0 : Int)), ((cmp_Compare_int a.Number b.Number).getD (0 : Int))] : List Int)) (0 + i))) ∧ ((cmp_Or_int L1_).isSome = true) ∧ (wK K .ret (z43R ((cmp_Or_int L1_).getD (0 : Int))))) := by subst hL1_; kernel_rfl
theorem z43p0ok (a b : GFact) (K : KT) (h : W (career_byIdentity_p0 a b) (rE z43R K)) : EvL Try.prog 17 (List.drop 0 z43i0) K (z43p0S a b) :=
  EvL.pE mixed (lookC_ok (l := [(58, .pure cmp_Or_int_C), (59, .pure cmp_Compare_int_C)]) ⟨cmp_Or_int_ok, cmp_Compare_int_ok, trivial⟩) [4] 0 3 (.of (z43p0nf a b _ _ (RowIs.lst dI64_eI64 (RowIs.zero (RowIs.ls eI64 (0 : Int) ([((cmp_Compare_int a.Issuer b.Issuer).getD (0 : Int)), ((cmp_Compare_int a.Number b.Number).getD (0 : Int))] : List Int))))) (W_bind (0 : Int) h fun hp0 h => (W_bind (0 : Int) h fun hp1 h => ⟨RowIs.ok dI64_eI64 (RowIs.zero (RowIs.ls eI64 (0 : Int) ([((cmp_Compare_int a.Issuer b.Issuer).getD (0 : Int)), ((cmp_Compare_int a.Number b.Number).getD (0 : Int))] : List Int))), (W_bind (0 : Int) h fun hp2 h => ⟨_, .refl _, h⟩)⟩)))
noncomputable def career_byIdentity (a b : GFact) : Option (Int) := career_byIdentity_p0 a b
theorem z43run (a b : GFact) (y_ : Int) (h : career_byIdentity a b = some y_) : EvL Try.prog 17 (items (bodyOf Try.f43)) (retK Try.prog [.tmp 4] (OutOk (career_byIdentity_out y_))) (z43p0S a b) :=
  z43p0ok a b _ (W_iff.2 ⟨y_, h, z43Rok y_⟩)
noncomputable def career_byIdentity_C : Con
  | [(.agg [(.c (.lit (.int .i64 a1))), (.c (.lit (.int .i64 a2))), (.c (.lit (.int .i64 a3))), (.c (.lit (.bool a4))), (.c (.lit (.int .i64 a5))), (.c (.lit (.int .i64 a6))), (.c (.lit (.int .i64 a7))), (.c (.lit (.int .i64 a8))), (.c (.lit (.int .i64 a9))), (.c (.lit (.int .i64 a10))), (.c (.lit (.int .i64 a11))), (.c (.lit (.int .i64 a12))), (.c (.lit (.int .i64 a13))), (.c (.lit (.int .i64 a14)))]), (.agg [(.c (.lit (.int .i64 a15))), (.c (.lit (.int .i64 a16))), (.c (.lit (.int .i64 a17))), (.c (.lit (.bool a18))), (.c (.lit (.int .i64 a19))), (.c (.lit (.int .i64 a20))), (.c (.lit (.int .i64 a21))), (.c (.lit (.int .i64 a22))), (.c (.lit (.int .i64 a23))), (.c (.lit (.int .i64 a24))), (.c (.lit (.int .i64 a25))), (.c (.lit (.int .i64 a26))), (.c (.lit (.int .i64 a27))), (.c (.lit (.int .i64 a28)))])] => some ([(career_byIdentity (GFact.mk a1 a2 a3 a4 a5 a6 a7 (GSpan.mk a8 a9) a10 a11 a12 a13 a14) (GFact.mk a15 a16 a17 a18 a19 a20 a21 (GSpan.mk a22 a23) a24 a25 a26 a27 a28)).isSome = true], (career_byIdentity_out ((career_byIdentity (GFact.mk a1 a2 a3 a4 a5 a6 a7 (GSpan.mk a8 a9) a10 a11 a12 a13 a14) (GFact.mk a15 a16 a17 a18 a19 a20 a21 (GSpan.mk a22 a23) a24 a25 a26 a27 a28)).getD (0 : Int))))
  | _ => none
theorem career_byIdentity_ok : Meets Try.prog 43 career_byIdentity_C := by
  refine meets_fun (fn := Try.f43) (c := bodyOf Try.f43) (by kernel_rfl) (by kernel_rfl) (by kernel_rfl) (rs := [.tmp 4]) (by kernel_rfl) (nt := 17) (by kernel_rfl) fun vs p out h hp => ?_
  unfold career_byIdentity_C at h
  split at h
  · next a1 a2 a3 a4 a5 a6 a7 a8 a9 a10 a11 a12 a13 a14 a15 a16 a17 a18 a19 a20 a21 a22 a23 a24 a25 a26 a27 a28 =>
    cases h
    obtain ⟨g, hp⟩ := allq hp
    obtain ⟨x, hx⟩ := Option.isSome_iff_exists.1 g
    rw [hx]
    exact ⟨[(.agg [(i64 (GFact.mk a1 a2 a3 a4 a5 a6 a7 (GSpan.mk a8 a9) a10 a11 a12 a13 a14).Issuer), (i64 (GFact.mk a1 a2 a3 a4 a5 a6 a7 (GSpan.mk a8 a9) a10 a11 a12 a13 a14).Number), (i64 (GFact.mk a1 a2 a3 a4 a5 a6 a7 (GSpan.mk a8 a9) a10 a11 a12 a13 a14).Version), (bl (GFact.mk a1 a2 a3 a4 a5 a6 a7 (GSpan.mk a8 a9) a10 a11 a12 a13 a14).Withdrawn), (i64 (GFact.mk a1 a2 a3 a4 a5 a6 a7 (GSpan.mk a8 a9) a10 a11 a12 a13 a14).Person), (i64 (GFact.mk a1 a2 a3 a4 a5 a6 a7 (GSpan.mk a8 a9) a10 a11 a12 a13 a14).Kind), (i64 (GFact.mk a1 a2 a3 a4 a5 a6 a7 (GSpan.mk a8 a9) a10 a11 a12 a13 a14).State), (i64 ((GFact.mk a1 a2 a3 a4 a5 a6 a7 (GSpan.mk a8 a9) a10 a11 a12 a13 a14).Span).From), (i64 ((GFact.mk a1 a2 a3 a4 a5 a6 a7 (GSpan.mk a8 a9) a10 a11 a12 a13 a14).Span).To), (i64 (GFact.mk a1 a2 a3 a4 a5 a6 a7 (GSpan.mk a8 a9) a10 a11 a12 a13 a14).Seat), (i64 (GFact.mk a1 a2 a3 a4 a5 a6 a7 (GSpan.mk a8 a9) a10 a11 a12 a13 a14).Share), (i64 (GFact.mk a1 a2 a3 a4 a5 a6 a7 (GSpan.mk a8 a9) a10 a11 a12 a13 a14).Currency), (i64 (GFact.mk a1 a2 a3 a4 a5 a6 a7 (GSpan.mk a8 a9) a10 a11 a12 a13 a14).Amount), (i64 (GFact.mk a1 a2 a3 a4 a5 a6 a7 (GSpan.mk a8 a9) a10 a11 a12 a13 a14).Ref)]), (.agg [(i64 (GFact.mk a15 a16 a17 a18 a19 a20 a21 (GSpan.mk a22 a23) a24 a25 a26 a27 a28).Issuer), (i64 (GFact.mk a15 a16 a17 a18 a19 a20 a21 (GSpan.mk a22 a23) a24 a25 a26 a27 a28).Number), (i64 (GFact.mk a15 a16 a17 a18 a19 a20 a21 (GSpan.mk a22 a23) a24 a25 a26 a27 a28).Version), (bl (GFact.mk a15 a16 a17 a18 a19 a20 a21 (GSpan.mk a22 a23) a24 a25 a26 a27 a28).Withdrawn), (i64 (GFact.mk a15 a16 a17 a18 a19 a20 a21 (GSpan.mk a22 a23) a24 a25 a26 a27 a28).Person), (i64 (GFact.mk a15 a16 a17 a18 a19 a20 a21 (GSpan.mk a22 a23) a24 a25 a26 a27 a28).Kind), (i64 (GFact.mk a15 a16 a17 a18 a19 a20 a21 (GSpan.mk a22 a23) a24 a25 a26 a27 a28).State), (i64 ((GFact.mk a15 a16 a17 a18 a19 a20 a21 (GSpan.mk a22 a23) a24 a25 a26 a27 a28).Span).From), (i64 ((GFact.mk a15 a16 a17 a18 a19 a20 a21 (GSpan.mk a22 a23) a24 a25 a26 a27 a28).Span).To), (i64 (GFact.mk a15 a16 a17 a18 a19 a20 a21 (GSpan.mk a22 a23) a24 a25 a26 a27 a28).Seat), (i64 (GFact.mk a15 a16 a17 a18 a19 a20 a21 (GSpan.mk a22 a23) a24 a25 a26 a27 a28).Share), (i64 (GFact.mk a15 a16 a17 a18 a19 a20 a21 (GSpan.mk a22 a23) a24 a25 a26 a27 a28).Currency), (i64 (GFact.mk a15 a16 a17 a18 a19 a20 a21 (GSpan.mk a22 a23) a24 a25 a26 a27 a28).Amount), (i64 (GFact.mk a15 a16 a17 a18 a19 a20 a21 (GSpan.mk a22 a23) a24 a25 a26 a27 a28).Ref)])], (VLes.cons (VLe.rfl' _) (VLes.cons (VLe.rfl' _) VLes.nil)), rfl, z43run (GFact.mk a1 a2 a3 a4 a5 a6 a7 (GSpan.mk a8 a9) a10 a11 a12 a13 a14) (GFact.mk a15 a16 a17 a18 a19 a20 a21 (GSpan.mk a22 a23) a24 a25 a26 a27 a28) x hx⟩
  · cases h

noncomputable def z85i0 : List Code := items (bodyOf Try.f85)
noncomputable def z85i1 : List Code := items (inside (inside (nthI z85i0 2)))
noncomputable def z85i2 : List Code := items (inside (nthI z85i1 2))
noncomputable def z85i3 : List Code := items (inside (inside (nthI z85i2 2)))
def z85R (x_2 : (List Int)) : St := { tm := [sv 6 (.row 0 1 0 x_2.length)], hp := [(0, some (.row 5 1 x_2.length (lsEl eU8 (0 : Int) x_2)))], nx := 1 }
theorem z85Rok (x_2 : (List Int)) {H : Heap} {nid : Nat} {ps : List Prop} {o : Nat} : retM Try.prog [.tmp 6] (fun σ v => ∃ m, Left [o] nid H false { pre := ps, val := .row o 1 0 x_2.length, eff := [(o, some (.row 5 1 x_2.length (lsEl eU8 (0 : Int) x_2)))], kill := [o] } m σ v) .ret (z85R x_2) :=
  retM.intro (v := (.row 0 1 0 x_2.length)) (by kernel_rfl) ⟨_, left_row (q := 0) rfl (fun _ _ => rfl) (.inr fun i hi d hd => scal_U8 _ d hd)⟩
theorem z85RokN (x_2 : (List Int)) {H : Heap} {nid : Nat} {ps : List Prop} : retM Try.prog [.tmp 6] (fun σ v => ∃ m, Left [] nid H false { pre := ps, val := .row nid 1 0 x_2.length, eff := [(nid, some (.row 5 1 x_2.length (lsEl eU8 (0 : Int) x_2)))], kill := [] } m σ v) .ret (z85R x_2) :=
  retM.intro (v := (.row 0 1 0 x_2.length)) (by kernel_rfl) ⟨_, left_new (q := 0) rfl (fun _ _ => rfl) (.inr fun i hi d hd => scal_U8 _ d hd)⟩
def z85l1S (b : (List Int)) (size : Int) (numbers : (List Int)) (s : ((List Int) × Int)) : St := match s with | (b_4, t12) => { tm := [sv 0 (.row 0 1 0 b_4.length), sv 1 (i64 size), sv 10 (.c (.sl 1 numbers.length (lsEl eI64 (0 : Int) numbers))), sv 11 (i64 ((numbers.length : Nat) : Int)), sv 12 (i64 t12)], hp := [(0, some (.row 5 1 b_4.length (lsEl eU8 (0 : Int) b_4)))], nx := 1 }
def z85l1C0 (b : (List Int)) (size : Int) (numbers : (List Int)) (s : (List Int)) : St := match s with | b_6 => { tm := [sv 0 (.row 0 1 0 b_6.length)], hp := [(0, some (.row 5 1 b_6.length (lsEl eU8 (0 : Int) b_6)))], nx := 1 }
def z85l1E (b : (List Int)) (size : Int) (numbers : (List Int)) (r : (((List Int)))) (K : KT) : Prop := match r with | s => K (.exit 0) (z85l1C0 b size numbers s)
def z85l2S (b_9 : (List Int)) (size x_1 i_1 : Int) (numbers : (List Int)) (t12_3 : Int) (s : ((List Int) × Int × Int)) : St := match s with | (b_1, i_2, t12_4) => { tm := [sv 0 (.row 0 1 0 b_1.length), sv 1 (i64 size), sv 8 (i64 x_1), sv 9 (i64 i_2), sv 10 (.c (.sl 1 numbers.length (lsEl eI64 (0 : Int) numbers))), sv 11 (i64 ((numbers.length : Nat) : Int)), sv 12 (i64 t12_4)], hp := [(0, some (.row 5 1 b_1.length (lsEl eU8 (0 : Int) b_1)))], nx := 1 }
def z85l2C0 (b_9 : (List Int)) (size x_1 i_1 : Int) (numbers : (List Int)) (t12_3 : Int) (s : (List Int) × Int) : St := match s with | (b_2, t12_5) => { tm := [sv 0 (.row 0 1 0 b_2.length), sv 1 (i64 size), sv 10 (.c (.sl 1 numbers.length (lsEl eI64 (0 : Int) numbers))), sv 11 (i64 ((numbers.length : Nat) : Int)), sv 12 (i64 t12_5)], hp := [(0, some (.row 5 1 b_2.length (lsEl eU8 (0 : Int) b_2)))], nx := 1 }
def z85l2E (b_9 : (List Int)) (size x_1 i_1 : Int) (numbers : (List Int)) (t12_3 : Int) (r : (((List Int) × Int))) (K : KT) : Prop := match r with | s => K (.exit 2) (z85l2C0 b_9 size x_1 i_1 numbers t12_3 s)
def z85p0S (b_1 : (List Int)) (size x_1 i_2 : Int) (numbers : (List Int)) (t12_4 : Int) : St := { tm := [sv 0 (.row 0 1 0 b_1.length), sv 1 (i64 size), sv 8 (i64 x_1), sv 9 (i64 i_2), sv 10 (.c (.sl 1 numbers.length (lsEl eI64 (0 : Int) numbers))), sv 11 (i64 ((numbers.length : Nat) : Int)), sv 12 (i64 t12_4)], hp := [(0, some (.row 5 1 b_1.length (lsEl eU8 (0 : Int) b_1)))], nx := 1 }
noncomputable def fact_appendNumbers_p0 (b_1 : (List Int)) (size x_1 i_2 : Int) (numbers : (List Int)) (t12_4 : Int) : Option (((List Int) × Int × Int) ⊕ (((List Int) × Int))) := (bif (decide ((0 : Int) ≤ i_2)) then gd ((0 : Int) ≤ (w64 ((8 : Int) * i_2))) (gd (capB (b_1.length + 1) 1) ((some (Sum.inl ((b_1 ++ ([(IntKind.u8.wrap (Int.fdiv x_1 (2 ^ min (Int.toNat (w64 ((8 : Int) * i_2))) 64)))] : List Int)), (w64 (i_2 - (1 : Int))), t12_4))))) else (some (Sum.inr (b_1, t12_4))))
theorem z85p0ok (b_1 : (List Int)) (size x_1 i_2 : Int) (numbers : (List Int)) (t12_4 : Int) (b_9 : (List Int)) (i_1 t12_3 : Int) (K : KT) (h : W (fact_appendNumbers_p0 b_1 size x_1 i_2 numbers t12_4) (nE (z85l2S b_9 size x_1 i_1 numbers t12_3) (z85l2E b_9 size x_1 i_1 numbers t12_3) K)) : EvL Try.prog 32 (List.drop 0 z85i3) K (z85p0S b_1 size x_1 i_2 numbers t12_4) :=
  EvL.pE mixed (lookC_ok (l := []) trivial) [0, 1, 8, 9, 10, 11, 12] 0 4 (.nf (X := fun K => (bif (decide ((0 : Int) ≤ i_2)) then ((0 : Int) ≤ (w64 ((8 : Int) * i_2))) ∧ (b_1.length = b_1.length) ∧ ((b_1.length + 1) * 1 ≤ 140737488355328) ∧ ((b_1.length + 1) ≤ 140737488355328) ∧ (wK K .normal ({ tm := [sv 0 (.row 0 1 0 (b_1.length + 1)), sv 1 (i64 size), sv 8 (i64 x_1), sv 9 (i64 (w64 (i_2 - (1 : Int)))), sv 10 (.c (.sl 1 numbers.length (lsEl eI64 (0 : Int) numbers))), sv 11 (i64 ((numbers.length : Nat) : Int)), sv 12 (i64 t12_4)], hp := [(0, some (.row 5 1 (b_1.length + 1) (fun i => bif Nat.blt i b_1.length then (lsEl eU8 (0 : Int) b_1) i else (fun i => (litE 1 (eU8 (IntKind.u8.wrap (Int.fdiv x_1 (2 ^ min (Int.toNat (w64 ((8 : Int) * i_2))) 64))))) (0 + i)) (i - b_1.length))))], nx := 1 })) else wK K (.exit 2) ({ tm := [sv 0 (.row 0 1 0 b_1.length), sv 1 (i64 size), sv 8 (i64 x_1), sv 9 (i64 i_2), sv 10 (.c (.sl 1 numbers.length (lsEl eI64 (0 : Int) numbers))), sv 11 (i64 ((numbers.length : Nat) : Int)), sv 12 (i64 t12_4)], hp := [(0, some (.row 5 1 b_1.length (lsEl eU8 (0 : Int) b_1)))], nx := 1 }))) (fun K => by kernel_rfl) (W_bif h (fun _ h => (W_gd h fun hp0 h => ⟨rfl, (W_gd2 h fun hp1 h => ⟨(z85l2S b_9 size x_1 i_1 numbers t12_3 ((b_1 ++ ([(IntKind.u8.wrap (Int.fdiv x_1 (2 ^ min (Int.toNat (w64 ((8 : Int) * i_2))) 64)))] : List Int)), (w64 (i_2 - (1 : Int))), t12_4)), (.of (.cons rfl (.rown (len_app rfl rfl)) (.q rfl (.q rfl (.q rfl (.q rfl (.q rfl (.q rfl .nil))))))) (.row rfl (RowIs.app (RowIs.ls eU8 (0 : Int) b_1) (RowIs.zero (RowIs.l1 (enc := eU8) (z := (0 : Int)) 1 (IntKind.u8.wrap (Int.fdiv x_1 (2 ^ min (Int.toNat (w64 ((8 : Int) * i_2))) 64))) rfl))) .nil rfl) rfl), h⟩)⟩)) (fun _ h => ⟨(z85l2C0 b_9 size x_1 i_1 numbers t12_3 (b_1, t12_4)), (.of (.q rfl (.q rfl (.q rfl (.q rfl (.q rfl .nil))))) (.same rfl .nil) rfl), h⟩)))
noncomputable def fact_appendNumbers_l2 (b_9 : (List Int)) (size x_1 i_1 : Int) (numbers : (List Int)) (t12_3 : Int) (s : ((List Int) × Int × Int)) : Option (((List Int) × Int × Int) ⊕ (((List Int) × Int))) := match s with | (b_1, i_2, t12_4) => fact_appendNumbers_p0 b_1 size x_1 i_2 numbers t12_4
theorem z85l2ok (b_9 : (List Int)) (size x_1 i_1 : Int) (numbers : (List Int)) (t12_3 : Int) (s : ((List Int) × Int × Int)) : Pp Try.prog 32 (List.drop 0 z85i3) (z85l2S b_9 size x_1 i_1 numbers t12_3 s) (fact_appendNumbers_l2 b_9 size x_1 i_1 numbers t12_3 s) (nextE (z85l2S b_9 size x_1 i_1 numbers t12_3) (z85l2E b_9 size x_1 i_1 numbers t12_3)) := fun K h => match s, h with | (b_1, i_2, t12_4), h => (z85p0ok b_1 size x_1 i_2 numbers t12_4 b_9 i_1 t12_3 _ h)
theorem z85l2Ethen (b_9 : (List Int)) (size x_1 i_1 : Int) (numbers : (List Int)) (t12_3 : Int) : ∀ (r : (((List Int) × Int))) (J : St → Prop) (K : KT), z85l2E b_9 size x_1 i_1 numbers t12_3 r K → z85l2E b_9 size x_1 i_1 numbers t12_3 r (thenK J K)
  | s, _, _, h => h
def z85p1S (b_3 : (List Int)) (size : Int) (numbers : (List Int)) (t12_6 : Int) : St := { tm := [sv 0 (.row 0 1 0 b_3.length), sv 1 (i64 size), sv 10 (.c (.sl 1 numbers.length (lsEl eI64 (0 : Int) numbers))), sv 11 (i64 ((numbers.length : Nat) : Int)), sv 12 (i64 t12_6)], hp := [(0, some (.row 5 1 b_3.length (lsEl eU8 (0 : Int) b_3)))], nx := 1 }
noncomputable def fact_appendNumbers_p1 (b_3 : (List Int)) (size : Int) (numbers : (List Int)) (t12_6 : Int) : Option (((List Int) × Int) ⊕ (((List Int)))) := (some (Sum.inl (b_3, (w64 (t12_6 + (1 : Int))))))
theorem z85p1ok (b_3 : (List Int)) (size : Int) (numbers : (List Int)) (t12_6 : Int) (b : (List Int)) (K : KT) (h : W (fact_appendNumbers_p1 b_3 size numbers t12_6) (nE (z85l1S b size numbers) (z85l1E b size numbers) K)) : EvL Try.prog 32 (List.drop 3 z85i1) K (z85p1S b_3 size numbers t12_6) :=
  EvL.pE mixed (lookC_ok (l := []) trivial) [0, 1, 10, 11, 12] 3 1 (.nf (X := fun K => wK K .normal (z85l1S b size numbers (b_3, (w64 (t12_6 + (1 : Int)))))) (fun K => by kernel_rfl) (⟨_, .refl _, h⟩))
def z85p2S (b_9 : (List Int)) (size x_1 i_1 : Int) (numbers : (List Int)) (t12_3 : Int) : St := { tm := [sv 0 (.row 0 1 0 b_9.length), sv 1 (i64 size), sv 8 (i64 x_1), sv 9 (i64 i_1), sv 10 (.c (.sl 1 numbers.length (lsEl eI64 (0 : Int) numbers))), sv 11 (i64 ((numbers.length : Nat) : Int)), sv 12 (i64 t12_3)], hp := [(0, some (.row 5 1 b_9.length (lsEl eU8 (0 : Int) b_9)))], nx := 1 }
noncomputable def fact_appendNumbers_p2_g (b_9 : (List Int)) (size x_1 i_1 : Int) (numbers : (List Int)) (t12_3 : Int) (r : (((List Int) × Int))) : Option (((List Int) × Int) ⊕ (((List Int)))) := match r with | (b_2, t12_5) => (fact_appendNumbers_p1 b_2 size numbers t12_5)
noncomputable def fact_appendNumbers_p2 (b_9 : (List Int)) (size x_1 i_1 : Int) (numbers : (List Int)) (t12_3 : Int) : Option (((List Int) × Int) ⊕ (((List Int)))) := (fixL (fact_appendNumbers_l2 b_9 size x_1 i_1 numbers t12_3) (b_9, i_1, t12_3)).bind (fact_appendNumbers_p2_g b_9 size x_1 i_1 numbers t12_3)
theorem z85p2at : List.drop 2 z85i2 = .block 2 (.loop (inside (inside (nthI z85i2 2)))) :: List.drop 3 z85i2 := by kernel_rfl
theorem z85p2k (b_9 : (List Int)) (size x_1 i_1 : Int) (numbers : (List Int)) (t12_3 : Int) (b : (List Int)) (K : KT) : ∀ r : (((List Int) × Int)), W (fact_appendNumbers_p2_g b_9 size x_1 i_1 numbers t12_3 r) (nE (z85l1S b size numbers) (z85l1E b size numbers) K) → z85l2E b_9 size x_1 i_1 numbers t12_3 r (wK (blockK 2 (thenK (EvL Try.prog 32 (List.drop 3 z85i2) (blockK 1 (thenK (EvL Try.prog 32 (List.drop 3 z85i1) K) K))) (blockK 1 (thenK (EvL Try.prog 32 (List.drop 3 z85i1) K) K)))))
  | (b_2, t12_5), h => ⟨(z85p1S b_2 size numbers t12_5), (.refl _), (EvL.end_ (by kernel_rfl : List.drop 3 z85i2 = []) (z85p1ok b_2 size numbers t12_5 b _ h))⟩
theorem z85p2ok (b_9 : (List Int)) (size x_1 i_1 : Int) (numbers : (List Int)) (t12_3 : Int) (b : (List Int)) (K : KT) (h : W (fact_appendNumbers_p2 b_9 size x_1 i_1 numbers t12_3) (nE (z85l1S b size numbers) (z85l1E b size numbers) K)) : EvL Try.prog 32 (List.drop 2 z85i2) (blockK 1 (thenK (EvL Try.prog 32 (List.drop 3 z85i1) K) K)) (z85p2S b_9 size x_1 i_1 numbers t12_3) :=
  EvL.at_ z85p2at (EvL.cons_loop (EvOk.weak (EvOk.ent (.refl _) (EvOk.loopF (x := inside (inside (nthI z85i2 2))) (f := fact_appendNumbers_l2 b_9 size x_1 i_1 numbers t12_3) (emb := z85l2S b_9 size x_1 i_1 numbers t12_3) (E := z85l2E b_9 size x_1 i_1 numbers t12_3) (z85l2ok b_9 size x_1 i_1 numbers t12_3) (z85l2Ethen b_9 size x_1 i_1 numbers t12_3) (W_loop h (z85p2k b_9 size x_1 i_1 numbers t12_3 b K))))))
def z85p3S (b_7 : (List Int)) (size : Int) (numbers : (List Int)) (t12_2 : Int) : St := { tm := [sv 0 (.row 0 1 0 b_7.length), sv 1 (i64 size), sv 10 (.c (.sl 1 numbers.length (lsEl eI64 (0 : Int) numbers))), sv 11 (i64 ((numbers.length : Nat) : Int)), sv 12 (i64 t12_2)], hp := [(0, some (.row 5 1 b_7.length (lsEl eU8 (0 : Int) b_7)))], nx := 1 }
noncomputable def fact_appendNumbers_p3 (b_7 : (List Int)) (size : Int) (numbers : (List Int)) (t12_2 : Int) : Option (((List Int) × Int) ⊕ (((List Int)))) := gd ((0 : Int) ≤ t12_2 ∧ t12_2 < ((numbers.length : Nat) : Int)) ((fact_appendNumbers_p2 b_7 size (numbers.getD (Int.toNat t12_2) (0 : Int)) (w64 (size - (1 : Int))) numbers t12_2))
theorem z85p3ok (b_7 : (List Int)) (size : Int) (numbers : (List Int)) (t12_2 : Int) (b : (List Int)) (K : KT) (h : W (fact_appendNumbers_p3 b_7 size numbers t12_2) (nE (z85l1S b size numbers) (z85l1E b size numbers) K)) : EvL Try.prog 32 (List.drop 0 z85i2) (blockK 1 (thenK (EvL Try.prog 32 (List.drop 3 z85i1) K) K)) (z85p3S b_7 size numbers t12_2) :=
  EvL.pD mixed (lookC_ok (l := []) trivial) [0, 1, 8, 9, 10, 11, 12] 0 2 2 (.nf (X := fun K => ((0 : Int) ≤ t12_2) ∧ (t12_2 < ((numbers.length : Nat) : Int)) ∧ (wK K .normal (z85p2S b_7 size (numbers.getD (Int.toNat t12_2) (0 : Int)) (w64 (size - (1 : Int))) numbers t12_2))) (fun K => by kernel_rfl) (W_gd2 h fun hp0 h => ⟨_, .refl _, (z85p2ok b_7 size (numbers.getD (Int.toNat t12_2) (0 : Int)) (w64 (size - (1 : Int))) numbers t12_2 b _ h)⟩))
def z85p4S (b_5 : (List Int)) (size : Int) (numbers : (List Int)) (t12_1 : Int) : St := { tm := [sv 0 (.row 0 1 0 b_5.length), sv 1 (i64 size), sv 10 (.c (.sl 1 numbers.length (lsEl eI64 (0 : Int) numbers))), sv 11 (i64 ((numbers.length : Nat) : Int)), sv 12 (i64 t12_1)], hp := [(0, some (.row 5 1 b_5.length (lsEl eU8 (0 : Int) b_5)))], nx := 1 }
noncomputable def fact_appendNumbers_p4 (b_5 : (List Int)) (size : Int) (numbers : (List Int)) (t12_1 : Int) : Option (((List Int) × Int) ⊕ (((List Int)))) := (fact_appendNumbers_p3 b_5 size numbers t12_1)
theorem z85p4at : List.drop 2 z85i1 = .block 1 (inside (nthI z85i1 2)) :: List.drop 3 z85i1 := by kernel_rfl
theorem z85p4ok (b_5 : (List Int)) (size : Int) (numbers : (List Int)) (t12_1 : Int) (b : (List Int)) (K : KT) (h : W (fact_appendNumbers_p4 b_5 size numbers t12_1) (nE (z85l1S b size numbers) (z85l1E b size numbers) K)) : EvL Try.prog 32 (List.drop 2 z85i1) K (z85p4S b_5 size numbers t12_1) :=
  EvL.at_ z85p4at (EvL.cons_block (EvL.ent (.refl _) (z85p3ok b_5 size numbers t12_1 b _ h)))
def z85p5S (b_4 : (List Int)) (size : Int) (numbers : (List Int)) (t12 : Int) : St := { tm := [sv 0 (.row 0 1 0 b_4.length), sv 1 (i64 size), sv 10 (.c (.sl 1 numbers.length (lsEl eI64 (0 : Int) numbers))), sv 11 (i64 ((numbers.length : Nat) : Int)), sv 12 (i64 t12)], hp := [(0, some (.row 5 1 b_4.length (lsEl eU8 (0 : Int) b_4)))], nx := 1 }
noncomputable def fact_appendNumbers_p5 (b_4 : (List Int)) (size : Int) (numbers : (List Int)) (t12 : Int) : Option (((List Int) × Int) ⊕ (((List Int)))) := (bif (decide (t12 < ((numbers.length : Nat) : Int))) then (fact_appendNumbers_p4 b_4 size numbers t12) else (some (Sum.inr b_4)))
theorem z85p5ok (b_4 : (List Int)) (size : Int) (numbers : (List Int)) (t12 : Int) (b : (List Int)) (K : KT) (h : W (fact_appendNumbers_p5 b_4 size numbers t12) (nE (z85l1S b size numbers) (z85l1E b size numbers) K)) : EvL Try.prog 32 (List.drop 0 z85i1) K (z85p5S b_4 size numbers t12) :=
  EvL.pD mixed (lookC_ok (l := []) trivial) [0, 1, 10, 11, 12] 0 2 2 (.nf (X := fun K => (bif (decide (t12 < ((numbers.length : Nat) : Int))) then wK K .normal (z85p4S b_4 size numbers t12) else wK K (.exit 0) ({ tm := [sv 0 (.row 0 1 0 b_4.length), sv 1 (i64 size), sv 10 (.c (.sl 1 numbers.length (lsEl eI64 (0 : Int) numbers))), sv 11 (i64 ((numbers.length : Nat) : Int)), sv 12 (i64 t12)], hp := [(0, some (.row 5 1 b_4.length (lsEl eU8 (0 : Int) b_4)))], nx := 1 }))) (fun K => by kernel_rfl) (W_bif h (fun _ h => ⟨_, .refl _, (z85p4ok b_4 size numbers t12 b _ h)⟩) (fun _ h => ⟨(z85l1C0 b size numbers b_4), (.of (.q rfl .nil) (.same rfl .nil) rfl), h⟩)))
noncomputable def fact_appendNumbers_l1 (b : (List Int)) (size : Int) (numbers : (List Int)) (s : ((List Int) × Int)) : Option (((List Int) × Int) ⊕ (((List Int)))) := match s with | (b_4, t12) => fact_appendNumbers_p5 b_4 size numbers t12
theorem z85l1ok (b : (List Int)) (size : Int) (numbers : (List Int)) (s : ((List Int) × Int)) : Pp Try.prog 32 (List.drop 0 z85i1) (z85l1S b size numbers s) (fact_appendNumbers_l1 b size numbers s) (nextE (z85l1S b size numbers) (z85l1E b size numbers)) := fun K h => match s, h with | (b_4, t12), h => (z85p5ok b_4 size numbers t12 b _ h)
theorem z85l1Ethen (b : (List Int)) (size : Int) (numbers : (List Int)) : ∀ (r : (((List Int)))) (J : St → Prop) (K : KT), z85l1E b size numbers r K → z85l1E b size numbers r (thenK J K)
  | s, _, _, h => h
def z85p6S (b_8 : (List Int)) : St := { tm := [sv 0 (.row 0 1 0 b_8.length)], hp := [(0, some (.row 5 1 b_8.length (lsEl eU8 (0 : Int) b_8)))], nx := 1 }
noncomputable def fact_appendNumbers_p6 (b_8 : (List Int)) : Option ((List Int)) := (some b_8)
theorem z85p6ok (b_8 : (List Int)) (K : KT) (h : W (fact_appendNumbers_p6 b_8) (rE z85R K)) : EvL Try.prog 32 (List.drop 3 z85i0) K (z85p6S b_8) :=
  EvL.pE mixed (lookC_ok (l := []) trivial) [6] 3 2 (.nf (X := fun K => wK K .ret (z85R b_8)) (fun K => by kernel_rfl) (⟨_, .refl _, h⟩))
def z85p7S (b : (List Int)) (size : Int) (numbers : (List Int)) : St := { tm := [sv 0 (.row 0 1 0 b.length), sv 1 (i64 size), sv 10 (.c (.sl 1 numbers.length (lsEl eI64 (0 : Int) numbers))), sv 11 (i64 ((numbers.length : Nat) : Int)), sv 12 (i64 (0 : Int))], hp := [(0, some (.row 5 1 b.length (lsEl eU8 (0 : Int) b)))], nx := 1 }
noncomputable def fact_appendNumbers_p7_g (b : (List Int)) (size : Int) (numbers : (List Int)) (r : (((List Int)))) : Option ((List Int)) := match r with | b_6 => (fact_appendNumbers_p6 b_6)
noncomputable def fact_appendNumbers_p7 (b : (List Int)) (size : Int) (numbers : (List Int)) : Option ((List Int)) := (fixL (fact_appendNumbers_l1 b size numbers) (b, (0 : Int))).bind (fact_appendNumbers_p7_g b size numbers)
theorem z85p7at : List.drop 2 z85i0 = .block 0 (.loop (inside (inside (nthI z85i0 2)))) :: List.drop 3 z85i0 := by kernel_rfl
theorem z85p7k (b : (List Int)) (size : Int) (numbers : (List Int)) (K : KT) : ∀ r : (((List Int))), W (fact_appendNumbers_p7_g b size numbers r) (rE z85R K) → z85l1E b size numbers r (wK (blockK 0 (thenK (EvL Try.prog 32 (List.drop 3 z85i0) K) K)))
  | b_6, h => ⟨(z85p6S b_6), (.refl _), (z85p6ok b_6 _ h)⟩
theorem z85p7ok (b : (List Int)) (size : Int) (numbers : (List Int)) (K : KT) (h : W (fact_appendNumbers_p7 b size numbers) (rE z85R K)) : EvL Try.prog 32 (List.drop 2 z85i0) K (z85p7S b size numbers) :=
  EvL.at_ z85p7at (EvL.cons_loop (EvOk.weak (EvOk.ent (.refl _) (EvOk.loopF (x := inside (inside (nthI z85i0 2))) (f := fact_appendNumbers_l1 b size numbers) (emb := z85l1S b size numbers) (E := z85l1E b size numbers) (z85l1ok b size numbers) (z85l1Ethen b size numbers) (W_loop h (z85p7k b size numbers K))))))
def z85p8S (b : (List Int)) (size : Int) (numbers : (List Int)) : St := { tm := [sv 0 (.row 0 1 0 b.length), sv 1 (i64 size), sv 2 (.c (.sl 1 numbers.length (lsEl eI64 (0 : Int) numbers)))], hp := [(0, some (.row 5 1 b.length (lsEl eU8 (0 : Int) b)))], nx := 1 }
noncomputable def fact_appendNumbers_p8 (b : (List Int)) (size : Int) (numbers : (List Int)) : Option ((List Int)) := (fact_appendNumbers_p7 b size numbers)
theorem z85p8ok (b : (List Int)) (size : Int) (numbers : (List Int)) (K : KT) (h : W (fact_appendNumbers_p8 b size numbers) (rE z85R K)) : EvL Try.prog 32 (List.drop 0 z85i0) K (z85p8S b size numbers) :=
  EvL.pD mixed (lookC_ok (l := []) trivial) [0, 1, 10, 11, 12] 0 2 2 (.nf (X := fun K => wK K .normal (z85p7S b size numbers)) (fun K => by kernel_rfl) (⟨_, .refl _, (z85p7ok b size numbers _ h)⟩))
noncomputable def fact_appendNumbers (b : (List Int)) (size : Int) (numbers : (List Int)) : Option ((List Int)) := fact_appendNumbers_p8 b size numbers
noncomputable def fact_appendNumbers_C : Heap → Nat → List V → Option Res := fun H nid args => match viewF H [true, false, false] args with
  | [(.row o_ k_ f_ n_), (.c (.lit (.int .i64 a1))), (.c (.sl k2 n3 e4))] => (match Heap.get H o_ with
    | some (.row t_ k2_ m_ e_) => bif Nat.beq t_ 5 && Nat.beq k2_ 1 && Nat.beq k_ 1 && Nat.beq f_ 0 && handOk [o_] H false [true, false, false] args then some { pre := [n_ = m_, LstOk eU8 dU8 1 1 m_ e_, LstOk eI64 dI64 1 k2 n3 e4, (fact_appendNumbers (lst dU8 m_ e_) a1 (lst dI64 n3 e4)).isSome = true], val := .row o_ 1 0 ((fact_appendNumbers (lst dU8 m_ e_) a1 (lst dI64 n3 e4)).getD ([] : List Int)).length, eff := [(o_, some (.row 5 1 ((fact_appendNumbers (lst dU8 m_ e_) a1 (lst dI64 n3 e4)).getD ([] : List Int)).length (lsEl eU8 (0 : Int) ((fact_appendNumbers (lst dU8 m_ e_) a1 (lst dI64 n3 e4)).getD ([] : List Int)))))], kill := [o_] } else none
    | _ => none)
  | [(.c .nil), (.c (.lit (.int .i64 a1))), (.c (.sl k2 n3 e4))] => bif handOk [] H false [true, false, false] args then some { pre := [LstOk eI64 dI64 1 k2 n3 e4, (fact_appendNumbers ([] : List Int) a1 (lst dI64 n3 e4)).isSome = true], val := .row nid 1 0 ((fact_appendNumbers ([] : List Int) a1 (lst dI64 n3 e4)).getD ([] : List Int)).length, eff := [(nid, some (.row 5 1 ((fact_appendNumbers ([] : List Int) a1 (lst dI64 n3 e4)).getD ([] : List Int)).length (lsEl eU8 (0 : Int) ((fact_appendNumbers ([] : List Int) a1 (lst dI64 n3 e4)).getD ([] : List Int)))))], kill := [] } else none
  | _ => none
theorem fact_appendNumbers_ok : MeetsC Try.prog 85 (.mut fact_appendNumbers_C) := by
  refine meets_row (fn := Try.f85) (c := bodyOf Try.f85) (by kernel_rfl) (by kernel_rfl) (by kernel_rfl) (rs := [.tmp 6]) (by kernel_rfl) (nt := 32) (by kernel_rfl) fun H nid args r h hp => ?_
  unfold fact_appendNumbers_C at h
  split at h
  · next o_ k_ f_ n_ a1 k2 n3 e4 hv =>
    split at h
    · next t_ k2_ m_ e_ hg =>
      cases hb : (Nat.beq t_ 5 && Nat.beq k2_ 1 && Nat.beq k_ 1 && Nat.beq f_ 0 && handOk [o_] H false [true, false, false] args) with
      | false => rw [hb] at h; cases h
      | true =>
        rw [hb] at h
        simp only [Bool.and_eq_true, Nat.beq_eq] at hb
        obtain ⟨⟨⟨⟨rfl, rfl⟩, rfl⟩, rfl⟩, hk⟩ := hb
        cases h
        obtain ⟨hn, hp⟩ := allq hp
        obtain ⟨gr, hp⟩ := allq hp
        obtain ⟨g0, hp⟩ := allq hp
        obtain ⟨g, hp⟩ := allq hp
        obtain ⟨x, hx⟩ := Option.isSome_iff_exists.1 g
        rw [hx]
        subst hn
        exact .inl ⟨false, [true, false, false], o_, 5, 1, _, e_, [.row 0 1 0 (lst dU8 _ e_).length, (i64 a1), (.c (.sl 1 ((lst dI64 n3 e4)).length (lsEl eI64 (0 : Int) (lst dI64 n3 e4))))], hg, hk, by rw [hv]; simp only [renF, cond_true, cond_false, ren_row1]; exact (VLes.cons (VLe.rown (RowIs.of_ok (z := (0 : Int)) gr).len) (VLes.cons (VLe.rfl' _) (VLes.cons (VLe.slk g0.1 (RowIs.of_ok g0)) VLes.nil))), rfl, EvL.ent (Ent.of (tmLe.cons rfl (VLe.rfl' _) (tmLe.cons rfl (VLe.rfl' _) (tmLe.cons rfl (VLe.rfl' _) tmLe.nil))) (hpLe.row rfl (RowIs.of_ok gr) hpLe.nil rfl) rfl) (z85p8ok (lst dU8 _ e_) a1 (lst dI64 n3 e4) _ (W_iff.2 ⟨x, hx, z85Rok x⟩))⟩
    · cases h
  · next a1 k2 n3 e4 hv =>
    cases hb : handOk [] H false [true, false, false] args with
      | false => rw [hb] at h; cases h
      | true =>
        rw [hb] at h
        cases h
        obtain ⟨g0, hp⟩ := allq hp
        obtain ⟨g, hp⟩ := allq hp
        obtain ⟨x, hx⟩ := Option.isSome_iff_exists.1 g
        rw [hx]
        exact .inr ⟨false, [true, false, false], [.c .nil, (i64 a1), (.c (.sl 1 ((lst dI64 n3 e4)).length (lsEl eI64 (0 : Int) (lst dI64 n3 e4))))], hb, by rw [hv]; simp only [renF, cond_true, cond_false]; exact (VLes.cons (VLe.rfl' _) (VLes.cons (VLe.rfl' _) (VLes.cons (VLe.slk g0.1 (RowIs.of_ok g0)) VLes.nil))), rfl, EvL.ent (Ent.trans (Ent.nilrow 0 0 5 1 (lsEl eU8 (0 : Int) []) (Nat.le_refl _) rfl) (Ent.of (tmLe.cons rfl (VLe.rown rfl) (tmLe.cons rfl (VLe.rfl' _) (tmLe.cons rfl (VLe.rfl' _) tmLe.nil))) (hpLe.row rfl (RowIs.ls eU8 (0 : Int) []) hpLe.nil rfl) rfl)) (z85p8ok ([] : List Int) a1 (lst dI64 n3 e4) _ (W_iff.2 ⟨x, hx, z85RokN x⟩))⟩
  · cases h

end Go.Ax
