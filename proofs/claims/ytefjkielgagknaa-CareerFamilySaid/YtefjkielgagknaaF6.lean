import Derived.Test.YtefjkielgagknaaF5
import Derived.Test.YtefjkielgagknaaLay
import Derived.Test.YtefjkielgagknaaRows
/- Types of the program, and functions of it: printed by a program, checked by the kernel. -/
set_option linter.all false
set_option maxRecDepth 100000
namespace Go.Ax
open Go.Proofs Go.Proofs.Ytefjkielgagknaa
noncomputable def z11i0 : List Code := items (bodyOf Try.f11)
noncomputable def z11i1 : List Code := items (inside (inside (nthI z11i0 4)))
def ref12_Children_out (x_1 : (List Int)) : Out := .own true 3 1 (x_1).length (lsEl eI64 (0 : Int) x_1)
def z11R (x_1 : (List Int)) : St := { tm := [sv 4 (.row 0 1 0 x_1.length)], hp := [(0, some (.row 3 1 x_1.length (lsEl eI64 (0 : Int) x_1)))], nx := 1 }
theorem z11Rok (x_1 : (List Int)) : retK Try.prog [.tmp 4] (OutOk (ref12_Children_out x_1)) .ret (z11R x_1) :=
  retK.intro (v := (.row 0 1 0 x_1.length)) (by kernel_rfl) (⟨_, _, _, rfl, rfl, rfl, fun _ _ => rfl, fun _ i hi d hd => scal_I64 _ d hd⟩)
def z11l1S (day : Int) (c : (List GFact)) (s : ((List Int) × Int)) : St := match s with | (out_1, i_1) => { tm := [sv 1 (i64 day), sv 5 (.row 0 14 0 c.length), sv 6 (.row 1 1 0 out_1.length), sv 7 (i64 i_1)], hp := [(0, some (.row 38 14 c.length (lsEl eGFact zGFact c))), (1, some (.row 3 1 out_1.length (lsEl eI64 (0 : Int) out_1)))], nx := 2 }
def z11l1C0 (day : Int) (c : (List GFact)) (s : (List Int)) : St := match s with | out_2 => { tm := [sv 6 (.row 0 1 0 out_2.length)], hp := [(0, some (.row 3 1 out_2.length (lsEl eI64 (0 : Int) out_2)))], nx := 1 }
def z11l1E (day : Int) (c : (List GFact)) (r : (((List Int)))) (K : KT) : Prop := match r with | s => K (.exit 0) (z11l1C0 day c s)
def z11p0S (day : Int) (c : (List GFact)) (out_1 : (List Int)) (i_1 : Int) : St := { tm := [sv 1 (i64 day), sv 5 (.row 0 14 0 c.length), sv 6 (.row 1 1 0 out_1.length), sv 7 (i64 i_1)], hp := [(0, some (.row 38 14 c.length (lsEl eGFact zGFact c))), (1, some (.row 3 1 out_1.length (lsEl eI64 (0 : Int) out_1)))], nx := 2 }
noncomputable def ref12_Children_p0 (day : Int) (c : (List GFact)) (out_1 : (List Int)) (i_1 : Int) : Option (((List Int) × Int) ⊕ (((List Int)))) := (bif (decide (i_1 < ((c.length : Nat) : Int))) then gd ((0 : Int) ≤ i_1 ∧ i_1 < ((c.length : Nat) : Int)) (gd ((((c.getD (0 + (Int.toNat i_1)) zGFact).Kind == (10 : Int)) && true) = true → (0 : Int) ≤ i_1) (gd ((((c.getD (0 + (Int.toNat i_1)) zGFact).Kind == (10 : Int)) && true) = true → i_1 < ((c.length : Nat) : Int)) ((bif (bif ((c.getD (0 + (Int.toNat i_1)) zGFact).Kind == (10 : Int)) then (decide (((c.getD (0 + (Int.toNat i_1)) zGFact).Span).From < day)) else false) then gd ((0 : Int) ≤ i_1 ∧ i_1 < ((c.length : Nat) : Int)) ((ref1_Ins out_1 ((c.getD (0 + (Int.toNat i_1)) zGFact).Ref)).bind fun r_2 => ((some (Sum.inl (r_2, (w64 (i_1 + (1 : Int)))))))) else (some (Sum.inl (out_1, (w64 (i_1 + (1 : Int)))))))))) else (some (Sum.inr out_1)))
theorem z11p0nf (day : Int) (c : (List GFact)) (out_1 : (List Int)) (i_1 : Int) (K : KT) (L1_ : List Int) (hL1_ : lst dI64 out_1.length (lsEl eI64 (0 : Int) out_1) = L1_) :
    ev Try.prog (lookC [(26, .mut ref1_Ins_C)]) 40 (ofItems ((List.drop 0 z11i1).take 4)) (cN [1, 5, 6, 7, 23, 24, 25, 26, 27, 28, 29, 30] K) (z11p0S day c out_1 i_1) =
    ((bif (decide (i_1 < ((c.length : Nat) : Int))) then ((0 : Int) ≤ i_1) ∧ (i_1 < ((c.length : Nat) : Int)) ∧ ((((c.getD (0 + (Int.toNat i_1)) zGFact).Kind == (10 : Int)) && true) = true → (0 : Int) ≤ i_1) ∧ ((((c.getD (0 + (Int.toNat i_1)) zGFact).Kind == (10 : Int)) && true) = true → i_1 < ((c.length : Nat) : Int)) ∧ ((bif (bif ((c.getD (0 + (Int.toNat i_1)) zGFact).Kind == (10 : Int)) then (decide (((c.getD (0 + (Int.toNat i_1)) zGFact).Span).From < day)) else false) then ((0 : Int) ≤ i_1) ∧ (i_1 < ((c.length : Nat) : Int)) ∧ (out_1.length = out_1.length) ∧ (LstOk eI64 dI64 1 1 out_1.length (lsEl eI64 (0 : Int) out_1)) ∧ ((ref1_Ins L1_ ((c.getD (0 + (Int.toNat i_1)) zGFact).Ref)).isSome = true) ∧ (wK K .normal ({ tm := [sv 1 (i64 day), sv 5 (.row 0 14 0 c.length), sv 6 (.row 1 1 0 (((ref1_Ins L1_ ((c.getD (0 + (Int.toNat i_1)) zGFact).Ref)).getD ([] : List Int))).length), sv 7 (i64 (w64 (i_1 + (1 : Int)))), sv 23 (.c .unk), sv 24 (.c .unk), sv 25 (.c .unk), sv 26 (.c .unk), sv 27 (.c .unk), sv 28 (.c .unk), sv 29 (.c .unk), sv 30 (.c .unk)], hp := [(0, some (.row 38 14 c.length (lsEl eGFact zGFact c))), (1, some (.row 3 1 (((ref1_Ins L1_ ((c.getD (0 + (Int.toNat i_1)) zGFact).Ref)).getD ([] : List Int))).length (lsEl eI64 (0 : Int) ((ref1_Ins L1_ ((c.getD (0 + (Int.toNat i_1)) zGFact).Ref)).getD ([] : List Int)))))], nx := 2 })) else wK K .normal ({ tm := [sv 1 (i64 day), sv 5 (.row 0 14 0 c.length), sv 6 (.row 1 1 0 out_1.length), sv 7 (i64 (w64 (i_1 + (1 : Int)))), sv 23 (.c .unk), sv 24 (.c .unk), sv 25 (.c .unk), sv 26 (.c .unk), sv 27 (.c .unk), sv 28 (.c .unk), sv 29 (.c .unk), sv 30 (.c .unk)], hp := [(0, some (.row 38 14 c.length (lsEl eGFact zGFact c))), (1, some (.row 3 1 out_1.length (lsEl eI64 (0 : Int) out_1)))], nx := 2 }))) else wK K (.exit 0) ({ tm := [sv 1 (i64 day), sv 5 (.row 0 14 0 c.length), sv 6 (.row 1 1 0 out_1.length), sv 7 (i64 i_1)], hp := [(0, some (.row 38 14 c.length (lsEl eGFact zGFact c))), (1, some (.row 3 1 out_1.length (lsEl eI64 (0 : Int) out_1)))], nx := 2 }))) := by subst hL1_; kernel_rfl
theorem z11p0ok (day : Int) (c : (List GFact)) (out_1 : (List Int)) (i_1 : Int) (K : KT) (h : W (ref12_Children_p0 day c out_1 i_1) (nE (z11l1S day c) (z11l1E day c) K)) : EvL Try.prog 40 (List.drop 0 z11i1) K (z11p0S day c out_1 i_1) :=
  EvL.pE mixed (lookC_ok (l := [(26, .mut ref1_Ins_C)]) ⟨ref1_Ins_ok, trivial⟩) [1, 5, 6, 7, 23, 24, 25, 26, 27, 28, 29, 30] 0 4 (.of (z11p0nf day c out_1 i_1 _ _ (RowIs.lst dI64_eI64 (RowIs.ls eI64 (0 : Int) out_1))) (W_bif h (fun _ h => (W_gd2 h fun hp0 h => (W_gd h fun hp1 h => (W_gd h fun hp2 h => (W_bif h (fun _ h => (W_gd2 h fun hp3 h => ⟨(rfl), ⟨RowIs.ok dI64_eI64 (RowIs.ls eI64 (0 : Int) out_1), (W_bind ([] : List Int) h fun hp4 h => ⟨(z11l1S day c (((ref1_Ins out_1 (c.getD (0 + (Int.toNat i_1)) zGFact).Ref).getD ([] : List Int)), (w64 (i_1 + (1 : Int))))), (.of (.q rfl (.q rfl (.q rfl (.q rfl .nil)))) (.same rfl (.same rfl .nil)) rfl), h⟩)⟩⟩)) (fun _ h => ⟨(z11l1S day c (out_1, (w64 (i_1 + (1 : Int))))), (.of (.q rfl (.q rfl (.q rfl (.q rfl .nil)))) (.same rfl (.same rfl .nil)) rfl), h⟩)))))) (fun _ h => ⟨(z11l1C0 day c out_1), (.cn [6]), h⟩)))
noncomputable def ref12_Children_l1 (day : Int) (c : (List GFact)) (s : ((List Int) × Int)) : Option (((List Int) × Int) ⊕ (((List Int)))) := match s with | (out_1, i_1) => ref12_Children_p0 day c out_1 i_1
theorem z11l1ok (day : Int) (c : (List GFact)) (s : ((List Int) × Int)) : Pp Try.prog 40 (List.drop 0 z11i1) (z11l1S day c s) (ref12_Children_l1 day c s) (nextE (z11l1S day c) (z11l1E day c)) := fun K h => match s, h with | (out_1, i_1), h => (z11p0ok day c out_1 i_1 _ h)
theorem z11l1Ethen (day : Int) (c : (List GFact)) : ∀ (r : (((List Int)))) (J : St → Prop) (K : KT), z11l1E day c r K → z11l1E day c r (thenK J K)
  | s, _, _, h => h
def z11p1S (out_3 : (List Int)) : St := { tm := [sv 6 (.row 0 1 0 out_3.length)], hp := [(0, some (.row 3 1 out_3.length (lsEl eI64 (0 : Int) out_3)))], nx := 1 }
noncomputable def ref12_Children_p1 (out_3 : (List Int)) : Option ((List Int)) := (some out_3)
theorem z11p1ok (out_3 : (List Int)) (K : KT) (h : W (ref12_Children_p1 out_3) (rE z11R K)) : EvL Try.prog 40 (List.drop 5 z11i0) K (z11p1S out_3) :=
  EvL.pE mixed (lookC_ok (l := []) trivial) [4] 5 2 (.nf (X := fun K => wK K .ret (z11R out_3)) (fun K => by kernel_rfl) (⟨_, .refl _, h⟩))
def z11p2S (day : Int) (c : (List GFact)) : St := { tm := [sv 1 (i64 day), sv 5 (.row 0 14 0 c.length), sv 6 (.c .nil), sv 7 (i64 (0 : Int))], hp := [(0, some (.row 38 14 c.length (lsEl eGFact zGFact c)))], nx := 1 }
noncomputable def ref12_Children_p2_g (day : Int) (c : (List GFact)) (r : (((List Int)))) : Option ((List Int)) := match r with | out_2 => (ref12_Children_p1 out_2)
noncomputable def ref12_Children_p2 (day : Int) (c : (List GFact)) : Option ((List Int)) := (fixL (ref12_Children_l1 day c) (([] : List Int), (0 : Int))).bind (ref12_Children_p2_g day c)
theorem z11p2at : List.drop 4 z11i0 = .block 0 (.loop (inside (inside (nthI z11i0 4)))) :: List.drop 5 z11i0 := by kernel_rfl
theorem z11p2k (day : Int) (c : (List GFact)) (K : KT) : ∀ r : (((List Int))), W (ref12_Children_p2_g day c r) (rE z11R K) → z11l1E day c r (wK (blockK 0 (thenK (EvL Try.prog 40 (List.drop 5 z11i0) K) K)))
  | out_2, h => ⟨(z11p1S out_2), (.refl _), (z11p1ok out_2 _ h)⟩
theorem z11p2ok (day : Int) (c : (List GFact)) (K : KT) (h : W (ref12_Children_p2 day c) (rE z11R K)) : EvL Try.prog 40 (List.drop 4 z11i0) K (z11p2S day c) :=
  EvL.at_ z11p2at (EvL.cons_loop (EvOk.weak (EvOk.ent (.trans (.nilrow 6 1 3 1 (lsEl eI64 (0 : Int) []) (Nat.le_of_ble_eq_true rfl) rfl) (.cn [1, 5, 6, 7])) (EvOk.loopF (x := inside (inside (nthI z11i0 4))) (f := ref12_Children_l1 day c) (emb := z11l1S day c) (E := z11l1E day c) (z11l1ok day c) (z11l1Ethen day c) (W_loop h (z11p2k day c K))))))
def z11p3S (l : (List GFact)) (day : Int) : St := { tm := [sv 0 (.c (.sl 14 l.length (lsEl eGFact zGFact l))), sv 1 (i64 day)], hp := [], nx := 0 }
noncomputable def ref12_Children_p3 (l : (List GFact)) (day : Int) : Option ((List Int)) := (ref12_Current l).bind fun r_1 => ((ref12_Children_p2 day r_1))
theorem z11p3nf (l : (List GFact)) (day : Int) (K : KT) (L1_ : List GFact) (hL1_ : lst dGFact l.length (lsEl eGFact zGFact l) = L1_) :
    ev Try.prog (lookC [(20, .pure ref12_Current_C)]) 40 (ofItems ((List.drop 0 z11i0).take 4)) (cN [1, 5, 6, 7, 23, 24, 25, 26, 27, 28, 29, 30] K) (z11p3S l day) =
    ((LstOk eGFact dGFact 14 14 l.length (lsEl eGFact zGFact l)) ∧ ((ref12_Current L1_).isSome = true) ∧ (wK K .normal (z11p2S day ((ref12_Current L1_).getD ([] : List GFact))))) := by subst hL1_; kernel_rfl
theorem z11p3ok (l : (List GFact)) (day : Int) (K : KT) (h : W (ref12_Children_p3 l day) (rE z11R K)) : EvL Try.prog 40 (List.drop 0 z11i0) K (z11p3S l day) :=
  EvL.pD mixed (lookC_ok (l := [(20, .pure ref12_Current_C)]) ⟨ref12_Current_ok, trivial⟩) [1, 5, 6, 7, 23, 24, 25, 26, 27, 28, 29, 30] 0 4 4 (.of (z11p3nf l day _ _ (RowIs.lst dGFact_eGFact (RowIs.ls eGFact zGFact l))) (⟨RowIs.ok dGFact_eGFact (RowIs.ls eGFact zGFact l), (W_bind ([] : List GFact) h fun hp0 h => ⟨_, .refl _, (z11p2ok day ((ref12_Current l).getD ([] : List GFact)) _ h)⟩)⟩))
noncomputable def ref12_Children (l : (List GFact)) (day : Int) : Option ((List Int)) := ref12_Children_p3 l day
theorem z11run (l : (List GFact)) (day : Int) (y_ : (List Int)) (h : ref12_Children l day = some y_) : EvL Try.prog 40 (items (bodyOf Try.f11)) (retK Try.prog [.tmp 4] (OutOk (ref12_Children_out y_))) (z11p3S l day) :=
  z11p3ok l day _ (W_iff.2 ⟨y_, h, z11Rok y_⟩)
noncomputable def ref12_Children_C : Con
  | [(.c (.sl k1 n2 e3)), (.c (.lit (.int .i64 a4)))] => some ([LstOk eGFact dGFact 14 k1 n2 e3, (ref12_Children (lst dGFact n2 e3) a4).isSome = true], (ref12_Children_out ((ref12_Children (lst dGFact n2 e3) a4).getD ([] : List Int))))
  | _ => none
theorem ref12_Children_ok : Meets Try.prog 11 ref12_Children_C := by
  refine meets_fun (fn := Try.f11) (c := bodyOf Try.f11) (by kernel_rfl) (by kernel_rfl) (by kernel_rfl) (rs := [.tmp 4]) (by kernel_rfl) (nt := 40) (by kernel_rfl) fun vs p out h hp => ?_
  unfold ref12_Children_C at h
  split at h
  · next k1 n2 e3 a4 =>
    cases h
    obtain ⟨g0, hp⟩ := allq hp
    obtain ⟨g, hp⟩ := allq hp
    obtain ⟨x, hx⟩ := Option.isSome_iff_exists.1 g
    rw [hx]
    exact ⟨[(.c (.sl 14 ((lst dGFact n2 e3)).length (lsEl eGFact zGFact (lst dGFact n2 e3)))), (i64 a4)], (VLes.cons (VLe.slk g0.1 (RowIs.of_ok g0)) (VLes.cons (VLe.rfl' _) VLes.nil)), rfl, z11run (lst dGFact n2 e3) a4 x hx⟩
  · cases h

noncomputable def z9i0 : List Code := items (bodyOf Try.f9)
noncomputable def z9i1 : List Code := items (inside (inside (nthI z9i0 4)))
def ref1_SameInts_out (x_1 : Bool) : Out := .data (bl x_1)
def z9R (x_1 : Bool) : St := { tm := [sv 4 (bl x_1)], hp := [], nx := 0 }
theorem z9Rok (x_1 : Bool) : retK Try.prog [.tmp 4] (OutOk (ref1_SameInts_out x_1)) .ret (z9R x_1) :=
  retK.intro (v := (bl x_1)) (by kernel_rfl) ((VLe.rfl' _))
def z9l1S (a b : (List Int)) (s : (Int)) : St := match s with | i_1 => { tm := [sv 0 (.c (.sl 1 a.length (lsEl eI64 (0 : Int) a))), sv 1 (.c (.sl 1 b.length (lsEl eI64 (0 : Int) b))), sv 5 (i64 i_1)], hp := [], nx := 0 }
def z9l1C0 (a b : (List Int)) (s : Unit) : St := match s with | () => { tm := [sv 4 (bl false)], hp := [], nx := 0 }
def z9l1C1 (a b : (List Int)) (s : Unit) : St := match s with | () => { tm := [], hp := [], nx := 0 }
def z9l1E (a b : (List Int)) (r : ((Unit) ⊕ (Unit))) (K : KT) : Prop := match r with | (.inl s) => K .ret (z9l1C0 a b s) | (.inr s) => K (.exit 0) (z9l1C1 a b s)
def z9p0S (a b : (List Int)) (i_1 : Int) : St := { tm := [sv 0 (.c (.sl 1 a.length (lsEl eI64 (0 : Int) a))), sv 1 (.c (.sl 1 b.length (lsEl eI64 (0 : Int) b))), sv 5 (i64 i_1)], hp := [], nx := 0 }
noncomputable def ref1_SameInts_p0 (a b : (List Int)) (i_1 : Int) : Option ((Int) ⊕ ((Unit) ⊕ (Unit))) := (bif (decide (i_1 < ((a.length : Nat) : Int))) then gd ((0 : Int) ≤ i_1 ∧ i_1 < ((a.length : Nat) : Int)) (gd ((0 : Int) ≤ i_1 ∧ i_1 < ((b.length : Nat) : Int)) ((bif ((a.getD (Int.toNat i_1) (0 : Int)) != (b.getD (Int.toNat i_1) (0 : Int))) then (some (Sum.inr (Sum.inl ()))) else (some (Sum.inl (w64 (i_1 + (1 : Int)))))))) else (some (Sum.inr (Sum.inr ()))))
theorem z9p0ok (a b : (List Int)) (i_1 : Int) (K : KT) (h : W (ref1_SameInts_p0 a b i_1) (nE (z9l1S a b) (z9l1E a b) K)) : EvL Try.prog 26 (List.drop 0 z9i1) K (z9p0S a b i_1) :=
  EvL.pE mixed (lookC_ok (l := []) trivial) [0, 1, 4, 5] 0 4 (.nf (X := fun K => (bif (decide (i_1 < ((a.length : Nat) : Int))) then ((0 : Int) ≤ i_1) ∧ (i_1 < ((a.length : Nat) : Int)) ∧ ((0 : Int) ≤ i_1) ∧ (i_1 < ((b.length : Nat) : Int)) ∧ ((bif ((a.getD (Int.toNat i_1) (0 : Int)) != (b.getD (Int.toNat i_1) (0 : Int))) then wK K .ret ({ tm := [sv 0 (.c (.sl 1 a.length (lsEl eI64 (0 : Int) a))), sv 1 (.c (.sl 1 b.length (lsEl eI64 (0 : Int) b))), sv 4 (bl false), sv 5 (i64 i_1)], hp := [], nx := 0 }) else wK K .normal (z9l1S a b (w64 (i_1 + (1 : Int)))))) else wK K (.exit 0) ({ tm := [sv 0 (.c (.sl 1 a.length (lsEl eI64 (0 : Int) a))), sv 1 (.c (.sl 1 b.length (lsEl eI64 (0 : Int) b))), sv 5 (i64 i_1)], hp := [], nx := 0 }))) (fun K => by kernel_rfl) (W_bif h (fun _ h => (W_gd2 h fun hp0 h => (W_gd2 h fun hp1 h => (W_bif h (fun _ h => ⟨(z9l1C0 a b ()), (.of (.q rfl .nil) .nil rfl), h⟩) (fun _ h => ⟨_, .refl _, h⟩))))) (fun _ h => ⟨(z9l1C1 a b ()), (.of .nil .nil rfl), h⟩)))
noncomputable def ref1_SameInts_l1 (a b : (List Int)) (s : (Int)) : Option ((Int) ⊕ ((Unit) ⊕ (Unit))) := match s with | i_1 => ref1_SameInts_p0 a b i_1
theorem z9l1ok (a b : (List Int)) (s : (Int)) : Pp Try.prog 26 (List.drop 0 z9i1) (z9l1S a b s) (ref1_SameInts_l1 a b s) (nextE (z9l1S a b) (z9l1E a b)) := fun K h => match s, h with | i_1, h => (z9p0ok a b i_1 _ h)
theorem z9l1Ethen (a b : (List Int)) : ∀ (r : ((Unit) ⊕ (Unit))) (J : St → Prop) (K : KT), z9l1E a b r K → z9l1E a b r (thenK J K)
  | (.inl s), _, _, h => h
  | (.inr s), _, _, h => h
def z9p1S : St := { tm := [], hp := [], nx := 0 }
noncomputable def ref1_SameInts_p1 : Option (Bool) := (some true)
theorem z9p1ok (K : KT) (h : W (ref1_SameInts_p1) (rE z9R K)) : EvL Try.prog 26 (List.drop 5 z9i0) K (z9p1S) :=
  EvL.pE mixed (lookC_ok (l := []) trivial) [4] 5 2 (.nf (X := fun K => wK K .ret (z9R true)) (fun K => by kernel_rfl) (⟨_, .refl _, h⟩))
def z9p2S (a b : (List Int)) : St := { tm := [sv 0 (.c (.sl 1 a.length (lsEl eI64 (0 : Int) a))), sv 1 (.c (.sl 1 b.length (lsEl eI64 (0 : Int) b))), sv 5 (i64 (0 : Int))], hp := [], nx := 0 }
noncomputable def ref1_SameInts_p2_g (a b : (List Int)) (r : ((Unit) ⊕ (Unit))) : Option (Bool) := match r with | (.inl ()) => (some false) | (.inr ()) => ref1_SameInts_p1
noncomputable def ref1_SameInts_p2 (a b : (List Int)) : Option (Bool) := (fixL (ref1_SameInts_l1 a b) (0 : Int)).bind (ref1_SameInts_p2_g a b)
theorem z9p2at : List.drop 4 z9i0 = .block 0 (.loop (inside (inside (nthI z9i0 4)))) :: List.drop 5 z9i0 := by kernel_rfl
theorem z9p2k (a b : (List Int)) (K : KT) : ∀ r : ((Unit) ⊕ (Unit)), W (ref1_SameInts_p2_g a b r) (rE z9R K) → z9l1E a b r (wK (blockK 0 (thenK (EvL Try.prog 26 (List.drop 5 z9i0) K) K)))
  | (.inl ()), h => ⟨(z9R false), (.refl _), h⟩
  | (.inr ()), h => ⟨(z9p1S), (.refl _), (z9p1ok _ h)⟩
theorem z9p2ok (a b : (List Int)) (K : KT) (h : W (ref1_SameInts_p2 a b) (rE z9R K)) : EvL Try.prog 26 (List.drop 4 z9i0) K (z9p2S a b) :=
  EvL.at_ z9p2at (EvL.cons_loop (EvOk.weak (EvOk.ent (.refl _) (EvOk.loopF (x := inside (inside (nthI z9i0 4))) (f := ref1_SameInts_l1 a b) (emb := z9l1S a b) (E := z9l1E a b) (z9l1ok a b) (z9l1Ethen a b) (W_loop h (z9p2k a b K))))))
def z9p3S (a b : (List Int)) : St := { tm := [sv 0 (.c (.sl 1 a.length (lsEl eI64 (0 : Int) a))), sv 1 (.c (.sl 1 b.length (lsEl eI64 (0 : Int) b)))], hp := [], nx := 0 }
noncomputable def ref1_SameInts_p3 (a b : (List Int)) : Option (Bool) := (bif (((a.length : Nat) : Int) != ((b.length : Nat) : Int)) then (some false) else (ref1_SameInts_p2 a b))
theorem z9p3ok (a b : (List Int)) (K : KT) (h : W (ref1_SameInts_p3 a b) (rE z9R K)) : EvL Try.prog 26 (List.drop 0 z9i0) K (z9p3S a b) :=
  EvL.pD mixed (lookC_ok (l := []) trivial) [0, 1, 4, 5] 0 4 4 (.nf (X := fun K => (bif (((a.length : Nat) : Int) != ((b.length : Nat) : Int)) then wK K .ret ({ tm := [sv 0 (.c (.sl 1 a.length (lsEl eI64 (0 : Int) a))), sv 1 (.c (.sl 1 b.length (lsEl eI64 (0 : Int) b))), sv 4 (bl false)], hp := [], nx := 0 }) else wK K .normal ({ tm := [sv 0 (.c (.sl 1 a.length (lsEl eI64 (0 : Int) a))), sv 1 (.c (.sl 1 b.length (lsEl eI64 (0 : Int) b))), sv 4 (bl false), sv 5 (i64 (0 : Int))], hp := [], nx := 0 }))) (fun K => by kernel_rfl) (W_bif h (fun _ h => ⟨(z9R false), (.of (.q rfl .nil) .nil rfl), h⟩) (fun _ h => ⟨(z9p2S a b), (.of (.q rfl (.q rfl (.q rfl .nil))) .nil rfl), (z9p2ok a b _ h)⟩)))
noncomputable def ref1_SameInts (a b : (List Int)) : Option (Bool) := ref1_SameInts_p3 a b
theorem z9run (a b : (List Int)) (y_ : Bool) (h : ref1_SameInts a b = some y_) : EvL Try.prog 26 (items (bodyOf Try.f9)) (retK Try.prog [.tmp 4] (OutOk (ref1_SameInts_out y_))) (z9p3S a b) :=
  z9p3ok a b _ (W_iff.2 ⟨y_, h, z9Rok y_⟩)
noncomputable def ref1_SameInts_C : Con
  | [(.c (.sl k1 n2 e3)), (.c (.sl k4 n5 e6))] => some ([LstOk eI64 dI64 1 k1 n2 e3, LstOk eI64 dI64 1 k4 n5 e6, (ref1_SameInts (lst dI64 n2 e3) (lst dI64 n5 e6)).isSome = true], (ref1_SameInts_out ((ref1_SameInts (lst dI64 n2 e3) (lst dI64 n5 e6)).getD false)))
  | _ => none
theorem ref1_SameInts_ok : Meets Try.prog 9 ref1_SameInts_C := by
  refine meets_fun (fn := Try.f9) (c := bodyOf Try.f9) (by kernel_rfl) (by kernel_rfl) (by kernel_rfl) (rs := [.tmp 4]) (by kernel_rfl) (nt := 26) (by kernel_rfl) fun vs p out h hp => ?_
  unfold ref1_SameInts_C at h
  split at h
  · next k1 n2 e3 k4 n5 e6 =>
    cases h
    obtain ⟨g0, hp⟩ := allq hp
    obtain ⟨g1, hp⟩ := allq hp
    obtain ⟨g, hp⟩ := allq hp
    obtain ⟨x, hx⟩ := Option.isSome_iff_exists.1 g
    rw [hx]
    exact ⟨[(.c (.sl 1 ((lst dI64 n2 e3)).length (lsEl eI64 (0 : Int) (lst dI64 n2 e3)))), (.c (.sl 1 ((lst dI64 n5 e6)).length (lsEl eI64 (0 : Int) (lst dI64 n5 e6))))], (VLes.cons (VLe.slk g0.1 (RowIs.of_ok g0)) (VLes.cons (VLe.slk g1.1 (RowIs.of_ok g1)) VLes.nil)), rfl, z9run (lst dI64 n2 e3) (lst dI64 n5 e6) x hx⟩
  · cases h

noncomputable def z3i0 : List Code := items (bodyOf Try.f3)
def law13_CareerFamily_out (x_1 : Bool) : Out := .data (bl x_1)
def z3R (x_1 : Bool) : St := { tm := [sv 6 (bl x_1)], hp := [], nx := 0 }
theorem z3Rok (x_1 : Bool) : retK Try.prog [.tmp 6] (OutOk (law13_CareerFamily_out x_1)) .ret (z3R x_1) :=
  retK.intro (v := (bl x_1)) (by kernel_rfl) ((VLe.rfl' _))
def z3p0S (t6 : Bool) : St := { tm := [sv 6 (bl t6)], hp := [], nx := 0 }
noncomputable def law13_CareerFamily_p0 (t6 : Bool) : Option (Bool) := (some t6)
theorem z3p0ok (t6 : Bool) (K : KT) (h : W (law13_CareerFamily_p0 t6) (rE z3R K)) : EvL Try.prog 53 (List.drop 7 z3i0) K (z3p0S t6) :=
  EvL.pE mixed (lookC_ok (l := []) trivial) [6] 7 1 (.nf (X := fun K => wK K .ret (z3R t6)) (fun K => by kernel_rfl) (⟨_, .refl _, h⟩))
def z3p1S (day_1 : Int) (a : (List GFact)) : St := { tm := [sv 2 (i64 day_1), sv 7 (.row 0 14 0 a.length)], hp := [(0, some (.row 38 14 a.length (lsEl eGFact zGFact a)))], nx := 1 }
noncomputable def law13_CareerFamily_p1 (day_1 : Int) (a : (List GFact)) : Option (Bool) := (career_Residence a day_1).bind fun r_3 => ((ref12_Residence a day_1).bind fun r_4 => ((law13_awake).bind fun r_5 => ((bif r_5 then (bif (r_3.1 == r_4.1) then (bif (r_3.2 == r_4.2) then (career_Children a day_1).bind fun r_6 => ((ref12_Children a day_1).bind fun r_7 => ((ref1_SameInts r_6 r_7).bind fun r_8 => ((law13_CareerFamily_p0 r_8)))) else (law13_CareerFamily_p0 false)) else (law13_CareerFamily_p0 false)) else (law13_CareerFamily_p0 false)))))
theorem z3p1nf (day_1 : Int) (a : (List GFact)) (K : KT) (L1_ : List GFact) (hL1_ : lst dGFact a.length (fun i => (lsEl eGFact zGFact a) (0 + i)) = L1_) (L2_ : List GFact) (hL2_ : lst dGFact a.length (fun i => (lsEl eGFact zGFact a) (0 + i)) = L2_) (L3_ : List GFact) (hL3_ : lst dGFact a.length (fun i => (lsEl eGFact zGFact a) (0 + i)) = L3_) (L4_ : List GFact) (hL4_ : lst dGFact a.length (fun i => (lsEl eGFact zGFact a) (0 + i)) = L4_) (L5_ : List Int) (hL5_ : lst dI64 ((((career_Children L3_ day_1).getD ([] : List Int))).length) (fun i => (lsEl eI64 (0 : Int) ((career_Children L3_ day_1).getD ([] : List Int))) (0 + i)) = L5_) (L6_ : List Int) (hL6_ : lst dI64 ((((ref12_Children L4_ day_1).getD ([] : List Int))).length) (fun i => (lsEl eI64 (0 : Int) ((ref12_Children L4_ day_1).getD ([] : List Int))) (0 + i)) = L6_) :
    ev Try.prog (lookC [(6, .pure career_Residence_C), (7, .pure ref12_Residence_C), (8, .pure law13_awake_C), (9, .pure ref1_SameInts_C), (10, .pure career_Children_C), (11, .pure ref12_Children_C)]) 53 (ofItems ((List.drop 4 z3i0).take 3)) (cN [6] K) (z3p1S day_1 a) =
    ((LstOk eGFact dGFact 14 14 a.length (fun i => (lsEl eGFact zGFact a) (0 + i))) ∧ ((career_Residence L1_ day_1).isSome = true) ∧ ((LstOk eGFact dGFact 14 14 a.length (fun i => (lsEl eGFact zGFact a) (0 + i))) ∧ ((ref12_Residence L2_ day_1).isSome = true) ∧ (((law13_awake).isSome = true) ∧ ((bif ((law13_awake).getD false) then (bif (((career_Residence L1_ day_1).getD ((0 : Int), false)).1 == ((ref12_Residence L2_ day_1).getD ((0 : Int), false)).1) then (bif (((career_Residence L1_ day_1).getD ((0 : Int), false)).2 == ((ref12_Residence L2_ day_1).getD ((0 : Int), false)).2) then (LstOk eGFact dGFact 14 14 a.length (fun i => (lsEl eGFact zGFact a) (0 + i))) ∧ ((career_Children L3_ day_1).isSome = true) ∧ ((LstOk eGFact dGFact 14 14 a.length (fun i => (lsEl eGFact zGFact a) (0 + i))) ∧ ((ref12_Children L4_ day_1).isSome = true) ∧ ((LstOk eI64 dI64 1 1 ((((career_Children L3_ day_1).getD ([] : List Int))).length) (fun i => (lsEl eI64 (0 : Int) ((career_Children L3_ day_1).getD ([] : List Int))) (0 + i))) ∧ (LstOk eI64 dI64 1 1 ((((ref12_Children L4_ day_1).getD ([] : List Int))).length) (fun i => (lsEl eI64 (0 : Int) ((ref12_Children L4_ day_1).getD ([] : List Int))) (0 + i))) ∧ ((ref1_SameInts L5_ L6_).isSome = true) ∧ (wK K .normal (z3p0S ((ref1_SameInts L5_ L6_).getD false))))) else wK K .normal (z3p0S false)) else wK K .normal (z3p0S false)) else wK K .normal (z3p0S false)))))) := by subst hL1_ hL2_ hL3_ hL4_ hL5_ hL6_; kernel_rfl
theorem z3p1ok (day_1 : Int) (a : (List GFact)) (K : KT) (h : W (law13_CareerFamily_p1 day_1 a) (rE z3R K)) : EvL Try.prog 53 (List.drop 4 z3i0) K (z3p1S day_1 a) :=
  EvL.pD mixed (lookC_ok (l := [(6, .pure career_Residence_C), (7, .pure ref12_Residence_C), (8, .pure law13_awake_C), (9, .pure ref1_SameInts_C), (10, .pure career_Children_C), (11, .pure ref12_Children_C)]) ⟨career_Residence_ok, ref12_Residence_ok, law13_awake_ok, ref1_SameInts_ok, career_Children_ok, ref12_Children_ok, trivial⟩) [6] 4 3 7 (.of (z3p1nf day_1 a _ _ (RowIs.lst dGFact_eGFact (RowIs.zero (RowIs.ls eGFact zGFact a))) _ (RowIs.lst dGFact_eGFact (RowIs.zero (RowIs.ls eGFact zGFact a))) _ (RowIs.lst dGFact_eGFact (RowIs.zero (RowIs.ls eGFact zGFact a))) _ (RowIs.lst dGFact_eGFact (RowIs.zero (RowIs.ls eGFact zGFact a))) _ (RowIs.lst dI64_eI64 (RowIs.zero (RowIs.ls eI64 (0 : Int) ((career_Children a day_1).getD ([] : List Int))))) _ (RowIs.lst dI64_eI64 (RowIs.zero (RowIs.ls eI64 (0 : Int) ((ref12_Children a day_1).getD ([] : List Int)))))) (⟨RowIs.ok dGFact_eGFact (RowIs.zero (RowIs.ls eGFact zGFact a)), (W_bind ((0 : Int), false) h fun hp0 h => ⟨RowIs.ok dGFact_eGFact (RowIs.zero (RowIs.ls eGFact zGFact a)), (W_bind ((0 : Int), false) h fun hp1 h => (W_bind false h fun hp2 h => (W_bif h (fun _ h => (W_bif h (fun _ h => (W_bif h (fun _ h => ⟨RowIs.ok dGFact_eGFact (RowIs.zero (RowIs.ls eGFact zGFact a)), (W_bind ([] : List Int) h fun hp3 h => ⟨RowIs.ok dGFact_eGFact (RowIs.zero (RowIs.ls eGFact zGFact a)), (W_bind ([] : List Int) h fun hp4 h => ⟨RowIs.ok dI64_eI64 (RowIs.zero (RowIs.ls eI64 (0 : Int) ((career_Children a day_1).getD ([] : List Int)))), ⟨RowIs.ok dI64_eI64 (RowIs.zero (RowIs.ls eI64 (0 : Int) ((ref12_Children a day_1).getD ([] : List Int)))), (W_bind false h fun hp5 h => ⟨_, .refl _, (z3p0ok ((ref1_SameInts ((career_Children a day_1).getD ([] : List Int)) ((ref12_Children a day_1).getD ([] : List Int))).getD false) _ h)⟩)⟩⟩)⟩)⟩) (fun _ h => ⟨_, .refl _, (z3p0ok false _ h)⟩))) (fun _ h => ⟨_, .refl _, (z3p0ok false _ h)⟩))) (fun _ h => ⟨_, .refl _, (z3p0ok false _ h)⟩))))⟩)⟩))
def z3p2S (l : (List GPensionhand_Fact)) (n : (List Int)) (day : Int) : St := { tm := [sv 0 (.c (.sl 13 l.length (lsEl eGPensionhand_Fact zGPensionhand_Fact l))), sv 1 (.c (.sl 1 n.length (lsEl eI64 (0 : Int) n))), sv 2 (i64 day)], hp := [], nx := 0 }
noncomputable def law13_CareerFamily_p2 (l : (List GPensionhand_Fact)) (n : (List Int)) (day : Int) : Option (Bool) := (law13_alone l n).bind fun r_1 => ((bif ((Int.tmod day (8 : Int)) != (0 : Int)) then (made_Pick day (25000 : Int)).bind fun r_2 => ((law13_CareerFamily_p1 (w64 ((20000 : Int) + r_2)) r_1)) else (law13_CareerFamily_p1 day r_1)))
theorem z3p2nf (l : (List GPensionhand_Fact)) (n : (List Int)) (day : Int) (K : KT) (L1_ : List GPensionhand_Fact) (hL1_ : lst dGPensionhand_Fact l.length (lsEl eGPensionhand_Fact zGPensionhand_Fact l) = L1_) (L2_ : List Int) (hL2_ : lst dI64 n.length (lsEl eI64 (0 : Int) n) = L2_) :
    ev Try.prog (lookC [(4, .pure law13_alone_C), (5, .pure made_Pick_C)]) 53 (ofItems ((List.drop 0 z3i0).take 4)) (cN [2, 7, 35, 36, 37, 40, 41, 42, 45, 46, 47, 48, 49, 50, 51] K) (z3p2S l n day) =
    ((LstOk eGPensionhand_Fact dGPensionhand_Fact 13 13 l.length (lsEl eGPensionhand_Fact zGPensionhand_Fact l)) ∧ (LstOk eI64 dI64 1 1 n.length (lsEl eI64 (0 : Int) n)) ∧ ((law13_alone L1_ L2_).isSome = true) ∧ (((8 : Int) ≠ (0 : Int)) ∧ ((bif ((Int.tmod day (8 : Int)) != (0 : Int)) then ((made_Pick day (25000 : Int)).isSome = true) ∧ (wK K .normal (z3p1S (w64 ((20000 : Int) + ((made_Pick day (25000 : Int)).getD (0 : Int)))) ((law13_alone L1_ L2_).getD ([] : List GFact)))) else wK K .normal (z3p1S day ((law13_alone L1_ L2_).getD ([] : List GFact))))))) := by subst hL1_ hL2_; kernel_rfl
theorem z3p2ok (l : (List GPensionhand_Fact)) (n : (List Int)) (day : Int) (K : KT) (h : W (law13_CareerFamily_p2 l n day) (rE z3R K)) : EvL Try.prog 53 (List.drop 0 z3i0) K (z3p2S l n day) :=
  EvL.pD mixed (lookC_ok (l := [(4, .pure law13_alone_C), (5, .pure made_Pick_C)]) ⟨law13_alone_ok, made_Pick_ok, trivial⟩) [2, 7, 35, 36, 37, 40, 41, 42, 45, 46, 47, 48, 49, 50, 51] 0 4 4 (.of (z3p2nf l n day _ _ (RowIs.lst dGPensionhand_Fact_eGPensionhand_Fact (RowIs.ls eGPensionhand_Fact zGPensionhand_Fact l)) _ (RowIs.lst dI64_eI64 (RowIs.ls eI64 (0 : Int) n))) (⟨RowIs.ok dGPensionhand_Fact_eGPensionhand_Fact (RowIs.ls eGPensionhand_Fact zGPensionhand_Fact l), ⟨RowIs.ok dI64_eI64 (RowIs.ls eI64 (0 : Int) n), (W_bind ([] : List GFact) h fun hp0 h => ⟨(by decide), (W_bif h (fun _ h => (W_bind (0 : Int) h fun hp1 h => ⟨_, .refl _, (z3p1ok (w64 ((20000 : Int) + ((made_Pick day (25000 : Int)).getD (0 : Int)))) ((law13_alone l n).getD ([] : List GFact)) _ h)⟩)) (fun _ h => ⟨_, .refl _, (z3p1ok day ((law13_alone l n).getD ([] : List GFact)) _ h)⟩))⟩)⟩⟩))
noncomputable def law13_CareerFamily (l : (List GPensionhand_Fact)) (n : (List Int)) (day : Int) : Option (Bool) := law13_CareerFamily_p2 l n day
theorem z3run (l : (List GPensionhand_Fact)) (n : (List Int)) (day : Int) (y_ : Bool) (h : law13_CareerFamily l n day = some y_) : EvL Try.prog 53 (items (bodyOf Try.f3)) (retK Try.prog [.tmp 6] (OutOk (law13_CareerFamily_out y_))) (z3p2S l n day) :=
  z3p2ok l n day _ (W_iff.2 ⟨y_, h, z3Rok y_⟩)
noncomputable def law13_CareerFamily_C : Con
  | [(.c (.sl k1 n2 e3)), (.c (.sl k4 n5 e6)), (.c (.lit (.int .i64 a7)))] => some ([LstOk eGPensionhand_Fact dGPensionhand_Fact 13 k1 n2 e3, LstOk eI64 dI64 1 k4 n5 e6, (law13_CareerFamily (lst dGPensionhand_Fact n2 e3) (lst dI64 n5 e6) a7).isSome = true], (law13_CareerFamily_out ((law13_CareerFamily (lst dGPensionhand_Fact n2 e3) (lst dI64 n5 e6) a7).getD false)))
  | _ => none
theorem law13_CareerFamily_ok : Meets Try.prog 3 law13_CareerFamily_C := by
  refine meets_fun (fn := Try.f3) (c := bodyOf Try.f3) (by kernel_rfl) (by kernel_rfl) (by kernel_rfl) (rs := [.tmp 6]) (by kernel_rfl) (nt := 53) (by kernel_rfl) fun vs p out h hp => ?_
  unfold law13_CareerFamily_C at h
  split at h
  · next k1 n2 e3 k4 n5 e6 a7 =>
    cases h
    obtain ⟨g0, hp⟩ := allq hp
    obtain ⟨g1, hp⟩ := allq hp
    obtain ⟨g, hp⟩ := allq hp
    obtain ⟨x, hx⟩ := Option.isSome_iff_exists.1 g
    rw [hx]
    exact ⟨[(.c (.sl 13 ((lst dGPensionhand_Fact n2 e3)).length (lsEl eGPensionhand_Fact zGPensionhand_Fact (lst dGPensionhand_Fact n2 e3)))), (.c (.sl 1 ((lst dI64 n5 e6)).length (lsEl eI64 (0 : Int) (lst dI64 n5 e6)))), (i64 a7)], (VLes.cons (VLe.slk g0.1 (RowIs.of_ok g0)) (VLes.cons (VLe.slk g1.1 (RowIs.of_ok g1)) (VLes.cons (VLe.rfl' _) VLes.nil))), rfl, z3run (lst dGPensionhand_Fact n2 e3) (lst dI64 n5 e6) a7 x hx⟩
  · cases h

end Go.Ax
