import Derived.Test.YtefjkielgagknaaGreatF3
import Derived.Test.YtefjkielgagknaaGreatLay
import Derived.Test.YtefjkielgagknaaGreatRows
/- Types of the program, and functions of it: printed by a program, checked by the kernel. -/
set_option linter.all false
set_option maxRecDepth 100000
namespace Go.Ax
open Go.Proofs Go.Proofs.YtefjkielgagknaaGreat
noncomputable def z92i0 : List Code := items (bodyOf Tryz.f92)
noncomputable def z92i1 : List Code := items (inside (inside (nthI z92i0 10)))
def fact_Bytes_out (x_1 : (List Int)) : Out := .own true 5 1 (x_1).length (lsEl eU8 (0 : Int) x_1)
def z92R (x_1 : (List Int)) : St := { tm := [sv 2 (.row 0 1 0 x_1.length)], hp := [(0, some (.row 5 1 x_1.length (lsEl eU8 (0 : Int) x_1)))], nx := 1 }
theorem z92Rok (x_1 : (List Int)) : retK Tryz.prog [.tmp 2] (OutOk (fact_Bytes_out x_1)) .ret (z92R x_1) :=
  retK.intro (v := (.row 0 1 0 x_1.length)) (by kernel_rfl) (⟨_, _, _, rfl, rfl, rfl, fun _ _ => rfl, fun _ i hi d hd => scal_U8 _ d hd⟩)
def z92l1S (b : (List Int)) (f : GFact) (t34 : ByteArray) (s : ((List Int) × Nat)) : St := match s with | (b_1, t34_1) => { tm := [sv 1 (.ptr 0 14 0 0), sv 4 (.row 1 1 0 b_1.length), sv 34 (.ptr 2 1 0 0)], hp := [(0, some (.box [(i64 f.Issuer), (i64 f.Number), (i64 f.Version), (bl f.Withdrawn), (i64 f.Person), (i64 f.Kind), (i64 f.State), (i64 f.Span.From), (i64 f.Span.To), (i64 f.Seat), (i64 f.Share), (i64 f.Currency), (i64 f.Amount), (i64 f.Ref)])), (1, some (.row 5 1 b_1.length (lsEl eU8 (0 : Int) b_1))), (2, some (.raw (.stringIter t34 t34_1)))], nx := 3 }
def z92l1C0 (b : (List Int)) (f : GFact) (t34 : ByteArray) (s : (List Int)) : St := match s with | b_2 => { tm := [sv 4 (.row 0 1 0 b_2.length)], hp := [(0, some (.row 5 1 b_2.length (lsEl eU8 (0 : Int) b_2)))], nx := 1 }
def z92l1E (b : (List Int)) (f : GFact) (t34 : ByteArray) (r : (((List Int)))) (K : KT) : Prop := match r with | s => K (.exit 0) (z92l1C0 b f t34 s)
def z92p0S (b_1 : (List Int)) (f : GFact) (t34 : ByteArray) (t34_1 : Nat) : St := { tm := [sv 1 (.ptr 0 14 0 0), sv 4 (.row 1 1 0 b_1.length), sv 34 (.ptr 2 1 0 0)], hp := [(0, some (.box [(i64 f.Issuer), (i64 f.Number), (i64 f.Version), (bl f.Withdrawn), (i64 f.Person), (i64 f.Kind), (i64 f.State), (i64 f.Span.From), (i64 f.Span.To), (i64 f.Seat), (i64 f.Share), (i64 f.Currency), (i64 f.Amount), (i64 f.Ref)])), (1, some (.row 5 1 b_1.length (lsEl eU8 (0 : Int) b_1))), (2, some (.raw (.stringIter t34 t34_1)))], nx := 3 }
noncomputable def fact_Bytes_p0 (b_1 : (List Int)) (f : GFact) (t34 : ByteArray) (t34_1 : Nat) : Option (((List Int) × Nat) ⊕ (((List Int)))) := (bif (Nat.blt t34_1 t34.size) then gd ((Nat.blt t34_1 t34.size) = true) ((bif ((runeAt t34 t34_1) == (83 : Int)) then (fact_appendNumbers b_1 (1 : Int) ([f.State] : List Int)).bind fun r_6 => ((some (Sum.inl (r_6, (bif (Nat.blt t34_1 t34.size) then (t34_1 + (runeW t34 t34_1)) else t34_1))))) else (bif ((runeAt t34 t34_1) == (80 : Int)) then (fact_appendNumbers b_1 (3 : Int) ([f.Span.From, f.Span.To] : List Int)).bind fun r_7 => ((some (Sum.inl (r_7, (bif (Nat.blt t34_1 t34.size) then (t34_1 + (runeW t34 t34_1)) else t34_1))))) else (bif ((runeAt t34 t34_1) == (84 : Int)) then (fact_appendNumbers b_1 (1 : Int) ([f.Seat] : List Int)).bind fun r_8 => ((some (Sum.inl (r_8, (bif (Nat.blt t34_1 t34.size) then (t34_1 + (runeW t34 t34_1)) else t34_1))))) else (bif ((runeAt t34 t34_1) == (72 : Int)) then (fact_appendNumbers b_1 (1 : Int) ([f.Share] : List Int)).bind fun r_9 => ((some (Sum.inl (r_9, (bif (Nat.blt t34_1 t34.size) then (t34_1 + (runeW t34 t34_1)) else t34_1))))) else (bif ((runeAt t34 t34_1) == (67 : Int)) then (fact_appendNumbers b_1 (2 : Int) ([f.Currency] : List Int)).bind fun r_10 => ((some (Sum.inl (r_10, (bif (Nat.blt t34_1 t34.size) then (t34_1 + (runeW t34 t34_1)) else t34_1))))) else (bif ((runeAt t34 t34_1) == (65 : Int)) then (fact_appendNumbers b_1 (4 : Int) ([f.Amount] : List Int)).bind fun r_11 => ((some (Sum.inl (r_11, (bif (Nat.blt t34_1 t34.size) then (t34_1 + (runeW t34 t34_1)) else t34_1))))) else (bif ((runeAt t34 t34_1) == (82 : Int)) then (fact_appendNumbers b_1 (1 : Int) ([f.Ref] : List Int)).bind fun r_12 => ((some (Sum.inl (r_12, (bif (Nat.blt t34_1 t34.size) then (t34_1 + (runeW t34 t34_1)) else t34_1))))) else (some (Sum.inl (b_1, (bif (Nat.blt t34_1 t34.size) then (t34_1 + (runeW t34 t34_1)) else t34_1)))))))))))) else (some (Sum.inr b_1)))
theorem z92p0nf (b_1 : (List Int)) (f : GFact) (t34 : ByteArray) (t34_1 : Nat) (b : (List Int)) (K : KT) (L1_ : List Int) (hL1_ : lst dU8 b_1.length (lsEl eU8 (0 : Int) b_1) = L1_) (L2_ : List Int) (hL2_ : lst dI64 1 (fun i => (lsEl eI64 (0 : Int) ([f.State] : List Int)) (0 + i)) = L2_) (L3_ : List Int) (hL3_ : lst dU8 b_1.length (lsEl eU8 (0 : Int) b_1) = L3_) (L4_ : List Int) (hL4_ : lst dI64 2 (fun i => (lsEl eI64 (0 : Int) ([f.Span.From, f.Span.To] : List Int)) (0 + i)) = L4_) (L5_ : List Int) (hL5_ : lst dU8 b_1.length (lsEl eU8 (0 : Int) b_1) = L5_) (L6_ : List Int) (hL6_ : lst dI64 1 (fun i => (lsEl eI64 (0 : Int) ([f.Seat] : List Int)) (0 + i)) = L6_) (L7_ : List Int) (hL7_ : lst dU8 b_1.length (lsEl eU8 (0 : Int) b_1) = L7_) (L8_ : List Int) (hL8_ : lst dI64 1 (fun i => (lsEl eI64 (0 : Int) ([f.Share] : List Int)) (0 + i)) = L8_) (L9_ : List Int) (hL9_ : lst dU8 b_1.length (lsEl eU8 (0 : Int) b_1) = L9_) (L10_ : List Int) (hL10_ : lst dI64 1 (fun i => (lsEl eI64 (0 : Int) ([f.Currency] : List Int)) (0 + i)) = L10_) (L11_ : List Int) (hL11_ : lst dU8 b_1.length (lsEl eU8 (0 : Int) b_1) = L11_) (L12_ : List Int) (hL12_ : lst dI64 1 (fun i => (lsEl eI64 (0 : Int) ([f.Amount] : List Int)) (0 + i)) = L12_) (L13_ : List Int) (hL13_ : lst dU8 b_1.length (lsEl eU8 (0 : Int) b_1) = L13_) (L14_ : List Int) (hL14_ : lst dI64 1 (fun i => (lsEl eI64 (0 : Int) ([f.Ref] : List Int)) (0 + i)) = L14_) :
    ev Tryz.prog (lookC [(107, .mut fact_appendNumbers_C)]) 93 (ofItems ((List.drop 0 z92i1).take 3)) (cN [1, 4, 34] K) (z92p0S b_1 f t34 t34_1) =
    ((bif (Nat.blt t34_1 t34.size) then ((Nat.blt t34_1 t34.size) = true) ∧ ((bif ((runeAt t34 t34_1) == (83 : Int)) then (b_1.length = b_1.length) ∧ (LstOk eU8 dU8 1 1 b_1.length (lsEl eU8 (0 : Int) b_1)) ∧ (LstOk eI64 dI64 1 1 1 (fun i => (lsEl eI64 (0 : Int) ([f.State] : List Int)) (0 + i))) ∧ ((fact_appendNumbers L1_ (1 : Int) L2_).isSome = true) ∧ (wK K .normal (z92l1S b f t34 (((fact_appendNumbers L1_ (1 : Int) L2_).getD ([] : List Int)), (bif (Nat.blt t34_1 t34.size) then (t34_1 + (runeW t34 t34_1)) else t34_1)))) else (bif ((runeAt t34 t34_1) == (80 : Int)) then (b_1.length = b_1.length) ∧ (LstOk eU8 dU8 1 1 b_1.length (lsEl eU8 (0 : Int) b_1)) ∧ (LstOk eI64 dI64 1 1 2 (fun i => (lsEl eI64 (0 : Int) ([f.Span.From, f.Span.To] : List Int)) (0 + i))) ∧ ((fact_appendNumbers L3_ (3 : Int) L4_).isSome = true) ∧ (wK K .normal (z92l1S b f t34 (((fact_appendNumbers L3_ (3 : Int) L4_).getD ([] : List Int)), (bif (Nat.blt t34_1 t34.size) then (t34_1 + (runeW t34 t34_1)) else t34_1)))) else (bif ((runeAt t34 t34_1) == (84 : Int)) then (b_1.length = b_1.length) ∧ (LstOk eU8 dU8 1 1 b_1.length (lsEl eU8 (0 : Int) b_1)) ∧ (LstOk eI64 dI64 1 1 1 (fun i => (lsEl eI64 (0 : Int) ([f.Seat] : List Int)) (0 + i))) ∧ ((fact_appendNumbers L5_ (1 : Int) L6_).isSome = true) ∧ (wK K .normal (z92l1S b f t34 (((fact_appendNumbers L5_ (1 : Int) L6_).getD ([] : List Int)), (bif (Nat.blt t34_1 t34.size) then (t34_1 + (runeW t34 t34_1)) else t34_1)))) else (bif ((runeAt t34 t34_1) == (72 : Int)) then (b_1.length = b_1.length) ∧ (LstOk eU8 dU8 1 1 b_1.length (lsEl eU8 (0 : Int) b_1)) ∧ (LstOk eI64 dI64 1 1 1 (fun i => (lsEl eI64 (0 : Int) ([f.Share] : List Int)) (0 + i))) ∧ ((fact_appendNumbers L7_ (1 : Int) L8_).isSome = true) ∧ (wK K .normal (z92l1S b f t34 (((fact_appendNumbers L7_ (1 : Int) L8_).getD ([] : List Int)), (bif (Nat.blt t34_1 t34.size) then (t34_1 + (runeW t34 t34_1)) else t34_1)))) else (bif ((runeAt t34 t34_1) == (67 : Int)) then (b_1.length = b_1.length) ∧ (LstOk eU8 dU8 1 1 b_1.length (lsEl eU8 (0 : Int) b_1)) ∧ (LstOk eI64 dI64 1 1 1 (fun i => (lsEl eI64 (0 : Int) ([f.Currency] : List Int)) (0 + i))) ∧ ((fact_appendNumbers L9_ (2 : Int) L10_).isSome = true) ∧ (wK K .normal (z92l1S b f t34 (((fact_appendNumbers L9_ (2 : Int) L10_).getD ([] : List Int)), (bif (Nat.blt t34_1 t34.size) then (t34_1 + (runeW t34 t34_1)) else t34_1)))) else (bif ((runeAt t34 t34_1) == (65 : Int)) then (b_1.length = b_1.length) ∧ (LstOk eU8 dU8 1 1 b_1.length (lsEl eU8 (0 : Int) b_1)) ∧ (LstOk eI64 dI64 1 1 1 (fun i => (lsEl eI64 (0 : Int) ([f.Amount] : List Int)) (0 + i))) ∧ ((fact_appendNumbers L11_ (4 : Int) L12_).isSome = true) ∧ (wK K .normal (z92l1S b f t34 (((fact_appendNumbers L11_ (4 : Int) L12_).getD ([] : List Int)), (bif (Nat.blt t34_1 t34.size) then (t34_1 + (runeW t34 t34_1)) else t34_1)))) else (bif ((runeAt t34 t34_1) == (82 : Int)) then (b_1.length = b_1.length) ∧ (LstOk eU8 dU8 1 1 b_1.length (lsEl eU8 (0 : Int) b_1)) ∧ (LstOk eI64 dI64 1 1 1 (fun i => (lsEl eI64 (0 : Int) ([f.Ref] : List Int)) (0 + i))) ∧ ((fact_appendNumbers L13_ (1 : Int) L14_).isSome = true) ∧ (wK K .normal (z92l1S b f t34 (((fact_appendNumbers L13_ (1 : Int) L14_).getD ([] : List Int)), (bif (Nat.blt t34_1 t34.size) then (t34_1 + (runeW t34 t34_1)) else t34_1)))) else wK K .normal (z92l1S b f t34 (b_1, (bif (Nat.blt t34_1 t34.size) then (t34_1 + (runeW t34 t34_1)) else t34_1))))))))))) else wK K (.exit 0) ({ tm := [sv 1 (.ptr 0 14 0 0), sv 4 (.row 1 1 0 b_1.length), sv 34 (.ptr 2 1 0 0)], hp := [(0, some (.box [(i64 f.Issuer), (i64 f.Number), (i64 f.Version), (bl f.Withdrawn), (i64 f.Person), (i64 f.Kind), (i64 f.State), (i64 f.Span.From), (i64 f.Span.To), (i64 f.Seat), (i64 f.Share), (i64 f.Currency), (i64 f.Amount), (i64 f.Ref)])), (1, some (.row 5 1 b_1.length (lsEl eU8 (0 : Int) b_1))), (2, some (.raw (.stringIter t34 (bif (Nat.blt t34_1 t34.size) then (t34_1 + (runeW t34 t34_1)) else t34_1))))], nx := 3 }))) := by subst hL1_ hL2_ hL3_ hL4_ hL5_ hL6_ hL7_ hL8_ hL9_ hL10_ hL11_ hL12_ hL13_ hL14_; kernel_rfl
theorem z92p0ok (b_1 : (List Int)) (f : GFact) (t34 : ByteArray) (t34_1 : Nat) (b : (List Int)) (K : KT) (h : W (fact_Bytes_p0 b_1 f t34 t34_1) (nE (z92l1S b f t34) (z92l1E b f t34) K)) : EvL Tryz.prog 93 (List.drop 0 z92i1) K (z92p0S b_1 f t34 t34_1) :=
  EvL.pE mixed (lookC_ok (l := [(107, .mut fact_appendNumbers_C)]) ⟨fact_appendNumbers_ok, trivial⟩) [1, 4, 34] 0 3 (.of (z92p0nf b_1 f t34 t34_1 b _ _ (RowIs.lst dU8_eU8 (RowIs.ls eU8 (0 : Int) b_1)) _ (RowIs.lst dI64_eI64 (RowIs.zero (RowIs.ls eI64 (0 : Int) ([f.State] : List Int)))) _ (RowIs.lst dU8_eU8 (RowIs.ls eU8 (0 : Int) b_1)) _ (RowIs.lst dI64_eI64 (RowIs.zero (RowIs.ls eI64 (0 : Int) ([f.Span.From, f.Span.To] : List Int)))) _ (RowIs.lst dU8_eU8 (RowIs.ls eU8 (0 : Int) b_1)) _ (RowIs.lst dI64_eI64 (RowIs.zero (RowIs.ls eI64 (0 : Int) ([f.Seat] : List Int)))) _ (RowIs.lst dU8_eU8 (RowIs.ls eU8 (0 : Int) b_1)) _ (RowIs.lst dI64_eI64 (RowIs.zero (RowIs.ls eI64 (0 : Int) ([f.Share] : List Int)))) _ (RowIs.lst dU8_eU8 (RowIs.ls eU8 (0 : Int) b_1)) _ (RowIs.lst dI64_eI64 (RowIs.zero (RowIs.ls eI64 (0 : Int) ([f.Currency] : List Int)))) _ (RowIs.lst dU8_eU8 (RowIs.ls eU8 (0 : Int) b_1)) _ (RowIs.lst dI64_eI64 (RowIs.zero (RowIs.ls eI64 (0 : Int) ([f.Amount] : List Int)))) _ (RowIs.lst dU8_eU8 (RowIs.ls eU8 (0 : Int) b_1)) _ (RowIs.lst dI64_eI64 (RowIs.zero (RowIs.ls eI64 (0 : Int) ([f.Ref] : List Int))))) (W_bif h (fun _ h => (W_gd h fun hp0 h => (W_bif h (fun _ h => ⟨(rfl), ⟨RowIs.ok dU8_eU8 (RowIs.ls eU8 (0 : Int) b_1), ⟨RowIs.ok dI64_eI64 (RowIs.zero (RowIs.ls eI64 (0 : Int) ([f.State] : List Int))), (W_bind ([] : List Int) h fun hp1 h => ⟨_, .refl _, h⟩)⟩⟩⟩) (fun _ h => (W_bif h (fun _ h => ⟨(rfl), ⟨RowIs.ok dU8_eU8 (RowIs.ls eU8 (0 : Int) b_1), ⟨RowIs.ok dI64_eI64 (RowIs.zero (RowIs.ls eI64 (0 : Int) ([f.Span.From, f.Span.To] : List Int))), (W_bind ([] : List Int) h fun hp2 h => ⟨_, .refl _, h⟩)⟩⟩⟩) (fun _ h => (W_bif h (fun _ h => ⟨(rfl), ⟨RowIs.ok dU8_eU8 (RowIs.ls eU8 (0 : Int) b_1), ⟨RowIs.ok dI64_eI64 (RowIs.zero (RowIs.ls eI64 (0 : Int) ([f.Seat] : List Int))), (W_bind ([] : List Int) h fun hp3 h => ⟨_, .refl _, h⟩)⟩⟩⟩) (fun _ h => (W_bif h (fun _ h => ⟨(rfl), ⟨RowIs.ok dU8_eU8 (RowIs.ls eU8 (0 : Int) b_1), ⟨RowIs.ok dI64_eI64 (RowIs.zero (RowIs.ls eI64 (0 : Int) ([f.Share] : List Int))), (W_bind ([] : List Int) h fun hp4 h => ⟨_, .refl _, h⟩)⟩⟩⟩) (fun _ h => (W_bif h (fun _ h => ⟨(rfl), ⟨RowIs.ok dU8_eU8 (RowIs.ls eU8 (0 : Int) b_1), ⟨RowIs.ok dI64_eI64 (RowIs.zero (RowIs.ls eI64 (0 : Int) ([f.Currency] : List Int))), (W_bind ([] : List Int) h fun hp5 h => ⟨_, .refl _, h⟩)⟩⟩⟩) (fun _ h => (W_bif h (fun _ h => ⟨(rfl), ⟨RowIs.ok dU8_eU8 (RowIs.ls eU8 (0 : Int) b_1), ⟨RowIs.ok dI64_eI64 (RowIs.zero (RowIs.ls eI64 (0 : Int) ([f.Amount] : List Int))), (W_bind ([] : List Int) h fun hp6 h => ⟨_, .refl _, h⟩)⟩⟩⟩) (fun _ h => (W_bif h (fun _ h => ⟨(rfl), ⟨RowIs.ok dU8_eU8 (RowIs.ls eU8 (0 : Int) b_1), ⟨RowIs.ok dI64_eI64 (RowIs.zero (RowIs.ls eI64 (0 : Int) ([f.Ref] : List Int))), (W_bind ([] : List Int) h fun hp7 h => ⟨_, .refl _, h⟩)⟩⟩⟩) (fun _ h => ⟨_, .refl _, h⟩)))))))))))))))) (fun _ h => ⟨(z92l1C0 b f t34 b_1), (.cn [4]), h⟩)))
noncomputable def fact_Bytes_l1 (b : (List Int)) (f : GFact) (t34 : ByteArray) (s : ((List Int) × Nat)) : Option (((List Int) × Nat) ⊕ (((List Int)))) := match s with | (b_1, t34_1) => fact_Bytes_p0 b_1 f t34 t34_1
theorem z92l1ok (b : (List Int)) (f : GFact) (t34 : ByteArray) (s : ((List Int) × Nat)) : Pp Tryz.prog 93 (List.drop 0 z92i1) (z92l1S b f t34 s) (fact_Bytes_l1 b f t34 s) (nextE (z92l1S b f t34) (z92l1E b f t34)) := fun K h => match s, h with | (b_1, t34_1), h => (z92p0ok b_1 f t34 t34_1 b _ h)
theorem z92l1Ethen (b : (List Int)) (f : GFact) (t34 : ByteArray) : ∀ (r : (((List Int)))) (J : St → Prop) (K : KT), z92l1E b f t34 r K → z92l1E b f t34 r (thenK J K)
  | s, _, _, h => h
def z92p1S (b_3 : (List Int)) : St := { tm := [sv 4 (.row 0 1 0 b_3.length)], hp := [(0, some (.row 5 1 b_3.length (lsEl eU8 (0 : Int) b_3)))], nx := 1 }
noncomputable def fact_Bytes_p1 (b_3 : (List Int)) : Option ((List Int)) := (some b_3)
theorem z92p1ok (b_3 : (List Int)) (K : KT) (h : W (fact_Bytes_p1 b_3) (rE z92R K)) : EvL Tryz.prog 93 (List.drop 11 z92i0) K (z92p1S b_3) :=
  EvL.pE mixed (lookC_ok (l := []) trivial) [2] 11 2 (.nf (X := fun K => wK K .ret (z92R b_3)) (fun K => by kernel_rfl) (⟨_, .refl _, h⟩))
def z92p2S (b : (List Int)) (f : GFact) (t34 : ByteArray) : St := { tm := [sv 1 (.ptr 0 14 0 0), sv 4 (.row 1 1 0 b.length), sv 34 (.ptr 2 1 0 0)], hp := [(0, some (.box [(i64 f.Issuer), (i64 f.Number), (i64 f.Version), (bl f.Withdrawn), (i64 f.Person), (i64 f.Kind), (i64 f.State), (i64 f.Span.From), (i64 f.Span.To), (i64 f.Seat), (i64 f.Share), (i64 f.Currency), (i64 f.Amount), (i64 f.Ref)])), (1, some (.row 5 1 b.length (lsEl eU8 (0 : Int) b))), (2, some (.raw (.stringIter t34 0)))], nx := 3 }
noncomputable def fact_Bytes_p2_g (b : (List Int)) (f : GFact) (t34 : ByteArray) (r : (((List Int)))) : Option ((List Int)) := match r with | b_2 => (fact_Bytes_p1 b_2)
noncomputable def fact_Bytes_p2 (b : (List Int)) (f : GFact) (t34 : ByteArray) : Option ((List Int)) := (fixL (fact_Bytes_l1 b f t34) (b, 0)).bind (fact_Bytes_p2_g b f t34)
theorem z92p2at : List.drop 10 z92i0 = .block 0 (.loop (inside (inside (nthI z92i0 10)))) :: List.drop 11 z92i0 := by kernel_rfl
theorem z92p2k (b : (List Int)) (f : GFact) (t34 : ByteArray) (K : KT) : ∀ r : (((List Int))), W (fact_Bytes_p2_g b f t34 r) (rE z92R K) → z92l1E b f t34 r (wK (blockK 0 (thenK (EvL Tryz.prog 93 (List.drop 11 z92i0) K) K)))
  | b_2, h => ⟨(z92p1S b_2), (.refl _), (z92p1ok b_2 _ h)⟩
theorem z92p2ok (b : (List Int)) (f : GFact) (t34 : ByteArray) (K : KT) (h : W (fact_Bytes_p2 b f t34) (rE z92R K)) : EvL Tryz.prog 93 (List.drop 10 z92i0) K (z92p2S b f t34) :=
  EvL.at_ z92p2at (EvL.cons_loop (EvOk.weak (EvOk.ent (.refl _) (EvOk.loopF (x := inside (inside (nthI z92i0 10))) (f := fact_Bytes_l1 b f t34) (emb := z92l1S b f t34) (E := z92l1E b f t34) (z92l1ok b f t34) (z92l1Ethen b f t34) (W_loop h (z92p2k b f t34 K))))))
def z92p3S (withdrawn : Int) (f : GFact) : St := { tm := [sv 1 (.ptr 0 14 0 0), sv 3 (i64 withdrawn)], hp := [(0, some (.box [(i64 f.Issuer), (i64 f.Number), (i64 f.Version), (bl f.Withdrawn), (i64 f.Person), (i64 f.Kind), (i64 f.State), (i64 f.Span.From), (i64 f.Span.To), (i64 f.Seat), (i64 f.Share), (i64 f.Currency), (i64 f.Amount), (i64 f.Ref)]))], nx := 1 }
noncomputable def fact_Bytes_p3 (withdrawn : Int) (f : GFact) : Option ((List Int)) := (fact_appendNumbers ([] : List Int) (1 : Int) ([f.Issuer] : List Int)).bind fun r_2 => ((fact_appendNumbers r_2 (2 : Int) ([f.Number] : List Int)).bind fun r_3 => ((fact_appendNumbers r_3 (1 : Int) ([f.Version, withdrawn, f.Person, f.Kind] : List Int)).bind fun r_4 => ((fact_Uses f.Kind).bind fun r_5 => ((fact_Bytes_p2 r_4 f r_5)))))
theorem z92p3nf (withdrawn : Int) (f : GFact) (K : KT) (L1_ : List Int) (hL1_ : lst dI64 1 (fun i => (lsEl eI64 (0 : Int) ([f.Issuer] : List Int)) (0 + i)) = L1_) (L2_ : List Int) (hL2_ : lst dU8 ((((fact_appendNumbers ([] : List Int) (1 : Int) L1_).getD ([] : List Int))).length) (lsEl eU8 (0 : Int) ((fact_appendNumbers ([] : List Int) (1 : Int) L1_).getD ([] : List Int))) = L2_) (L3_ : List Int) (hL3_ : lst dI64 1 (fun i => (lsEl eI64 (0 : Int) ([f.Number] : List Int)) (0 + i)) = L3_) (L4_ : List Int) (hL4_ : lst dU8 ((((fact_appendNumbers L2_ (2 : Int) L3_).getD ([] : List Int))).length) (lsEl eU8 (0 : Int) ((fact_appendNumbers L2_ (2 : Int) L3_).getD ([] : List Int))) = L4_) (L5_ : List Int) (hL5_ : lst dI64 4 (fun i => (lsEl eI64 (0 : Int) ([f.Version, withdrawn, f.Person, f.Kind] : List Int)) (0 + i)) = L5_) :
    ev Tryz.prog (lookC [(58, .pure fact_Uses_C), (107, .mut fact_appendNumbers_C)]) 93 (ofItems ((List.drop 6 z92i0).take 4)) (cN [1, 4, 34] K) (z92p3S withdrawn f) =
    ((LstOk eI64 dI64 1 1 1 (fun i => (lsEl eI64 (0 : Int) ([f.Issuer] : List Int)) (0 + i))) ∧ ((fact_appendNumbers ([] : List Int) (1 : Int) L1_).isSome = true) ∧ (((((fact_appendNumbers ([] : List Int) (1 : Int) L1_).getD ([] : List Int))).length = (((fact_appendNumbers ([] : List Int) (1 : Int) L1_).getD ([] : List Int))).length) ∧ (LstOk eU8 dU8 1 1 ((((fact_appendNumbers ([] : List Int) (1 : Int) L1_).getD ([] : List Int))).length) (lsEl eU8 (0 : Int) ((fact_appendNumbers ([] : List Int) (1 : Int) L1_).getD ([] : List Int)))) ∧ (LstOk eI64 dI64 1 1 1 (fun i => (lsEl eI64 (0 : Int) ([f.Number] : List Int)) (0 + i))) ∧ ((fact_appendNumbers L2_ (2 : Int) L3_).isSome = true) ∧ (((((fact_appendNumbers L2_ (2 : Int) L3_).getD ([] : List Int))).length = (((fact_appendNumbers L2_ (2 : Int) L3_).getD ([] : List Int))).length) ∧ (LstOk eU8 dU8 1 1 ((((fact_appendNumbers L2_ (2 : Int) L3_).getD ([] : List Int))).length) (lsEl eU8 (0 : Int) ((fact_appendNumbers L2_ (2 : Int) L3_).getD ([] : List Int)))) ∧ (LstOk eI64 dI64 1 1 4 (fun i => (lsEl eI64 (0 : Int) ([f.Version, withdrawn, f.Person, f.Kind] : List Int)) (0 + i))) ∧ ((fact_appendNumbers L4_ (1 : Int) L5_).isSome = true) ∧ (((fact_Uses f.Kind).isSome = true) ∧ (wK K .normal (z92p2S ((fact_appendNumbers L4_ (1 : Int) L5_).getD ([] : List Int)) f ((fact_Uses f.Kind).getD (bstr [])))))))) := by subst hL1_ hL2_ hL3_ hL4_ hL5_; kernel_rfl
theorem z92p3ok (withdrawn : Int) (f : GFact) (K : KT) (h : W (fact_Bytes_p3 withdrawn f) (rE z92R K)) : EvL Tryz.prog 93 (List.drop 6 z92i0) K (z92p3S withdrawn f) :=
  EvL.pD mixed (lookC_ok (l := [(58, .pure fact_Uses_C), (107, .mut fact_appendNumbers_C)]) ⟨fact_Uses_ok, fact_appendNumbers_ok, trivial⟩) [1, 4, 34] 6 4 10 (.of (z92p3nf withdrawn f _ _ (RowIs.lst dI64_eI64 (RowIs.zero (RowIs.ls eI64 (0 : Int) ([f.Issuer] : List Int)))) _ (RowIs.lst dU8_eU8 (RowIs.ls eU8 (0 : Int) ((fact_appendNumbers ([] : List Int) (1 : Int) ([f.Issuer] : List Int)).getD ([] : List Int)))) _ (RowIs.lst dI64_eI64 (RowIs.zero (RowIs.ls eI64 (0 : Int) ([f.Number] : List Int)))) _ (RowIs.lst dU8_eU8 (RowIs.ls eU8 (0 : Int) ((fact_appendNumbers ((fact_appendNumbers ([] : List Int) (1 : Int) ([f.Issuer] : List Int)).getD ([] : List Int)) (2 : Int) ([f.Number] : List Int)).getD ([] : List Int)))) _ (RowIs.lst dI64_eI64 (RowIs.zero (RowIs.ls eI64 (0 : Int) ([f.Version, withdrawn, f.Person, f.Kind] : List Int))))) (⟨RowIs.ok dI64_eI64 (RowIs.zero (RowIs.ls eI64 (0 : Int) ([f.Issuer] : List Int))), (W_bind ([] : List Int) h fun hp0 h => ⟨(rfl), ⟨RowIs.ok dU8_eU8 (RowIs.ls eU8 (0 : Int) ((fact_appendNumbers ([] : List Int) (1 : Int) ([f.Issuer] : List Int)).getD ([] : List Int))), ⟨RowIs.ok dI64_eI64 (RowIs.zero (RowIs.ls eI64 (0 : Int) ([f.Number] : List Int))), (W_bind ([] : List Int) h fun hp1 h => ⟨(rfl), ⟨RowIs.ok dU8_eU8 (RowIs.ls eU8 (0 : Int) ((fact_appendNumbers ((fact_appendNumbers ([] : List Int) (1 : Int) ([f.Issuer] : List Int)).getD ([] : List Int)) (2 : Int) ([f.Number] : List Int)).getD ([] : List Int))), ⟨RowIs.ok dI64_eI64 (RowIs.zero (RowIs.ls eI64 (0 : Int) ([f.Version, withdrawn, f.Person, f.Kind] : List Int))), (W_bind ([] : List Int) h fun hp2 h => (W_bind (bstr []) h fun hp3 h => ⟨_, .refl _, (z92p2ok ((fact_appendNumbers ((fact_appendNumbers ((fact_appendNumbers ([] : List Int) (1 : Int) ([f.Issuer] : List Int)).getD ([] : List Int)) (2 : Int) ([f.Number] : List Int)).getD ([] : List Int)) (1 : Int) ([f.Version, withdrawn, f.Person, f.Kind] : List Int)).getD ([] : List Int)) f ((fact_Uses f.Kind).getD (bstr [])) _ h)⟩))⟩⟩⟩)⟩⟩⟩)⟩))
def z92p4S (f : GFact) : St := { tm := [sv 0 (.ag (eGFact f))], hp := [], nx := 0 }
noncomputable def fact_Bytes_p4 (f : GFact) : Option ((List Int)) := (fact_Valid f).bind fun r_1 => ((bif (!r_1) then (some ([] : List Int)) else (bif f.Withdrawn then (fact_Bytes_p3 (1 : Int) f) else (fact_Bytes_p3 (0 : Int) f))))
theorem z92p4ok (f : GFact) (K : KT) (h : W (fact_Bytes_p4 f) (rE z92R K)) : EvL Tryz.prog 93 (List.drop 0 z92i0) K (z92p4S f) :=
  EvL.pD mixed (lookC_ok (l := [(42, .pure fact_Valid_C)]) ⟨fact_Valid_ok, trivial⟩) [1, 2, 3] 0 6 6 (.nf (X := fun K => ((fact_Valid f).isSome = true) ∧ ((bif (!((fact_Valid f).getD false)) then wK K .ret ({ tm := [sv 1 (.ptr 0 14 0 0), sv 2 (.c .nil)], hp := [(0, some (.box [(i64 f.Issuer), (i64 f.Number), (i64 f.Version), (bl f.Withdrawn), (i64 f.Person), (i64 f.Kind), (i64 f.State), (i64 f.Span.From), (i64 f.Span.To), (i64 f.Seat), (i64 f.Share), (i64 f.Currency), (i64 f.Amount), (i64 f.Ref)]))], nx := 1 }) else (bif f.Withdrawn then wK K .normal ({ tm := [sv 1 (.ptr 0 14 0 0), sv 2 (.c .nil), sv 3 (i64 (1 : Int))], hp := [(0, some (.box [(i64 f.Issuer), (i64 f.Number), (i64 f.Version), (bl f.Withdrawn), (i64 f.Person), (i64 f.Kind), (i64 f.State), (i64 f.Span.From), (i64 f.Span.To), (i64 f.Seat), (i64 f.Share), (i64 f.Currency), (i64 f.Amount), (i64 f.Ref)]))], nx := 1 }) else wK K .normal ({ tm := [sv 1 (.ptr 0 14 0 0), sv 2 (.c .nil), sv 3 (i64 (0 : Int))], hp := [(0, some (.box [(i64 f.Issuer), (i64 f.Number), (i64 f.Version), (bl f.Withdrawn), (i64 f.Person), (i64 f.Kind), (i64 f.State), (i64 f.Span.From), (i64 f.Span.To), (i64 f.Seat), (i64 f.Share), (i64 f.Currency), (i64 f.Amount), (i64 f.Ref)]))], nx := 1 }))))) (fun K => by kernel_rfl) (W_bind false h fun hp0 h => (W_bif h (fun _ h => ⟨(z92R ([] : List Int)), (.trans (.nilrow 2 1 5 1 (lsEl eU8 (0 : Int) []) (Nat.le_of_ble_eq_true rfl) rfl) (.cn [2])), h⟩) (fun _ h => (W_bif h (fun _ h => ⟨(z92p3S (1 : Int) f), (.of (.q rfl (.q rfl .nil)) (.same rfl .nil) rfl), (z92p3ok (1 : Int) f _ h)⟩) (fun _ h => ⟨(z92p3S (0 : Int) f), (.of (.q rfl (.q rfl .nil)) (.same rfl .nil) rfl), (z92p3ok (0 : Int) f _ h)⟩))))))
noncomputable def fact_Bytes (f : GFact) : Option ((List Int)) := fact_Bytes_p4 f
theorem z92run (f : GFact) (y_ : (List Int)) (h : fact_Bytes f = some y_) : EvL Tryz.prog 93 (items (bodyOf Tryz.f92)) (retK Tryz.prog [.tmp 2] (OutOk (fact_Bytes_out y_))) (z92p4S f) :=
  z92p4ok f _ (W_iff.2 ⟨y_, h, z92Rok y_⟩)
noncomputable def fact_Bytes_C : Con
  | [(.agg [(.c (.lit (.int .i64 a1))), (.c (.lit (.int .i64 a2))), (.c (.lit (.int .i64 a3))), (.c (.lit (.bool a4))), (.c (.lit (.int .i64 a5))), (.c (.lit (.int .i64 a6))), (.c (.lit (.int .i64 a7))), (.c (.lit (.int .i64 a8))), (.c (.lit (.int .i64 a9))), (.c (.lit (.int .i64 a10))), (.c (.lit (.int .i64 a11))), (.c (.lit (.int .i64 a12))), (.c (.lit (.int .i64 a13))), (.c (.lit (.int .i64 a14)))])] => some ([(fact_Bytes (GFact.mk a1 a2 a3 a4 a5 a6 a7 (GSpan.mk a8 a9) a10 a11 a12 a13 a14)).isSome = true], (fact_Bytes_out ((fact_Bytes (GFact.mk a1 a2 a3 a4 a5 a6 a7 (GSpan.mk a8 a9) a10 a11 a12 a13 a14)).getD ([] : List Int))))
  | _ => none
theorem fact_Bytes_ok : Meets Tryz.prog 92 fact_Bytes_C := by
  refine meets_fun (fn := Tryz.f92) (c := bodyOf Tryz.f92) (by kernel_rfl) (by kernel_rfl) (by kernel_rfl) (rs := [.tmp 2]) (by kernel_rfl) (nt := 93) (by kernel_rfl) fun vs p out h hp => ?_
  unfold fact_Bytes_C at h
  split at h
  · next a1 a2 a3 a4 a5 a6 a7 a8 a9 a10 a11 a12 a13 a14 =>
    cases h
    obtain ⟨g, hp⟩ := allq hp
    obtain ⟨x, hx⟩ := Option.isSome_iff_exists.1 g
    rw [hx]
    exact ⟨[(.agg [(i64 (GFact.mk a1 a2 a3 a4 a5 a6 a7 (GSpan.mk a8 a9) a10 a11 a12 a13 a14).Issuer), (i64 (GFact.mk a1 a2 a3 a4 a5 a6 a7 (GSpan.mk a8 a9) a10 a11 a12 a13 a14).Number), (i64 (GFact.mk a1 a2 a3 a4 a5 a6 a7 (GSpan.mk a8 a9) a10 a11 a12 a13 a14).Version), (bl (GFact.mk a1 a2 a3 a4 a5 a6 a7 (GSpan.mk a8 a9) a10 a11 a12 a13 a14).Withdrawn), (i64 (GFact.mk a1 a2 a3 a4 a5 a6 a7 (GSpan.mk a8 a9) a10 a11 a12 a13 a14).Person), (i64 (GFact.mk a1 a2 a3 a4 a5 a6 a7 (GSpan.mk a8 a9) a10 a11 a12 a13 a14).Kind), (i64 (GFact.mk a1 a2 a3 a4 a5 a6 a7 (GSpan.mk a8 a9) a10 a11 a12 a13 a14).State), (i64 ((GFact.mk a1 a2 a3 a4 a5 a6 a7 (GSpan.mk a8 a9) a10 a11 a12 a13 a14).Span).From), (i64 ((GFact.mk a1 a2 a3 a4 a5 a6 a7 (GSpan.mk a8 a9) a10 a11 a12 a13 a14).Span).To), (i64 (GFact.mk a1 a2 a3 a4 a5 a6 a7 (GSpan.mk a8 a9) a10 a11 a12 a13 a14).Seat), (i64 (GFact.mk a1 a2 a3 a4 a5 a6 a7 (GSpan.mk a8 a9) a10 a11 a12 a13 a14).Share), (i64 (GFact.mk a1 a2 a3 a4 a5 a6 a7 (GSpan.mk a8 a9) a10 a11 a12 a13 a14).Currency), (i64 (GFact.mk a1 a2 a3 a4 a5 a6 a7 (GSpan.mk a8 a9) a10 a11 a12 a13 a14).Amount), (i64 (GFact.mk a1 a2 a3 a4 a5 a6 a7 (GSpan.mk a8 a9) a10 a11 a12 a13 a14).Ref)])], (VLes.cons (VLe.rfl' _) VLes.nil), rfl, z92run (GFact.mk a1 a2 a3 a4 a5 a6 a7 (GSpan.mk a8 a9) a10 a11 a12 a13 a14) x hx⟩
  · cases h

theorem bytealg_Compare_ok : Meets Tryz.prog 106 bytealg_Compare_C := bytealg_Compare_meets (fn := Tryz.f106) (by kernel_rfl) (by kernel_rfl) (by kernel_rfl) (by kernel_rfl) (by kernel_rfl)

noncomputable def z91i0 : List Code := items (bodyOf Tryz.f91)
def bytes_Compare_out (x_1 : Int) : Out := .data (i64 x_1)
def z91R (x_1 : Int) : St := { tm := [sv 4 (i64 x_1)], hp := [], nx := 0 }
theorem z91Rok (x_1 : Int) : retK Tryz.prog [.tmp 4] (OutOk (bytes_Compare_out x_1)) .ret (z91R x_1) :=
  retK.intro (v := (i64 x_1)) (by kernel_rfl) ((VLe.rfl' _))
def z91p0S (a b : (List Int)) : St := { tm := [sv 0 (.c (.sl 1 a.length (lsEl eU8 (0 : Int) a))), sv 1 (.c (.sl 1 b.length (lsEl eU8 (0 : Int) b)))], hp := [], nx := 0 }
noncomputable def bytes_Compare_p0 (a b : (List Int)) : Option (Int) := (bytealg_Compare a b).bind fun r_1 => ((some r_1))
theorem z91p0nf (a b : (List Int)) (K : KT) (L1_ : List Int) (hL1_ : lst dU8 a.length (lsEl eU8 (0 : Int) a) = L1_) (L2_ : List Int) (hL2_ : lst dU8 b.length (lsEl eU8 (0 : Int) b) = L2_) :
    ev Tryz.prog (lookC [(106, .pure bytealg_Compare_C)]) 8 (ofItems ((List.drop 0 z91i0).take 3)) (cN [4] K) (z91p0S a b) =
    ((LstOk eU8 dU8 1 1 a.length (lsEl eU8 (0 : Int) a)) ∧ (LstOk eU8 dU8 1 1 b.length (lsEl eU8 (0 : Int) b)) ∧ ((bytealg_Compare L1_ L2_).isSome = true) ∧ (wK K .ret (z91R ((bytealg_Compare L1_ L2_).getD (0 : Int))))) := by subst hL1_ hL2_; kernel_rfl
theorem z91p0ok (a b : (List Int)) (K : KT) (h : W (bytes_Compare_p0 a b) (rE z91R K)) : EvL Tryz.prog 8 (List.drop 0 z91i0) K (z91p0S a b) :=
  EvL.pE mixed (lookC_ok (l := [(106, .pure bytealg_Compare_C)]) ⟨bytealg_Compare_ok, trivial⟩) [4] 0 3 (.of (z91p0nf a b _ _ (RowIs.lst dU8_eU8 (RowIs.ls eU8 (0 : Int) a)) _ (RowIs.lst dU8_eU8 (RowIs.ls eU8 (0 : Int) b))) (⟨RowIs.ok dU8_eU8 (RowIs.ls eU8 (0 : Int) a), ⟨RowIs.ok dU8_eU8 (RowIs.ls eU8 (0 : Int) b), (W_bind (0 : Int) h fun hp0 h => ⟨_, .refl _, h⟩)⟩⟩))
noncomputable def bytes_Compare (a b : (List Int)) : Option (Int) := bytes_Compare_p0 a b
theorem z91run (a b : (List Int)) (y_ : Int) (h : bytes_Compare a b = some y_) : EvL Tryz.prog 8 (items (bodyOf Tryz.f91)) (retK Tryz.prog [.tmp 4] (OutOk (bytes_Compare_out y_))) (z91p0S a b) :=
  z91p0ok a b _ (W_iff.2 ⟨y_, h, z91Rok y_⟩)
noncomputable def bytes_Compare_C : Con
  | [(.c (.sl k1 n2 e3)), (.c (.sl k4 n5 e6))] => some ([LstOk eU8 dU8 1 k1 n2 e3, LstOk eU8 dU8 1 k4 n5 e6, (bytes_Compare (lst dU8 n2 e3) (lst dU8 n5 e6)).isSome = true], (bytes_Compare_out ((bytes_Compare (lst dU8 n2 e3) (lst dU8 n5 e6)).getD (0 : Int))))
  | _ => none
theorem bytes_Compare_ok : Meets Tryz.prog 91 bytes_Compare_C := by
  refine meets_fun (fn := Tryz.f91) (c := bodyOf Tryz.f91) (by kernel_rfl) (by kernel_rfl) (by kernel_rfl) (rs := [.tmp 4]) (by kernel_rfl) (nt := 8) (by kernel_rfl) fun vs p out h hp => ?_
  unfold bytes_Compare_C at h
  split at h
  · next k1 n2 e3 k4 n5 e6 =>
    cases h
    obtain ⟨g0, hp⟩ := allq hp
    obtain ⟨g1, hp⟩ := allq hp
    obtain ⟨g, hp⟩ := allq hp
    obtain ⟨x, hx⟩ := Option.isSome_iff_exists.1 g
    rw [hx]
    exact ⟨[(.c (.sl 1 ((lst dU8 n2 e3)).length (lsEl eU8 (0 : Int) (lst dU8 n2 e3)))), (.c (.sl 1 ((lst dU8 n5 e6)).length (lsEl eU8 (0 : Int) (lst dU8 n5 e6))))], (VLes.cons (VLe.slk g0.1 (RowIs.of_ok g0)) (VLes.cons (VLe.slk g1.1 (RowIs.of_ok g1)) VLes.nil)), rfl, z91run (lst dU8 n2 e3) (lst dU8 n5 e6) x hx⟩
  · cases h

noncomputable def z67i0 : List Code := items (bodyOf Tryz.f67)
def fact_Less_out (x_1 : Bool) : Out := .data (bl x_1)
def z67R (x_1 : Bool) : St := { tm := [sv 4 (bl x_1)], hp := [], nx := 0 }
theorem z67Rok (x_1 : Bool) : retK Tryz.prog [.tmp 4] (OutOk (fact_Less_out x_1)) .ret (z67R x_1) :=
  retK.intro (v := (bl x_1)) (by kernel_rfl) ((VLe.rfl' _))
def z67p0S (a b : GFact) : St := { tm := [sv 0 (.ag (eGFact a)), sv 1 (.ag (eGFact b))], hp := [], nx := 0 }
noncomputable def fact_Less_p0 (a b : GFact) : Option (Bool) := (fact_Valid a).bind fun r_1 => (gd (((!(!r_1)) && true) = true → (fact_Valid b).isSome = true) ((bif (bif (!r_1) then true else (!((fact_Valid b).getD false))) then (some false) else (fact_Bytes a).bind fun r_2 => ((fact_Bytes b).bind fun r_3 => ((bytes_Compare r_2 r_3).bind fun r_4 => ((some (decide (r_4 < (0 : Int))))))))))
theorem z67p0nf (a b : GFact) (K : KT) (L1_ : List Int) (hL1_ : lst dU8 ((((fact_Bytes a).getD ([] : List Int))).length) (fun i => (lsEl eU8 (0 : Int) ((fact_Bytes a).getD ([] : List Int))) (0 + i)) = L1_) (L2_ : List Int) (hL2_ : lst dU8 ((((fact_Bytes b).getD ([] : List Int))).length) (fun i => (lsEl eU8 (0 : Int) ((fact_Bytes b).getD ([] : List Int))) (0 + i)) = L2_) :
    ev Tryz.prog (lookC [(42, .pure fact_Valid_C), (91, .pure bytes_Compare_C), (92, .pure fact_Bytes_C)]) 19 (ofItems ((List.drop 0 z67i0).take 5)) (cN [4] K) (z67p0S a b) =
    (((fact_Valid a).isSome = true) ∧ (((!(!((fact_Valid a).getD false))) && true) = true → (fact_Valid b).isSome = true) ∧ ((bif (bif (!((fact_Valid a).getD false)) then true else (!((fact_Valid b).getD false))) then wK K .ret (z67R false) else ((fact_Bytes a).isSome = true) ∧ ((fact_Bytes b).isSome = true) ∧ (LstOk eU8 dU8 1 1 ((((fact_Bytes a).getD ([] : List Int))).length) (fun i => (lsEl eU8 (0 : Int) ((fact_Bytes a).getD ([] : List Int))) (0 + i))) ∧ (LstOk eU8 dU8 1 1 ((((fact_Bytes b).getD ([] : List Int))).length) (fun i => (lsEl eU8 (0 : Int) ((fact_Bytes b).getD ([] : List Int))) (0 + i))) ∧ ((bytes_Compare L1_ L2_).isSome = true) ∧ (wK K .ret (z67R (decide (((bytes_Compare L1_ L2_).getD (0 : Int)) < (0 : Int)))))))) := by subst hL1_ hL2_; kernel_rfl
theorem z67p0ok (a b : GFact) (K : KT) (h : W (fact_Less_p0 a b) (rE z67R K)) : EvL Tryz.prog 19 (List.drop 0 z67i0) K (z67p0S a b) :=
  EvL.pE mixed (lookC_ok (l := [(42, .pure fact_Valid_C), (91, .pure bytes_Compare_C), (92, .pure fact_Bytes_C)]) ⟨fact_Valid_ok, bytes_Compare_ok, fact_Bytes_ok, trivial⟩) [4] 0 5 (.of (z67p0nf a b _ _ (RowIs.lst dU8_eU8 (RowIs.zero (RowIs.ls eU8 (0 : Int) ((fact_Bytes a).getD ([] : List Int))))) _ (RowIs.lst dU8_eU8 (RowIs.zero (RowIs.ls eU8 (0 : Int) ((fact_Bytes b).getD ([] : List Int)))))) (W_bind false h fun hp0 h => (W_gd h fun hp1 h => (W_bif h (fun _ h => ⟨_, .refl _, h⟩) (fun _ h => (W_bind ([] : List Int) h fun hp2 h => (W_bind ([] : List Int) h fun hp3 h => ⟨RowIs.ok dU8_eU8 (RowIs.zero (RowIs.ls eU8 (0 : Int) ((fact_Bytes a).getD ([] : List Int)))), ⟨RowIs.ok dU8_eU8 (RowIs.zero (RowIs.ls eU8 (0 : Int) ((fact_Bytes b).getD ([] : List Int)))), (W_bind (0 : Int) h fun hp4 h => ⟨_, .refl _, h⟩)⟩⟩)))))))
noncomputable def fact_Less (a b : GFact) : Option (Bool) := fact_Less_p0 a b
theorem z67run (a b : GFact) (y_ : Bool) (h : fact_Less a b = some y_) : EvL Tryz.prog 19 (items (bodyOf Tryz.f67)) (retK Tryz.prog [.tmp 4] (OutOk (fact_Less_out y_))) (z67p0S a b) :=
  z67p0ok a b _ (W_iff.2 ⟨y_, h, z67Rok y_⟩)
noncomputable def fact_Less_C : Con
  | [(.agg [(.c (.lit (.int .i64 a1))), (.c (.lit (.int .i64 a2))), (.c (.lit (.int .i64 a3))), (.c (.lit (.bool a4))), (.c (.lit (.int .i64 a5))), (.c (.lit (.int .i64 a6))), (.c (.lit (.int .i64 a7))), (.c (.lit (.int .i64 a8))), (.c (.lit (.int .i64 a9))), (.c (.lit (.int .i64 a10))), (.c (.lit (.int .i64 a11))), (.c (.lit (.int .i64 a12))), (.c (.lit (.int .i64 a13))), (.c (.lit (.int .i64 a14)))]), (.agg [(.c (.lit (.int .i64 a15))), (.c (.lit (.int .i64 a16))), (.c (.lit (.int .i64 a17))), (.c (.lit (.bool a18))), (.c (.lit (.int .i64 a19))), (.c (.lit (.int .i64 a20))), (.c (.lit (.int .i64 a21))), (.c (.lit (.int .i64 a22))), (.c (.lit (.int .i64 a23))), (.c (.lit (.int .i64 a24))), (.c (.lit (.int .i64 a25))), (.c (.lit (.int .i64 a26))), (.c (.lit (.int .i64 a27))), (.c (.lit (.int .i64 a28)))])] => some ([(fact_Less (GFact.mk a1 a2 a3 a4 a5 a6 a7 (GSpan.mk a8 a9) a10 a11 a12 a13 a14) (GFact.mk a15 a16 a17 a18 a19 a20 a21 (GSpan.mk a22 a23) a24 a25 a26 a27 a28)).isSome = true], (fact_Less_out ((fact_Less (GFact.mk a1 a2 a3 a4 a5 a6 a7 (GSpan.mk a8 a9) a10 a11 a12 a13 a14) (GFact.mk a15 a16 a17 a18 a19 a20 a21 (GSpan.mk a22 a23) a24 a25 a26 a27 a28)).getD false)))
  | _ => none
theorem fact_Less_ok : Meets Tryz.prog 67 fact_Less_C := by
  refine meets_fun (fn := Tryz.f67) (c := bodyOf Tryz.f67) (by kernel_rfl) (by kernel_rfl) (by kernel_rfl) (rs := [.tmp 4]) (by kernel_rfl) (nt := 19) (by kernel_rfl) fun vs p out h hp => ?_
  unfold fact_Less_C at h
  split at h
  · next a1 a2 a3 a4 a5 a6 a7 a8 a9 a10 a11 a12 a13 a14 a15 a16 a17 a18 a19 a20 a21 a22 a23 a24 a25 a26 a27 a28 =>
    cases h
    obtain ⟨g, hp⟩ := allq hp
    obtain ⟨x, hx⟩ := Option.isSome_iff_exists.1 g
    rw [hx]
    exact ⟨[(.agg [(i64 (GFact.mk a1 a2 a3 a4 a5 a6 a7 (GSpan.mk a8 a9) a10 a11 a12 a13 a14).Issuer), (i64 (GFact.mk a1 a2 a3 a4 a5 a6 a7 (GSpan.mk a8 a9) a10 a11 a12 a13 a14).Number), (i64 (GFact.mk a1 a2 a3 a4 a5 a6 a7 (GSpan.mk a8 a9) a10 a11 a12 a13 a14).Version), (bl (GFact.mk a1 a2 a3 a4 a5 a6 a7 (GSpan.mk a8 a9) a10 a11 a12 a13 a14).Withdrawn), (i64 (GFact.mk a1 a2 a3 a4 a5 a6 a7 (GSpan.mk a8 a9) a10 a11 a12 a13 a14).Person), (i64 (GFact.mk a1 a2 a3 a4 a5 a6 a7 (GSpan.mk a8 a9) a10 a11 a12 a13 a14).Kind), (i64 (GFact.mk a1 a2 a3 a4 a5 a6 a7 (GSpan.mk a8 a9) a10 a11 a12 a13 a14).State), (i64 ((GFact.mk a1 a2 a3 a4 a5 a6 a7 (GSpan.mk a8 a9) a10 a11 a12 a13 a14).Span).From), (i64 ((GFact.mk a1 a2 a3 a4 a5 a6 a7 (GSpan.mk a8 a9) a10 a11 a12 a13 a14).Span).To), (i64 (GFact.mk a1 a2 a3 a4 a5 a6 a7 (GSpan.mk a8 a9) a10 a11 a12 a13 a14).Seat), (i64 (GFact.mk a1 a2 a3 a4 a5 a6 a7 (GSpan.mk a8 a9) a10 a11 a12 a13 a14).Share), (i64 (GFact.mk a1 a2 a3 a4 a5 a6 a7 (GSpan.mk a8 a9) a10 a11 a12 a13 a14).Currency), (i64 (GFact.mk a1 a2 a3 a4 a5 a6 a7 (GSpan.mk a8 a9) a10 a11 a12 a13 a14).Amount), (i64 (GFact.mk a1 a2 a3 a4 a5 a6 a7 (GSpan.mk a8 a9) a10 a11 a12 a13 a14).Ref)]), (.agg [(i64 (GFact.mk a15 a16 a17 a18 a19 a20 a21 (GSpan.mk a22 a23) a24 a25 a26 a27 a28).Issuer), (i64 (GFact.mk a15 a16 a17 a18 a19 a20 a21 (GSpan.mk a22 a23) a24 a25 a26 a27 a28).Number), (i64 (GFact.mk a15 a16 a17 a18 a19 a20 a21 (GSpan.mk a22 a23) a24 a25 a26 a27 a28).Version), (bl (GFact.mk a15 a16 a17 a18 a19 a20 a21 (GSpan.mk a22 a23) a24 a25 a26 a27 a28).Withdrawn), (i64 (GFact.mk a15 a16 a17 a18 a19 a20 a21 (GSpan.mk a22 a23) a24 a25 a26 a27 a28).Person), (i64 (GFact.mk a15 a16 a17 a18 a19 a20 a21 (GSpan.mk a22 a23) a24 a25 a26 a27 a28).Kind), (i64 (GFact.mk a15 a16 a17 a18 a19 a20 a21 (GSpan.mk a22 a23) a24 a25 a26 a27 a28).State), (i64 ((GFact.mk a15 a16 a17 a18 a19 a20 a21 (GSpan.mk a22 a23) a24 a25 a26 a27 a28).Span).From), (i64 ((GFact.mk a15 a16 a17 a18 a19 a20 a21 (GSpan.mk a22 a23) a24 a25 a26 a27 a28).Span).To), (i64 (GFact.mk a15 a16 a17 a18 a19 a20 a21 (GSpan.mk a22 a23) a24 a25 a26 a27 a28).Seat), (i64 (GFact.mk a15 a16 a17 a18 a19 a20 a21 (GSpan.mk a22 a23) a24 a25 a26 a27 a28).Share), (i64 (GFact.mk a15 a16 a17 a18 a19 a20 a21 (GSpan.mk a22 a23) a24 a25 a26 a27 a28).Currency), (i64 (GFact.mk a15 a16 a17 a18 a19 a20 a21 (GSpan.mk a22 a23) a24 a25 a26 a27 a28).Amount), (i64 (GFact.mk a15 a16 a17 a18 a19 a20 a21 (GSpan.mk a22 a23) a24 a25 a26 a27 a28).Ref)])], (VLes.cons (VLe.rfl' _) (VLes.cons (VLe.rfl' _) VLes.nil)), rfl, z67run (GFact.mk a1 a2 a3 a4 a5 a6 a7 (GSpan.mk a8 a9) a10 a11 a12 a13 a14) (GFact.mk a15 a16 a17 a18 a19 a20 a21 (GSpan.mk a22 a23) a24 a25 a26 a27 a28) x hx⟩
  · cases h

noncomputable def z47i0 : List Code := items (bodyOf Tryz.f47)
def career_greater_out (x_1 : GFact) : Out := .data (.agg [(i64 x_1.Issuer), (i64 x_1.Number), (i64 x_1.Version), (bl x_1.Withdrawn), (i64 x_1.Person), (i64 x_1.Kind), (i64 x_1.State), (i64 x_1.Span.From), (i64 x_1.Span.To), (i64 x_1.Seat), (i64 x_1.Share), (i64 x_1.Currency), (i64 x_1.Amount), (i64 x_1.Ref)])
def z47R (x_1 : GFact) : St := { tm := [sv 4 (.ptr 0 14 0 0)], hp := [(0, some (.box [(i64 x_1.Issuer), (i64 x_1.Number), (i64 x_1.Version), (bl x_1.Withdrawn), (i64 x_1.Person), (i64 x_1.Kind), (i64 x_1.State), (i64 x_1.Span.From), (i64 x_1.Span.To), (i64 x_1.Seat), (i64 x_1.Share), (i64 x_1.Currency), (i64 x_1.Amount), (i64 x_1.Ref)]))], nx := 1 }
theorem z47Rok (x_1 : GFact) : retK Tryz.prog [.cell 4 36] (OutOk (career_greater_out x_1)) .ret (z47R x_1) :=
  retK.intro (v := (.agg [(i64 x_1.Issuer), (i64 x_1.Number), (i64 x_1.Version), (bl x_1.Withdrawn), (i64 x_1.Person), (i64 x_1.Kind), (i64 x_1.State), (i64 x_1.Span.From), (i64 x_1.Span.To), (i64 x_1.Seat), (i64 x_1.Share), (i64 x_1.Currency), (i64 x_1.Amount), (i64 x_1.Ref)])) (by kernel_rfl) ((VLe.rfl' _))
def z47p0S (a b : GFact) : St := { tm := [sv 0 (.ag (eGFact a)), sv 1 (.ag (eGFact b))], hp := [], nx := 0 }
noncomputable def career_greater_p0 (a b : GFact) : Option (GFact) := (fact_Less a b).bind fun r_1 => ((bif r_1 then (some b) else (some a)))
theorem z47p0ok (a b : GFact) (K : KT) (h : W (career_greater_p0 a b) (rE z47R K)) : EvL Tryz.prog 10 (List.drop 0 z47i0) K (z47p0S a b) :=
  EvL.pE mixed (lookC_ok (l := [(67, .pure fact_Less_C)]) ⟨fact_Less_ok, trivial⟩) [4] 0 5 (.nf (X := fun K => ((fact_Less a b).isSome = true) ∧ ((bif ((fact_Less a b).getD false) then wK K .ret (z47R b) else wK K .ret (z47R a)))) (fun K => by kernel_rfl) (W_bind false h fun hp0 h => (W_bif h (fun _ h => ⟨_, .refl _, h⟩) (fun _ h => ⟨_, .refl _, h⟩))))
noncomputable def career_greater (a b : GFact) : Option (GFact) := career_greater_p0 a b
theorem z47run (a b : GFact) (y_ : GFact) (h : career_greater a b = some y_) : EvL Tryz.prog 10 (items (bodyOf Tryz.f47)) (retK Tryz.prog [.cell 4 36] (OutOk (career_greater_out y_))) (z47p0S a b) :=
  z47p0ok a b _ (W_iff.2 ⟨y_, h, z47Rok y_⟩)
noncomputable def career_greater_C : Con
  | [(.agg [(.c (.lit (.int .i64 a1))), (.c (.lit (.int .i64 a2))), (.c (.lit (.int .i64 a3))), (.c (.lit (.bool a4))), (.c (.lit (.int .i64 a5))), (.c (.lit (.int .i64 a6))), (.c (.lit (.int .i64 a7))), (.c (.lit (.int .i64 a8))), (.c (.lit (.int .i64 a9))), (.c (.lit (.int .i64 a10))), (.c (.lit (.int .i64 a11))), (.c (.lit (.int .i64 a12))), (.c (.lit (.int .i64 a13))), (.c (.lit (.int .i64 a14)))]), (.agg [(.c (.lit (.int .i64 a15))), (.c (.lit (.int .i64 a16))), (.c (.lit (.int .i64 a17))), (.c (.lit (.bool a18))), (.c (.lit (.int .i64 a19))), (.c (.lit (.int .i64 a20))), (.c (.lit (.int .i64 a21))), (.c (.lit (.int .i64 a22))), (.c (.lit (.int .i64 a23))), (.c (.lit (.int .i64 a24))), (.c (.lit (.int .i64 a25))), (.c (.lit (.int .i64 a26))), (.c (.lit (.int .i64 a27))), (.c (.lit (.int .i64 a28)))])] => some ([(career_greater (GFact.mk a1 a2 a3 a4 a5 a6 a7 (GSpan.mk a8 a9) a10 a11 a12 a13 a14) (GFact.mk a15 a16 a17 a18 a19 a20 a21 (GSpan.mk a22 a23) a24 a25 a26 a27 a28)).isSome = true], (career_greater_out ((career_greater (GFact.mk a1 a2 a3 a4 a5 a6 a7 (GSpan.mk a8 a9) a10 a11 a12 a13 a14) (GFact.mk a15 a16 a17 a18 a19 a20 a21 (GSpan.mk a22 a23) a24 a25 a26 a27 a28)).getD zGFact)))
  | _ => none
theorem career_greater_ok : Meets Tryz.prog 47 career_greater_C := by
  refine meets_fun (fn := Tryz.f47) (c := bodyOf Tryz.f47) (by kernel_rfl) (by kernel_rfl) (by kernel_rfl) (rs := [.cell 4 36]) (by kernel_rfl) (nt := 10) (by kernel_rfl) fun vs p out h hp => ?_
  unfold career_greater_C at h
  split at h
  · next a1 a2 a3 a4 a5 a6 a7 a8 a9 a10 a11 a12 a13 a14 a15 a16 a17 a18 a19 a20 a21 a22 a23 a24 a25 a26 a27 a28 =>
    cases h
    obtain ⟨g, hp⟩ := allq hp
    obtain ⟨x, hx⟩ := Option.isSome_iff_exists.1 g
    rw [hx]
    exact ⟨[(.agg [(i64 (GFact.mk a1 a2 a3 a4 a5 a6 a7 (GSpan.mk a8 a9) a10 a11 a12 a13 a14).Issuer), (i64 (GFact.mk a1 a2 a3 a4 a5 a6 a7 (GSpan.mk a8 a9) a10 a11 a12 a13 a14).Number), (i64 (GFact.mk a1 a2 a3 a4 a5 a6 a7 (GSpan.mk a8 a9) a10 a11 a12 a13 a14).Version), (bl (GFact.mk a1 a2 a3 a4 a5 a6 a7 (GSpan.mk a8 a9) a10 a11 a12 a13 a14).Withdrawn), (i64 (GFact.mk a1 a2 a3 a4 a5 a6 a7 (GSpan.mk a8 a9) a10 a11 a12 a13 a14).Person), (i64 (GFact.mk a1 a2 a3 a4 a5 a6 a7 (GSpan.mk a8 a9) a10 a11 a12 a13 a14).Kind), (i64 (GFact.mk a1 a2 a3 a4 a5 a6 a7 (GSpan.mk a8 a9) a10 a11 a12 a13 a14).State), (i64 ((GFact.mk a1 a2 a3 a4 a5 a6 a7 (GSpan.mk a8 a9) a10 a11 a12 a13 a14).Span).From), (i64 ((GFact.mk a1 a2 a3 a4 a5 a6 a7 (GSpan.mk a8 a9) a10 a11 a12 a13 a14).Span).To), (i64 (GFact.mk a1 a2 a3 a4 a5 a6 a7 (GSpan.mk a8 a9) a10 a11 a12 a13 a14).Seat), (i64 (GFact.mk a1 a2 a3 a4 a5 a6 a7 (GSpan.mk a8 a9) a10 a11 a12 a13 a14).Share), (i64 (GFact.mk a1 a2 a3 a4 a5 a6 a7 (GSpan.mk a8 a9) a10 a11 a12 a13 a14).Currency), (i64 (GFact.mk a1 a2 a3 a4 a5 a6 a7 (GSpan.mk a8 a9) a10 a11 a12 a13 a14).Amount), (i64 (GFact.mk a1 a2 a3 a4 a5 a6 a7 (GSpan.mk a8 a9) a10 a11 a12 a13 a14).Ref)]), (.agg [(i64 (GFact.mk a15 a16 a17 a18 a19 a20 a21 (GSpan.mk a22 a23) a24 a25 a26 a27 a28).Issuer), (i64 (GFact.mk a15 a16 a17 a18 a19 a20 a21 (GSpan.mk a22 a23) a24 a25 a26 a27 a28).Number), (i64 (GFact.mk a15 a16 a17 a18 a19 a20 a21 (GSpan.mk a22 a23) a24 a25 a26 a27 a28).Version), (bl (GFact.mk a15 a16 a17 a18 a19 a20 a21 (GSpan.mk a22 a23) a24 a25 a26 a27 a28).Withdrawn), (i64 (GFact.mk a15 a16 a17 a18 a19 a20 a21 (GSpan.mk a22 a23) a24 a25 a26 a27 a28).Person), (i64 (GFact.mk a15 a16 a17 a18 a19 a20 a21 (GSpan.mk a22 a23) a24 a25 a26 a27 a28).Kind), (i64 (GFact.mk a15 a16 a17 a18 a19 a20 a21 (GSpan.mk a22 a23) a24 a25 a26 a27 a28).State), (i64 ((GFact.mk a15 a16 a17 a18 a19 a20 a21 (GSpan.mk a22 a23) a24 a25 a26 a27 a28).Span).From), (i64 ((GFact.mk a15 a16 a17 a18 a19 a20 a21 (GSpan.mk a22 a23) a24 a25 a26 a27 a28).Span).To), (i64 (GFact.mk a15 a16 a17 a18 a19 a20 a21 (GSpan.mk a22 a23) a24 a25 a26 a27 a28).Seat), (i64 (GFact.mk a15 a16 a17 a18 a19 a20 a21 (GSpan.mk a22 a23) a24 a25 a26 a27 a28).Share), (i64 (GFact.mk a15 a16 a17 a18 a19 a20 a21 (GSpan.mk a22 a23) a24 a25 a26 a27 a28).Currency), (i64 (GFact.mk a15 a16 a17 a18 a19 a20 a21 (GSpan.mk a22 a23) a24 a25 a26 a27 a28).Amount), (i64 (GFact.mk a15 a16 a17 a18 a19 a20 a21 (GSpan.mk a22 a23) a24 a25 a26 a27 a28).Ref)])], (VLes.cons (VLe.rfl' _) (VLes.cons (VLe.rfl' _) VLes.nil)), rfl, z47run (GFact.mk a1 a2 a3 a4 a5 a6 a7 (GSpan.mk a8 a9) a10 a11 a12 a13 a14) (GFact.mk a15 a16 a17 a18 a19 a20 a21 (GSpan.mk a22 a23) a24 a25 a26 a27 a28) x hx⟩
  · cases h

noncomputable def z44i0 : List Code := items (bodyOf Tryz.f44)
noncomputable def z44i1 : List Code := items (inside (inside (nthI z44i0 2)))
def career_merge_api_Fact_byIdentity_greater_out (x_1 : (List GFact)) : Out := .own true 36 14 (x_1).length (lsEl eGFact zGFact x_1)
def z44R (x_1 : (List GFact)) : St := { tm := [sv 8 (.row 0 14 0 x_1.length)], hp := [(0, some (.row 36 14 x_1.length (lsEl eGFact zGFact x_1)))], nx := 1 }
theorem z44Rok (x_1 : (List GFact)) : retK Tryz.prog [.tmp 8] (OutOk (career_merge_api_Fact_byIdentity_greater_out x_1)) .ret (z44R x_1) :=
  retK.intro (v := (.row 0 14 0 x_1.length)) (by kernel_rfl) (⟨_, _, _, rfl, rfl, rfl, fun _ _ => rfl, fun _ i hi d hd => scal_GFact _ d hd⟩)
def z44l1S (a b : (List GFact)) (s : ((List GFact) × (List GFact) × (List GFact))) : St := match s with | (a_1, b_1, out_1) => { tm := [sv 0 (.c (.sl 14 a_1.length (lsEl eGFact zGFact a_1))), sv 1 (.c (.sl 14 b_1.length (lsEl eGFact zGFact b_1))), sv 2 (.fn 46 []), sv 3 (.fn 47 []), sv 9 (.row 0 14 0 out_1.length)], hp := [(0, some (.row 36 14 out_1.length (lsEl eGFact zGFact out_1)))], nx := 1 }
def z44l1C0 (a b : (List GFact)) (s : (List GFact) × (List GFact) × (List GFact)) : St := match s with | (a_2, b_2, out_2) => { tm := [sv 0 (.c (.sl 14 a_2.length (lsEl eGFact zGFact a_2))), sv 1 (.c (.sl 14 b_2.length (lsEl eGFact zGFact b_2))), sv 9 (.row 0 14 0 out_2.length)], hp := [(0, some (.row 36 14 out_2.length (lsEl eGFact zGFact out_2)))], nx := 1 }
def z44l1E (a b : (List GFact)) (r : (((List GFact) × (List GFact) × (List GFact)))) (K : KT) : Prop := match r with | s => K (.exit 0) (z44l1C0 a b s)
def z44p0S (a_1 b_1 out_1 : (List GFact)) : St := { tm := [sv 0 (.c (.sl 14 a_1.length (lsEl eGFact zGFact a_1))), sv 1 (.c (.sl 14 b_1.length (lsEl eGFact zGFact b_1))), sv 2 (.fn 46 []), sv 3 (.fn 47 []), sv 9 (.row 0 14 0 out_1.length)], hp := [(0, some (.row 36 14 out_1.length (lsEl eGFact zGFact out_1)))], nx := 1 }
noncomputable def career_merge_api_Fact_byIdentity_greater_p0 (a_1 b_1 out_1 : (List GFact)) : Option (((List GFact) × (List GFact) × (List GFact)) ⊕ (((List GFact) × (List GFact) × (List GFact)))) := (bif (bif (decide ((0 : Int) < ((a_1.length : Nat) : Int))) then (decide ((0 : Int) < ((b_1.length : Nat) : Int))) else false) then gd ((0 : Int) ≤ (0 : Int) ∧ (0 : Int) < ((a_1.length : Nat) : Int)) (gd ((0 : Int) ≤ (0 : Int) ∧ (0 : Int) < ((b_1.length : Nat) : Int)) ((career_byIdentity (a_1.getD 0 zGFact) (b_1.getD 0 zGFact)).bind fun r_1 => ((bif (decide (r_1 < (0 : Int))) then gd ((0 : Int) ≤ (0 : Int) ∧ (0 : Int) < ((a_1.length : Nat) : Int)) (gd (capB (out_1.length + 1) 112) (gd ((0 : Int) ≤ (1 : Int) ∧ (1 : Int) ≤ ((a_1.length : Nat) : Int) ∧ ((a_1.length : Nat) : Int) ≤ ((a_1.length : Nat) : Int)) ((some (Sum.inl ((subL zGFact a_1 1 (Int.toNat (((a_1.length : Nat) : Int) - (1 : Int)))), b_1, (out_1 ++ ([(a_1.getD 0 zGFact)] : List GFact)))))))) else (bif (decide ((0 : Int) < r_1)) then gd ((0 : Int) ≤ (0 : Int) ∧ (0 : Int) < ((b_1.length : Nat) : Int)) (gd (capB (out_1.length + 1) 112) (gd ((0 : Int) ≤ (1 : Int) ∧ (1 : Int) ≤ ((b_1.length : Nat) : Int) ∧ ((b_1.length : Nat) : Int) ≤ ((b_1.length : Nat) : Int)) ((some (Sum.inl (a_1, (subL zGFact b_1 1 (Int.toNat (((b_1.length : Nat) : Int) - (1 : Int)))), (out_1 ++ ([(b_1.getD 0 zGFact)] : List GFact)))))))) else gd ((0 : Int) ≤ (0 : Int) ∧ (0 : Int) < ((a_1.length : Nat) : Int)) (gd ((0 : Int) ≤ (0 : Int) ∧ (0 : Int) < ((b_1.length : Nat) : Int)) ((career_greater (a_1.getD 0 zGFact) (b_1.getD 0 zGFact)).bind fun r_2 => (gd (capB (out_1.length + 1) 112) (gd ((0 : Int) ≤ (1 : Int) ∧ (1 : Int) ≤ ((a_1.length : Nat) : Int) ∧ ((a_1.length : Nat) : Int) ≤ ((a_1.length : Nat) : Int)) (gd ((0 : Int) ≤ (1 : Int) ∧ (1 : Int) ≤ ((b_1.length : Nat) : Int) ∧ ((b_1.length : Nat) : Int) ≤ ((b_1.length : Nat) : Int)) ((some (Sum.inl ((subL zGFact a_1 1 (Int.toNat (((a_1.length : Nat) : Int) - (1 : Int)))), (subL zGFact b_1 1 (Int.toNat (((b_1.length : Nat) : Int) - (1 : Int)))), (out_1 ++ ([r_2] : List GFact)))))))))))))))) else (some (Sum.inr (a_1, b_1, out_1))))
theorem z44p0ok (a_1 b_1 out_1 a b : (List GFact)) (K : KT) (h : W (career_merge_api_Fact_byIdentity_greater_p0 a_1 b_1 out_1) (nE (z44l1S a b) (z44l1E a b) K)) : EvL Tryz.prog 69 (List.drop 0 z44i1) K (z44p0S a_1 b_1 out_1) :=
  EvL.pE mixed (lookC_ok (l := [(46, .pure career_byIdentity_C), (47, .pure career_greater_C)]) ⟨career_byIdentity_ok, career_greater_ok, trivial⟩) [0, 1, 2, 3, 9, 15, 16, 17] 0 3 (.nf (X := fun K => (bif (bif (decide ((0 : Int) < ((a_1.length : Nat) : Int))) then (decide ((0 : Int) < ((b_1.length : Nat) : Int))) else false) then ((0 : Int) ≤ (0 : Int)) ∧ ((0 : Int) < ((a_1.length : Nat) : Int)) ∧ ((0 : Int) ≤ (0 : Int)) ∧ ((0 : Int) < ((b_1.length : Nat) : Int)) ∧ ((career_byIdentity (a_1.getD 0 zGFact) (b_1.getD 0 zGFact)).isSome = true) ∧ ((bif (decide (((career_byIdentity (a_1.getD 0 zGFact) (b_1.getD 0 zGFact)).getD (0 : Int)) < (0 : Int))) then ((0 : Int) ≤ (0 : Int)) ∧ ((0 : Int) < ((a_1.length : Nat) : Int)) ∧ (out_1.length = out_1.length) ∧ ((out_1.length + 1) * 112 ≤ 140737488355328) ∧ ((out_1.length + 1) ≤ 140737488355328) ∧ ((0 : Int) ≤ (1 : Int)) ∧ ((1 : Int) ≤ ((a_1.length : Nat) : Int)) ∧ (((a_1.length : Nat) : Int) ≤ ((a_1.length : Nat) : Int)) ∧ (wK K .normal ({ tm := [sv 0 (.c (.sl 14 (Int.toNat (((a_1.length : Nat) : Int) - (1 : Int))) (fun i => (lsEl eGFact zGFact a_1) (1 + i)))), sv 1 (.c (.sl 14 b_1.length (lsEl eGFact zGFact b_1))), sv 2 (.fn 46 []), sv 3 (.fn 47 []), sv 9 (.row 0 14 0 (out_1.length + 1)), sv 15 (.c .unk), sv 16 (.c .unk), sv 17 (.c .unk)], hp := [(0, some (.row 36 14 (out_1.length + 1) (fun i => bif Nat.blt i out_1.length then (lsEl eGFact zGFact out_1) i else (fun i => (litE 14 (eGFact (a_1.getD 0 zGFact))) (0 + i)) (i - out_1.length))))], nx := 1 })) else (bif (decide ((0 : Int) < ((career_byIdentity (a_1.getD 0 zGFact) (b_1.getD 0 zGFact)).getD (0 : Int)))) then ((0 : Int) ≤ (0 : Int)) ∧ ((0 : Int) < ((b_1.length : Nat) : Int)) ∧ (out_1.length = out_1.length) ∧ ((out_1.length + 1) * 112 ≤ 140737488355328) ∧ ((out_1.length + 1) ≤ 140737488355328) ∧ ((0 : Int) ≤ (1 : Int)) ∧ ((1 : Int) ≤ ((b_1.length : Nat) : Int)) ∧ (((b_1.length : Nat) : Int) ≤ ((b_1.length : Nat) : Int)) ∧ (wK K .normal ({ tm := [sv 0 (.c (.sl 14 a_1.length (lsEl eGFact zGFact a_1))), sv 1 (.c (.sl 14 (Int.toNat (((b_1.length : Nat) : Int) - (1 : Int))) (fun i => (lsEl eGFact zGFact b_1) (1 + i)))), sv 2 (.fn 46 []), sv 3 (.fn 47 []), sv 9 (.row 0 14 0 (out_1.length + 1)), sv 15 (.c .unk), sv 16 (.c .unk), sv 17 (.c .unk)], hp := [(0, some (.row 36 14 (out_1.length + 1) (fun i => bif Nat.blt i out_1.length then (lsEl eGFact zGFact out_1) i else (fun i => (litE 14 (eGFact (b_1.getD 0 zGFact))) (0 + i)) (i - out_1.length))))], nx := 1 })) else ((0 : Int) ≤ (0 : Int)) ∧ ((0 : Int) < ((a_1.length : Nat) : Int)) ∧ ((0 : Int) ≤ (0 : Int)) ∧ ((0 : Int) < ((b_1.length : Nat) : Int)) ∧ ((career_greater (a_1.getD 0 zGFact) (b_1.getD 0 zGFact)).isSome = true) ∧ (out_1.length = out_1.length) ∧ ((out_1.length + 1) * 112 ≤ 140737488355328) ∧ ((out_1.length + 1) ≤ 140737488355328) ∧ ((0 : Int) ≤ (1 : Int)) ∧ ((1 : Int) ≤ ((a_1.length : Nat) : Int)) ∧ (((a_1.length : Nat) : Int) ≤ ((a_1.length : Nat) : Int)) ∧ ((0 : Int) ≤ (1 : Int)) ∧ ((1 : Int) ≤ ((b_1.length : Nat) : Int)) ∧ (((b_1.length : Nat) : Int) ≤ ((b_1.length : Nat) : Int)) ∧ (wK K .normal ({ tm := [sv 0 (.c (.sl 14 (Int.toNat (((a_1.length : Nat) : Int) - (1 : Int))) (fun i => (lsEl eGFact zGFact a_1) (1 + i)))), sv 1 (.c (.sl 14 (Int.toNat (((b_1.length : Nat) : Int) - (1 : Int))) (fun i => (lsEl eGFact zGFact b_1) (1 + i)))), sv 2 (.fn 46 []), sv 3 (.fn 47 []), sv 9 (.row 0 14 0 (out_1.length + 1)), sv 15 (.c .unk), sv 16 (.c .unk), sv 17 (.c .unk)], hp := [(0, some (.row 36 14 (out_1.length + 1) (fun i => bif Nat.blt i out_1.length then (lsEl eGFact zGFact out_1) i else (fun i => (litE 14 (eGFact ((career_greater (a_1.getD 0 zGFact) (b_1.getD 0 zGFact)).getD zGFact))) (0 + i)) (i - out_1.length))))], nx := 1 }))))) else wK K (.exit 0) ({ tm := [sv 0 (.c (.sl 14 a_1.length (lsEl eGFact zGFact a_1))), sv 1 (.c (.sl 14 b_1.length (lsEl eGFact zGFact b_1))), sv 2 (.fn 46 []), sv 3 (.fn 47 []), sv 9 (.row 0 14 0 out_1.length), sv 15 (.c .unk), sv 16 (.c .unk), sv 17 (.c .unk)], hp := [(0, some (.row 36 14 out_1.length (lsEl eGFact zGFact out_1)))], nx := 1 }))) (fun K => by kernel_rfl) (W_bif h (fun _ h => (W_gd2 h fun hp0 h => (W_gd2 h fun hp1 h => (W_bind (0 : Int) h fun hp2 h => (W_bif h (fun _ h => (W_gd2 h fun hp3 h => ⟨rfl, (W_gd2 h fun hp4 h => (W_gd3 h fun hp5 h => ⟨(z44l1S a b ((subL zGFact a_1 1 (Int.toNat (((a_1.length : Nat) : Int) - (1 : Int)))), b_1, (out_1 ++ ([(a_1.getD 0 zGFact)] : List GFact)))), (.of (.cons rfl (.sl (RowIs.sub eGFact zGFact a_1 1 (Int.toNat (((a_1.length : Nat) : Int) - (1 : Int))))) (.q rfl (.q rfl (.q rfl (.cons rfl (.rown (len_app rfl rfl)) .nil))))) (.row rfl (RowIs.app (RowIs.ls eGFact zGFact out_1) (RowIs.zero (RowIs.l1 (enc := eGFact) (z := zGFact) 14 (a_1.getD 0 zGFact) rfl))) .nil rfl) rfl), h⟩))⟩)) (fun _ h => (W_bif h (fun _ h => (W_gd2 h fun hp6 h => ⟨rfl, (W_gd2 h fun hp7 h => (W_gd3 h fun hp8 h => ⟨(z44l1S a b (a_1, (subL zGFact b_1 1 (Int.toNat (((b_1.length : Nat) : Int) - (1 : Int)))), (out_1 ++ ([(b_1.getD 0 zGFact)] : List GFact)))), (.of (.q rfl (.cons rfl (.sl (RowIs.sub eGFact zGFact b_1 1 (Int.toNat (((b_1.length : Nat) : Int) - (1 : Int))))) (.q rfl (.q rfl (.cons rfl (.rown (len_app rfl rfl)) .nil))))) (.row rfl (RowIs.app (RowIs.ls eGFact zGFact out_1) (RowIs.zero (RowIs.l1 (enc := eGFact) (z := zGFact) 14 (b_1.getD 0 zGFact) rfl))) .nil rfl) rfl), h⟩))⟩)) (fun _ h => (W_gd2 h fun hp9 h => (W_gd2 h fun hp10 h => (W_bind zGFact h fun hp11 h => ⟨rfl, (W_gd2 h fun hp12 h => (W_gd3 h fun hp13 h => (W_gd3 h fun hp14 h => ⟨(z44l1S a b ((subL zGFact a_1 1 (Int.toNat (((a_1.length : Nat) : Int) - (1 : Int)))), (subL zGFact b_1 1 (Int.toNat (((b_1.length : Nat) : Int) - (1 : Int)))), (out_1 ++ ([((career_greater (a_1.getD 0 zGFact) (b_1.getD 0 zGFact)).getD zGFact)] : List GFact)))), (.of (.cons rfl (.sl (RowIs.sub eGFact zGFact a_1 1 (Int.toNat (((a_1.length : Nat) : Int) - (1 : Int))))) (.cons rfl (.sl (RowIs.sub eGFact zGFact b_1 1 (Int.toNat (((b_1.length : Nat) : Int) - (1 : Int))))) (.q rfl (.q rfl (.cons rfl (.rown (len_app rfl rfl)) .nil))))) (.row rfl (RowIs.app (RowIs.ls eGFact zGFact out_1) (RowIs.zero (RowIs.l1 (enc := eGFact) (z := zGFact) 14 ((career_greater (a_1.getD 0 zGFact) (b_1.getD 0 zGFact)).getD zGFact) rfl))) .nil rfl) rfl), h⟩)))⟩))))))))))) (fun _ h => ⟨(z44l1C0 a b (a_1, b_1, out_1)), (.of (.q rfl (.q rfl (.q rfl .nil))) (.same rfl .nil) rfl), h⟩)))
noncomputable def career_merge_api_Fact_byIdentity_greater_l1 (a b : (List GFact)) (s : ((List GFact) × (List GFact) × (List GFact))) : Option (((List GFact) × (List GFact) × (List GFact)) ⊕ (((List GFact) × (List GFact) × (List GFact)))) := match s with | (a_1, b_1, out_1) => career_merge_api_Fact_byIdentity_greater_p0 a_1 b_1 out_1
theorem z44l1ok (a b : (List GFact)) (s : ((List GFact) × (List GFact) × (List GFact))) : Pp Tryz.prog 69 (List.drop 0 z44i1) (z44l1S a b s) (career_merge_api_Fact_byIdentity_greater_l1 a b s) (nextE (z44l1S a b) (z44l1E a b)) := fun K h => match s, h with | (a_1, b_1, out_1), h => (z44p0ok a_1 b_1 out_1 a b _ h)
theorem z44l1Ethen (a b : (List GFact)) : ∀ (r : (((List GFact) × (List GFact) × (List GFact)))) (J : St → Prop) (K : KT), z44l1E a b r K → z44l1E a b r (thenK J K)
  | s, _, _, h => h
def z44p1S (a_3 b_3 out_3 : (List GFact)) : St := { tm := [sv 0 (.c (.sl 14 a_3.length (lsEl eGFact zGFact a_3))), sv 1 (.c (.sl 14 b_3.length (lsEl eGFact zGFact b_3))), sv 9 (.row 0 14 0 out_3.length)], hp := [(0, some (.row 36 14 out_3.length (lsEl eGFact zGFact out_3)))], nx := 1 }
noncomputable def career_merge_api_Fact_byIdentity_greater_p1 (a_3 b_3 out_3 : (List GFact)) : Option ((List GFact)) := gd (capB (out_3.length + a_3.length) 112) (gd (capB ((out_3.length + a_3.length) + b_3.length) 112) ((some ((out_3 ++ a_3) ++ b_3))))
theorem z44p1ok (a_3 b_3 out_3 : (List GFact)) (K : KT) (h : W (career_merge_api_Fact_byIdentity_greater_p1 a_3 b_3 out_3) (rE z44R K)) : EvL Tryz.prog 69 (List.drop 3 z44i0) K (z44p1S a_3 b_3 out_3) :=
  EvL.pE mixed (lookC_ok (l := []) trivial) [8] 3 2 (.nf (X := fun K => (out_3.length = out_3.length) ∧ ((out_3.length + a_3.length) * 112 ≤ 140737488355328) ∧ ((out_3.length + a_3.length) ≤ 140737488355328) ∧ ((out_3.length + a_3.length) = (out_3.length + a_3.length)) ∧ (((out_3.length + a_3.length) + b_3.length) * 112 ≤ 140737488355328) ∧ (((out_3.length + a_3.length) + b_3.length) ≤ 140737488355328) ∧ (wK K .ret ({ tm := [sv 8 (.row 0 14 0 ((out_3.length + a_3.length) + b_3.length))], hp := [(0, some (.row 36 14 ((out_3.length + a_3.length) + b_3.length) (fun i => bif Nat.blt i (out_3.length + a_3.length) then (fun i => bif Nat.blt i out_3.length then (lsEl eGFact zGFact out_3) i else (lsEl eGFact zGFact a_3) (i - out_3.length)) i else (lsEl eGFact zGFact b_3) (i - (out_3.length + a_3.length)))))], nx := 1 }))) (fun K => by kernel_rfl) (⟨rfl, (W_gd2 h fun hp0 h => ⟨rfl, (W_gd2 h fun hp1 h => ⟨(z44R ((out_3 ++ a_3) ++ b_3)), (.of (.cons rfl (.rown (len_app (len_app rfl rfl) rfl)) .nil) (.row rfl (RowIs.app (RowIs.app (RowIs.ls eGFact zGFact out_3) (RowIs.ls eGFact zGFact a_3)) (RowIs.ls eGFact zGFact b_3)) .nil rfl) rfl), h⟩)⟩)⟩))
def z44p2S (a b : (List GFact)) : St := { tm := [sv 0 (.c (.sl 14 a.length (lsEl eGFact zGFact a))), sv 1 (.c (.sl 14 b.length (lsEl eGFact zGFact b))), sv 2 (.fn 46 []), sv 3 (.fn 47 []), sv 9 (.c .nil)], hp := [], nx := 0 }
noncomputable def career_merge_api_Fact_byIdentity_greater_p2_g (a b : (List GFact)) (r : (((List GFact) × (List GFact) × (List GFact)))) : Option ((List GFact)) := match r with | (a_2, b_2, out_2) => (career_merge_api_Fact_byIdentity_greater_p1 a_2 b_2 out_2)
noncomputable def career_merge_api_Fact_byIdentity_greater_p2 (a b : (List GFact)) : Option ((List GFact)) := (fixL (career_merge_api_Fact_byIdentity_greater_l1 a b) (a, b, ([] : List GFact))).bind (career_merge_api_Fact_byIdentity_greater_p2_g a b)
theorem z44p2at : List.drop 2 z44i0 = .block 0 (.loop (inside (inside (nthI z44i0 2)))) :: List.drop 3 z44i0 := by kernel_rfl
theorem z44p2k (a b : (List GFact)) (K : KT) : ∀ r : (((List GFact) × (List GFact) × (List GFact))), W (career_merge_api_Fact_byIdentity_greater_p2_g a b r) (rE z44R K) → z44l1E a b r (wK (blockK 0 (thenK (EvL Tryz.prog 69 (List.drop 3 z44i0) K) K)))
  | (a_2, b_2, out_2), h => ⟨(z44p1S a_2 b_2 out_2), (.refl _), (z44p1ok a_2 b_2 out_2 _ h)⟩
theorem z44p2ok (a b : (List GFact)) (K : KT) (h : W (career_merge_api_Fact_byIdentity_greater_p2 a b) (rE z44R K)) : EvL Tryz.prog 69 (List.drop 2 z44i0) K (z44p2S a b) :=
  EvL.at_ z44p2at (EvL.cons_loop (EvOk.weak (EvOk.ent (.trans (.nilrow 9 0 36 14 (lsEl eGFact zGFact []) (Nat.le_of_ble_eq_true rfl) rfl) (.cn [0, 1, 2, 3, 9])) (EvOk.loopF (x := inside (inside (nthI z44i0 2))) (f := career_merge_api_Fact_byIdentity_greater_l1 a b) (emb := z44l1S a b) (E := z44l1E a b) (z44l1ok a b) (z44l1Ethen a b) (W_loop h (z44p2k a b K))))))
def z44p3S (a b : (List GFact)) : St := { tm := [sv 0 (.c (.sl 14 a.length (lsEl eGFact zGFact a))), sv 1 (.c (.sl 14 b.length (lsEl eGFact zGFact b))), sv 2 (.fn 46 []), sv 3 (.fn 47 [])], hp := [], nx := 0 }
noncomputable def career_merge_api_Fact_byIdentity_greater_p3 (a b : (List GFact)) : Option ((List GFact)) := (career_merge_api_Fact_byIdentity_greater_p2 a b)
theorem z44p3ok (a b : (List GFact)) (K : KT) (h : W (career_merge_api_Fact_byIdentity_greater_p3 a b) (rE z44R K)) : EvL Tryz.prog 69 (List.drop 0 z44i0) K (z44p3S a b) :=
  EvL.pD mixed (lookC_ok (l := []) trivial) [0, 1, 2, 3, 9, 15, 16, 17] 0 2 2 (.nf (X := fun K => wK K .normal (z44p2S a b)) (fun K => by kernel_rfl) (⟨_, .refl _, (z44p2ok a b _ h)⟩))
noncomputable def career_merge_api_Fact_byIdentity_greater (a b : (List GFact)) : Option ((List GFact)) := career_merge_api_Fact_byIdentity_greater_p3 a b
theorem z44run (a b : (List GFact)) (y_ : (List GFact)) (h : career_merge_api_Fact_byIdentity_greater a b = some y_) : EvL Tryz.prog 69 (items (bodyOf Tryz.f44)) (retK Tryz.prog [.tmp 8] (OutOk (career_merge_api_Fact_byIdentity_greater_out y_))) (z44p3S a b) :=
  z44p3ok a b _ (W_iff.2 ⟨y_, h, z44Rok y_⟩)
noncomputable def career_merge_api_Fact_byIdentity_greater_C : Con
  | [(.c (.sl k1 n2 e3)), (.c (.sl k4 n5 e6)), (.fn 46 []), (.fn 47 [])] => some ([LstOk eGFact dGFact 14 k1 n2 e3, LstOk eGFact dGFact 14 k4 n5 e6, (career_merge_api_Fact_byIdentity_greater (lst dGFact n2 e3) (lst dGFact n5 e6)).isSome = true], (career_merge_api_Fact_byIdentity_greater_out ((career_merge_api_Fact_byIdentity_greater (lst dGFact n2 e3) (lst dGFact n5 e6)).getD ([] : List GFact))))
  | _ => none
theorem career_merge_api_Fact_byIdentity_greater_ok : Meets Tryz.prog 44 career_merge_api_Fact_byIdentity_greater_C := by
  refine meets_fun (fn := Tryz.f44) (c := bodyOf Tryz.f44) (by kernel_rfl) (by kernel_rfl) (by kernel_rfl) (rs := [.tmp 8]) (by kernel_rfl) (nt := 69) (by kernel_rfl) fun vs p out h hp => ?_
  unfold career_merge_api_Fact_byIdentity_greater_C at h
  split at h
  · next k1 n2 e3 k4 n5 e6 =>
    cases h
    obtain ⟨g0, hp⟩ := allq hp
    obtain ⟨g1, hp⟩ := allq hp
    obtain ⟨g, hp⟩ := allq hp
    obtain ⟨x, hx⟩ := Option.isSome_iff_exists.1 g
    rw [hx]
    exact ⟨[(.c (.sl 14 ((lst dGFact n2 e3)).length (lsEl eGFact zGFact (lst dGFact n2 e3)))), (.c (.sl 14 ((lst dGFact n5 e6)).length (lsEl eGFact zGFact (lst dGFact n5 e6)))), (.fn 46 []), (.fn 47 [])], (VLes.cons (VLe.slk g0.1 (RowIs.of_ok g0)) (VLes.cons (VLe.slk g1.1 (RowIs.of_ok g1)) (VLes.cons (VLe.rfl' _) (VLes.cons (VLe.rfl' _) VLes.nil)))), rfl, z44run (lst dGFact n2 e3) (lst dGFact n5 e6) x hx⟩
  · cases h

noncomputable def z45i0 : List Code := items (bodyOf Tryz.f45)
noncomputable def z45i1 : List Code := items (inside (inside (nthI z45i0 3)))
def career_ascending_out (x_1 : (List GFact)) : Out := .own true 36 14 (x_1).length (lsEl eGFact zGFact x_1)
def z45R (x_1 : (List GFact)) : St := { tm := [sv 2 (.row 0 14 0 x_1.length)], hp := [(0, some (.row 36 14 x_1.length (lsEl eGFact zGFact x_1)))], nx := 1 }
theorem z45Rok (x_1 : (List GFact)) : retK Tryz.prog [.tmp 2] (OutOk (career_ascending_out x_1)) .ret (z45R x_1) :=
  retK.intro (v := (.row 0 14 0 x_1.length)) (by kernel_rfl) (⟨_, _, _, rfl, rfl, rfl, fun _ _ => rfl, fun _ i hi d hd => scal_GFact _ d hd⟩)
def z45l1S (l : (List GFact)) (s : ((List GFact) × Int)) : St := match s with | (out_1, t8) => { tm := [sv 3 (.row 0 14 0 out_1.length), sv 6 (.c (.sl 14 l.length (lsEl eGFact zGFact l))), sv 7 (i64 ((l.length : Nat) : Int)), sv 8 (i64 t8)], hp := [(0, some (.row 36 14 out_1.length (lsEl eGFact zGFact out_1)))], nx := 1 }
def z45l1C0 (l : (List GFact)) (s : (List GFact)) : St := match s with | out_2 => { tm := [sv 3 (.row 0 14 0 out_2.length)], hp := [(0, some (.row 36 14 out_2.length (lsEl eGFact zGFact out_2)))], nx := 1 }
def z45l1E (l : (List GFact)) (r : (((List GFact)))) (K : KT) : Prop := match r with | s => K (.exit 0) (z45l1C0 l s)
def z45p0S (out_1 l : (List GFact)) (t8 : Int) : St := { tm := [sv 3 (.row 0 14 0 out_1.length), sv 6 (.c (.sl 14 l.length (lsEl eGFact zGFact l))), sv 7 (i64 ((l.length : Nat) : Int)), sv 8 (i64 t8)], hp := [(0, some (.row 36 14 out_1.length (lsEl eGFact zGFact out_1)))], nx := 1 }
noncomputable def career_ascending_p0 (out_1 l : (List GFact)) (t8 : Int) : Option (((List GFact) × Int) ⊕ (((List GFact)))) := (bif (decide (t8 < ((l.length : Nat) : Int))) then gd ((0 : Int) ≤ t8 ∧ t8 < ((l.length : Nat) : Int)) ((fact_Valid (l.getD (Int.toNat t8) zGFact)).bind fun r_1 => ((bif r_1 then (career_merge_api_Fact_byIdentity_greater out_1 ([(l.getD (Int.toNat t8) zGFact)] : List GFact)).bind fun r_2 => ((some (Sum.inl (r_2, (w64 (t8 + (1 : Int))))))) else (some (Sum.inl (out_1, (w64 (t8 + (1 : Int))))))))) else (some (Sum.inr out_1)))
theorem z45p0nf (out_1 l : (List GFact)) (t8 : Int) (K : KT) (L1_ : List GFact) (hL1_ : lst dGFact out_1.length (fun i => (lsEl eGFact zGFact out_1) (0 + i)) = L1_) (L2_ : List GFact) (hL2_ : lst dGFact 1 (fun i => (litE 14 (eGFact (l.getD (Int.toNat t8) zGFact))) (0 + i)) = L2_) :
    ev Tryz.prog (lookC [(42, .pure fact_Valid_C), (44, .pure career_merge_api_Fact_byIdentity_greater_C)]) 20 (ofItems ((List.drop 0 z45i1).take 4)) (cN [3, 6, 7, 8] K) (z45p0S out_1 l t8) =
    ((bif (decide (t8 < ((l.length : Nat) : Int))) then ((0 : Int) ≤ t8) ∧ (t8 < ((l.length : Nat) : Int)) ∧ (((fact_Valid (l.getD (Int.toNat t8) zGFact)).isSome = true) ∧ ((bif ((fact_Valid (l.getD (Int.toNat t8) zGFact)).getD false) then (LstOk eGFact dGFact 14 14 out_1.length (fun i => (lsEl eGFact zGFact out_1) (0 + i))) ∧ (LstOk eGFact dGFact 14 14 1 (fun i => (litE 14 (eGFact (l.getD (Int.toNat t8) zGFact))) (0 + i))) ∧ ((career_merge_api_Fact_byIdentity_greater L1_ L2_).isSome = true) ∧ (wK K .normal (z45l1S l (((career_merge_api_Fact_byIdentity_greater L1_ L2_).getD ([] : List GFact)), (w64 (t8 + (1 : Int)))))) else wK K .normal (z45l1S l (out_1, (w64 (t8 + (1 : Int)))))))) else wK K (.exit 0) ({ tm := [sv 3 (.row 0 14 0 out_1.length), sv 6 (.c (.sl 14 l.length (lsEl eGFact zGFact l))), sv 7 (i64 ((l.length : Nat) : Int)), sv 8 (i64 t8)], hp := [(0, some (.row 36 14 out_1.length (lsEl eGFact zGFact out_1)))], nx := 1 }))) := by subst hL1_ hL2_; kernel_rfl
theorem z45p0ok (out_1 l : (List GFact)) (t8 : Int) (K : KT) (h : W (career_ascending_p0 out_1 l t8) (nE (z45l1S l) (z45l1E l) K)) : EvL Tryz.prog 20 (List.drop 0 z45i1) K (z45p0S out_1 l t8) :=
  EvL.pE mixed (lookC_ok (l := [(42, .pure fact_Valid_C), (44, .pure career_merge_api_Fact_byIdentity_greater_C)]) ⟨fact_Valid_ok, career_merge_api_Fact_byIdentity_greater_ok, trivial⟩) [3, 6, 7, 8] 0 4 (.of (z45p0nf out_1 l t8 _ _ (RowIs.lst dGFact_eGFact (RowIs.zero (RowIs.ls eGFact zGFact out_1))) _ (RowIs.lst dGFact_eGFact (RowIs.zero (RowIs.l1 (enc := eGFact) (z := zGFact) 14 (l.getD (Int.toNat t8) zGFact) rfl)))) (W_bif h (fun _ h => (W_gd2 h fun hp0 h => (W_bind false h fun hp1 h => (W_bif h (fun _ h => ⟨RowIs.ok dGFact_eGFact (RowIs.zero (RowIs.ls eGFact zGFact out_1)), ⟨RowIs.ok dGFact_eGFact (RowIs.zero (RowIs.l1 (enc := eGFact) (z := zGFact) 14 (l.getD (Int.toNat t8) zGFact) rfl)), (W_bind ([] : List GFact) h fun hp2 h => ⟨_, .refl _, h⟩)⟩⟩) (fun _ h => ⟨_, .refl _, h⟩))))) (fun _ h => ⟨(z45l1C0 l out_1), (.of (.q rfl .nil) (.same rfl .nil) rfl), h⟩)))
noncomputable def career_ascending_l1 (l : (List GFact)) (s : ((List GFact) × Int)) : Option (((List GFact) × Int) ⊕ (((List GFact)))) := match s with | (out_1, t8) => career_ascending_p0 out_1 l t8
theorem z45l1ok (l : (List GFact)) (s : ((List GFact) × Int)) : Pp Tryz.prog 20 (List.drop 0 z45i1) (z45l1S l s) (career_ascending_l1 l s) (nextE (z45l1S l) (z45l1E l)) := fun K h => match s, h with | (out_1, t8), h => (z45p0ok out_1 l t8 _ h)
theorem z45l1Ethen (l : (List GFact)) : ∀ (r : (((List GFact)))) (J : St → Prop) (K : KT), z45l1E l r K → z45l1E l r (thenK J K)
  | s, _, _, h => h
def z45p1S (out_3 : (List GFact)) : St := { tm := [sv 3 (.row 0 14 0 out_3.length)], hp := [(0, some (.row 36 14 out_3.length (lsEl eGFact zGFact out_3)))], nx := 1 }
noncomputable def career_ascending_p1 (out_3 : (List GFact)) : Option ((List GFact)) := (some out_3)
theorem z45p1ok (out_3 : (List GFact)) (K : KT) (h : W (career_ascending_p1 out_3) (rE z45R K)) : EvL Tryz.prog 20 (List.drop 4 z45i0) K (z45p1S out_3) :=
  EvL.pE mixed (lookC_ok (l := []) trivial) [2] 4 2 (.nf (X := fun K => wK K .ret (z45R out_3)) (fun K => by kernel_rfl) (⟨_, .refl _, h⟩))
def z45p2S (l : (List GFact)) : St := { tm := [sv 3 (.c .nil), sv 6 (.c (.sl 14 l.length (lsEl eGFact zGFact l))), sv 7 (i64 ((l.length : Nat) : Int)), sv 8 (i64 (0 : Int))], hp := [], nx := 0 }
noncomputable def career_ascending_p2_g (l : (List GFact)) (r : (((List GFact)))) : Option ((List GFact)) := match r with | out_2 => (career_ascending_p1 out_2)
noncomputable def career_ascending_p2 (l : (List GFact)) : Option ((List GFact)) := (fixL (career_ascending_l1 l) (([] : List GFact), (0 : Int))).bind (career_ascending_p2_g l)
theorem z45p2at : List.drop 3 z45i0 = .block 0 (.loop (inside (inside (nthI z45i0 3)))) :: List.drop 4 z45i0 := by kernel_rfl
theorem z45p2k (l : (List GFact)) (K : KT) : ∀ r : (((List GFact))), W (career_ascending_p2_g l r) (rE z45R K) → z45l1E l r (wK (blockK 0 (thenK (EvL Tryz.prog 20 (List.drop 4 z45i0) K) K)))
  | out_2, h => ⟨(z45p1S out_2), (.refl _), (z45p1ok out_2 _ h)⟩
theorem z45p2ok (l : (List GFact)) (K : KT) (h : W (career_ascending_p2 l) (rE z45R K)) : EvL Tryz.prog 20 (List.drop 3 z45i0) K (z45p2S l) :=
  EvL.at_ z45p2at (EvL.cons_loop (EvOk.weak (EvOk.ent (.trans (.nilrow 3 0 36 14 (lsEl eGFact zGFact []) (Nat.le_of_ble_eq_true rfl) rfl) (.cn [3, 6, 7, 8])) (EvOk.loopF (x := inside (inside (nthI z45i0 3))) (f := career_ascending_l1 l) (emb := z45l1S l) (E := z45l1E l) (z45l1ok l) (z45l1Ethen l) (W_loop h (z45p2k l K))))))
def z45p3S (l : (List GFact)) : St := { tm := [sv 0 (.c (.sl 14 l.length (lsEl eGFact zGFact l)))], hp := [], nx := 0 }
noncomputable def career_ascending_p3 (l : (List GFact)) : Option ((List GFact)) := (career_ascending_p2 l)
theorem z45p3ok (l : (List GFact)) (K : KT) (h : W (career_ascending_p3 l) (rE z45R K)) : EvL Tryz.prog 20 (List.drop 0 z45i0) K (z45p3S l) :=
  EvL.pD mixed (lookC_ok (l := []) trivial) [3, 6, 7, 8] 0 3 3 (.nf (X := fun K => wK K .normal (z45p2S l)) (fun K => by kernel_rfl) (⟨_, .refl _, (z45p2ok l _ h)⟩))
noncomputable def career_ascending (l : (List GFact)) : Option ((List GFact)) := career_ascending_p3 l
theorem z45run (l : (List GFact)) (y_ : (List GFact)) (h : career_ascending l = some y_) : EvL Tryz.prog 20 (items (bodyOf Tryz.f45)) (retK Tryz.prog [.tmp 2] (OutOk (career_ascending_out y_))) (z45p3S l) :=
  z45p3ok l _ (W_iff.2 ⟨y_, h, z45Rok y_⟩)
noncomputable def career_ascending_C : Con
  | [(.c (.sl k1 n2 e3))] => some ([LstOk eGFact dGFact 14 k1 n2 e3, (career_ascending (lst dGFact n2 e3)).isSome = true], (career_ascending_out ((career_ascending (lst dGFact n2 e3)).getD ([] : List GFact))))
  | _ => none
theorem career_ascending_ok : Meets Tryz.prog 45 career_ascending_C := by
  refine meets_fun (fn := Tryz.f45) (c := bodyOf Tryz.f45) (by kernel_rfl) (by kernel_rfl) (by kernel_rfl) (rs := [.tmp 2]) (by kernel_rfl) (nt := 20) (by kernel_rfl) fun vs p out h hp => ?_
  unfold career_ascending_C at h
  split at h
  · next k1 n2 e3 =>
    cases h
    obtain ⟨g0, hp⟩ := allq hp
    obtain ⟨g, hp⟩ := allq hp
    obtain ⟨x, hx⟩ := Option.isSome_iff_exists.1 g
    rw [hx]
    exact ⟨[(.c (.sl 14 ((lst dGFact n2 e3)).length (lsEl eGFact zGFact (lst dGFact n2 e3))))], (VLes.cons (VLe.slk g0.1 (RowIs.of_ok g0)) VLes.nil), rfl, z45run (lst dGFact n2 e3) x hx⟩
  · cases h

noncomputable def z24i0 : List Code := items (bodyOf Tryz.f24)
def career_Merge_out (x_1 : (List GFact)) : Out := .own true 36 14 (x_1).length (lsEl eGFact zGFact x_1)
def z24R (x_1 : (List GFact)) : St := { tm := [sv 4 (.row 0 14 0 x_1.length)], hp := [(0, some (.row 36 14 x_1.length (lsEl eGFact zGFact x_1)))], nx := 1 }
theorem z24Rok (x_1 : (List GFact)) : retK Tryz.prog [.tmp 4] (OutOk (career_Merge_out x_1)) .ret (z24R x_1) :=
  retK.intro (v := (.row 0 14 0 x_1.length)) (by kernel_rfl) (⟨_, _, _, rfl, rfl, rfl, fun _ _ => rfl, fun _ i hi d hd => scal_GFact _ d hd⟩)
def z24p0S (a b : (List GFact)) : St := { tm := [sv 0 (.c (.sl 14 a.length (lsEl eGFact zGFact a))), sv 1 (.c (.sl 14 b.length (lsEl eGFact zGFact b)))], hp := [], nx := 0 }
noncomputable def career_Merge_p0 (a b : (List GFact)) : Option ((List GFact)) := (career_ascending a).bind fun r_1 => ((career_ascending b).bind fun r_2 => ((career_merge_api_Fact_byIdentity_greater r_1 r_2).bind fun r_3 => ((some r_3))))
theorem z24p0nf (a b : (List GFact)) (K : KT) (L1_ : List GFact) (hL1_ : lst dGFact a.length (lsEl eGFact zGFact a) = L1_) (L2_ : List GFact) (hL2_ : lst dGFact b.length (lsEl eGFact zGFact b) = L2_) (L3_ : List GFact) (hL3_ : lst dGFact ((((career_ascending L1_).getD ([] : List GFact))).length) (fun i => (lsEl eGFact zGFact ((career_ascending L1_).getD ([] : List GFact))) (0 + i)) = L3_) (L4_ : List GFact) (hL4_ : lst dGFact ((((career_ascending L2_).getD ([] : List GFact))).length) (fun i => (lsEl eGFact zGFact ((career_ascending L2_).getD ([] : List GFact))) (0 + i)) = L4_) :
    ev Tryz.prog (lookC [(44, .pure career_merge_api_Fact_byIdentity_greater_C), (45, .pure career_ascending_C)]) 10 (ofItems ((List.drop 0 z24i0).take 3)) (cN [4] K) (z24p0S a b) =
    ((LstOk eGFact dGFact 14 14 a.length (lsEl eGFact zGFact a)) ∧ ((career_ascending L1_).isSome = true) ∧ (LstOk eGFact dGFact 14 14 b.length (lsEl eGFact zGFact b)) ∧ ((career_ascending L2_).isSome = true) ∧ (LstOk eGFact dGFact 14 14 ((((career_ascending L1_).getD ([] : List GFact))).length) (fun i => (lsEl eGFact zGFact ((career_ascending L1_).getD ([] : List GFact))) (0 + i))) ∧ (LstOk eGFact dGFact 14 14 ((((career_ascending L2_).getD ([] : List GFact))).length) (fun i => (lsEl eGFact zGFact ((career_ascending L2_).getD ([] : List GFact))) (0 + i))) ∧ ((career_merge_api_Fact_byIdentity_greater L3_ L4_).isSome = true) ∧ (wK K .ret (z24R ((career_merge_api_Fact_byIdentity_greater L3_ L4_).getD ([] : List GFact))))) := by subst hL1_ hL2_ hL3_ hL4_; kernel_rfl
theorem z24p0ok (a b : (List GFact)) (K : KT) (h : W (career_Merge_p0 a b) (rE z24R K)) : EvL Tryz.prog 10 (List.drop 0 z24i0) K (z24p0S a b) :=
  EvL.pE mixed (lookC_ok (l := [(44, .pure career_merge_api_Fact_byIdentity_greater_C), (45, .pure career_ascending_C)]) ⟨career_merge_api_Fact_byIdentity_greater_ok, career_ascending_ok, trivial⟩) [4] 0 3 (.of (z24p0nf a b _ _ (RowIs.lst dGFact_eGFact (RowIs.ls eGFact zGFact a)) _ (RowIs.lst dGFact_eGFact (RowIs.ls eGFact zGFact b)) _ (RowIs.lst dGFact_eGFact (RowIs.zero (RowIs.ls eGFact zGFact ((career_ascending a).getD ([] : List GFact))))) _ (RowIs.lst dGFact_eGFact (RowIs.zero (RowIs.ls eGFact zGFact ((career_ascending b).getD ([] : List GFact)))))) (⟨RowIs.ok dGFact_eGFact (RowIs.ls eGFact zGFact a), (W_bind ([] : List GFact) h fun hp0 h => ⟨RowIs.ok dGFact_eGFact (RowIs.ls eGFact zGFact b), (W_bind ([] : List GFact) h fun hp1 h => ⟨RowIs.ok dGFact_eGFact (RowIs.zero (RowIs.ls eGFact zGFact ((career_ascending a).getD ([] : List GFact)))), ⟨RowIs.ok dGFact_eGFact (RowIs.zero (RowIs.ls eGFact zGFact ((career_ascending b).getD ([] : List GFact)))), (W_bind ([] : List GFact) h fun hp2 h => ⟨_, .refl _, h⟩)⟩⟩)⟩)⟩))
noncomputable def career_Merge (a b : (List GFact)) : Option ((List GFact)) := career_Merge_p0 a b
theorem z24run (a b : (List GFact)) (y_ : (List GFact)) (h : career_Merge a b = some y_) : EvL Tryz.prog 10 (items (bodyOf Tryz.f24)) (retK Tryz.prog [.tmp 4] (OutOk (career_Merge_out y_))) (z24p0S a b) :=
  z24p0ok a b _ (W_iff.2 ⟨y_, h, z24Rok y_⟩)
noncomputable def career_Merge_C : Con
  | [(.c (.sl k1 n2 e3)), (.c (.sl k4 n5 e6))] => some ([LstOk eGFact dGFact 14 k1 n2 e3, LstOk eGFact dGFact 14 k4 n5 e6, (career_Merge (lst dGFact n2 e3) (lst dGFact n5 e6)).isSome = true], (career_Merge_out ((career_Merge (lst dGFact n2 e3) (lst dGFact n5 e6)).getD ([] : List GFact))))
  | _ => none
theorem career_Merge_ok : Meets Tryz.prog 24 career_Merge_C := by
  refine meets_fun (fn := Tryz.f24) (c := bodyOf Tryz.f24) (by kernel_rfl) (by kernel_rfl) (by kernel_rfl) (rs := [.tmp 4]) (by kernel_rfl) (nt := 10) (by kernel_rfl) fun vs p out h hp => ?_
  unfold career_Merge_C at h
  split at h
  · next k1 n2 e3 k4 n5 e6 =>
    cases h
    obtain ⟨g0, hp⟩ := allq hp
    obtain ⟨g1, hp⟩ := allq hp
    obtain ⟨g, hp⟩ := allq hp
    obtain ⟨x, hx⟩ := Option.isSome_iff_exists.1 g
    rw [hx]
    exact ⟨[(.c (.sl 14 ((lst dGFact n2 e3)).length (lsEl eGFact zGFact (lst dGFact n2 e3)))), (.c (.sl 14 ((lst dGFact n5 e6)).length (lsEl eGFact zGFact (lst dGFact n5 e6))))], (VLes.cons (VLe.slk g0.1 (RowIs.of_ok g0)) (VLes.cons (VLe.slk g1.1 (RowIs.of_ok g1)) VLes.nil)), rfl, z24run (lst dGFact n2 e3) (lst dGFact n5 e6) x hx⟩
  · cases h

noncomputable def z8i0 : List Code := items (bodyOf Tryz.f8)
def law13_awake_out (x_1 : Bool) : Out := .data (bl x_1)
def z8R (x_1 : Bool) : St := { tm := [sv 0 (bl x_1)], hp := [], nx := 0 }
theorem z8Rok (x_1 : Bool) : retK Tryz.prog [.tmp 0] (OutOk (law13_awake_out x_1)) .ret (z8R x_1) :=
  retK.intro (v := (bl x_1)) (by kernel_rfl) ((VLe.rfl' _))
def z8p0S : St := { tm := [], hp := [], nx := 0 }
noncomputable def law13_awake_p0 : Option (Bool) := (career_Merge ([(GFact.mk (0 : Int) (1 : Int) (2 : Int) false (1 : Int) (11 : Int) (0 : Int) (GSpan.mk (10 : Int) (11 : Int)) (0 : Int) (0 : Int) (0 : Int) (0 : Int) (0 : Int))] : List GFact) ([(GFact.mk (0 : Int) (1 : Int) (1 : Int) false (1 : Int) (11 : Int) (0 : Int) (GSpan.mk (10 : Int) (11 : Int)) (0 : Int) (0 : Int) (0 : Int) (0 : Int) (0 : Int))] : List GFact)).bind fun r_1 => (gd (((((r_1.length : Nat) : Int) == (1 : Int)) && true) = true → (0 : Int) ≤ (0 : Int)) (gd (((((r_1.length : Nat) : Int) == (1 : Int)) && true) = true → (0 : Int) < ((r_1.length : Nat) : Int)) ((some (bif (((r_1.length : Nat) : Int) == (1 : Int)) then (((r_1.getD 0 zGFact).Issuer == (0 : Int)) && (((r_1.getD 0 zGFact).Number == (1 : Int)) && (((r_1.getD 0 zGFact).Version == (2 : Int)) && (((r_1.getD 0 zGFact).Withdrawn == false) && (((r_1.getD 0 zGFact).Person == (1 : Int)) && (((r_1.getD 0 zGFact).Kind == (11 : Int)) && (((r_1.getD 0 zGFact).State == (0 : Int)) && (((((r_1.getD 0 zGFact).Span).From == (10 : Int)) && ((((r_1.getD 0 zGFact).Span).To == (11 : Int)) && true)) && (((r_1.getD 0 zGFact).Seat == (0 : Int)) && (((r_1.getD 0 zGFact).Share == (0 : Int)) && (((r_1.getD 0 zGFact).Currency == (0 : Int)) && (((r_1.getD 0 zGFact).Amount == (0 : Int)) && (((r_1.getD 0 zGFact).Ref == (0 : Int)) && true))))))))))))) else false)))))
theorem z8p0nf (K : KT) (L1_ : List GFact) (hL1_ : lst dGFact 1 (fun i => (litE 14 (eGFact (GFact.mk (0 : Int) (1 : Int) (2 : Int) false (1 : Int) (11 : Int) (0 : Int) (GSpan.mk (10 : Int) (11 : Int)) (0 : Int) (0 : Int) (0 : Int) (0 : Int) (0 : Int)))) (0 + i)) = L1_) (L2_ : List GFact) (hL2_ : lst dGFact 1 (fun i => (litE 14 (eGFact (GFact.mk (0 : Int) (1 : Int) (1 : Int) false (1 : Int) (11 : Int) (0 : Int) (GSpan.mk (10 : Int) (11 : Int)) (0 : Int) (0 : Int) (0 : Int) (0 : Int) (0 : Int)))) (0 + i)) = L2_) :
    ev Tryz.prog (lookC [(24, .pure career_Merge_C)]) 23 (ofItems ((List.drop 0 z8i0).take 7)) (cN [0] K) (z8p0S) =
    ((LstOk eGFact dGFact 14 14 1 (fun i => (litE 14 (eGFact (GFact.mk (0 : Int) (1 : Int) (2 : Int) false (1 : Int) (11 : Int) (0 : Int) (GSpan.mk (10 : Int) (11 : Int)) (0 : Int) (0 : Int) (0 : Int) (0 : Int) (0 : Int)))) (0 + i))) ∧ (LstOk eGFact dGFact 14 14 1 (fun i => (litE 14 (eGFact (GFact.mk (0 : Int) (1 : Int) (1 : Int) false (1 : Int) (11 : Int) (0 : Int) (GSpan.mk (10 : Int) (11 : Int)) (0 : Int) (0 : Int) (0 : Int) (0 : Int) (0 : Int)))) (0 + i))) ∧ ((career_Merge L1_ L2_).isSome = true) ∧ (((((((((career_Merge L1_ L2_).getD ([] : List GFact))).length : Nat) : Int) == (1 : Int)) && true) = true → (0 : Int) ≤ (0 : Int)) ∧ ((((((((career_Merge L1_ L2_).getD ([] : List GFact))).length : Nat) : Int) == (1 : Int)) && true) = true → (0 : Int) < (((((career_Merge L1_ L2_).getD ([] : List GFact))).length : Nat) : Int)) ∧ (wK K .ret (z8R (bif ((((((career_Merge L1_ L2_).getD ([] : List GFact))).length : Nat) : Int) == (1 : Int)) then (((((career_Merge L1_ L2_).getD ([] : List GFact)).getD 0 zGFact).Issuer == (0 : Int)) && (((((career_Merge L1_ L2_).getD ([] : List GFact)).getD 0 zGFact).Number == (1 : Int)) && (((((career_Merge L1_ L2_).getD ([] : List GFact)).getD 0 zGFact).Version == (2 : Int)) && (((((career_Merge L1_ L2_).getD ([] : List GFact)).getD 0 zGFact).Withdrawn == false) && (((((career_Merge L1_ L2_).getD ([] : List GFact)).getD 0 zGFact).Person == (1 : Int)) && (((((career_Merge L1_ L2_).getD ([] : List GFact)).getD 0 zGFact).Kind == (11 : Int)) && (((((career_Merge L1_ L2_).getD ([] : List GFact)).getD 0 zGFact).State == (0 : Int)) && (((((((career_Merge L1_ L2_).getD ([] : List GFact)).getD 0 zGFact).Span).From == (10 : Int)) && ((((((career_Merge L1_ L2_).getD ([] : List GFact)).getD 0 zGFact).Span).To == (11 : Int)) && true)) && (((((career_Merge L1_ L2_).getD ([] : List GFact)).getD 0 zGFact).Seat == (0 : Int)) && (((((career_Merge L1_ L2_).getD ([] : List GFact)).getD 0 zGFact).Share == (0 : Int)) && (((((career_Merge L1_ L2_).getD ([] : List GFact)).getD 0 zGFact).Currency == (0 : Int)) && (((((career_Merge L1_ L2_).getD ([] : List GFact)).getD 0 zGFact).Amount == (0 : Int)) && (((((career_Merge L1_ L2_).getD ([] : List GFact)).getD 0 zGFact).Ref == (0 : Int)) && true))))))))))))) else false))))) := by subst hL1_ hL2_; kernel_rfl
theorem z8p0ok (K : KT) (h : W (law13_awake_p0) (rE z8R K)) : EvL Tryz.prog 23 (List.drop 0 z8i0) K (z8p0S) :=
  EvL.pE mixed (lookC_ok (l := [(24, .pure career_Merge_C)]) ⟨career_Merge_ok, trivial⟩) [0] 0 7 (.of (z8p0nf _ _ (RowIs.lst dGFact_eGFact (RowIs.zero (RowIs.l1 (enc := eGFact) (z := zGFact) 14 (GFact.mk (0 : Int) (1 : Int) (2 : Int) false (1 : Int) (11 : Int) (0 : Int) (GSpan.mk (10 : Int) (11 : Int)) (0 : Int) (0 : Int) (0 : Int) (0 : Int) (0 : Int)) rfl))) _ (RowIs.lst dGFact_eGFact (RowIs.zero (RowIs.l1 (enc := eGFact) (z := zGFact) 14 (GFact.mk (0 : Int) (1 : Int) (1 : Int) false (1 : Int) (11 : Int) (0 : Int) (GSpan.mk (10 : Int) (11 : Int)) (0 : Int) (0 : Int) (0 : Int) (0 : Int) (0 : Int)) rfl)))) (⟨RowIs.ok dGFact_eGFact (RowIs.zero (RowIs.l1 (enc := eGFact) (z := zGFact) 14 (GFact.mk (0 : Int) (1 : Int) (2 : Int) false (1 : Int) (11 : Int) (0 : Int) (GSpan.mk (10 : Int) (11 : Int)) (0 : Int) (0 : Int) (0 : Int) (0 : Int) (0 : Int)) rfl)), ⟨RowIs.ok dGFact_eGFact (RowIs.zero (RowIs.l1 (enc := eGFact) (z := zGFact) 14 (GFact.mk (0 : Int) (1 : Int) (1 : Int) false (1 : Int) (11 : Int) (0 : Int) (GSpan.mk (10 : Int) (11 : Int)) (0 : Int) (0 : Int) (0 : Int) (0 : Int) (0 : Int)) rfl)), (W_bind ([] : List GFact) h fun hp0 h => (W_gd h fun hp1 h => (W_gd h fun hp2 h => ⟨_, .refl _, h⟩)))⟩⟩))
noncomputable def law13_awake : Option (Bool) := law13_awake_p0
theorem z8run (y_ : Bool) (h : law13_awake = some y_) : EvL Tryz.prog 23 (items (bodyOf Tryz.f8)) (retK Tryz.prog [.tmp 0] (OutOk (law13_awake_out y_))) (z8p0S) :=
  z8p0ok _ (W_iff.2 ⟨y_, h, z8Rok y_⟩)
noncomputable def law13_awake_C : Con
  | [] => some ([(law13_awake).isSome = true], (law13_awake_out ((law13_awake).getD false)))
  | _ => none
theorem law13_awake_ok : Meets Tryz.prog 8 law13_awake_C := by
  refine meets_fun (fn := Tryz.f8) (c := bodyOf Tryz.f8) (by kernel_rfl) (by kernel_rfl) (by kernel_rfl) (rs := [.tmp 0]) (by kernel_rfl) (nt := 23) (by kernel_rfl) fun vs p out h hp => ?_
  unfold law13_awake_C at h
  split at h
  ·
    cases h
    obtain ⟨g, hp⟩ := allq hp
    obtain ⟨x, hx⟩ := Option.isSome_iff_exists.1 g
    rw [hx]
    exact ⟨[], VLes.nil, rfl, z8run x hx⟩
  · cases h

noncomputable def z6i0 : List Code := items (bodyOf Tryz.f6)
def made_Pick_out (x_1 : Int) : Out := .data (i64 x_1)
def z6R (x_1 : Int) : St := { tm := [sv 4 (i64 x_1)], hp := [], nx := 0 }
theorem z6Rok (x_1 : Int) : retK Tryz.prog [.tmp 4] (OutOk (made_Pick_out x_1)) .ret (z6R x_1) :=
  retK.intro (v := (i64 x_1)) (by kernel_rfl) ((VLe.rfl' _))
def z6p0S (n k : Int) : St := { tm := [sv 0 (i64 n), sv 1 (i64 k)], hp := [], nx := 0 }
noncomputable def made_Pick_p0 (n k : Int) : Option (Int) := (bif (decide (k < (1 : Int))) then (some (0 : Int)) else gd (k ≠ (0 : Int)) (gd (k ≠ (0 : Int)) ((some (Int.tmod (w64 ((Int.tmod n k) + k)) k)))))
theorem z6p0ok (n k : Int) (K : KT) (h : W (made_Pick_p0 n k) (rE z6R K)) : EvL Tryz.prog 14 (List.drop 0 z6i0) K (z6p0S n k) :=
  EvL.pE mixed (lookC_ok (l := []) trivial) [4] 0 5 (.nf (X := fun K => (bif (decide (k < (1 : Int))) then wK K .ret (z6R (0 : Int)) else (k ≠ (0 : Int)) ∧ (k ≠ (0 : Int)) ∧ (wK K .ret (z6R (Int.tmod (w64 ((Int.tmod n k) + k)) k))))) (fun K => by kernel_rfl) (W_bif h (fun _ h => ⟨_, .refl _, h⟩) (fun _ h => (W_gd h fun hp0 h => (W_gd h fun hp1 h => ⟨_, .refl _, h⟩)))))
noncomputable def made_Pick (n k : Int) : Option (Int) := made_Pick_p0 n k
theorem z6run (n k : Int) (y_ : Int) (h : made_Pick n k = some y_) : EvL Tryz.prog 14 (items (bodyOf Tryz.f6)) (retK Tryz.prog [.tmp 4] (OutOk (made_Pick_out y_))) (z6p0S n k) :=
  z6p0ok n k _ (W_iff.2 ⟨y_, h, z6Rok y_⟩)
noncomputable def made_Pick_C : Con
  | [(.c (.lit (.int .i64 a1))), (.c (.lit (.int .i64 a2)))] => some ([(made_Pick a1 a2).isSome = true], (made_Pick_out ((made_Pick a1 a2).getD (0 : Int))))
  | _ => none
theorem made_Pick_ok : Meets Tryz.prog 6 made_Pick_C := by
  refine meets_fun (fn := Tryz.f6) (c := bodyOf Tryz.f6) (by kernel_rfl) (by kernel_rfl) (by kernel_rfl) (rs := [.tmp 4]) (by kernel_rfl) (nt := 14) (by kernel_rfl) fun vs p out h hp => ?_
  unfold made_Pick_C at h
  split at h
  · next a1 a2 =>
    cases h
    obtain ⟨g, hp⟩ := allq hp
    obtain ⟨x, hx⟩ := Option.isSome_iff_exists.1 g
    rw [hx]
    exact ⟨[(i64 a1), (i64 a2)], (VLes.cons (VLe.rfl' _) (VLes.cons (VLe.rfl' _) VLes.nil)), rfl, z6run a1 a2 x hx⟩
  · cases h

noncomputable def z28i0 : List Code := items (bodyOf Tryz.f28)
def calendar_Valid_out (x_1 : Bool) : Out := .data (bl x_1)
def z28R (x_1 : Bool) : St := { tm := [sv 2 (bl x_1)], hp := [], nx := 0 }
theorem z28Rok (x_1 : Bool) : retK Tryz.prog [.tmp 2] (OutOk (calendar_Valid_out x_1)) .ret (z28R x_1) :=
  retK.intro (v := (bl x_1)) (by kernel_rfl) ((VLe.rfl' _))
def z28p0S (day : Int) : St := { tm := [sv 0 (i64 day)], hp := [], nx := 0 }
noncomputable def calendar_Valid_p0 (day : Int) : Option (Bool) := (some (bif (decide ((0 : Int) ≤ day)) then (decide (day ≤ (73048 : Int))) else false))
theorem z28p0ok (day : Int) (K : KT) (h : W (calendar_Valid_p0 day) (rE z28R K)) : EvL Tryz.prog 9 (List.drop 0 z28i0) K (z28p0S day) :=
  EvL.pE mixed (lookC_ok (l := []) trivial) [2] 0 3 (.nf (X := fun K => wK K .ret (z28R (bif (decide ((0 : Int) ≤ day)) then (decide (day ≤ (73048 : Int))) else false))) (fun K => by kernel_rfl) (⟨_, .refl _, h⟩))
noncomputable def calendar_Valid (day : Int) : Option (Bool) := calendar_Valid_p0 day
theorem z28run (day : Int) (y_ : Bool) (h : calendar_Valid day = some y_) : EvL Tryz.prog 9 (items (bodyOf Tryz.f28)) (retK Tryz.prog [.tmp 2] (OutOk (calendar_Valid_out y_))) (z28p0S day) :=
  z28p0ok day _ (W_iff.2 ⟨y_, h, z28Rok y_⟩)
noncomputable def calendar_Valid_C : Con
  | [(.c (.lit (.int .i64 a1)))] => some ([(calendar_Valid a1).isSome = true], (calendar_Valid_out ((calendar_Valid a1).getD false)))
  | _ => none
theorem calendar_Valid_ok : Meets Tryz.prog 28 calendar_Valid_C := by
  refine meets_fun (fn := Tryz.f28) (c := bodyOf Tryz.f28) (by kernel_rfl) (by kernel_rfl) (by kernel_rfl) (rs := [.tmp 2]) (by kernel_rfl) (nt := 9) (by kernel_rfl) fun vs p out h hp => ?_
  unfold calendar_Valid_C at h
  split at h
  · next a1 =>
    cases h
    obtain ⟨g, hp⟩ := allq hp
    obtain ⟨x, hx⟩ := Option.isSome_iff_exists.1 g
    rw [hx]
    exact ⟨[(i64 a1)], (VLes.cons (VLe.rfl' _) VLes.nil), rfl, z28run a1 x hx⟩
  · cases h

noncomputable def z22i0 : List Code := items (bodyOf Tryz.f22)
def career_current_out (x_1 : Bool) : Out := .data (bl x_1)
def z22R (x_1 : Bool) : St := { tm := [sv 2 (bl x_1)], hp := [], nx := 0 }
theorem z22Rok (x_1 : Bool) : retK Tryz.prog [.tmp 2] (OutOk (career_current_out x_1)) .ret (z22R x_1) :=
  retK.intro (v := (bl x_1)) (by kernel_rfl) ((VLe.rfl' _))
def z22p0S (f : GFact) : St := { tm := [sv 0 (.ag (eGFact f))], hp := [], nx := 0 }
noncomputable def career_current_p0 (f : GFact) : Option (Bool) := (fact_Valid f).bind fun r_1 => ((some (bif r_1 then (!f.Withdrawn) else false)))
theorem z22p0ok (f : GFact) (K : KT) (h : W (career_current_p0 f) (rE z22R K)) : EvL Tryz.prog 10 (List.drop 0 z22i0) K (z22p0S f) :=
  EvL.pE mixed (lookC_ok (l := [(42, .pure fact_Valid_C)]) ⟨fact_Valid_ok, trivial⟩) [2] 0 3 (.nf (X := fun K => ((fact_Valid f).isSome = true) ∧ (wK K .ret (z22R (bif ((fact_Valid f).getD false) then (!f.Withdrawn) else false)))) (fun K => by kernel_rfl) (W_bind false h fun hp0 h => ⟨_, .refl _, h⟩))
noncomputable def career_current (f : GFact) : Option (Bool) := career_current_p0 f
theorem z22run (f : GFact) (y_ : Bool) (h : career_current f = some y_) : EvL Tryz.prog 10 (items (bodyOf Tryz.f22)) (retK Tryz.prog [.tmp 2] (OutOk (career_current_out y_))) (z22p0S f) :=
  z22p0ok f _ (W_iff.2 ⟨y_, h, z22Rok y_⟩)
noncomputable def career_current_C : Con
  | [(.agg [(.c (.lit (.int .i64 a1))), (.c (.lit (.int .i64 a2))), (.c (.lit (.int .i64 a3))), (.c (.lit (.bool a4))), (.c (.lit (.int .i64 a5))), (.c (.lit (.int .i64 a6))), (.c (.lit (.int .i64 a7))), (.c (.lit (.int .i64 a8))), (.c (.lit (.int .i64 a9))), (.c (.lit (.int .i64 a10))), (.c (.lit (.int .i64 a11))), (.c (.lit (.int .i64 a12))), (.c (.lit (.int .i64 a13))), (.c (.lit (.int .i64 a14)))])] => some ([(career_current (GFact.mk a1 a2 a3 a4 a5 a6 a7 (GSpan.mk a8 a9) a10 a11 a12 a13 a14)).isSome = true], (career_current_out ((career_current (GFact.mk a1 a2 a3 a4 a5 a6 a7 (GSpan.mk a8 a9) a10 a11 a12 a13 a14)).getD false)))
  | _ => none
theorem career_current_ok : Meets Tryz.prog 22 career_current_C := by
  refine meets_fun (fn := Tryz.f22) (c := bodyOf Tryz.f22) (by kernel_rfl) (by kernel_rfl) (by kernel_rfl) (rs := [.tmp 2]) (by kernel_rfl) (nt := 10) (by kernel_rfl) fun vs p out h hp => ?_
  unfold career_current_C at h
  split at h
  · next a1 a2 a3 a4 a5 a6 a7 a8 a9 a10 a11 a12 a13 a14 =>
    cases h
    obtain ⟨g, hp⟩ := allq hp
    obtain ⟨x, hx⟩ := Option.isSome_iff_exists.1 g
    rw [hx]
    exact ⟨[(.agg [(i64 (GFact.mk a1 a2 a3 a4 a5 a6 a7 (GSpan.mk a8 a9) a10 a11 a12 a13 a14).Issuer), (i64 (GFact.mk a1 a2 a3 a4 a5 a6 a7 (GSpan.mk a8 a9) a10 a11 a12 a13 a14).Number), (i64 (GFact.mk a1 a2 a3 a4 a5 a6 a7 (GSpan.mk a8 a9) a10 a11 a12 a13 a14).Version), (bl (GFact.mk a1 a2 a3 a4 a5 a6 a7 (GSpan.mk a8 a9) a10 a11 a12 a13 a14).Withdrawn), (i64 (GFact.mk a1 a2 a3 a4 a5 a6 a7 (GSpan.mk a8 a9) a10 a11 a12 a13 a14).Person), (i64 (GFact.mk a1 a2 a3 a4 a5 a6 a7 (GSpan.mk a8 a9) a10 a11 a12 a13 a14).Kind), (i64 (GFact.mk a1 a2 a3 a4 a5 a6 a7 (GSpan.mk a8 a9) a10 a11 a12 a13 a14).State), (i64 ((GFact.mk a1 a2 a3 a4 a5 a6 a7 (GSpan.mk a8 a9) a10 a11 a12 a13 a14).Span).From), (i64 ((GFact.mk a1 a2 a3 a4 a5 a6 a7 (GSpan.mk a8 a9) a10 a11 a12 a13 a14).Span).To), (i64 (GFact.mk a1 a2 a3 a4 a5 a6 a7 (GSpan.mk a8 a9) a10 a11 a12 a13 a14).Seat), (i64 (GFact.mk a1 a2 a3 a4 a5 a6 a7 (GSpan.mk a8 a9) a10 a11 a12 a13 a14).Share), (i64 (GFact.mk a1 a2 a3 a4 a5 a6 a7 (GSpan.mk a8 a9) a10 a11 a12 a13 a14).Currency), (i64 (GFact.mk a1 a2 a3 a4 a5 a6 a7 (GSpan.mk a8 a9) a10 a11 a12 a13 a14).Amount), (i64 (GFact.mk a1 a2 a3 a4 a5 a6 a7 (GSpan.mk a8 a9) a10 a11 a12 a13 a14).Ref)])], (VLes.cons (VLe.rfl' _) VLes.nil), rfl, z22run (GFact.mk a1 a2 a3 a4 a5 a6 a7 (GSpan.mk a8 a9) a10 a11 a12 a13 a14) x hx⟩
  · cases h

noncomputable def z53i0 : List Code := items (bodyOf Tryz.f53)
noncomputable def z53i1 : List Code := items (inside (inside (nthI z53i0 3)))
def career_first_out (x_1 : (Int × Bool)) : Out := .data (.tup [(i64 x_1.1), (bl x_1.2)])
def z53R (x_1 : (Int × Bool)) : St := { tm := [sv 4 (i64 x_1.1), sv 5 (bl x_1.2)], hp := [], nx := 0 }
theorem z53Rok (x_1 : (Int × Bool)) : retK Tryz.prog [.tmp 4, .tmp 5] (OutOk (career_first_out x_1)) .ret (z53R x_1) :=
  retK.intro (v := (.tup [(i64 x_1.1), (bl x_1.2)])) (by kernel_rfl) (VLe.tup (VLes.cons (VLe.rfl' _) (VLes.cons (VLe.rfl' _) (VLes.nil))))
def z53l1S (kind : Int) (l : (List GFact)) (s : (Int × Bool × Int)) : St := match s with | (day, ok, t12) => { tm := [sv 1 (i64 kind), sv 6 (i64 day), sv 7 (bl ok), sv 10 (.c (.sl 14 l.length (lsEl eGFact zGFact l))), sv 11 (i64 ((l.length : Nat) : Int)), sv 12 (i64 t12)], hp := [], nx := 0 }
def z53l1C0 (kind : Int) (l : (List GFact)) (s : Int × Bool) : St := match s with | (day_1, ok_1) => { tm := [sv 6 (i64 day_1), sv 7 (bl ok_1)], hp := [], nx := 0 }
def z53l1E (kind : Int) (l : (List GFact)) (r : ((Int × Bool))) (K : KT) : Prop := match r with | s => K (.exit 0) (z53l1C0 kind l s)
def z53p0S (kind day : Int) (ok : Bool) (l : (List GFact)) (t12 : Int) : St := { tm := [sv 1 (i64 kind), sv 6 (i64 day), sv 7 (bl ok), sv 10 (.c (.sl 14 l.length (lsEl eGFact zGFact l))), sv 11 (i64 ((l.length : Nat) : Int)), sv 12 (i64 t12)], hp := [], nx := 0 }
noncomputable def career_first_p0 (kind day : Int) (ok : Bool) (l : (List GFact)) (t12 : Int) : Option ((Int × Bool × Int) ⊕ ((Int × Bool))) := (bif (decide (t12 < ((l.length : Nat) : Int))) then gd ((0 : Int) ≤ t12 ∧ t12 < ((l.length : Nat) : Int)) ((career_current (l.getD (Int.toNat t12) zGFact)).bind fun r_1 => ((bif (bif (bif r_1 then ((l.getD (Int.toNat t12) zGFact).Kind == kind) else false) then (bif (!ok) then true else (decide (((l.getD (Int.toNat t12) zGFact).Span).From < day))) else false) then (some (Sum.inl (((l.getD (Int.toNat t12) zGFact).Span).From, true, (w64 (t12 + (1 : Int)))))) else (some (Sum.inl (day, ok, (w64 (t12 + (1 : Int))))))))) else (some (Sum.inr (day, ok))))
theorem z53p0ok (kind day : Int) (ok : Bool) (l : (List GFact)) (t12 : Int) (K : KT) (h : W (career_first_p0 kind day ok l t12) (nE (z53l1S kind l) (z53l1E kind l) K)) : EvL Tryz.prog 41 (List.drop 0 z53i1) K (z53p0S kind day ok l t12) :=
  EvL.pE mixed (lookC_ok (l := [(22, .pure career_current_C)]) ⟨career_current_ok, trivial⟩) [1, 6, 7, 10, 11, 12, 19, 20, 21, 22, 25, 26, 27, 28, 29, 30, 31, 32, 33] 0 4 (.nf (X := fun K => (bif (decide (t12 < ((l.length : Nat) : Int))) then ((0 : Int) ≤ t12) ∧ (t12 < ((l.length : Nat) : Int)) ∧ (((career_current (l.getD (Int.toNat t12) zGFact)).isSome = true) ∧ ((bif (bif (bif ((career_current (l.getD (Int.toNat t12) zGFact)).getD false) then ((l.getD (Int.toNat t12) zGFact).Kind == kind) else false) then (bif (!ok) then true else (decide (((l.getD (Int.toNat t12) zGFact).Span).From < day))) else false) then wK K .normal ({ tm := [sv 1 (i64 kind), sv 6 (i64 ((l.getD (Int.toNat t12) zGFact).Span).From), sv 7 (bl true), sv 10 (.c (.sl 14 l.length (lsEl eGFact zGFact l))), sv 11 (i64 ((l.length : Nat) : Int)), sv 12 (i64 (w64 (t12 + (1 : Int)))), sv 19 (.c .unk), sv 20 (.c .unk), sv 21 (.c .unk), sv 22 (.c .unk), sv 25 (.c .unk), sv 26 (.c .unk), sv 27 (.c .unk), sv 28 (.c .unk), sv 29 (.c .unk), sv 30 (.c .unk), sv 31 (.c .unk), sv 32 (.c .unk), sv 33 (.c .unk)], hp := [], nx := 0 }) else wK K .normal ({ tm := [sv 1 (i64 kind), sv 6 (i64 day), sv 7 (bl ok), sv 10 (.c (.sl 14 l.length (lsEl eGFact zGFact l))), sv 11 (i64 ((l.length : Nat) : Int)), sv 12 (i64 (w64 (t12 + (1 : Int)))), sv 19 (.c .unk), sv 20 (.c .unk), sv 21 (.c .unk), sv 22 (.c .unk), sv 25 (.c .unk), sv 26 (.c .unk), sv 27 (.c .unk), sv 28 (.c .unk), sv 29 (.c .unk), sv 30 (.c .unk), sv 31 (.c .unk), sv 32 (.c .unk), sv 33 (.c .unk)], hp := [], nx := 0 })))) else wK K (.exit 0) ({ tm := [sv 1 (i64 kind), sv 6 (i64 day), sv 7 (bl ok), sv 10 (.c (.sl 14 l.length (lsEl eGFact zGFact l))), sv 11 (i64 ((l.length : Nat) : Int)), sv 12 (i64 t12)], hp := [], nx := 0 }))) (fun K => by kernel_rfl) (W_bif h (fun _ h => (W_gd2 h fun hp0 h => (W_bind false h fun hp1 h => (W_bif h (fun _ h => ⟨(z53l1S kind l (((l.getD (Int.toNat t12) zGFact).Span).From, true, (w64 (t12 + (1 : Int))))), (.of (.q rfl (.q rfl (.q rfl (.q rfl (.q rfl (.q rfl .nil)))))) .nil rfl), h⟩) (fun _ h => ⟨(z53l1S kind l (day, ok, (w64 (t12 + (1 : Int))))), (.of (.q rfl (.q rfl (.q rfl (.q rfl (.q rfl (.q rfl .nil)))))) .nil rfl), h⟩))))) (fun _ h => ⟨(z53l1C0 kind l (day, ok)), (.of (.q rfl (.q rfl .nil)) .nil rfl), h⟩)))
noncomputable def career_first_l1 (kind : Int) (l : (List GFact)) (s : (Int × Bool × Int)) : Option ((Int × Bool × Int) ⊕ ((Int × Bool))) := match s with | (day, ok, t12) => career_first_p0 kind day ok l t12
theorem z53l1ok (kind : Int) (l : (List GFact)) (s : (Int × Bool × Int)) : Pp Tryz.prog 41 (List.drop 0 z53i1) (z53l1S kind l s) (career_first_l1 kind l s) (nextE (z53l1S kind l) (z53l1E kind l)) := fun K h => match s, h with | (day, ok, t12), h => (z53p0ok kind day ok l t12 _ h)
theorem z53l1Ethen (kind : Int) (l : (List GFact)) : ∀ (r : ((Int × Bool))) (J : St → Prop) (K : KT), z53l1E kind l r K → z53l1E kind l r (thenK J K)
  | s, _, _, h => h
def z53p1S (day_2 : Int) (ok_2 : Bool) : St := { tm := [sv 6 (i64 day_2), sv 7 (bl ok_2)], hp := [], nx := 0 }
noncomputable def career_first_p1 (day_2 : Int) (ok_2 : Bool) : Option ((Int × Bool)) := (some (day_2, ok_2))
theorem z53p1ok (day_2 : Int) (ok_2 : Bool) (K : KT) (h : W (career_first_p1 day_2 ok_2) (rE z53R K)) : EvL Tryz.prog 41 (List.drop 4 z53i0) K (z53p1S day_2 ok_2) :=
  EvL.pE mixed (lookC_ok (l := []) trivial) [4, 5] 4 2 (.nf (X := fun K => wK K .ret (z53R (day_2, ok_2))) (fun K => by kernel_rfl) (⟨_, .refl _, h⟩))
def z53p2S (kind : Int) (l : (List GFact)) : St := { tm := [sv 1 (i64 kind), sv 6 (i64 (0 : Int)), sv 7 (bl false), sv 10 (.c (.sl 14 l.length (lsEl eGFact zGFact l))), sv 11 (i64 ((l.length : Nat) : Int)), sv 12 (i64 (0 : Int))], hp := [], nx := 0 }
noncomputable def career_first_p2_g (kind : Int) (l : (List GFact)) (r : ((Int × Bool))) : Option ((Int × Bool)) := match r with | (day_1, ok_1) => (career_first_p1 day_1 ok_1)
noncomputable def career_first_p2 (kind : Int) (l : (List GFact)) : Option ((Int × Bool)) := (fixL (career_first_l1 kind l) ((0 : Int), false, (0 : Int))).bind (career_first_p2_g kind l)
theorem z53p2at : List.drop 3 z53i0 = .block 0 (.loop (inside (inside (nthI z53i0 3)))) :: List.drop 4 z53i0 := by kernel_rfl
theorem z53p2k (kind : Int) (l : (List GFact)) (K : KT) : ∀ r : ((Int × Bool)), W (career_first_p2_g kind l r) (rE z53R K) → z53l1E kind l r (wK (blockK 0 (thenK (EvL Tryz.prog 41 (List.drop 4 z53i0) K) K)))
  | (day_1, ok_1), h => ⟨(z53p1S day_1 ok_1), (.refl _), (z53p1ok day_1 ok_1 _ h)⟩
theorem z53p2ok (kind : Int) (l : (List GFact)) (K : KT) (h : W (career_first_p2 kind l) (rE z53R K)) : EvL Tryz.prog 41 (List.drop 3 z53i0) K (z53p2S kind l) :=
  EvL.at_ z53p2at (EvL.cons_loop (EvOk.weak (EvOk.ent (.refl _) (EvOk.loopF (x := inside (inside (nthI z53i0 3))) (f := career_first_l1 kind l) (emb := z53l1S kind l) (E := z53l1E kind l) (z53l1ok kind l) (z53l1Ethen kind l) (W_loop h (z53p2k kind l K))))))
def z53p3S (l : (List GFact)) (kind : Int) : St := { tm := [sv 0 (.c (.sl 14 l.length (lsEl eGFact zGFact l))), sv 1 (i64 kind)], hp := [], nx := 0 }
noncomputable def career_first_p3 (l : (List GFact)) (kind : Int) : Option ((Int × Bool)) := (career_first_p2 kind l)
theorem z53p3ok (l : (List GFact)) (kind : Int) (K : KT) (h : W (career_first_p3 l kind) (rE z53R K)) : EvL Tryz.prog 41 (List.drop 0 z53i0) K (z53p3S l kind) :=
  EvL.pD mixed (lookC_ok (l := []) trivial) [1, 6, 7, 10, 11, 12, 19, 20, 21, 22, 25, 26, 27, 28, 29, 30, 31, 32, 33] 0 3 3 (.nf (X := fun K => wK K .normal (z53p2S kind l)) (fun K => by kernel_rfl) (⟨_, .refl _, (z53p2ok kind l _ h)⟩))
noncomputable def career_first (l : (List GFact)) (kind : Int) : Option ((Int × Bool)) := career_first_p3 l kind
theorem z53run (l : (List GFact)) (kind : Int) (y_ : (Int × Bool)) (h : career_first l kind = some y_) : EvL Tryz.prog 41 (items (bodyOf Tryz.f53)) (retK Tryz.prog [.tmp 4, .tmp 5] (OutOk (career_first_out y_))) (z53p3S l kind) :=
  z53p3ok l kind _ (W_iff.2 ⟨y_, h, z53Rok y_⟩)
noncomputable def career_first_C : Con
  | [(.c (.sl k1 n2 e3)), (.c (.lit (.int .i64 a4)))] => some ([LstOk eGFact dGFact 14 k1 n2 e3, (career_first (lst dGFact n2 e3) a4).isSome = true], (career_first_out ((career_first (lst dGFact n2 e3) a4).getD ((0 : Int), false))))
  | _ => none
theorem career_first_ok : Meets Tryz.prog 53 career_first_C := by
  refine meets_fun (fn := Tryz.f53) (c := bodyOf Tryz.f53) (by kernel_rfl) (by kernel_rfl) (by kernel_rfl) (rs := [.tmp 4, .tmp 5]) (by kernel_rfl) (nt := 41) (by kernel_rfl) fun vs p out h hp => ?_
  unfold career_first_C at h
  split at h
  · next k1 n2 e3 a4 =>
    cases h
    obtain ⟨g0, hp⟩ := allq hp
    obtain ⟨g, hp⟩ := allq hp
    obtain ⟨x, hx⟩ := Option.isSome_iff_exists.1 g
    rw [hx]
    exact ⟨[(.c (.sl 14 ((lst dGFact n2 e3)).length (lsEl eGFact zGFact (lst dGFact n2 e3)))), (i64 a4)], (VLes.cons (VLe.slk g0.1 (RowIs.of_ok g0)) (VLes.cons (VLe.rfl' _) VLes.nil)), rfl, z53run (lst dGFact n2 e3) a4 x hx⟩
  · cases h

noncomputable def z30i0 : List Code := items (bodyOf Tryz.f30)
def career_Birth_out (x_1 : (Int × Bool)) : Out := .data (.tup [(i64 x_1.1), (bl x_1.2)])
def z30R (x_1 : (Int × Bool)) : St := { tm := [sv 2 (i64 x_1.1), sv 3 (bl x_1.2)], hp := [], nx := 0 }
theorem z30Rok (x_1 : (Int × Bool)) : retK Tryz.prog [.tmp 2, .tmp 3] (OutOk (career_Birth_out x_1)) .ret (z30R x_1) :=
  retK.intro (v := (.tup [(i64 x_1.1), (bl x_1.2)])) (by kernel_rfl) (VLe.tup (VLes.cons (VLe.rfl' _) (VLes.cons (VLe.rfl' _) (VLes.nil))))
def z30p0S (l : (List GFact)) : St := { tm := [sv 0 (.c (.sl 14 l.length (lsEl eGFact zGFact l)))], hp := [], nx := 0 }
noncomputable def career_Birth_p0 (l : (List GFact)) : Option ((Int × Bool)) := (career_first l (11 : Int)).bind fun r_1 => ((some (r_1.1, r_1.2)))
theorem z30p0nf (l : (List GFact)) (K : KT) (L1_ : List GFact) (hL1_ : lst dGFact l.length (lsEl eGFact zGFact l) = L1_) :
    ev Tryz.prog (lookC [(53, .pure career_first_C)]) 8 (ofItems ((List.drop 0 z30i0).take 3)) (cN [2, 3] K) (z30p0S l) =
    ((LstOk eGFact dGFact 14 14 l.length (lsEl eGFact zGFact l)) ∧ ((career_first L1_ (11 : Int)).isSome = true) ∧ (wK K .ret (z30R (((career_first L1_ (11 : Int)).getD ((0 : Int), false)).1, ((career_first L1_ (11 : Int)).getD ((0 : Int), false)).2)))) := by subst hL1_; kernel_rfl
theorem z30p0ok (l : (List GFact)) (K : KT) (h : W (career_Birth_p0 l) (rE z30R K)) : EvL Tryz.prog 8 (List.drop 0 z30i0) K (z30p0S l) :=
  EvL.pE mixed (lookC_ok (l := [(53, .pure career_first_C)]) ⟨career_first_ok, trivial⟩) [2, 3] 0 3 (.of (z30p0nf l _ _ (RowIs.lst dGFact_eGFact (RowIs.ls eGFact zGFact l))) (⟨RowIs.ok dGFact_eGFact (RowIs.ls eGFact zGFact l), (W_bind ((0 : Int), false) h fun hp0 h => ⟨_, .refl _, h⟩)⟩))
noncomputable def career_Birth (l : (List GFact)) : Option ((Int × Bool)) := career_Birth_p0 l
theorem z30run (l : (List GFact)) (y_ : (Int × Bool)) (h : career_Birth l = some y_) : EvL Tryz.prog 8 (items (bodyOf Tryz.f30)) (retK Tryz.prog [.tmp 2, .tmp 3] (OutOk (career_Birth_out y_))) (z30p0S l) :=
  z30p0ok l _ (W_iff.2 ⟨y_, h, z30Rok y_⟩)
noncomputable def career_Birth_C : Con
  | [(.c (.sl k1 n2 e3))] => some ([LstOk eGFact dGFact 14 k1 n2 e3, (career_Birth (lst dGFact n2 e3)).isSome = true], (career_Birth_out ((career_Birth (lst dGFact n2 e3)).getD ((0 : Int), false))))
  | _ => none
theorem career_Birth_ok : Meets Tryz.prog 30 career_Birth_C := by
  refine meets_fun (fn := Tryz.f30) (c := bodyOf Tryz.f30) (by kernel_rfl) (by kernel_rfl) (by kernel_rfl) (rs := [.tmp 2, .tmp 3]) (by kernel_rfl) (nt := 8) (by kernel_rfl) fun vs p out h hp => ?_
  unfold career_Birth_C at h
  split at h
  · next k1 n2 e3 =>
    cases h
    obtain ⟨g0, hp⟩ := allq hp
    obtain ⟨g, hp⟩ := allq hp
    obtain ⟨x, hx⟩ := Option.isSome_iff_exists.1 g
    rw [hx]
    exact ⟨[(.c (.sl 14 ((lst dGFact n2 e3)).length (lsEl eGFact zGFact (lst dGFact n2 e3))))], (VLes.cons (VLe.slk g0.1 (RowIs.of_ok g0)) VLes.nil), rfl, z30run (lst dGFact n2 e3) x hx⟩
  · cases h

noncomputable def z31i0 : List Code := items (bodyOf Tryz.f31)
def career_Death_out (x_1 : (Int × Bool)) : Out := .data (.tup [(i64 x_1.1), (bl x_1.2)])
def z31R (x_1 : (Int × Bool)) : St := { tm := [sv 2 (i64 x_1.1), sv 3 (bl x_1.2)], hp := [], nx := 0 }
theorem z31Rok (x_1 : (Int × Bool)) : retK Tryz.prog [.tmp 2, .tmp 3] (OutOk (career_Death_out x_1)) .ret (z31R x_1) :=
  retK.intro (v := (.tup [(i64 x_1.1), (bl x_1.2)])) (by kernel_rfl) (VLe.tup (VLes.cons (VLe.rfl' _) (VLes.cons (VLe.rfl' _) (VLes.nil))))
def z31p0S (l : (List GFact)) : St := { tm := [sv 0 (.c (.sl 14 l.length (lsEl eGFact zGFact l)))], hp := [], nx := 0 }
noncomputable def career_Death_p0 (l : (List GFact)) : Option ((Int × Bool)) := (career_first l (12 : Int)).bind fun r_1 => ((some (r_1.1, r_1.2)))
theorem z31p0nf (l : (List GFact)) (K : KT) (L1_ : List GFact) (hL1_ : lst dGFact l.length (lsEl eGFact zGFact l) = L1_) :
    ev Tryz.prog (lookC [(53, .pure career_first_C)]) 8 (ofItems ((List.drop 0 z31i0).take 3)) (cN [2, 3] K) (z31p0S l) =
    ((LstOk eGFact dGFact 14 14 l.length (lsEl eGFact zGFact l)) ∧ ((career_first L1_ (12 : Int)).isSome = true) ∧ (wK K .ret (z31R (((career_first L1_ (12 : Int)).getD ((0 : Int), false)).1, ((career_first L1_ (12 : Int)).getD ((0 : Int), false)).2)))) := by subst hL1_; kernel_rfl
theorem z31p0ok (l : (List GFact)) (K : KT) (h : W (career_Death_p0 l) (rE z31R K)) : EvL Tryz.prog 8 (List.drop 0 z31i0) K (z31p0S l) :=
  EvL.pE mixed (lookC_ok (l := [(53, .pure career_first_C)]) ⟨career_first_ok, trivial⟩) [2, 3] 0 3 (.of (z31p0nf l _ _ (RowIs.lst dGFact_eGFact (RowIs.ls eGFact zGFact l))) (⟨RowIs.ok dGFact_eGFact (RowIs.ls eGFact zGFact l), (W_bind ((0 : Int), false) h fun hp0 h => ⟨_, .refl _, h⟩)⟩))
noncomputable def career_Death (l : (List GFact)) : Option ((Int × Bool)) := career_Death_p0 l
theorem z31run (l : (List GFact)) (y_ : (Int × Bool)) (h : career_Death l = some y_) : EvL Tryz.prog 8 (items (bodyOf Tryz.f31)) (retK Tryz.prog [.tmp 2, .tmp 3] (OutOk (career_Death_out y_))) (z31p0S l) :=
  z31p0ok l _ (W_iff.2 ⟨y_, h, z31Rok y_⟩)
noncomputable def career_Death_C : Con
  | [(.c (.sl k1 n2 e3))] => some ([LstOk eGFact dGFact 14 k1 n2 e3, (career_Death (lst dGFact n2 e3)).isSome = true], (career_Death_out ((career_Death (lst dGFact n2 e3)).getD ((0 : Int), false))))
  | _ => none
theorem career_Death_ok : Meets Tryz.prog 31 career_Death_C := by
  refine meets_fun (fn := Tryz.f31) (c := bodyOf Tryz.f31) (by kernel_rfl) (by kernel_rfl) (by kernel_rfl) (rs := [.tmp 2, .tmp 3]) (by kernel_rfl) (nt := 8) (by kernel_rfl) fun vs p out h hp => ?_
  unfold career_Death_C at h
  split at h
  · next k1 n2 e3 =>
    cases h
    obtain ⟨g0, hp⟩ := allq hp
    obtain ⟨g, hp⟩ := allq hp
    obtain ⟨x, hx⟩ := Option.isSome_iff_exists.1 g
    rw [hx]
    exact ⟨[(.c (.sl 14 ((lst dGFact n2 e3)).length (lsEl eGFact zGFact (lst dGFact n2 e3))))], (VLes.cons (VLe.slk g0.1 (RowIs.of_ok g0)) VLes.nil), rfl, z31run (lst dGFact n2 e3) x hx⟩
  · cases h

noncomputable def z13i0 : List Code := items (bodyOf Tryz.f13)
def career_Life_out (x_1 : GSpan) : Out := .data (.agg [(i64 x_1.From), (i64 x_1.To)])
def z13R (x_1 : GSpan) : St := { tm := [sv 2 (.ptr 0 2 0 0)], hp := [(0, some (.box [(i64 x_1.From), (i64 x_1.To)]))], nx := 1 }
theorem z13Rok (x_1 : GSpan) : retK Tryz.prog [.cell 2 34] (OutOk (career_Life_out x_1)) .ret (z13R x_1) :=
  retK.intro (v := (.agg [(i64 x_1.From), (i64 x_1.To)])) (by kernel_rfl) ((VLe.rfl' _))
def z13p0S (birth death : Int) : St := { tm := [sv 2 (.ptr 0 2 0 0), sv 3 (i64 birth), sv 5 (i64 death)], hp := [(0, some (.box [(i64 (0 : Int)), (i64 (0 : Int))]))], nx := 1 }
noncomputable def career_Life_p0 (birth death : Int) : Option (GSpan) := (bif (decide (death < birth)) then (some (GSpan.mk (0 : Int) (0 : Int))) else (some (GSpan.mk birth (w64 (death + (1 : Int))))))
theorem z13p0ok (birth death : Int) (K : KT) (h : W (career_Life_p0 birth death) (rE z13R K)) : EvL Tryz.prog 27 (List.drop 5 z13i0) K (z13p0S birth death) :=
  EvL.pE mixed (lookC_ok (l := []) trivial) [2] 5 4 (.nf (X := fun K => (bif (decide (death < birth)) then wK K .ret (z13R (GSpan.mk (0 : Int) (0 : Int))) else wK K .ret (z13R (GSpan.mk birth (w64 (death + (1 : Int))))))) (fun K => by kernel_rfl) (W_bif h (fun _ h => ⟨_, .refl _, h⟩) (fun _ h => ⟨_, .refl _, h⟩)))
def z13p1S (l : (List GFact)) : St := { tm := [sv 0 (.c (.sl 14 l.length (lsEl eGFact zGFact l)))], hp := [], nx := 0 }
noncomputable def career_Life_p1 (l : (List GFact)) : Option (GSpan) := (career_Birth l).bind fun r_1 => ((career_Death l).bind fun r_2 => ((bif (!r_2.2) then (career_Life_p0 r_1.1 (73048 : Int)) else (career_Life_p0 r_1.1 r_2.1))))
theorem z13p1nf (l : (List GFact)) (K : KT) (L1_ : List GFact) (hL1_ : lst dGFact l.length (lsEl eGFact zGFact l) = L1_) (L2_ : List GFact) (hL2_ : lst dGFact l.length (lsEl eGFact zGFact l) = L2_) :
    ev Tryz.prog (lookC [(30, .pure career_Birth_C), (31, .pure career_Death_C)]) 27 (ofItems ((List.drop 0 z13i0).take 5)) (cN [2, 3, 5] K) (z13p1S l) =
    ((LstOk eGFact dGFact 14 14 l.length (lsEl eGFact zGFact l)) ∧ ((career_Birth L1_).isSome = true) ∧ ((LstOk eGFact dGFact 14 14 l.length (lsEl eGFact zGFact l)) ∧ ((career_Death L2_).isSome = true) ∧ ((bif (!((career_Death L2_).getD ((0 : Int), false)).2) then wK K .normal (z13p0S (((career_Birth L1_).getD ((0 : Int), false)).1) (73048 : Int)) else wK K .normal (z13p0S (((career_Birth L1_).getD ((0 : Int), false)).1) (((career_Death L2_).getD ((0 : Int), false)).1)))))) := by subst hL1_ hL2_; kernel_rfl
theorem z13p1ok (l : (List GFact)) (K : KT) (h : W (career_Life_p1 l) (rE z13R K)) : EvL Tryz.prog 27 (List.drop 0 z13i0) K (z13p1S l) :=
  EvL.pD mixed (lookC_ok (l := [(30, .pure career_Birth_C), (31, .pure career_Death_C)]) ⟨career_Birth_ok, career_Death_ok, trivial⟩) [2, 3, 5] 0 5 5 (.of (z13p1nf l _ _ (RowIs.lst dGFact_eGFact (RowIs.ls eGFact zGFact l)) _ (RowIs.lst dGFact_eGFact (RowIs.ls eGFact zGFact l))) (⟨RowIs.ok dGFact_eGFact (RowIs.ls eGFact zGFact l), (W_bind ((0 : Int), false) h fun hp0 h => ⟨RowIs.ok dGFact_eGFact (RowIs.ls eGFact zGFact l), (W_bind ((0 : Int), false) h fun hp1 h => (W_bif h (fun _ h => ⟨_, .refl _, (z13p0ok (((career_Birth l).getD ((0 : Int), false)).1) (73048 : Int) _ h)⟩) (fun _ h => ⟨_, .refl _, (z13p0ok (((career_Birth l).getD ((0 : Int), false)).1) (((career_Death l).getD ((0 : Int), false)).1) _ h)⟩)))⟩)⟩))
noncomputable def career_Life (l : (List GFact)) : Option (GSpan) := career_Life_p1 l
theorem z13run (l : (List GFact)) (y_ : GSpan) (h : career_Life l = some y_) : EvL Tryz.prog 27 (items (bodyOf Tryz.f13)) (retK Tryz.prog [.cell 2 34] (OutOk (career_Life_out y_))) (z13p1S l) :=
  z13p1ok l _ (W_iff.2 ⟨y_, h, z13Rok y_⟩)
noncomputable def career_Life_C : Con
  | [(.c (.sl k1 n2 e3))] => some ([LstOk eGFact dGFact 14 k1 n2 e3, (career_Life (lst dGFact n2 e3)).isSome = true], (career_Life_out ((career_Life (lst dGFact n2 e3)).getD zGSpan)))
  | _ => none
theorem career_Life_ok : Meets Tryz.prog 13 career_Life_C := by
  refine meets_fun (fn := Tryz.f13) (c := bodyOf Tryz.f13) (by kernel_rfl) (by kernel_rfl) (by kernel_rfl) (rs := [.cell 2 34]) (by kernel_rfl) (nt := 27) (by kernel_rfl) fun vs p out h hp => ?_
  unfold career_Life_C at h
  split at h
  · next k1 n2 e3 =>
    cases h
    obtain ⟨g0, hp⟩ := allq hp
    obtain ⟨g, hp⟩ := allq hp
    obtain ⟨x, hx⟩ := Option.isSome_iff_exists.1 g
    rw [hx]
    exact ⟨[(.c (.sl 14 ((lst dGFact n2 e3)).length (lsEl eGFact zGFact (lst dGFact n2 e3))))], (VLes.cons (VLe.slk g0.1 (RowIs.of_ok g0)) VLes.nil), rfl, z13run (lst dGFact n2 e3) x hx⟩
  · cases h

noncomputable def z52i0 : List Code := items (bodyOf Tryz.f52)
def spans_Contains_1_out (x_1 : Bool) : Out := .data (bl x_1)
def z52R (x_1 : Bool) : St := { tm := [sv 3 (bl x_1)], hp := [], nx := 0 }
theorem z52Rok (x_1 : Bool) : retK Tryz.prog [.tmp 3] (OutOk (spans_Contains_1_out x_1)) .ret (z52R x_1) :=
  retK.intro (v := (bl x_1)) (by kernel_rfl) ((VLe.rfl' _))
def z52p0S (s_1 : GSpan) (t1 : Int) : St := { tm := [sv 0 (.ag (eGSpan s_1)), sv 1 (.dptr 1 [(di t1)] 0)], hp := [], nx := 0 }
noncomputable def spans_Contains_1_p0 (s_1 : GSpan) (t1 : Int) : Option (Bool) := (some (bif (decide (s_1.From ≤ t1)) then (decide (t1 < s_1.To)) else false))
theorem z52p0ok (s_1 : GSpan) (t1 : Int) (K : KT) (h : W (spans_Contains_1_p0 s_1 t1) (rE z52R K)) : EvL Tryz.prog 14 (List.drop 0 z52i0) K (z52p0S s_1 t1) :=
  EvL.pE mixed (lookC_ok (l := []) trivial) [3] 0 3 (.nf (X := fun K => wK K .ret (z52R (bif (decide (s_1.From ≤ t1)) then (decide (t1 < s_1.To)) else false))) (fun K => by kernel_rfl) (⟨_, .refl _, h⟩))
noncomputable def spans_Contains_1 (s_1 : GSpan) (t1 : Int) : Option (Bool) := spans_Contains_1_p0 s_1 t1
theorem z52run (s_1 : GSpan) (t1 : Int) (y_ : Bool) (h : spans_Contains_1 s_1 t1 = some y_) : EvL Tryz.prog 14 (items (bodyOf Tryz.f52)) (retK Tryz.prog [.tmp 3] (OutOk (spans_Contains_1_out y_))) (z52p0S s_1 t1) :=
  z52p0ok s_1 t1 _ (W_iff.2 ⟨y_, h, z52Rok y_⟩)
noncomputable def spans_Contains_1_C : Con
  | [(.agg [(.c (.lit (.int .i64 a1))), (.c (.lit (.int .i64 a2)))]), (.dptr 1 [(.lit (.int .i64 a3))] 0)] => some ([(spans_Contains_1 (GSpan.mk a1 a2) a3).isSome = true], (spans_Contains_1_out ((spans_Contains_1 (GSpan.mk a1 a2) a3).getD false)))
  | _ => none
theorem spans_Contains_1_ok : Meets Tryz.prog 52 spans_Contains_1_C := by
  refine meets_fun (fn := Tryz.f52) (c := bodyOf Tryz.f52) (by kernel_rfl) (by kernel_rfl) (by kernel_rfl) (rs := [.tmp 3]) (by kernel_rfl) (nt := 14) (by kernel_rfl) fun vs p out h hp => ?_
  unfold spans_Contains_1_C at h
  split at h
  · next a1 a2 a3 =>
    cases h
    obtain ⟨g, hp⟩ := allq hp
    obtain ⟨x, hx⟩ := Option.isSome_iff_exists.1 g
    rw [hx]
    exact ⟨[(.agg [(i64 (GSpan.mk a1 a2).From), (i64 (GSpan.mk a1 a2).To)]), (.dptr 1 [(di a3)] 0)], (VLes.cons (VLe.rfl' _) (VLes.cons (VLe.rfl' _) VLes.nil)), rfl, z52run (GSpan.mk a1 a2) a3 x hx⟩
  · cases h

end Go.Ax
