import Derived.Test.YtefjkielgagknaaGreatF4
import Derived.Test.YtefjkielgagknaaGreatLay
import Derived.Test.YtefjkielgagknaaGreatRows
/- Types of the program, and functions of it: printed by a program, checked by the kernel. -/
set_option linter.all false
set_option maxRecDepth 100000
namespace Go.Ax
open Go.Proofs Go.Proofs.YtefjkielgagknaaGreat
noncomputable def z72i0 : List Code := items (bodyOf Tryz.f72)
noncomputable def z72i1 : List Code := items (inside (inside (nthI z72i0 2)))
def slices_IndexFunc_api_Span_api_Span_Contains_1_out (x_1 : Int) : Out := .data (i64 x_1)
def z72R (x_1 : Int) : St := { tm := [sv 4 (i64 x_1)], hp := [], nx := 0 }
theorem z72Rok (x_1 : Int) : retK Tryz.prog [.tmp 4] (OutOk (slices_IndexFunc_api_Span_api_Span_Contains_1_out x_1)) .ret (z72R x_1) :=
  retK.intro (v := (i64 x_1)) (by kernel_rfl) ((VLe.rfl' _))
def z72l1S (s_1 : (List GSpan)) (f : Int) (s : (Int)) : St := match s with | t8 => { tm := [sv 0 (.c (.sl 2 s_1.length (lsEl eGSpan zGSpan s_1))), sv 1 (.fn 52 [(.dptr 1 [(di f)] 0)]), sv 7 (i64 ((s_1.length : Nat) : Int)), sv 8 (i64 t8)], hp := [], nx := 0 }
def z72l1C0 (s_1 : (List GSpan)) (f : Int) (s : Int) : St := match s with | t4_1 => { tm := [sv 4 (i64 t4_1)], hp := [], nx := 0 }
def z72l1C1 (s_1 : (List GSpan)) (f : Int) (s : Unit) : St := match s with | () => { tm := [], hp := [], nx := 0 }
def z72l1E (s_1 : (List GSpan)) (f : Int) (r : ((Int) ⊕ (Unit))) (K : KT) : Prop := match r with | (.inl s) => K .ret (z72l1C0 s_1 f s) | (.inr s) => K (.exit 0) (z72l1C1 s_1 f s)
def z72p0S (s_1 : (List GSpan)) (f t8 : Int) : St := { tm := [sv 0 (.c (.sl 2 s_1.length (lsEl eGSpan zGSpan s_1))), sv 1 (.fn 52 [(.dptr 1 [(di f)] 0)]), sv 7 (i64 ((s_1.length : Nat) : Int)), sv 8 (i64 t8)], hp := [], nx := 0 }
noncomputable def slices_IndexFunc_api_Span_api_Span_Contains_1_p0 (s_1 : (List GSpan)) (f t8 : Int) : Option ((Int) ⊕ ((Int) ⊕ (Unit))) := (bif (decide (t8 < ((s_1.length : Nat) : Int))) then gd ((0 : Int) ≤ t8 ∧ t8 < ((s_1.length : Nat) : Int)) ((spans_Contains_1 (s_1.getD (Int.toNat t8) zGSpan) f).bind fun r_1 => ((bif r_1 then (some (Sum.inr (Sum.inl t8))) else (some (Sum.inl (w64 (t8 + (1 : Int)))))))) else (some (Sum.inr (Sum.inr ()))))
theorem z72p0ok (s_1 : (List GSpan)) (f t8 : Int) (K : KT) (h : W (slices_IndexFunc_api_Span_api_Span_Contains_1_p0 s_1 f t8) (nE (z72l1S s_1 f) (z72l1E s_1 f) K)) : EvL Tryz.prog 19 (List.drop 0 z72i1) K (z72p0S s_1 f t8) :=
  EvL.pE mixed (lookC_ok (l := [(52, .pure spans_Contains_1_C)]) ⟨spans_Contains_1_ok, trivial⟩) [0, 1, 4, 7, 8] 0 4 (.nf (X := fun K => (bif (decide (t8 < ((s_1.length : Nat) : Int))) then ((0 : Int) ≤ t8) ∧ (t8 < ((s_1.length : Nat) : Int)) ∧ ((spans_Contains_1 (s_1.getD (Int.toNat t8) zGSpan) f).isSome = true) ∧ ((bif ((spans_Contains_1 (s_1.getD (Int.toNat t8) zGSpan) f).getD false) then wK K .ret ({ tm := [sv 0 (.c (.sl 2 s_1.length (lsEl eGSpan zGSpan s_1))), sv 1 (.fn 52 [(.dptr 1 [(di f)] 0)]), sv 4 (i64 t8), sv 7 (i64 ((s_1.length : Nat) : Int)), sv 8 (i64 t8)], hp := [], nx := 0 }) else wK K .normal (z72l1S s_1 f (w64 (t8 + (1 : Int)))))) else wK K (.exit 0) ({ tm := [sv 0 (.c (.sl 2 s_1.length (lsEl eGSpan zGSpan s_1))), sv 1 (.fn 52 [(.dptr 1 [(di f)] 0)]), sv 7 (i64 ((s_1.length : Nat) : Int)), sv 8 (i64 t8)], hp := [], nx := 0 }))) (fun K => by kernel_rfl) (W_bif h (fun _ h => (W_gd2 h fun hp0 h => (W_bind false h fun hp1 h => (W_bif h (fun _ h => ⟨(z72l1C0 s_1 f t8), (.of (.q rfl .nil) .nil rfl), h⟩) (fun _ h => ⟨_, .refl _, h⟩))))) (fun _ h => ⟨(z72l1C1 s_1 f ()), (.of .nil .nil rfl), h⟩)))
noncomputable def slices_IndexFunc_api_Span_api_Span_Contains_1_l1 (s_1 : (List GSpan)) (f : Int) (s : (Int)) : Option ((Int) ⊕ ((Int) ⊕ (Unit))) := match s with | t8 => slices_IndexFunc_api_Span_api_Span_Contains_1_p0 s_1 f t8
theorem z72l1ok (s_1 : (List GSpan)) (f : Int) (s : (Int)) : Pp Tryz.prog 19 (List.drop 0 z72i1) (z72l1S s_1 f s) (slices_IndexFunc_api_Span_api_Span_Contains_1_l1 s_1 f s) (nextE (z72l1S s_1 f) (z72l1E s_1 f)) := fun K h => match s, h with | t8, h => (z72p0ok s_1 f t8 _ h)
theorem z72l1Ethen (s_1 : (List GSpan)) (f : Int) : ∀ (r : ((Int) ⊕ (Unit))) (J : St → Prop) (K : KT), z72l1E s_1 f r K → z72l1E s_1 f r (thenK J K)
  | (.inl s), _, _, h => h
  | (.inr s), _, _, h => h
def z72p1S : St := { tm := [], hp := [], nx := 0 }
noncomputable def slices_IndexFunc_api_Span_api_Span_Contains_1_p1 : Option (Int) := (some (-1 : Int))
theorem z72p1ok (K : KT) (h : W (slices_IndexFunc_api_Span_api_Span_Contains_1_p1) (rE z72R K)) : EvL Tryz.prog 19 (List.drop 3 z72i0) K (z72p1S) :=
  EvL.pE mixed (lookC_ok (l := []) trivial) [4] 3 2 (.nf (X := fun K => wK K .ret (z72R (-1 : Int))) (fun K => by kernel_rfl) (⟨_, .refl _, h⟩))
def z72p2S (s_1 : (List GSpan)) (f : Int) : St := { tm := [sv 0 (.c (.sl 2 s_1.length (lsEl eGSpan zGSpan s_1))), sv 1 (.fn 52 [(.dptr 1 [(di f)] 0)]), sv 7 (i64 ((s_1.length : Nat) : Int)), sv 8 (i64 (0 : Int))], hp := [], nx := 0 }
noncomputable def slices_IndexFunc_api_Span_api_Span_Contains_1_p2_g (s_1 : (List GSpan)) (f : Int) (r : ((Int) ⊕ (Unit))) : Option (Int) := match r with | (.inl t4_1) => (some t4_1) | (.inr ()) => slices_IndexFunc_api_Span_api_Span_Contains_1_p1
noncomputable def slices_IndexFunc_api_Span_api_Span_Contains_1_p2 (s_1 : (List GSpan)) (f : Int) : Option (Int) := (fixL (slices_IndexFunc_api_Span_api_Span_Contains_1_l1 s_1 f) (0 : Int)).bind (slices_IndexFunc_api_Span_api_Span_Contains_1_p2_g s_1 f)
theorem z72p2at : List.drop 2 z72i0 = .block 0 (.loop (inside (inside (nthI z72i0 2)))) :: List.drop 3 z72i0 := by kernel_rfl
theorem z72p2k (s_1 : (List GSpan)) (f : Int) (K : KT) : ∀ r : ((Int) ⊕ (Unit)), W (slices_IndexFunc_api_Span_api_Span_Contains_1_p2_g s_1 f r) (rE z72R K) → z72l1E s_1 f r (wK (blockK 0 (thenK (EvL Tryz.prog 19 (List.drop 3 z72i0) K) K)))
  | (.inl t4_1), h => ⟨(z72R t4_1), (.refl _), h⟩
  | (.inr ()), h => ⟨(z72p1S), (.refl _), (z72p1ok _ h)⟩
theorem z72p2ok (s_1 : (List GSpan)) (f : Int) (K : KT) (h : W (slices_IndexFunc_api_Span_api_Span_Contains_1_p2 s_1 f) (rE z72R K)) : EvL Tryz.prog 19 (List.drop 2 z72i0) K (z72p2S s_1 f) :=
  EvL.at_ z72p2at (EvL.cons_loop (EvOk.weak (EvOk.ent (.refl _) (EvOk.loopF (x := inside (inside (nthI z72i0 2))) (f := slices_IndexFunc_api_Span_api_Span_Contains_1_l1 s_1 f) (emb := z72l1S s_1 f) (E := z72l1E s_1 f) (z72l1ok s_1 f) (z72l1Ethen s_1 f) (W_loop h (z72p2k s_1 f K))))))
def z72p3S (s_1 : (List GSpan)) (f : Int) : St := { tm := [sv 0 (.c (.sl 2 s_1.length (lsEl eGSpan zGSpan s_1))), sv 1 (.fn 52 [(.dptr 1 [(di f)] 0)])], hp := [], nx := 0 }
noncomputable def slices_IndexFunc_api_Span_api_Span_Contains_1_p3 (s_1 : (List GSpan)) (f : Int) : Option (Int) := (slices_IndexFunc_api_Span_api_Span_Contains_1_p2 s_1 f)
theorem z72p3ok (s_1 : (List GSpan)) (f : Int) (K : KT) (h : W (slices_IndexFunc_api_Span_api_Span_Contains_1_p3 s_1 f) (rE z72R K)) : EvL Tryz.prog 19 (List.drop 0 z72i0) K (z72p3S s_1 f) :=
  EvL.pD mixed (lookC_ok (l := []) trivial) [0, 1, 7, 8] 0 2 2 (.nf (X := fun K => wK K .normal (z72p2S s_1 f)) (fun K => by kernel_rfl) (⟨_, .refl _, (z72p2ok s_1 f _ h)⟩))
noncomputable def slices_IndexFunc_api_Span_api_Span_Contains_1 (s_1 : (List GSpan)) (f : Int) : Option (Int) := slices_IndexFunc_api_Span_api_Span_Contains_1_p3 s_1 f
theorem z72run (s_1 : (List GSpan)) (f : Int) (y_ : Int) (h : slices_IndexFunc_api_Span_api_Span_Contains_1 s_1 f = some y_) : EvL Tryz.prog 19 (items (bodyOf Tryz.f72)) (retK Tryz.prog [.tmp 4] (OutOk (slices_IndexFunc_api_Span_api_Span_Contains_1_out y_))) (z72p3S s_1 f) :=
  z72p3ok s_1 f _ (W_iff.2 ⟨y_, h, z72Rok y_⟩)
noncomputable def slices_IndexFunc_api_Span_api_Span_Contains_1_C : Con
  | [(.c (.sl k1 n2 e3)), (.fn 52 [(.dptr 1 [(.lit (.int .i64 a4))] 0)])] => some ([LstOk eGSpan dGSpan 2 k1 n2 e3, (slices_IndexFunc_api_Span_api_Span_Contains_1 (lst dGSpan n2 e3) a4).isSome = true], (slices_IndexFunc_api_Span_api_Span_Contains_1_out ((slices_IndexFunc_api_Span_api_Span_Contains_1 (lst dGSpan n2 e3) a4).getD (0 : Int))))
  | _ => none
theorem slices_IndexFunc_api_Span_api_Span_Contains_1_ok : Meets Tryz.prog 72 slices_IndexFunc_api_Span_api_Span_Contains_1_C := by
  refine meets_fun (fn := Tryz.f72) (c := bodyOf Tryz.f72) (by kernel_rfl) (by kernel_rfl) (by kernel_rfl) (rs := [.tmp 4]) (by kernel_rfl) (nt := 19) (by kernel_rfl) fun vs p out h hp => ?_
  unfold slices_IndexFunc_api_Span_api_Span_Contains_1_C at h
  split at h
  · next k1 n2 e3 a4 =>
    cases h
    obtain ⟨g0, hp⟩ := allq hp
    obtain ⟨g, hp⟩ := allq hp
    obtain ⟨x, hx⟩ := Option.isSome_iff_exists.1 g
    rw [hx]
    exact ⟨[(.c (.sl 2 ((lst dGSpan n2 e3)).length (lsEl eGSpan zGSpan (lst dGSpan n2 e3)))), (.fn 52 [(.dptr 1 [(di a4)] 0)])], (VLes.cons (VLe.slk g0.1 (RowIs.of_ok g0)) (VLes.cons (VLe.rfl' _) VLes.nil)), rfl, z72run (lst dGSpan n2 e3) a4 x hx⟩
  · cases h

noncomputable def z51i0 : List Code := items (bodyOf Tryz.f51)
def slices_ContainsFunc_api_Span_api_Span_Contains_1_out (x_1 : Bool) : Out := .data (bl x_1)
def z51R (x_1 : Bool) : St := { tm := [sv 4 (bl x_1)], hp := [], nx := 0 }
theorem z51Rok (x_1 : Bool) : retK Tryz.prog [.tmp 4] (OutOk (slices_ContainsFunc_api_Span_api_Span_Contains_1_out x_1)) .ret (z51R x_1) :=
  retK.intro (v := (bl x_1)) (by kernel_rfl) ((VLe.rfl' _))
def z51p0S (s_1 : (List GSpan)) (f : Int) : St := { tm := [sv 0 (.c (.sl 2 s_1.length (lsEl eGSpan zGSpan s_1))), sv 1 (.fn 52 [(.dptr 1 [(di f)] 0)])], hp := [], nx := 0 }
noncomputable def slices_ContainsFunc_api_Span_api_Span_Contains_1_p0 (s_1 : (List GSpan)) (f : Int) : Option (Bool) := (slices_IndexFunc_api_Span_api_Span_Contains_1 s_1 f).bind fun r_1 => ((some (decide ((0 : Int) ≤ r_1))))
theorem z51p0nf (s_1 : (List GSpan)) (f : Int) (K : KT) (L1_ : List GSpan) (hL1_ : lst dGSpan s_1.length (lsEl eGSpan zGSpan s_1) = L1_) :
    ev Tryz.prog (lookC [(72, .pure slices_IndexFunc_api_Span_api_Span_Contains_1_C)]) 9 (ofItems ((List.drop 0 z51i0).take 3)) (cN [4] K) (z51p0S s_1 f) =
    ((LstOk eGSpan dGSpan 2 2 s_1.length (lsEl eGSpan zGSpan s_1)) ∧ ((slices_IndexFunc_api_Span_api_Span_Contains_1 L1_ f).isSome = true) ∧ (wK K .ret (z51R (decide ((0 : Int) ≤ ((slices_IndexFunc_api_Span_api_Span_Contains_1 L1_ f).getD (0 : Int))))))) := by subst hL1_; kernel_rfl
theorem z51p0ok (s_1 : (List GSpan)) (f : Int) (K : KT) (h : W (slices_ContainsFunc_api_Span_api_Span_Contains_1_p0 s_1 f) (rE z51R K)) : EvL Tryz.prog 9 (List.drop 0 z51i0) K (z51p0S s_1 f) :=
  EvL.pE mixed (lookC_ok (l := [(72, .pure slices_IndexFunc_api_Span_api_Span_Contains_1_C)]) ⟨slices_IndexFunc_api_Span_api_Span_Contains_1_ok, trivial⟩) [4] 0 3 (.of (z51p0nf s_1 f _ _ (RowIs.lst dGSpan_eGSpan (RowIs.ls eGSpan zGSpan s_1))) (⟨RowIs.ok dGSpan_eGSpan (RowIs.ls eGSpan zGSpan s_1), (W_bind (0 : Int) h fun hp0 h => ⟨_, .refl _, h⟩)⟩))
noncomputable def slices_ContainsFunc_api_Span_api_Span_Contains_1 (s_1 : (List GSpan)) (f : Int) : Option (Bool) := slices_ContainsFunc_api_Span_api_Span_Contains_1_p0 s_1 f
theorem z51run (s_1 : (List GSpan)) (f : Int) (y_ : Bool) (h : slices_ContainsFunc_api_Span_api_Span_Contains_1 s_1 f = some y_) : EvL Tryz.prog 9 (items (bodyOf Tryz.f51)) (retK Tryz.prog [.tmp 4] (OutOk (slices_ContainsFunc_api_Span_api_Span_Contains_1_out y_))) (z51p0S s_1 f) :=
  z51p0ok s_1 f _ (W_iff.2 ⟨y_, h, z51Rok y_⟩)
noncomputable def slices_ContainsFunc_api_Span_api_Span_Contains_1_C : Con
  | [(.c (.sl k1 n2 e3)), (.fn 52 [(.dptr 1 [(.lit (.int .i64 a4))] 0)])] => some ([LstOk eGSpan dGSpan 2 k1 n2 e3, (slices_ContainsFunc_api_Span_api_Span_Contains_1 (lst dGSpan n2 e3) a4).isSome = true], (slices_ContainsFunc_api_Span_api_Span_Contains_1_out ((slices_ContainsFunc_api_Span_api_Span_Contains_1 (lst dGSpan n2 e3) a4).getD false)))
  | _ => none
theorem slices_ContainsFunc_api_Span_api_Span_Contains_1_ok : Meets Tryz.prog 51 slices_ContainsFunc_api_Span_api_Span_Contains_1_C := by
  refine meets_fun (fn := Tryz.f51) (c := bodyOf Tryz.f51) (by kernel_rfl) (by kernel_rfl) (by kernel_rfl) (rs := [.tmp 4]) (by kernel_rfl) (nt := 9) (by kernel_rfl) fun vs p out h hp => ?_
  unfold slices_ContainsFunc_api_Span_api_Span_Contains_1_C at h
  split at h
  · next k1 n2 e3 a4 =>
    cases h
    obtain ⟨g0, hp⟩ := allq hp
    obtain ⟨g, hp⟩ := allq hp
    obtain ⟨x, hx⟩ := Option.isSome_iff_exists.1 g
    rw [hx]
    exact ⟨[(.c (.sl 2 ((lst dGSpan n2 e3)).length (lsEl eGSpan zGSpan (lst dGSpan n2 e3)))), (.fn 52 [(.dptr 1 [(di a4)] 0)])], (VLes.cons (VLe.slk g0.1 (RowIs.of_ok g0)) (VLes.cons (VLe.rfl' _) VLes.nil)), rfl, z51run (lst dGSpan n2 e3) a4 x hx⟩
  · cases h

noncomputable def z29i0 : List Code := items (bodyOf Tryz.f29)
def spans_Contains_out (x_1 : Bool) : Out := .data (bl x_1)
def z29R (x_1 : Bool) : St := { tm := [sv 4 (bl x_1)], hp := [], nx := 0 }
theorem z29Rok (x_1 : Bool) : retK Tryz.prog [.tmp 4] (OutOk (spans_Contains_out x_1)) .ret (z29R x_1) :=
  retK.intro (v := (bl x_1)) (by kernel_rfl) ((VLe.rfl' _))
def z29p0S (l : (List GSpan)) (day : Int) : St := { tm := [sv 0 (.c (.sl 2 l.length (lsEl eGSpan zGSpan l))), sv 1 (i64 day)], hp := [], nx := 0 }
noncomputable def spans_Contains_p0 (l : (List GSpan)) (day : Int) : Option (Bool) := (bif (bif (decide (day < (0 : Int))) then true else (decide ((73049 : Int) ≤ day))) then (some false) else (slices_ContainsFunc_api_Span_api_Span_Contains_1 l day).bind fun r_1 => ((some r_1)))
theorem z29p0nf (l : (List GSpan)) (day : Int) (K : KT) (L1_ : List GSpan) (hL1_ : lst dGSpan l.length (lsEl eGSpan zGSpan l) = L1_) :
    ev Tryz.prog (lookC [(51, .pure slices_ContainsFunc_api_Span_api_Span_Contains_1_C)]) 14 (ofItems ((List.drop 0 z29i0).take 5)) (cN [4] K) (z29p0S l day) =
    ((bif (bif (decide (day < (0 : Int))) then true else (decide ((73049 : Int) ≤ day))) then wK K .ret (z29R false) else (LstOk eGSpan dGSpan 2 2 l.length (lsEl eGSpan zGSpan l)) ∧ ((slices_ContainsFunc_api_Span_api_Span_Contains_1 L1_ day).isSome = true) ∧ (wK K .ret (z29R ((slices_ContainsFunc_api_Span_api_Span_Contains_1 L1_ day).getD false))))) := by subst hL1_; kernel_rfl
theorem z29p0ok (l : (List GSpan)) (day : Int) (K : KT) (h : W (spans_Contains_p0 l day) (rE z29R K)) : EvL Tryz.prog 14 (List.drop 0 z29i0) K (z29p0S l day) :=
  EvL.pE mixed (lookC_ok (l := [(51, .pure slices_ContainsFunc_api_Span_api_Span_Contains_1_C)]) ⟨slices_ContainsFunc_api_Span_api_Span_Contains_1_ok, trivial⟩) [4] 0 5 (.of (z29p0nf l day _ _ (RowIs.lst dGSpan_eGSpan (RowIs.ls eGSpan zGSpan l))) (W_bif h (fun _ h => ⟨_, .refl _, h⟩) (fun _ h => ⟨RowIs.ok dGSpan_eGSpan (RowIs.ls eGSpan zGSpan l), (W_bind false h fun hp0 h => ⟨_, .refl _, h⟩)⟩)))
noncomputable def spans_Contains (l : (List GSpan)) (day : Int) : Option (Bool) := spans_Contains_p0 l day
theorem z29run (l : (List GSpan)) (day : Int) (y_ : Bool) (h : spans_Contains l day = some y_) : EvL Tryz.prog 14 (items (bodyOf Tryz.f29)) (retK Tryz.prog [.tmp 4] (OutOk (spans_Contains_out y_))) (z29p0S l day) :=
  z29p0ok l day _ (W_iff.2 ⟨y_, h, z29Rok y_⟩)
noncomputable def spans_Contains_C : Con
  | [(.c (.sl k1 n2 e3)), (.c (.lit (.int .i64 a4)))] => some ([LstOk eGSpan dGSpan 2 k1 n2 e3, (spans_Contains (lst dGSpan n2 e3) a4).isSome = true], (spans_Contains_out ((spans_Contains (lst dGSpan n2 e3) a4).getD false)))
  | _ => none
theorem spans_Contains_ok : Meets Tryz.prog 29 spans_Contains_C := by
  refine meets_fun (fn := Tryz.f29) (c := bodyOf Tryz.f29) (by kernel_rfl) (by kernel_rfl) (by kernel_rfl) (rs := [.tmp 4]) (by kernel_rfl) (nt := 14) (by kernel_rfl) fun vs p out h hp => ?_
  unfold spans_Contains_C at h
  split at h
  · next k1 n2 e3 a4 =>
    cases h
    obtain ⟨g0, hp⟩ := allq hp
    obtain ⟨g, hp⟩ := allq hp
    obtain ⟨x, hx⟩ := Option.isSome_iff_exists.1 g
    rw [hx]
    exact ⟨[(.c (.sl 2 ((lst dGSpan n2 e3)).length (lsEl eGSpan zGSpan (lst dGSpan n2 e3)))), (i64 a4)], (VLes.cons (VLe.slk g0.1 (RowIs.of_ok g0)) (VLes.cons (VLe.rfl' _) VLes.nil)), rfl, z29run (lst dGSpan n2 e3) a4 x hx⟩
  · cases h

noncomputable def z12i0 : List Code := items (bodyOf Tryz.f12)
noncomputable def z12i1 : List Code := items (inside (inside (nthI z12i0 5)))
def career_Residence_out (x_1 : (Int × Bool)) : Out := .data (.tup [(i64 x_1.1), (bl x_1.2)])
def z12R (x_1 : (Int × Bool)) : St := { tm := [sv 4 (i64 x_1.1), sv 5 (bl x_1.2)], hp := [], nx := 0 }
theorem z12Rok (x_1 : (Int × Bool)) : retK Tryz.prog [.tmp 4, .tmp 5] (OutOk (career_Residence_out x_1)) .ret (z12R x_1) :=
  retK.intro (v := (.tup [(i64 x_1.1), (bl x_1.2)])) (by kernel_rfl) (VLe.tup (VLes.cons (VLe.rfl' _) (VLes.cons (VLe.rfl' _) (VLes.nil))))
def z12l1S (day : Int) (l : (List GFact)) (s : (Bool × Int × GFact)) : St := match s with | (ok, t24, best) => { tm := [sv 1 (i64 day), sv 6 (.ptr 0 14 0 0), sv 7 (bl ok), sv 22 (.c (.sl 14 l.length (lsEl eGFact zGFact l))), sv 23 (i64 ((l.length : Nat) : Int)), sv 24 (i64 t24)], hp := [(0, some (.box [(i64 best.Issuer), (i64 best.Number), (i64 best.Version), (bl best.Withdrawn), (i64 best.Person), (i64 best.Kind), (i64 best.State), (i64 best.Span.From), (i64 best.Span.To), (i64 best.Seat), (i64 best.Share), (i64 best.Currency), (i64 best.Amount), (i64 best.Ref)]))], nx := 1 }
def z12l1C0 (day : Int) (l : (List GFact)) (s : Bool × GFact) : St := match s with | (ok_1, best_1) => { tm := [sv 6 (.ptr 0 14 0 0), sv 7 (bl ok_1)], hp := [(0, some (.box [(i64 best_1.Issuer), (i64 best_1.Number), (i64 best_1.Version), (bl best_1.Withdrawn), (i64 best_1.Person), (i64 best_1.Kind), (i64 best_1.State), (i64 best_1.Span.From), (i64 best_1.Span.To), (i64 best_1.Seat), (i64 best_1.Share), (i64 best_1.Currency), (i64 best_1.Amount), (i64 best_1.Ref)]))], nx := 1 }
def z12l1E (day : Int) (l : (List GFact)) (r : ((Bool × GFact))) (K : KT) : Prop := match r with | s => K (.exit 0) (z12l1C0 day l s)
def z12p0S (day : Int) (ok : Bool) (l : (List GFact)) (t24 : Int) (best : GFact) : St := { tm := [sv 1 (i64 day), sv 6 (.ptr 0 14 0 0), sv 7 (bl ok), sv 22 (.c (.sl 14 l.length (lsEl eGFact zGFact l))), sv 23 (i64 ((l.length : Nat) : Int)), sv 24 (i64 t24)], hp := [(0, some (.box [(i64 best.Issuer), (i64 best.Number), (i64 best.Version), (bl best.Withdrawn), (i64 best.Person), (i64 best.Kind), (i64 best.State), (i64 best.Span.From), (i64 best.Span.To), (i64 best.Seat), (i64 best.Share), (i64 best.Currency), (i64 best.Amount), (i64 best.Ref)]))], nx := 1 }
noncomputable def career_Residence_p0 (day : Int) (ok : Bool) (l : (List GFact)) (t24 : Int) (best : GFact) : Option ((Bool × Int × GFact) ⊕ ((Bool × GFact))) := (bif (decide (t24 < ((l.length : Nat) : Int))) then gd ((0 : Int) ≤ t24 ∧ t24 < ((l.length : Nat) : Int)) ((career_current (l.getD (Int.toNat t24) zGFact)).bind fun r_2 => ((bif (bif (bif (bif (!r_2) then true else ((l.getD (Int.toNat t24) zGFact).Kind != (5 : Int))) then true else (decide (day < ((l.getD (Int.toNat t24) zGFact).Span).From))) then true else (decide (((l.getD (Int.toNat t24) zGFact).Span).To ≤ day))) then (some (Sum.inl (ok, (w64 (t24 + (1 : Int))), best))) else (bif (bif (bif (!ok) then true else (decide (best.Span.From < ((l.getD (Int.toNat t24) zGFact).Span).From))) then true else (bif (((l.getD (Int.toNat t24) zGFact).Span).From == best.Span.From) then (decide ((l.getD (Int.toNat t24) zGFact).State < best.State)) else false)) then (some (Sum.inl (true, (w64 (t24 + (1 : Int))), (l.getD (Int.toNat t24) zGFact)))) else (some (Sum.inl (ok, (w64 (t24 + (1 : Int))), best))))))) else (some (Sum.inr (ok, best))))
theorem z12p0ok (day : Int) (ok : Bool) (l : (List GFact)) (t24 : Int) (best : GFact) (K : KT) (h : W (career_Residence_p0 day ok l t24 best) (nE (z12l1S day l) (z12l1E day l) K)) : EvL Tryz.prog 82 (List.drop 0 z12i1) K (z12p0S day ok l t24 best) :=
  EvL.pE mixed (lookC_ok (l := [(22, .pure career_current_C)]) ⟨career_current_ok, trivial⟩) [1, 6, 7, 22, 23, 24, 32, 33, 34, 37, 38, 39, 40, 41, 44, 45, 46, 47, 48, 53, 54, 55, 56, 57, 58, 59, 62, 63, 64, 65, 66, 67, 68, 69, 70, 71, 72, 73, 74, 75] 0 4 (.nf (X := fun K => (bif (decide (t24 < ((l.length : Nat) : Int))) then ((0 : Int) ≤ t24) ∧ (t24 < ((l.length : Nat) : Int)) ∧ (((career_current (l.getD (Int.toNat t24) zGFact)).isSome = true) ∧ ((bif (bif (bif (bif (!((career_current (l.getD (Int.toNat t24) zGFact)).getD false)) then true else ((l.getD (Int.toNat t24) zGFact).Kind != (5 : Int))) then true else (decide (day < ((l.getD (Int.toNat t24) zGFact).Span).From))) then true else (decide (((l.getD (Int.toNat t24) zGFact).Span).To ≤ day))) then wK K .normal ({ tm := [sv 1 (i64 day), sv 6 (.ptr 0 14 0 0), sv 7 (bl ok), sv 22 (.c (.sl 14 l.length (lsEl eGFact zGFact l))), sv 23 (i64 ((l.length : Nat) : Int)), sv 24 (i64 (w64 (t24 + (1 : Int)))), sv 32 (.c .unk), sv 33 (.c .unk), sv 34 (.c .unk), sv 37 (.c .unk), sv 38 (.c .unk), sv 39 (.c .unk), sv 40 (.c .unk), sv 41 (.c .unk), sv 44 (.c .unk), sv 45 (.c .unk), sv 46 (.c .unk), sv 47 (.c .unk), sv 48 (.c .unk)], hp := [(0, some (.box [(i64 best.Issuer), (i64 best.Number), (i64 best.Version), (bl best.Withdrawn), (i64 best.Person), (i64 best.Kind), (i64 best.State), (i64 best.Span.From), (i64 best.Span.To), (i64 best.Seat), (i64 best.Share), (i64 best.Currency), (i64 best.Amount), (i64 best.Ref)]))], nx := 1 }) else (bif (bif (bif (!ok) then true else (decide (best.Span.From < ((l.getD (Int.toNat t24) zGFact).Span).From))) then true else (bif (((l.getD (Int.toNat t24) zGFact).Span).From == best.Span.From) then (decide ((l.getD (Int.toNat t24) zGFact).State < best.State)) else false)) then wK K .normal ({ tm := [sv 1 (i64 day), sv 6 (.ptr 0 14 0 0), sv 7 (bl true), sv 22 (.c (.sl 14 l.length (lsEl eGFact zGFact l))), sv 23 (i64 ((l.length : Nat) : Int)), sv 24 (i64 (w64 (t24 + (1 : Int)))), sv 32 (.c .unk), sv 33 (.c .unk), sv 34 (.c .unk), sv 37 (.c .unk), sv 38 (.c .unk), sv 39 (.c .unk), sv 40 (.c .unk), sv 41 (.c .unk), sv 44 (.c .unk), sv 45 (.c .unk), sv 46 (.c .unk), sv 47 (.c .unk), sv 48 (.c .unk), sv 53 (.c .unk), sv 54 (.c .unk), sv 55 (.c .unk), sv 56 (.c .unk), sv 57 (.c .unk), sv 58 (.c .unk), sv 59 (.c .unk), sv 62 (.c .unk), sv 63 (.c .unk), sv 64 (.c .unk), sv 65 (.c .unk), sv 66 (.c .unk), sv 67 (.c .unk), sv 68 (.c .unk), sv 69 (.c .unk), sv 70 (.c .unk), sv 71 (.c .unk), sv 72 (.c .unk), sv 73 (.c .unk), sv 74 (.c .unk), sv 75 (.c .unk)], hp := [(0, some (.box [(i64 (l.getD (Int.toNat t24) zGFact).Issuer), (i64 (l.getD (Int.toNat t24) zGFact).Number), (i64 (l.getD (Int.toNat t24) zGFact).Version), (bl (l.getD (Int.toNat t24) zGFact).Withdrawn), (i64 (l.getD (Int.toNat t24) zGFact).Person), (i64 (l.getD (Int.toNat t24) zGFact).Kind), (i64 (l.getD (Int.toNat t24) zGFact).State), (i64 ((l.getD (Int.toNat t24) zGFact).Span).From), (i64 ((l.getD (Int.toNat t24) zGFact).Span).To), (i64 (l.getD (Int.toNat t24) zGFact).Seat), (i64 (l.getD (Int.toNat t24) zGFact).Share), (i64 (l.getD (Int.toNat t24) zGFact).Currency), (i64 (l.getD (Int.toNat t24) zGFact).Amount), (i64 (l.getD (Int.toNat t24) zGFact).Ref)]))], nx := 1 }) else wK K .normal ({ tm := [sv 1 (i64 day), sv 6 (.ptr 0 14 0 0), sv 7 (bl ok), sv 22 (.c (.sl 14 l.length (lsEl eGFact zGFact l))), sv 23 (i64 ((l.length : Nat) : Int)), sv 24 (i64 (w64 (t24 + (1 : Int)))), sv 32 (.c .unk), sv 33 (.c .unk), sv 34 (.c .unk), sv 37 (.c .unk), sv 38 (.c .unk), sv 39 (.c .unk), sv 40 (.c .unk), sv 41 (.c .unk), sv 44 (.c .unk), sv 45 (.c .unk), sv 46 (.c .unk), sv 47 (.c .unk), sv 48 (.c .unk), sv 53 (.c .unk), sv 54 (.c .unk), sv 55 (.c .unk), sv 56 (.c .unk), sv 57 (.c .unk), sv 58 (.c .unk), sv 59 (.c .unk), sv 62 (.c .unk), sv 63 (.c .unk), sv 64 (.c .unk), sv 65 (.c .unk), sv 66 (.c .unk), sv 67 (.c .unk), sv 68 (.c .unk), sv 69 (.c .unk), sv 70 (.c .unk), sv 71 (.c .unk), sv 72 (.c .unk), sv 73 (.c .unk), sv 74 (.c .unk), sv 75 (.c .unk)], hp := [(0, some (.box [(i64 best.Issuer), (i64 best.Number), (i64 best.Version), (bl best.Withdrawn), (i64 best.Person), (i64 best.Kind), (i64 best.State), (i64 best.Span.From), (i64 best.Span.To), (i64 best.Seat), (i64 best.Share), (i64 best.Currency), (i64 best.Amount), (i64 best.Ref)]))], nx := 1 }))))) else wK K (.exit 0) ({ tm := [sv 1 (i64 day), sv 6 (.ptr 0 14 0 0), sv 7 (bl ok), sv 22 (.c (.sl 14 l.length (lsEl eGFact zGFact l))), sv 23 (i64 ((l.length : Nat) : Int)), sv 24 (i64 t24)], hp := [(0, some (.box [(i64 best.Issuer), (i64 best.Number), (i64 best.Version), (bl best.Withdrawn), (i64 best.Person), (i64 best.Kind), (i64 best.State), (i64 best.Span.From), (i64 best.Span.To), (i64 best.Seat), (i64 best.Share), (i64 best.Currency), (i64 best.Amount), (i64 best.Ref)]))], nx := 1 }))) (fun K => by kernel_rfl) (W_bif h (fun _ h => (W_gd2 h fun hp0 h => (W_bind false h fun hp1 h => (W_bif h (fun _ h => ⟨(z12l1S day l (ok, (w64 (t24 + (1 : Int))), best)), (.of (.q rfl (.q rfl (.q rfl (.q rfl (.q rfl (.q rfl .nil)))))) (.same rfl .nil) rfl), h⟩) (fun _ h => (W_bif h (fun _ h => ⟨(z12l1S day l (true, (w64 (t24 + (1 : Int))), (l.getD (Int.toNat t24) zGFact))), (.of (.q rfl (.q rfl (.q rfl (.q rfl (.q rfl (.q rfl .nil)))))) (.same rfl .nil) rfl), h⟩) (fun _ h => ⟨(z12l1S day l (ok, (w64 (t24 + (1 : Int))), best)), (.of (.q rfl (.q rfl (.q rfl (.q rfl (.q rfl (.q rfl .nil)))))) (.same rfl .nil) rfl), h⟩))))))) (fun _ h => ⟨(z12l1C0 day l (ok, best)), (.of (.q rfl (.q rfl .nil)) (.same rfl .nil) rfl), h⟩)))
noncomputable def career_Residence_l1 (day : Int) (l : (List GFact)) (s : (Bool × Int × GFact)) : Option ((Bool × Int × GFact) ⊕ ((Bool × GFact))) := match s with | (ok, t24, best) => career_Residence_p0 day ok l t24 best
theorem z12l1ok (day : Int) (l : (List GFact)) (s : (Bool × Int × GFact)) : Pp Tryz.prog 82 (List.drop 0 z12i1) (z12l1S day l s) (career_Residence_l1 day l s) (nextE (z12l1S day l) (z12l1E day l)) := fun K h => match s, h with | (ok, t24, best), h => (z12p0ok day ok l t24 best _ h)
theorem z12l1Ethen (day : Int) (l : (List GFact)) : ∀ (r : ((Bool × GFact))) (J : St → Prop) (K : KT), z12l1E day l r K → z12l1E day l r (thenK J K)
  | s, _, _, h => h
def z12p1S (ok_2 : Bool) (best_2 : GFact) : St := { tm := [sv 6 (.ptr 0 14 0 0), sv 7 (bl ok_2)], hp := [(0, some (.box [(i64 best_2.Issuer), (i64 best_2.Number), (i64 best_2.Version), (bl best_2.Withdrawn), (i64 best_2.Person), (i64 best_2.Kind), (i64 best_2.State), (i64 best_2.Span.From), (i64 best_2.Span.To), (i64 best_2.Seat), (i64 best_2.Share), (i64 best_2.Currency), (i64 best_2.Amount), (i64 best_2.Ref)]))], nx := 1 }
noncomputable def career_Residence_p1 (ok_2 : Bool) (best_2 : GFact) : Option ((Int × Bool)) := (some (best_2.State, ok_2))
theorem z12p1ok (ok_2 : Bool) (best_2 : GFact) (K : KT) (h : W (career_Residence_p1 ok_2 best_2) (rE z12R K)) : EvL Tryz.prog 82 (List.drop 6 z12i0) K (z12p1S ok_2 best_2) :=
  EvL.pE mixed (lookC_ok (l := []) trivial) [4, 5] 6 2 (.nf (X := fun K => wK K .ret (z12R (best_2.State, ok_2))) (fun K => by kernel_rfl) (⟨_, .refl _, h⟩))
def z12p2S (day : Int) (l : (List GFact)) : St := { tm := [sv 1 (i64 day), sv 6 (.ptr 0 14 0 0), sv 7 (bl false), sv 22 (.c (.sl 14 l.length (lsEl eGFact zGFact l))), sv 23 (i64 ((l.length : Nat) : Int)), sv 24 (i64 (0 : Int))], hp := [(0, some (.box [(i64 (0 : Int)), (i64 (0 : Int)), (i64 (0 : Int)), (bl false), (i64 (0 : Int)), (i64 (0 : Int)), (i64 (0 : Int)), (i64 (0 : Int)), (i64 (0 : Int)), (i64 (0 : Int)), (i64 (0 : Int)), (i64 (0 : Int)), (i64 (0 : Int)), (i64 (0 : Int))]))], nx := 1 }
noncomputable def career_Residence_p2_g (day : Int) (l : (List GFact)) (r : ((Bool × GFact))) : Option ((Int × Bool)) := match r with | (ok_1, best_1) => (career_Residence_p1 ok_1 best_1)
noncomputable def career_Residence_p2 (day : Int) (l : (List GFact)) : Option ((Int × Bool)) := (fixL (career_Residence_l1 day l) (false, (0 : Int), (GFact.mk (0 : Int) (0 : Int) (0 : Int) false (0 : Int) (0 : Int) (0 : Int) (GSpan.mk (0 : Int) (0 : Int)) (0 : Int) (0 : Int) (0 : Int) (0 : Int) (0 : Int)))).bind (career_Residence_p2_g day l)
theorem z12p2at : List.drop 5 z12i0 = .block 0 (.loop (inside (inside (nthI z12i0 5)))) :: List.drop 6 z12i0 := by kernel_rfl
theorem z12p2k (day : Int) (l : (List GFact)) (K : KT) : ∀ r : ((Bool × GFact)), W (career_Residence_p2_g day l r) (rE z12R K) → z12l1E day l r (wK (blockK 0 (thenK (EvL Tryz.prog 82 (List.drop 6 z12i0) K) K)))
  | (ok_1, best_1), h => ⟨(z12p1S ok_1 best_1), (.refl _), (z12p1ok ok_1 best_1 _ h)⟩
theorem z12p2ok (day : Int) (l : (List GFact)) (K : KT) (h : W (career_Residence_p2 day l) (rE z12R K)) : EvL Tryz.prog 82 (List.drop 5 z12i0) K (z12p2S day l) :=
  EvL.at_ z12p2at (EvL.cons_loop (EvOk.weak (EvOk.ent (.refl _) (EvOk.loopF (x := inside (inside (nthI z12i0 5))) (f := career_Residence_l1 day l) (emb := z12l1S day l) (E := z12l1E day l) (z12l1ok day l) (z12l1Ethen day l) (W_loop h (z12p2k day l K))))))
def z12p3S (l : (List GFact)) (day : Int) (t20 : Bool) : St := { tm := [sv 0 (.c (.sl 14 l.length (lsEl eGFact zGFact l))), sv 1 (i64 day), sv 20 (bl t20)], hp := [], nx := 0 }
noncomputable def career_Residence_p3 (l : (List GFact)) (day : Int) (t20 : Bool) : Option ((Int × Bool)) := (bif t20 then (some ((0 : Int), false)) else (career_Residence_p2 day l))
theorem z12p3ok (l : (List GFact)) (day : Int) (t20 : Bool) (K : KT) (h : W (career_Residence_p3 l day t20) (rE z12R K)) : EvL Tryz.prog 82 (List.drop 2 z12i0) K (z12p3S l day t20) :=
  EvL.pD mixed (lookC_ok (l := []) trivial) [1, 4, 5, 6, 7, 22, 23, 24, 32, 33, 34, 37, 38, 39, 40, 41, 44, 45, 46, 47, 48, 53, 54, 55, 56, 57, 58, 59, 62, 63, 64, 65, 66, 67, 68, 69, 70, 71, 72, 73, 74, 75] 2 3 5 (.nf (X := fun K => (bif t20 then wK K .ret ({ tm := [sv 1 (i64 day), sv 4 (i64 (0 : Int)), sv 5 (bl false)], hp := [], nx := 0 }) else wK K .normal (z12p2S day l))) (fun K => by kernel_rfl) (W_bif h (fun _ h => ⟨(z12R ((0 : Int), false)), (.of (.q rfl (.q rfl .nil)) .nil rfl), h⟩) (fun _ h => ⟨_, .refl _, (z12p2ok day l _ h)⟩)))
def z12p4S (l : (List GFact)) (day : Int) : St := { tm := [sv 0 (.c (.sl 14 l.length (lsEl eGFact zGFact l))), sv 1 (i64 day)], hp := [], nx := 0 }
noncomputable def career_Residence_p4 (l : (List GFact)) (day : Int) : Option ((Int × Bool)) := (calendar_Valid day).bind fun r_1 => ((bif (!r_1) then (career_Residence_p3 l day true) else (career_Life l).bind fun r_3 => ((spans_Contains ([r_3] : List GSpan) day).bind fun r_4 => ((career_Residence_p3 l day (!r_4))))))
theorem z12p4nf (l : (List GFact)) (day : Int) (K : KT) (L1_ : List GFact) (hL1_ : lst dGFact l.length (lsEl eGFact zGFact l) = L1_) (L2_ : List GSpan) (hL2_ : lst dGSpan 1 (fun i => (litE 2 (eGSpan ((career_Life L1_).getD zGSpan))) (0 + i)) = L2_) :
    ev Tryz.prog (lookC [(13, .pure career_Life_C), (28, .pure calendar_Valid_C), (29, .pure spans_Contains_C)]) 82 (ofItems ((List.drop 0 z12i0).take 2)) (cN [0, 1, 20, 32, 33, 34, 37, 38, 39, 40, 41, 44, 45, 46, 47, 48, 53, 54, 55, 56, 57, 58, 59, 62, 63, 64, 65, 66, 67, 68, 69, 70, 71, 72, 73, 74, 75] K) (z12p4S l day) =
    (((calendar_Valid day).isSome = true) ∧ ((bif (!((calendar_Valid day).getD false)) then wK K .normal (z12p3S l day true) else (LstOk eGFact dGFact 14 14 l.length (lsEl eGFact zGFact l)) ∧ ((career_Life L1_).isSome = true) ∧ ((LstOk eGSpan dGSpan 2 2 1 (fun i => (litE 2 (eGSpan ((career_Life L1_).getD zGSpan))) (0 + i))) ∧ ((spans_Contains L2_ day).isSome = true) ∧ (wK K .normal (z12p3S l day (!((spans_Contains L2_ day).getD false)))))))) := by subst hL1_ hL2_; kernel_rfl
theorem z12p4ok (l : (List GFact)) (day : Int) (K : KT) (h : W (career_Residence_p4 l day) (rE z12R K)) : EvL Tryz.prog 82 (List.drop 0 z12i0) K (z12p4S l day) :=
  EvL.pD mixed (lookC_ok (l := [(13, .pure career_Life_C), (28, .pure calendar_Valid_C), (29, .pure spans_Contains_C)]) ⟨career_Life_ok, calendar_Valid_ok, spans_Contains_ok, trivial⟩) [0, 1, 20, 32, 33, 34, 37, 38, 39, 40, 41, 44, 45, 46, 47, 48, 53, 54, 55, 56, 57, 58, 59, 62, 63, 64, 65, 66, 67, 68, 69, 70, 71, 72, 73, 74, 75] 0 2 2 (.of (z12p4nf l day _ _ (RowIs.lst dGFact_eGFact (RowIs.ls eGFact zGFact l)) _ (RowIs.lst dGSpan_eGSpan (RowIs.zero (RowIs.l1 (enc := eGSpan) (z := zGSpan) 2 ((career_Life l).getD zGSpan) rfl)))) (W_bind false h fun hp0 h => (W_bif h (fun _ h => ⟨_, .refl _, (z12p3ok l day true _ h)⟩) (fun _ h => ⟨RowIs.ok dGFact_eGFact (RowIs.ls eGFact zGFact l), (W_bind zGSpan h fun hp1 h => ⟨RowIs.ok dGSpan_eGSpan (RowIs.zero (RowIs.l1 (enc := eGSpan) (z := zGSpan) 2 ((career_Life l).getD zGSpan) rfl)), (W_bind false h fun hp2 h => ⟨_, .refl _, (z12p3ok l day (!((spans_Contains ([((career_Life l).getD zGSpan)] : List GSpan) day).getD false)) _ h)⟩)⟩)⟩))))
noncomputable def career_Residence (l : (List GFact)) (day : Int) : Option ((Int × Bool)) := career_Residence_p4 l day
theorem z12run (l : (List GFact)) (day : Int) (y_ : (Int × Bool)) (h : career_Residence l day = some y_) : EvL Tryz.prog 82 (items (bodyOf Tryz.f12)) (retK Tryz.prog [.tmp 4, .tmp 5] (OutOk (career_Residence_out y_))) (z12p4S l day) :=
  z12p4ok l day _ (W_iff.2 ⟨y_, h, z12Rok y_⟩)
noncomputable def career_Residence_C : Con
  | [(.c (.sl k1 n2 e3)), (.c (.lit (.int .i64 a4)))] => some ([LstOk eGFact dGFact 14 k1 n2 e3, (career_Residence (lst dGFact n2 e3) a4).isSome = true], (career_Residence_out ((career_Residence (lst dGFact n2 e3) a4).getD ((0 : Int), false))))
  | _ => none
theorem career_Residence_ok : Meets Tryz.prog 12 career_Residence_C := by
  refine meets_fun (fn := Tryz.f12) (c := bodyOf Tryz.f12) (by kernel_rfl) (by kernel_rfl) (by kernel_rfl) (rs := [.tmp 4, .tmp 5]) (by kernel_rfl) (nt := 82) (by kernel_rfl) fun vs p out h hp => ?_
  unfold career_Residence_C at h
  split at h
  · next k1 n2 e3 a4 =>
    cases h
    obtain ⟨g0, hp⟩ := allq hp
    obtain ⟨g, hp⟩ := allq hp
    obtain ⟨x, hx⟩ := Option.isSome_iff_exists.1 g
    rw [hx]
    exact ⟨[(.c (.sl 14 ((lst dGFact n2 e3)).length (lsEl eGFact zGFact (lst dGFact n2 e3)))), (i64 a4)], (VLes.cons (VLe.slk g0.1 (RowIs.of_ok g0)) (VLes.cons (VLe.rfl' _) VLes.nil)), rfl, z12run (lst dGFact n2 e3) a4 x hx⟩
  · cases h

noncomputable def z87i0 : List Code := items (bodyOf Tryz.f87)
def spans_clamp_out (x_1 : GSpan) : Out := .data (.agg [(i64 x_1.From), (i64 x_1.To)])
def z87R (x_1 : GSpan) : St := { tm := [sv 2 (.ptr 0 2 0 0)], hp := [(0, some (.box [(i64 x_1.From), (i64 x_1.To)]))], nx := 1 }
theorem z87Rok (x_1 : GSpan) : retK Tryz.prog [.cell 2 34] (OutOk (spans_clamp_out x_1)) .ret (z87R x_1) :=
  retK.intro (v := (.agg [(i64 x_1.From), (i64 x_1.To)])) (by kernel_rfl) ((VLe.rfl' _))
def z87p0S (s_1 : GSpan) : St := { tm := [sv 0 (.ag (eGSpan s_1))], hp := [], nx := 0 }
noncomputable def spans_clamp_p0 (s_1 : GSpan) : Option (GSpan) := (some (GSpan.mk (if s_1.From < (0 : Int) then (0 : Int) else s_1.From) (if (73049 : Int) < s_1.To then (73049 : Int) else s_1.To)))
theorem z87p0ok (s_1 : GSpan) (K : KT) (h : W (spans_clamp_p0 s_1) (rE z87R K)) : EvL Tryz.prog 10 (List.drop 0 z87i0) K (z87p0S s_1) :=
  EvL.pE mixed (lookC_ok (l := []) trivial) [2] 0 3 (.nf (X := fun K => wK K .ret (z87R (GSpan.mk (if s_1.From < (0 : Int) then (0 : Int) else s_1.From) (if (73049 : Int) < s_1.To then (73049 : Int) else s_1.To)))) (fun K => by kernel_rfl) (⟨_, .refl _, h⟩))
noncomputable def spans_clamp (s_1 : GSpan) : Option (GSpan) := spans_clamp_p0 s_1
theorem z87run (s_1 : GSpan) (y_ : GSpan) (h : spans_clamp s_1 = some y_) : EvL Tryz.prog 10 (items (bodyOf Tryz.f87)) (retK Tryz.prog [.cell 2 34] (OutOk (spans_clamp_out y_))) (z87p0S s_1) :=
  z87p0ok s_1 _ (W_iff.2 ⟨y_, h, z87Rok y_⟩)
noncomputable def spans_clamp_C : Con
  | [(.agg [(.c (.lit (.int .i64 a1))), (.c (.lit (.int .i64 a2)))])] => some ([(spans_clamp (GSpan.mk a1 a2)).isSome = true], (spans_clamp_out ((spans_clamp (GSpan.mk a1 a2)).getD zGSpan)))
  | _ => none
theorem spans_clamp_ok : Meets Tryz.prog 87 spans_clamp_C := by
  refine meets_fun (fn := Tryz.f87) (c := bodyOf Tryz.f87) (by kernel_rfl) (by kernel_rfl) (by kernel_rfl) (rs := [.cell 2 34]) (by kernel_rfl) (nt := 10) (by kernel_rfl) fun vs p out h hp => ?_
  unfold spans_clamp_C at h
  split at h
  · next a1 a2 =>
    cases h
    obtain ⟨g, hp⟩ := allq hp
    obtain ⟨x, hx⟩ := Option.isSome_iff_exists.1 g
    rw [hx]
    exact ⟨[(.agg [(i64 (GSpan.mk a1 a2).From), (i64 (GSpan.mk a1 a2).To)])], (VLes.cons (VLe.rfl' _) VLes.nil), rfl, z87run (GSpan.mk a1 a2) x hx⟩
  · cases h


instance : Inhabited GSpan := ⟨zGSpan⟩
/-- Which of two stands first. -/
def sort_Slice_lt (a b : GSpan) : Bool := decide (a.From < b.From)
theorem sort_Slice_swo : Go.Sort.SWO sort_Slice_lt := ⟨fun x => by simp [sort_Slice_lt], fun x y z h1 h2 => by simp [sort_Slice_lt] at *; omega, fun x y z h1 h2 => by simp [sort_Slice_lt] at *; omega⟩
/-- An element's words. -/
def sort_Slice_enc (x : GSpan) : List Value := [.int .i64 x.From, .int .i64 x.To]
theorem sort_Slice_one (x : GSpan) (v : Value) (hv : v ∈ sort_Slice_enc x) : v.oneCell' = true := by
  unfold sort_Slice_enc at hv
  simp only [List.mem_cons, List.not_mem_nil, or_false] at hv
  rcases hv with rfl | rfl <;> rfl
/-- sort.Slice, in the order in which it leaves the list. -/
noncomputable def sort_Slice (l : List GSpan) : Option (List GSpan) := gd (l.length < 4611686018427387904) (some (sortL sort_Slice_lt l))
noncomputable def sort_Slice_C : Heap → Nat → List V → Option Res := sortC eGSpan dGSpan zGSpan 27 34 2 89 sort_Slice
section
open Go.Shelf Go.RowKit Go.Lib Go.Sort
set_option maxHeartbeats 2000000 in
theorem sort_Slice_walk (W : World) (blk off c Bs size : Nat) (G : Nat → Int) (hs : W.cell? ⟨Bs, 0, none⟩ = some (.slice (some ⟨blk, off, none⟩) size c))
    (hc : ∀ t, t < size → W.cell? ⟨blk, off + t * 2, none⟩ = some (.int .i64 (G t))) (i j : Nat) (hi : i < size) (hj : j < size) (_hsz : size < 4611686018427387904) :
    Calls Tryz.prog 89 #[.int .i64 i, .int .i64 j, .pointer (some ⟨Bs, 0, none⟩)] W fun e w' => e = .returned (.bool (decide (G i < G j))) ∧ ∃ q, w' = W.drewN q := by
  have ci := hc i hi
  have cj := hc j hj
  go_enter Tryz.func89, Tryz.ntmps89
  go_wp2
  go_quiet (fail)
  go_wp2
  go_ret
  exact ⟨rfl, nq, rfl⟩
theorem sort_Slice_less (W : World) (blk c Bs : Nat) (d : Array GSpan) (hH : HoldsK sort_Slice_enc 2 W blk 0 d) (hsz : d.size < 4611686018427387904) (hs : W.cell? ⟨Bs, 0, none⟩ = some (.slice (some ⟨blk, 0, none⟩) d.size c)) (i j : Nat) (hi : i < d.size) (hj : j < d.size) :
    Calls Tryz.prog 89 #[.int .i64 i, .int .i64 j, .pointer (some ⟨Bs, 0, none⟩)] W fun e w' => e = .returned (.bool (sort_Slice_lt d[i]! d[j]!)) ∧ ∃ q, w' = W.drewN q :=
  sort_Slice_walk W blk 0 c Bs d.size (fun t => d[t]!.From) hs (fun t ht => (hH.cell (i := t) (c := 0) ht (by omega)).1) i j hi hj hsz
noncomputable def sort_Slice_ti : TypeInfo := (Tryz.prog.info? 27).get (by kernel_rfl)
noncomputable def sort_Slice_ei : TypeInfo := (Tryz.prog.info? 34).get (by kernel_rfl)
theorem sort_Slice_run : SortRun Tryz.prog 88 27 89 2 sort_Slice_enc sort_Slice_lt := by
  have hp : sort_Slice_ei.hasPointers = false := by kernel_rfl
  have hb : sort_Slice_ei.bytes = 16 := by kernel_rfl
  exact sortRun_of (T := GSpan) (enc := sort_Slice_enc) (k := 2) (lt := sort_Slice_lt) (t := 27) (e := 34) (g := 89) (i := sort_Slice_ti) (ie := sort_Slice_ei) (s := 9) (f2 := 121) Tryz.sl (by kernel_rfl) (by kernel_rfl) (by kernel_rfl) (by kernel_rfl) (ke := 25) (fun _ => by kernel_rfl) (fun _ => rfl) (by kernel_rfl) (fun _ => by kernel_rfl) sort_Slice_one sort_Slice_swo
    (enters_of (c := bodyOf Tryz.f89) Tryz.func89 (by kernel_rfl) (by kernel_rfl)) (by kernel_rfl) (enters_of (c := bodyOf Tryz.f88) Tryz.func88 (by kernel_rfl) (by kernel_rfl)) (f0 := 113) (by kernel_rfl) (f1 := 114) (by kernel_rfl)
    (fun n h2 => by
      have c : (n == 0) = false := by simp; omega
      have d : (n == 1) = false := by simp; omega
      simp [Lib.swapperK, hp, hb, c, d]) (by kernel_rfl) (gS := false) (fun args W => run_callFunc_extern Tryz.func121 (by kernel_rfl) (by kernel_rfl) (by kernel_rfl) (e := Extern.ReflectliteSwapper.swap false) (by kernel_rfl) args W)
    sort_Slice_less
end
theorem sort_Slice_ok : MeetsC Tryz.prog 88 (.mut sort_Slice_C) :=
  sortC_meets sort_Slice_swo (by decide) (by kernel_rfl) (fun _ => rfl) (fun _ => rfl) sort_Slice_one (fun l x h => ⟨(gd_some.1 h).1, (Option.some.inj (gd_some.1 h).2).symm⟩) sort_Slice_run

noncomputable def z64i0 : List Code := items (bodyOf Tryz.f64)
noncomputable def z64i1 : List Code := items (inside (inside (nthI z64i0 3)))
noncomputable def z64i2 : List Code := items (inside (inside (nthI z64i0 7)))
def spans_Make_out (x_1 : (List GSpan)) : Out := .own true 34 2 (x_1).length (lsEl eGSpan zGSpan x_1)
def z64R (x_1 : (List GSpan)) : St := { tm := [sv 2 (.row 0 2 0 x_1.length)], hp := [(0, some (.row 34 2 x_1.length (lsEl eGSpan zGSpan x_1)))], nx := 1 }
theorem z64Rok (x_1 : (List GSpan)) : retK Tryz.prog [.tmp 2] (OutOk (spans_Make_out x_1)) .ret (z64R x_1) :=
  retK.intro (v := (.row 0 2 0 x_1.length)) (by kernel_rfl) (⟨_, _, _, rfl, rfl, rfl, fun _ _ => rfl, fun _ i hi d hd => scal_GSpan _ d hd⟩)
def z64l1S (l : (List GSpan)) (s : (Int × (List GSpan))) : St := match s with | (t12, sorted) => { tm := [sv 3 (.ptr 0 1 0 0), sv 10 (.c (.sl 2 l.length (lsEl eGSpan zGSpan l))), sv 11 (i64 ((l.length : Nat) : Int)), sv 12 (i64 t12)], hp := [(0, some (.box [(.row 1 2 0 sorted.length)])), (1, some (.row 34 2 sorted.length (lsEl eGSpan zGSpan sorted)))], nx := 2 }
def z64l1C0 (l : (List GSpan)) (s : (List GSpan)) : St := match s with | sorted_1 => { tm := [sv 3 (.ptr 0 1 0 0)], hp := [(0, some (.box [(.row 1 2 0 sorted_1.length)])), (1, some (.row 34 2 sorted_1.length (lsEl eGSpan zGSpan sorted_1)))], nx := 2 }
def z64l1E (l : (List GSpan)) (r : (((List GSpan)))) (K : KT) : Prop := match r with | s => K (.exit 0) (z64l1C0 l s)
def z64p0S (l : (List GSpan)) (t12 : Int) (sorted : (List GSpan)) : St := { tm := [sv 3 (.ptr 0 1 0 0), sv 10 (.c (.sl 2 l.length (lsEl eGSpan zGSpan l))), sv 11 (i64 ((l.length : Nat) : Int)), sv 12 (i64 t12)], hp := [(0, some (.box [(.row 1 2 0 sorted.length)])), (1, some (.row 34 2 sorted.length (lsEl eGSpan zGSpan sorted)))], nx := 2 }
noncomputable def spans_Make_p0 (l : (List GSpan)) (t12 : Int) (sorted : (List GSpan)) : Option ((Int × (List GSpan)) ⊕ (((List GSpan)))) := (bif (decide (t12 < ((l.length : Nat) : Int))) then gd ((0 : Int) ≤ t12 ∧ t12 < ((l.length : Nat) : Int)) ((spans_clamp (l.getD (Int.toNat t12) zGSpan)).bind fun r_1 => ((bif (decide (r_1.From < r_1.To)) then gd (capB (sorted.length + 1) 16) ((some (Sum.inl ((w64 (t12 + (1 : Int))), (sorted ++ ([r_1] : List GSpan)))))) else (some (Sum.inl ((w64 (t12 + (1 : Int))), sorted)))))) else (some (Sum.inr sorted)))
theorem z64p0ok (l : (List GSpan)) (t12 : Int) (sorted : (List GSpan)) (K : KT) (h : W (spans_Make_p0 l t12 sorted) (nE (z64l1S l) (z64l1E l) K)) : EvL Tryz.prog 73 (List.drop 0 z64i1) K (z64p0S l t12 sorted) :=
  EvL.pE mixed (lookC_ok (l := [(87, .pure spans_clamp_C)]) ⟨spans_clamp_ok, trivial⟩) [3, 10, 11, 12, 43, 44, 45, 46, 47, 48, 49, 50, 51] 0 4 (.nf (X := fun K => (bif (decide (t12 < ((l.length : Nat) : Int))) then ((0 : Int) ≤ t12) ∧ (t12 < ((l.length : Nat) : Int)) ∧ (((spans_clamp (l.getD (Int.toNat t12) zGSpan)).isSome = true) ∧ ((bif (decide (((spans_clamp (l.getD (Int.toNat t12) zGSpan)).getD zGSpan).From < ((spans_clamp (l.getD (Int.toNat t12) zGSpan)).getD zGSpan).To)) then (sorted.length = sorted.length) ∧ ((sorted.length + 1) * 16 ≤ 140737488355328) ∧ ((sorted.length + 1) ≤ 140737488355328) ∧ (wK K .normal ({ tm := [sv 3 (.ptr 0 1 0 0), sv 10 (.c (.sl 2 l.length (lsEl eGSpan zGSpan l))), sv 11 (i64 ((l.length : Nat) : Int)), sv 12 (i64 (w64 (t12 + (1 : Int))))], hp := [(0, some (.box [(.row 1 2 0 (sorted.length + 1))])), (1, some (.row 34 2 (sorted.length + 1) (fun i => bif Nat.blt i sorted.length then (lsEl eGSpan zGSpan sorted) i else (fun i => (litE 2 (eGSpan ((spans_clamp (l.getD (Int.toNat t12) zGSpan)).getD zGSpan))) (0 + i)) (i - sorted.length))))], nx := 2 })) else wK K .normal (z64l1S l ((w64 (t12 + (1 : Int))), sorted))))) else wK K (.exit 0) ({ tm := [sv 3 (.ptr 0 1 0 0), sv 10 (.c (.sl 2 l.length (lsEl eGSpan zGSpan l))), sv 11 (i64 ((l.length : Nat) : Int)), sv 12 (i64 t12)], hp := [(0, some (.box [(.row 1 2 0 sorted.length)])), (1, some (.row 34 2 sorted.length (lsEl eGSpan zGSpan sorted)))], nx := 2 }))) (fun K => by kernel_rfl) (W_bif h (fun _ h => (W_gd2 h fun hp0 h => (W_bind zGSpan h fun hp1 h => (W_bif h (fun _ h => ⟨rfl, (W_gd2 h fun hp2 h => ⟨(z64l1S l ((w64 (t12 + (1 : Int))), (sorted ++ ([((spans_clamp (l.getD (Int.toNat t12) zGSpan)).getD zGSpan)] : List GSpan)))), (.of (.q rfl (.q rfl (.q rfl (.q rfl .nil)))) (.box rfl (.cons (.rown (len_app rfl rfl)) .nil) (.row rfl (RowIs.app (RowIs.ls eGSpan zGSpan sorted) (RowIs.zero (RowIs.l1 (enc := eGSpan) (z := zGSpan) 2 ((spans_clamp (l.getD (Int.toNat t12) zGSpan)).getD zGSpan) rfl))) .nil rfl)) rfl), h⟩)⟩) (fun _ h => ⟨_, .refl _, h⟩))))) (fun _ h => ⟨(z64l1C0 l sorted), (.of (.q rfl .nil) (.same rfl (.same rfl .nil)) rfl), h⟩)))
noncomputable def spans_Make_l1 (l : (List GSpan)) (s : (Int × (List GSpan))) : Option ((Int × (List GSpan)) ⊕ (((List GSpan)))) := match s with | (t12, sorted) => spans_Make_p0 l t12 sorted
theorem z64l1ok (l : (List GSpan)) (s : (Int × (List GSpan))) : Pp Tryz.prog 73 (List.drop 0 z64i1) (z64l1S l s) (spans_Make_l1 l s) (nextE (z64l1S l) (z64l1E l)) := fun K h => match s, h with | (t12, sorted), h => (z64p0ok l t12 sorted _ h)
theorem z64l1Ethen (l : (List GSpan)) : ∀ (r : (((List GSpan)))) (J : St → Prop) (K : KT), z64l1E l r K → z64l1E l r (thenK J K)
  | s, _, _, h => h
def z64l2S (t32 : (List GSpan)) (t33 : Int) (s : ((List GSpan) × (List GSpan) × Int × Int)) : St := match s with | (out_1, t32_1, t33_1, t34) => { tm := [sv 6 (.row 0 2 0 out_1.length), sv 32 (.row 1 2 0 t32_1.length), sv 33 (i64 t33_1), sv 34 (i64 t34)], hp := [(0, some (.row 34 2 out_1.length (lsEl eGSpan zGSpan out_1))), (1, some (.row 34 2 t32_1.length (lsEl eGSpan zGSpan t32_1)))], nx := 2 }
def z64l2C0 (t32 : (List GSpan)) (t33 : Int) (s : (List GSpan)) : St := match s with | out_2 => { tm := [sv 6 (.row 0 2 0 out_2.length)], hp := [(0, some (.row 34 2 out_2.length (lsEl eGSpan zGSpan out_2)))], nx := 1 }
def z64l2E (t32 : (List GSpan)) (t33 : Int) (r : (((List GSpan)))) (K : KT) : Prop := match r with | s => K (.exit 2) (z64l2C0 t32 t33 s)
def z64p1S (out_1 t32_1 : (List GSpan)) (t33_1 t34 : Int) : St := { tm := [sv 6 (.row 0 2 0 out_1.length), sv 32 (.row 1 2 0 t32_1.length), sv 33 (i64 t33_1), sv 34 (i64 t34)], hp := [(0, some (.row 34 2 out_1.length (lsEl eGSpan zGSpan out_1))), (1, some (.row 34 2 t32_1.length (lsEl eGSpan zGSpan t32_1)))], nx := 2 }
noncomputable def spans_Make_p1 (out_1 t32_1 : (List GSpan)) (t33_1 t34 : Int) : Option (((List GSpan) × (List GSpan) × Int × Int) ⊕ (((List GSpan)))) := (bif (decide (t34 < t33_1)) then gd ((0 : Int) ≤ t34 ∧ t34 < ((t32_1.length : Nat) : Int)) (gd (((decide ((0 : Int) < ((out_1.length : Nat) : Int))) && true) = true → (0 : Int) ≤ (w64 (((out_1.length : Nat) : Int) - (1 : Int)))) (gd (((decide ((0 : Int) < ((out_1.length : Nat) : Int))) && true) = true → (w64 (((out_1.length : Nat) : Int) - (1 : Int))) < ((out_1.length : Nat) : Int)) ((bif (bif (decide ((0 : Int) < ((out_1.length : Nat) : Int))) then (decide ((t32_1.getD (0 + (Int.toNat t34)) zGSpan).From ≤ (out_1.getD (0 + (Int.toNat (w64 (((out_1.length : Nat) : Int) - (1 : Int))))) zGSpan).To)) else false) then gd ((0 : Int) ≤ (w64 (((out_1.length : Nat) : Int) - (1 : Int))) ∧ (w64 (((out_1.length : Nat) : Int) - (1 : Int))) < ((out_1.length : Nat) : Int)) (gd ((0 : Int) ≤ (w64 (((out_1.length : Nat) : Int) - (1 : Int))) ∧ (w64 (((out_1.length : Nat) : Int) - (1 : Int))) < ((out_1.length : Nat) : Int)) ((some (Sum.inl ((out_1.set (0 + (Int.toNat (w64 (((out_1.length : Nat) : Int) - (1 : Int))))) (GSpan.mk (out_1.getD (0 + (Int.toNat (w64 (((out_1.length : Nat) : Int) - (1 : Int))))) zGSpan).From (if (out_1.getD (0 + (Int.toNat (w64 (((out_1.length : Nat) : Int) - (1 : Int))))) zGSpan).To < (t32_1.getD (0 + (Int.toNat t34)) zGSpan).To then (t32_1.getD (0 + (Int.toNat t34)) zGSpan).To else (out_1.getD (0 + (Int.toNat (w64 (((out_1.length : Nat) : Int) - (1 : Int))))) zGSpan).To))), t32_1, t33_1, (w64 (t34 + (1 : Int)))))))) else gd (capB (out_1.length + 1) 16) ((some (Sum.inl ((out_1 ++ ([(t32_1.getD (0 + (Int.toNat t34)) zGSpan)] : List GSpan)), t32_1, t33_1, (w64 (t34 + (1 : Int))))))))))) else (some (Sum.inr out_1)))
theorem z64p1ok (out_1 t32_1 : (List GSpan)) (t33_1 t34 : Int) (t32 : (List GSpan)) (t33 : Int) (K : KT) (h : W (spans_Make_p1 out_1 t32_1 t33_1 t34) (nE (z64l2S t32 t33) (z64l2E t32 t33) K)) : EvL Tryz.prog 73 (List.drop 0 z64i2) K (z64p1S out_1 t32_1 t33_1 t34) :=
  EvL.pE mixed (lookC_ok (l := []) trivial) [6, 32, 33, 34, 43, 44, 45, 46, 47, 48, 49, 50, 51] 0 4 (.nf (X := fun K => (bif (decide (t34 < t33_1)) then ((0 : Int) ≤ t34) ∧ (t34 < ((t32_1.length : Nat) : Int)) ∧ ((((decide ((0 : Int) < ((out_1.length : Nat) : Int))) && true) = true → (0 : Int) ≤ (w64 (((out_1.length : Nat) : Int) - (1 : Int)))) ∧ (((decide ((0 : Int) < ((out_1.length : Nat) : Int))) && true) = true → (w64 (((out_1.length : Nat) : Int) - (1 : Int))) < ((out_1.length : Nat) : Int)) ∧ ((bif (bif (decide ((0 : Int) < ((out_1.length : Nat) : Int))) then (decide ((t32_1.getD (0 + (Int.toNat t34)) zGSpan).From ≤ (out_1.getD (0 + (Int.toNat (w64 (((out_1.length : Nat) : Int) - (1 : Int))))) zGSpan).To)) else false) then ((0 : Int) ≤ (w64 (((out_1.length : Nat) : Int) - (1 : Int)))) ∧ ((w64 (((out_1.length : Nat) : Int) - (1 : Int))) < ((out_1.length : Nat) : Int)) ∧ ((0 : Int) ≤ (w64 (((out_1.length : Nat) : Int) - (1 : Int)))) ∧ ((w64 (((out_1.length : Nat) : Int) - (1 : Int))) < ((out_1.length : Nat) : Int)) ∧ (wK K .normal ({ tm := [sv 6 (.row 0 2 0 out_1.length), sv 32 (.row 1 2 0 t32_1.length), sv 33 (i64 t33_1), sv 34 (i64 (w64 (t34 + (1 : Int)))), sv 43 (.c .unk), sv 44 (.c .unk), sv 45 (.c .unk), sv 46 (.c .unk), sv 47 (.c .unk), sv 48 (.c .unk), sv 49 (.c .unk), sv 50 (.c .unk), sv 51 (.c .unk)], hp := [(0, some (.row 34 2 out_1.length (fun q => bif Nat.beq q (0 + (Int.toNat (w64 (((out_1.length : Nat) : Int) - (1 : Int))))) then (eGSpan (GSpan.s_To (out_1.getD (0 + (Int.toNat (w64 (((out_1.length : Nat) : Int) - (1 : Int))))) zGSpan) (if (out_1.getD (0 + (Int.toNat (w64 (((out_1.length : Nat) : Int) - (1 : Int))))) zGSpan).To < (t32_1.getD (0 + (Int.toNat t34)) zGSpan).To then (t32_1.getD (0 + (Int.toNat t34)) zGSpan).To else (out_1.getD (0 + (Int.toNat (w64 (((out_1.length : Nat) : Int) - (1 : Int))))) zGSpan).To))) else (lsEl eGSpan zGSpan out_1) q))), (1, some (.row 34 2 t32_1.length (lsEl eGSpan zGSpan t32_1)))], nx := 2 })) else (out_1.length = out_1.length) ∧ ((out_1.length + 1) * 16 ≤ 140737488355328) ∧ ((out_1.length + 1) ≤ 140737488355328) ∧ (wK K .normal ({ tm := [sv 6 (.row 0 2 0 (out_1.length + 1)), sv 32 (.row 1 2 0 t32_1.length), sv 33 (i64 t33_1), sv 34 (i64 (w64 (t34 + (1 : Int)))), sv 43 (.c .unk), sv 44 (.c .unk), sv 45 (.c .unk), sv 46 (.c .unk), sv 47 (.c .unk), sv 48 (.c .unk), sv 49 (.c .unk), sv 50 (.c .unk), sv 51 (.c .unk)], hp := [(0, some (.row 34 2 (out_1.length + 1) (fun i => bif Nat.blt i out_1.length then (lsEl eGSpan zGSpan out_1) i else (fun i => (litE 2 (eGSpan (t32_1.getD (0 + (Int.toNat t34)) zGSpan))) (0 + i)) (i - out_1.length)))), (1, some (.row 34 2 t32_1.length (lsEl eGSpan zGSpan t32_1)))], nx := 2 }))))) else wK K (.exit 2) ({ tm := [sv 6 (.row 0 2 0 out_1.length), sv 32 (.row 1 2 0 t32_1.length), sv 33 (i64 t33_1), sv 34 (i64 t34)], hp := [(0, some (.row 34 2 out_1.length (lsEl eGSpan zGSpan out_1))), (1, some (.row 34 2 t32_1.length (lsEl eGSpan zGSpan t32_1)))], nx := 2 }))) (fun K => by kernel_rfl) (W_bif h (fun _ h => (W_gd2 h fun hp0 h => (W_gd h fun hp1 h => (W_gd h fun hp2 h => (W_bif h (fun _ h => (W_gd2 h fun hp3 h => (W_gd2 h fun hp4 h => ⟨(z64l2S t32 t33 ((out_1.set (0 + (Int.toNat (w64 (((out_1.length : Nat) : Int) - (1 : Int))))) (GSpan.s_To (out_1.getD (0 + (Int.toNat (w64 (((out_1.length : Nat) : Int) - (1 : Int))))) zGSpan) (if (out_1.getD (0 + (Int.toNat (w64 (((out_1.length : Nat) : Int) - (1 : Int))))) zGSpan).To < (t32_1.getD (0 + (Int.toNat t34)) zGSpan).To then (t32_1.getD (0 + (Int.toNat t34)) zGSpan).To else (out_1.getD (0 + (Int.toNat (w64 (((out_1.length : Nat) : Int) - (1 : Int))))) zGSpan).To))), t32_1, t33_1, (w64 (t34 + (1 : Int))))), (.of (.cons rfl (.rown (len_set rfl)) (.q rfl (.q rfl (.q rfl .nil)))) (.row rfl (RowIs.set (RowIs.ls eGSpan zGSpan out_1) (0 + (Int.toNat (w64 (((out_1.length : Nat) : Int) - (1 : Int))))) (GSpan.s_To (out_1.getD (0 + (Int.toNat (w64 (((out_1.length : Nat) : Int) - (1 : Int))))) zGSpan) (if (out_1.getD (0 + (Int.toNat (w64 (((out_1.length : Nat) : Int) - (1 : Int))))) zGSpan).To < (t32_1.getD (0 + (Int.toNat t34)) zGSpan).To then (t32_1.getD (0 + (Int.toNat t34)) zGSpan).To else (out_1.getD (0 + (Int.toNat (w64 (((out_1.length : Nat) : Int) - (1 : Int))))) zGSpan).To)) rfl) (.same rfl .nil) rfl) rfl), h⟩))) (fun _ h => ⟨rfl, (W_gd2 h fun hp5 h => ⟨(z64l2S t32 t33 ((out_1 ++ ([(t32_1.getD (0 + (Int.toNat t34)) zGSpan)] : List GSpan)), t32_1, t33_1, (w64 (t34 + (1 : Int))))), (.of (.cons rfl (.rown (len_app rfl rfl)) (.q rfl (.q rfl (.q rfl .nil)))) (.row rfl (RowIs.app (RowIs.ls eGSpan zGSpan out_1) (RowIs.zero (RowIs.l1 (enc := eGSpan) (z := zGSpan) 2 (t32_1.getD (0 + (Int.toNat t34)) zGSpan) rfl))) (.same rfl .nil) rfl) rfl), h⟩)⟩)))))) (fun _ h => ⟨(z64l2C0 t32 t33 out_1), (.cn [6]), h⟩)))
noncomputable def spans_Make_l2 (t32 : (List GSpan)) (t33 : Int) (s : ((List GSpan) × (List GSpan) × Int × Int)) : Option (((List GSpan) × (List GSpan) × Int × Int) ⊕ (((List GSpan)))) := match s with | (out_1, t32_1, t33_1, t34) => spans_Make_p1 out_1 t32_1 t33_1 t34
theorem z64l2ok (t32 : (List GSpan)) (t33 : Int) (s : ((List GSpan) × (List GSpan) × Int × Int)) : Pp Tryz.prog 73 (List.drop 0 z64i2) (z64l2S t32 t33 s) (spans_Make_l2 t32 t33 s) (nextE (z64l2S t32 t33) (z64l2E t32 t33)) := fun K h => match s, h with | (out_1, t32_1, t33_1, t34), h => (z64p1ok out_1 t32_1 t33_1 t34 t32 t33 _ h)
theorem z64l2Ethen (t32 : (List GSpan)) (t33 : Int) : ∀ (r : (((List GSpan)))) (J : St → Prop) (K : KT), z64l2E t32 t33 r K → z64l2E t32 t33 r (thenK J K)
  | s, _, _, h => h
def z64p2S (out_3 : (List GSpan)) : St := { tm := [sv 6 (.row 0 2 0 out_3.length)], hp := [(0, some (.row 34 2 out_3.length (lsEl eGSpan zGSpan out_3)))], nx := 1 }
noncomputable def spans_Make_p2 (out_3 : (List GSpan)) : Option ((List GSpan)) := (some out_3)
theorem z64p2ok (out_3 : (List GSpan)) (K : KT) (h : W (spans_Make_p2 out_3) (rE z64R K)) : EvL Tryz.prog 73 (List.drop 8 z64i0) K (z64p2S out_3) :=
  EvL.pE mixed (lookC_ok (l := []) trivial) [2] 8 2 (.nf (X := fun K => wK K .ret (z64R out_3)) (fun K => by kernel_rfl) (⟨_, .refl _, h⟩))
def z64p3S (t32 : (List GSpan)) (t33 : Int) : St := { tm := [sv 6 (.c .nil), sv 32 (.row 0 2 0 t32.length), sv 33 (i64 t33), sv 34 (i64 (0 : Int))], hp := [(0, some (.row 34 2 t32.length (lsEl eGSpan zGSpan t32)))], nx := 1 }
noncomputable def spans_Make_p3_g (t32 : (List GSpan)) (t33 : Int) (r : (((List GSpan)))) : Option ((List GSpan)) := match r with | out_2 => (spans_Make_p2 out_2)
noncomputable def spans_Make_p3 (t32 : (List GSpan)) (t33 : Int) : Option ((List GSpan)) := (fixL (spans_Make_l2 t32 t33) (([] : List GSpan), t32, t33, (0 : Int))).bind (spans_Make_p3_g t32 t33)
theorem z64p3at : List.drop 7 z64i0 = .block 2 (.loop (inside (inside (nthI z64i0 7)))) :: List.drop 8 z64i0 := by kernel_rfl
theorem z64p3k (t32 : (List GSpan)) (t33 : Int) (K : KT) : ∀ r : (((List GSpan))), W (spans_Make_p3_g t32 t33 r) (rE z64R K) → z64l2E t32 t33 r (wK (blockK 2 (thenK (EvL Tryz.prog 73 (List.drop 8 z64i0) K) K)))
  | out_2, h => ⟨(z64p2S out_2), (.refl _), (z64p2ok out_2 _ h)⟩
theorem z64p3ok (t32 : (List GSpan)) (t33 : Int) (K : KT) (h : W (spans_Make_p3 t32 t33) (rE z64R K)) : EvL Tryz.prog 73 (List.drop 7 z64i0) K (z64p3S t32 t33) :=
  EvL.at_ z64p3at (EvL.cons_loop (EvOk.weak (EvOk.ent (.trans (.nilrow 6 1 34 2 (lsEl eGSpan zGSpan []) (Nat.le_of_ble_eq_true rfl) rfl) (.cn [6, 32, 33, 34])) (EvOk.loopF (x := inside (inside (nthI z64i0 7))) (f := spans_Make_l2 t32 t33) (emb := z64l2S t32 t33) (E := z64l2E t32 t33) (z64l2ok t32 t33) (z64l2Ethen t32 t33) (W_loop h (z64p3k t32 t33 K))))))
def z64p4S (sorted_2 : (List GSpan)) : St := { tm := [sv 3 (.ptr 0 1 0 0)], hp := [(0, some (.box [(.row 1 2 0 sorted_2.length)])), (1, some (.row 34 2 sorted_2.length (lsEl eGSpan zGSpan sorted_2)))], nx := 2 }
noncomputable def spans_Make_p4 (sorted_2 : (List GSpan)) : Option ((List GSpan)) := (sort_Slice sorted_2).bind fun r_2 => ((spans_Make_p3 r_2 ((r_2.length : Nat) : Int)))
theorem z64p4nf (sorted_2 : (List GSpan)) (K : KT) (L1_ : List GSpan) (hL1_ : lst dGSpan sorted_2.length (lsEl eGSpan zGSpan sorted_2) = L1_) :
    ev Tryz.prog (lookC [(88, .mut sort_Slice_C)]) 73 (ofItems ((List.drop 4 z64i0).take 3)) (cN [6, 32, 33, 34, 43, 44, 45, 46, 47, 48, 49, 50, 51] K) (z64p4S sorted_2) =
    ((sorted_2.length = sorted_2.length) ∧ (sorted_2.length = sorted_2.length) ∧ (LstOk eGSpan dGSpan 2 2 sorted_2.length (lsEl eGSpan zGSpan sorted_2)) ∧ ((sort_Slice L1_).isSome = true) ∧ (wK K .normal (z64p3S ((sort_Slice L1_).getD ([] : List GSpan)) (((((sort_Slice L1_).getD ([] : List GSpan))).length : Nat) : Int)))) := by subst hL1_; kernel_rfl
theorem z64p4ok (sorted_2 : (List GSpan)) (K : KT) (h : W (spans_Make_p4 sorted_2) (rE z64R K)) : EvL Tryz.prog 73 (List.drop 4 z64i0) K (z64p4S sorted_2) :=
  EvL.pD mixed (lookC_ok (l := [(88, .mut sort_Slice_C)]) ⟨sort_Slice_ok, trivial⟩) [6, 32, 33, 34, 43, 44, 45, 46, 47, 48, 49, 50, 51] 4 3 7 (.of (z64p4nf sorted_2 _ _ (RowIs.lst dGSpan_eGSpan (RowIs.ls eGSpan zGSpan sorted_2))) (⟨(rfl), ⟨(rfl), ⟨RowIs.ok dGSpan_eGSpan (RowIs.ls eGSpan zGSpan sorted_2), (W_bind ([] : List GSpan) h fun hp0 h => ⟨_, .refl _, (z64p3ok ((sort_Slice sorted_2).getD ([] : List GSpan)) (((((sort_Slice sorted_2).getD ([] : List GSpan))).length : Nat) : Int) _ h)⟩)⟩⟩⟩))
def z64p5S (l : (List GSpan)) : St := { tm := [sv 3 (.ptr 0 1 0 0), sv 10 (.c (.sl 2 l.length (lsEl eGSpan zGSpan l))), sv 11 (i64 ((l.length : Nat) : Int)), sv 12 (i64 (0 : Int))], hp := [(0, some (.box [(.c .nil)]))], nx := 1 }
noncomputable def spans_Make_p5_g (l : (List GSpan)) (r : (((List GSpan)))) : Option ((List GSpan)) := match r with | sorted_1 => (spans_Make_p4 sorted_1)
noncomputable def spans_Make_p5 (l : (List GSpan)) : Option ((List GSpan)) := (fixL (spans_Make_l1 l) ((0 : Int), ([] : List GSpan))).bind (spans_Make_p5_g l)
theorem z64p5at : List.drop 3 z64i0 = .block 0 (.loop (inside (inside (nthI z64i0 3)))) :: List.drop 4 z64i0 := by kernel_rfl
theorem z64p5k (l : (List GSpan)) (K : KT) : ∀ r : (((List GSpan))), W (spans_Make_p5_g l r) (rE z64R K) → z64l1E l r (wK (blockK 0 (thenK (EvL Tryz.prog 73 (List.drop 4 z64i0) K) K)))
  | sorted_1, h => ⟨(z64p4S sorted_1), (.refl _), (z64p4ok sorted_1 _ h)⟩
theorem z64p5ok (l : (List GSpan)) (K : KT) (h : W (spans_Make_p5 l) (rE z64R K)) : EvL Tryz.prog 73 (List.drop 3 z64i0) K (z64p5S l) :=
  EvL.at_ z64p5at (EvL.cons_loop (EvOk.weak (EvOk.ent (.trans (.nilbox 0 0 1 34 2 (lsEl eGSpan zGSpan []) [(.c .nil)] (Nat.le_of_ble_eq_true rfl) rfl rfl) (.cn [3, 10, 11, 12])) (EvOk.loopF (x := inside (inside (nthI z64i0 3))) (f := spans_Make_l1 l) (emb := z64l1S l) (E := z64l1E l) (z64l1ok l) (z64l1Ethen l) (W_loop h (z64p5k l K))))))
def z64p6S (l : (List GSpan)) : St := { tm := [sv 0 (.c (.sl 2 l.length (lsEl eGSpan zGSpan l)))], hp := [], nx := 0 }
noncomputable def spans_Make_p6 (l : (List GSpan)) : Option ((List GSpan)) := (spans_Make_p5 l)
theorem z64p6ok (l : (List GSpan)) (K : KT) (h : W (spans_Make_p6 l) (rE z64R K)) : EvL Tryz.prog 73 (List.drop 0 z64i0) K (z64p6S l) :=
  EvL.pD mixed (lookC_ok (l := []) trivial) [3, 10, 11, 12, 43, 44, 45, 46, 47, 48, 49, 50, 51] 0 3 3 (.nf (X := fun K => wK K .normal (z64p5S l)) (fun K => by kernel_rfl) (⟨_, .refl _, (z64p5ok l _ h)⟩))
noncomputable def spans_Make (l : (List GSpan)) : Option ((List GSpan)) := spans_Make_p6 l
theorem z64run (l : (List GSpan)) (y_ : (List GSpan)) (h : spans_Make l = some y_) : EvL Tryz.prog 73 (items (bodyOf Tryz.f64)) (retK Tryz.prog [.tmp 2] (OutOk (spans_Make_out y_))) (z64p6S l) :=
  z64p6ok l _ (W_iff.2 ⟨y_, h, z64Rok y_⟩)
noncomputable def spans_Make_C : Con
  | [(.c (.sl k1 n2 e3))] => some ([LstOk eGSpan dGSpan 2 k1 n2 e3, (spans_Make (lst dGSpan n2 e3)).isSome = true], (spans_Make_out ((spans_Make (lst dGSpan n2 e3)).getD ([] : List GSpan))))
  | _ => none
theorem spans_Make_ok : Meets Tryz.prog 64 spans_Make_C := by
  refine meets_fun (fn := Tryz.f64) (c := bodyOf Tryz.f64) (by kernel_rfl) (by kernel_rfl) (by kernel_rfl) (rs := [.tmp 2]) (by kernel_rfl) (nt := 73) (by kernel_rfl) fun vs p out h hp => ?_
  unfold spans_Make_C at h
  split at h
  · next k1 n2 e3 =>
    cases h
    obtain ⟨g0, hp⟩ := allq hp
    obtain ⟨g, hp⟩ := allq hp
    obtain ⟨x, hx⟩ := Option.isSome_iff_exists.1 g
    rw [hx]
    exact ⟨[(.c (.sl 2 ((lst dGSpan n2 e3)).length (lsEl eGSpan zGSpan (lst dGSpan n2 e3))))], (VLes.cons (VLe.slk g0.1 (RowIs.of_ok g0)) VLes.nil), rfl, z64run (lst dGSpan n2 e3) x hx⟩
  · cases h

noncomputable def z43i0 : List Code := items (bodyOf Tryz.f43)
noncomputable def z43i1 : List Code := items (inside (inside (nthI z43i0 4)))
def spans_Intersect_out (x_1 : (List GSpan)) : Out := .own true 34 2 (x_1).length (lsEl eGSpan zGSpan x_1)
def z43R (x_1 : (List GSpan)) : St := { tm := [sv 4 (.row 0 2 0 x_1.length)], hp := [(0, some (.row 34 2 x_1.length (lsEl eGSpan zGSpan x_1)))], nx := 1 }
theorem z43Rok (x_1 : (List GSpan)) : retK Tryz.prog [.tmp 4] (OutOk (spans_Intersect_out x_1)) .ret (z43R x_1) :=
  retK.intro (v := (.row 0 2 0 x_1.length)) (by kernel_rfl) (⟨_, _, _, rfl, rfl, rfl, fun _ _ => rfl, fun _ i hi d hd => scal_GSpan _ d hd⟩)
def z43l1S (a_1 b_1 : (List GSpan)) (s : ((List GSpan) × Int × Int)) : St := match s with | (out_1, i_1, j) => { tm := [sv 0 (.row 0 2 0 a_1.length), sv 1 (.row 1 2 0 b_1.length), sv 5 (.row 2 2 0 out_1.length), sv 6 (i64 i_1), sv 7 (i64 j)], hp := [(0, some (.row 34 2 a_1.length (lsEl eGSpan zGSpan a_1))), (1, some (.row 34 2 b_1.length (lsEl eGSpan zGSpan b_1))), (2, some (.row 34 2 out_1.length (lsEl eGSpan zGSpan out_1)))], nx := 3 }
def z43l1C0 (a_1 b_1 : (List GSpan)) (s : (List GSpan)) : St := match s with | out_2 => { tm := [sv 5 (.row 0 2 0 out_2.length)], hp := [(0, some (.row 34 2 out_2.length (lsEl eGSpan zGSpan out_2)))], nx := 1 }
def z43l1E (a_1 b_1 : (List GSpan)) (r : (((List GSpan)))) (K : KT) : Prop := match r with | s => K (.exit 0) (z43l1C0 a_1 b_1 s)
def z43p0S (a_1 b_1 out_1 : (List GSpan)) (i_1 j : Int) : St := { tm := [sv 0 (.row 0 2 0 a_1.length), sv 1 (.row 1 2 0 b_1.length), sv 5 (.row 2 2 0 out_1.length), sv 6 (i64 i_1), sv 7 (i64 j)], hp := [(0, some (.row 34 2 a_1.length (lsEl eGSpan zGSpan a_1))), (1, some (.row 34 2 b_1.length (lsEl eGSpan zGSpan b_1))), (2, some (.row 34 2 out_1.length (lsEl eGSpan zGSpan out_1)))], nx := 3 }
noncomputable def spans_Intersect_p0 (a_1 b_1 out_1 : (List GSpan)) (i_1 j : Int) : Option (((List GSpan) × Int × Int) ⊕ (((List GSpan)))) := (bif (bif (decide (i_1 < ((a_1.length : Nat) : Int))) then (decide (j < ((b_1.length : Nat) : Int))) else false) then gd ((0 : Int) ≤ i_1 ∧ i_1 < ((a_1.length : Nat) : Int)) (gd ((0 : Int) ≤ j ∧ j < ((b_1.length : Nat) : Int)) (gd ((0 : Int) ≤ i_1 ∧ i_1 < ((a_1.length : Nat) : Int)) (gd ((0 : Int) ≤ j ∧ j < ((b_1.length : Nat) : Int)) ((bif (decide ((if (a_1.getD (0 + (Int.toNat i_1)) zGSpan).From < (b_1.getD (0 + (Int.toNat j)) zGSpan).From then (b_1.getD (0 + (Int.toNat j)) zGSpan).From else (a_1.getD (0 + (Int.toNat i_1)) zGSpan).From) < (if (b_1.getD (0 + (Int.toNat j)) zGSpan).To < (a_1.getD (0 + (Int.toNat i_1)) zGSpan).To then (b_1.getD (0 + (Int.toNat j)) zGSpan).To else (a_1.getD (0 + (Int.toNat i_1)) zGSpan).To))) then gd (capB (out_1.length + 1) 16) (gd ((0 : Int) ≤ i_1 ∧ i_1 < ((a_1.length : Nat) : Int)) (gd ((0 : Int) ≤ j ∧ j < ((b_1.length : Nat) : Int)) ((bif (decide ((a_1.getD (0 + (Int.toNat i_1)) zGSpan).To < (b_1.getD (0 + (Int.toNat j)) zGSpan).To)) then (some (Sum.inl ((out_1 ++ ([(GSpan.mk (if (a_1.getD (0 + (Int.toNat i_1)) zGSpan).From < (b_1.getD (0 + (Int.toNat j)) zGSpan).From then (b_1.getD (0 + (Int.toNat j)) zGSpan).From else (a_1.getD (0 + (Int.toNat i_1)) zGSpan).From) (if (b_1.getD (0 + (Int.toNat j)) zGSpan).To < (a_1.getD (0 + (Int.toNat i_1)) zGSpan).To then (b_1.getD (0 + (Int.toNat j)) zGSpan).To else (a_1.getD (0 + (Int.toNat i_1)) zGSpan).To))] : List GSpan)), (w64 (i_1 + (1 : Int))), j))) else (some (Sum.inl ((out_1 ++ ([(GSpan.mk (if (a_1.getD (0 + (Int.toNat i_1)) zGSpan).From < (b_1.getD (0 + (Int.toNat j)) zGSpan).From then (b_1.getD (0 + (Int.toNat j)) zGSpan).From else (a_1.getD (0 + (Int.toNat i_1)) zGSpan).From) (if (b_1.getD (0 + (Int.toNat j)) zGSpan).To < (a_1.getD (0 + (Int.toNat i_1)) zGSpan).To then (b_1.getD (0 + (Int.toNat j)) zGSpan).To else (a_1.getD (0 + (Int.toNat i_1)) zGSpan).To))] : List GSpan)), i_1, (w64 (j + (1 : Int)))))))))) else gd ((0 : Int) ≤ i_1 ∧ i_1 < ((a_1.length : Nat) : Int)) (gd ((0 : Int) ≤ j ∧ j < ((b_1.length : Nat) : Int)) ((bif (decide ((a_1.getD (0 + (Int.toNat i_1)) zGSpan).To < (b_1.getD (0 + (Int.toNat j)) zGSpan).To)) then (some (Sum.inl (out_1, (w64 (i_1 + (1 : Int))), j))) else (some (Sum.inl (out_1, i_1, (w64 (j + (1 : Int)))))))))))))) else (some (Sum.inr out_1)))
theorem z43p0ok (a_1 b_1 out_1 : (List GSpan)) (i_1 j : Int) (K : KT) (h : W (spans_Intersect_p0 a_1 b_1 out_1 i_1 j) (nE (z43l1S a_1 b_1) (z43l1E a_1 b_1) K)) : EvL Tryz.prog 71 (List.drop 0 z43i1) K (z43p0S a_1 b_1 out_1 i_1 j) :=
  EvL.pE mixed (lookC_ok (l := []) trivial) [0, 1, 5, 6, 7, 18, 19, 20, 21] 0 3 (.nf (X := fun K => (bif (bif (decide (i_1 < ((a_1.length : Nat) : Int))) then (decide (j < ((b_1.length : Nat) : Int))) else false) then ((0 : Int) ≤ i_1) ∧ (i_1 < ((a_1.length : Nat) : Int)) ∧ ((0 : Int) ≤ j) ∧ (j < ((b_1.length : Nat) : Int)) ∧ ((0 : Int) ≤ i_1) ∧ (i_1 < ((a_1.length : Nat) : Int)) ∧ ((0 : Int) ≤ j) ∧ (j < ((b_1.length : Nat) : Int)) ∧ ((bif (decide ((if (a_1.getD (0 + (Int.toNat i_1)) zGSpan).From < (b_1.getD (0 + (Int.toNat j)) zGSpan).From then (b_1.getD (0 + (Int.toNat j)) zGSpan).From else (a_1.getD (0 + (Int.toNat i_1)) zGSpan).From) < (if (b_1.getD (0 + (Int.toNat j)) zGSpan).To < (a_1.getD (0 + (Int.toNat i_1)) zGSpan).To then (b_1.getD (0 + (Int.toNat j)) zGSpan).To else (a_1.getD (0 + (Int.toNat i_1)) zGSpan).To))) then (out_1.length = out_1.length) ∧ ((out_1.length + 1) * 16 ≤ 140737488355328) ∧ ((out_1.length + 1) ≤ 140737488355328) ∧ (((0 : Int) ≤ i_1) ∧ (i_1 < ((a_1.length : Nat) : Int)) ∧ ((0 : Int) ≤ j) ∧ (j < ((b_1.length : Nat) : Int)) ∧ ((bif (decide ((a_1.getD (0 + (Int.toNat i_1)) zGSpan).To < (b_1.getD (0 + (Int.toNat j)) zGSpan).To)) then wK K .normal ({ tm := [sv 0 (.row 0 2 0 a_1.length), sv 1 (.row 1 2 0 b_1.length), sv 5 (.row 2 2 0 (out_1.length + 1)), sv 6 (i64 (w64 (i_1 + (1 : Int)))), sv 7 (i64 j), sv 18 (.c .unk), sv 19 (.c .unk), sv 20 (.c .unk), sv 21 (.c .unk)], hp := [(0, some (.row 34 2 a_1.length (lsEl eGSpan zGSpan a_1))), (1, some (.row 34 2 b_1.length (lsEl eGSpan zGSpan b_1))), (2, some (.row 34 2 (out_1.length + 1) (fun i => bif Nat.blt i out_1.length then (lsEl eGSpan zGSpan out_1) i else (fun i => (litE 2 (eGSpan (GSpan.mk (if (a_1.getD (0 + (Int.toNat i_1)) zGSpan).From < (b_1.getD (0 + (Int.toNat j)) zGSpan).From then (b_1.getD (0 + (Int.toNat j)) zGSpan).From else (a_1.getD (0 + (Int.toNat i_1)) zGSpan).From) (if (b_1.getD (0 + (Int.toNat j)) zGSpan).To < (a_1.getD (0 + (Int.toNat i_1)) zGSpan).To then (b_1.getD (0 + (Int.toNat j)) zGSpan).To else (a_1.getD (0 + (Int.toNat i_1)) zGSpan).To)))) (0 + i)) (i - out_1.length))))], nx := 3 }) else wK K .normal ({ tm := [sv 0 (.row 0 2 0 a_1.length), sv 1 (.row 1 2 0 b_1.length), sv 5 (.row 2 2 0 (out_1.length + 1)), sv 6 (i64 i_1), sv 7 (i64 (w64 (j + (1 : Int)))), sv 18 (.c .unk), sv 19 (.c .unk), sv 20 (.c .unk), sv 21 (.c .unk)], hp := [(0, some (.row 34 2 a_1.length (lsEl eGSpan zGSpan a_1))), (1, some (.row 34 2 b_1.length (lsEl eGSpan zGSpan b_1))), (2, some (.row 34 2 (out_1.length + 1) (fun i => bif Nat.blt i out_1.length then (lsEl eGSpan zGSpan out_1) i else (fun i => (litE 2 (eGSpan (GSpan.mk (if (a_1.getD (0 + (Int.toNat i_1)) zGSpan).From < (b_1.getD (0 + (Int.toNat j)) zGSpan).From then (b_1.getD (0 + (Int.toNat j)) zGSpan).From else (a_1.getD (0 + (Int.toNat i_1)) zGSpan).From) (if (b_1.getD (0 + (Int.toNat j)) zGSpan).To < (a_1.getD (0 + (Int.toNat i_1)) zGSpan).To then (b_1.getD (0 + (Int.toNat j)) zGSpan).To else (a_1.getD (0 + (Int.toNat i_1)) zGSpan).To)))) (0 + i)) (i - out_1.length))))], nx := 3 })))) else ((0 : Int) ≤ i_1) ∧ (i_1 < ((a_1.length : Nat) : Int)) ∧ ((0 : Int) ≤ j) ∧ (j < ((b_1.length : Nat) : Int)) ∧ ((bif (decide ((a_1.getD (0 + (Int.toNat i_1)) zGSpan).To < (b_1.getD (0 + (Int.toNat j)) zGSpan).To)) then wK K .normal ({ tm := [sv 0 (.row 0 2 0 a_1.length), sv 1 (.row 1 2 0 b_1.length), sv 5 (.row 2 2 0 out_1.length), sv 6 (i64 (w64 (i_1 + (1 : Int)))), sv 7 (i64 j), sv 18 (.c .unk), sv 19 (.c .unk), sv 20 (.c .unk), sv 21 (.c .unk)], hp := [(0, some (.row 34 2 a_1.length (lsEl eGSpan zGSpan a_1))), (1, some (.row 34 2 b_1.length (lsEl eGSpan zGSpan b_1))), (2, some (.row 34 2 out_1.length (lsEl eGSpan zGSpan out_1)))], nx := 3 }) else wK K .normal ({ tm := [sv 0 (.row 0 2 0 a_1.length), sv 1 (.row 1 2 0 b_1.length), sv 5 (.row 2 2 0 out_1.length), sv 6 (i64 i_1), sv 7 (i64 (w64 (j + (1 : Int)))), sv 18 (.c .unk), sv 19 (.c .unk), sv 20 (.c .unk), sv 21 (.c .unk)], hp := [(0, some (.row 34 2 a_1.length (lsEl eGSpan zGSpan a_1))), (1, some (.row 34 2 b_1.length (lsEl eGSpan zGSpan b_1))), (2, some (.row 34 2 out_1.length (lsEl eGSpan zGSpan out_1)))], nx := 3 }))))) else wK K (.exit 0) ({ tm := [sv 0 (.row 0 2 0 a_1.length), sv 1 (.row 1 2 0 b_1.length), sv 5 (.row 2 2 0 out_1.length), sv 6 (i64 i_1), sv 7 (i64 j), sv 18 (.c .unk), sv 19 (.c .unk), sv 20 (.c .unk), sv 21 (.c .unk)], hp := [(0, some (.row 34 2 a_1.length (lsEl eGSpan zGSpan a_1))), (1, some (.row 34 2 b_1.length (lsEl eGSpan zGSpan b_1))), (2, some (.row 34 2 out_1.length (lsEl eGSpan zGSpan out_1)))], nx := 3 }))) (fun K => by kernel_rfl) (W_bif h (fun _ h => (W_gd2 h fun hp0 h => (W_gd2 h fun hp1 h => (W_gd2 h fun hp2 h => (W_gd2 h fun hp3 h => (W_bif h (fun _ h => ⟨rfl, (W_gd2 h fun hp4 h => (W_gd2 h fun hp5 h => (W_gd2 h fun hp6 h => (W_bif h (fun _ h => ⟨(z43l1S a_1 b_1 ((out_1 ++ ([(GSpan.mk (if (a_1.getD (0 + (Int.toNat i_1)) zGSpan).From < (b_1.getD (0 + (Int.toNat j)) zGSpan).From then (b_1.getD (0 + (Int.toNat j)) zGSpan).From else (a_1.getD (0 + (Int.toNat i_1)) zGSpan).From) (if (b_1.getD (0 + (Int.toNat j)) zGSpan).To < (a_1.getD (0 + (Int.toNat i_1)) zGSpan).To then (b_1.getD (0 + (Int.toNat j)) zGSpan).To else (a_1.getD (0 + (Int.toNat i_1)) zGSpan).To))] : List GSpan)), (w64 (i_1 + (1 : Int))), j)), (.of (.q rfl (.q rfl (.cons rfl (.rown (len_app rfl rfl)) (.q rfl (.q rfl .nil))))) (.same rfl (.same rfl (.row rfl (RowIs.app (RowIs.ls eGSpan zGSpan out_1) (RowIs.zero (RowIs.l1 (enc := eGSpan) (z := zGSpan) 2 (GSpan.mk (if (a_1.getD (0 + (Int.toNat i_1)) zGSpan).From < (b_1.getD (0 + (Int.toNat j)) zGSpan).From then (b_1.getD (0 + (Int.toNat j)) zGSpan).From else (a_1.getD (0 + (Int.toNat i_1)) zGSpan).From) (if (b_1.getD (0 + (Int.toNat j)) zGSpan).To < (a_1.getD (0 + (Int.toNat i_1)) zGSpan).To then (b_1.getD (0 + (Int.toNat j)) zGSpan).To else (a_1.getD (0 + (Int.toNat i_1)) zGSpan).To)) rfl))) .nil rfl))) rfl), h⟩) (fun _ h => ⟨(z43l1S a_1 b_1 ((out_1 ++ ([(GSpan.mk (if (a_1.getD (0 + (Int.toNat i_1)) zGSpan).From < (b_1.getD (0 + (Int.toNat j)) zGSpan).From then (b_1.getD (0 + (Int.toNat j)) zGSpan).From else (a_1.getD (0 + (Int.toNat i_1)) zGSpan).From) (if (b_1.getD (0 + (Int.toNat j)) zGSpan).To < (a_1.getD (0 + (Int.toNat i_1)) zGSpan).To then (b_1.getD (0 + (Int.toNat j)) zGSpan).To else (a_1.getD (0 + (Int.toNat i_1)) zGSpan).To))] : List GSpan)), i_1, (w64 (j + (1 : Int))))), (.of (.q rfl (.q rfl (.cons rfl (.rown (len_app rfl rfl)) (.q rfl (.q rfl .nil))))) (.same rfl (.same rfl (.row rfl (RowIs.app (RowIs.ls eGSpan zGSpan out_1) (RowIs.zero (RowIs.l1 (enc := eGSpan) (z := zGSpan) 2 (GSpan.mk (if (a_1.getD (0 + (Int.toNat i_1)) zGSpan).From < (b_1.getD (0 + (Int.toNat j)) zGSpan).From then (b_1.getD (0 + (Int.toNat j)) zGSpan).From else (a_1.getD (0 + (Int.toNat i_1)) zGSpan).From) (if (b_1.getD (0 + (Int.toNat j)) zGSpan).To < (a_1.getD (0 + (Int.toNat i_1)) zGSpan).To then (b_1.getD (0 + (Int.toNat j)) zGSpan).To else (a_1.getD (0 + (Int.toNat i_1)) zGSpan).To)) rfl))) .nil rfl))) rfl), h⟩)))))⟩) (fun _ h => (W_gd2 h fun hp7 h => (W_gd2 h fun hp8 h => (W_bif h (fun _ h => ⟨(z43l1S a_1 b_1 (out_1, (w64 (i_1 + (1 : Int))), j)), (.of (.q rfl (.q rfl (.q rfl (.q rfl (.q rfl .nil))))) (.same rfl (.same rfl (.same rfl .nil))) rfl), h⟩) (fun _ h => ⟨(z43l1S a_1 b_1 (out_1, i_1, (w64 (j + (1 : Int))))), (.of (.q rfl (.q rfl (.q rfl (.q rfl (.q rfl .nil))))) (.same rfl (.same rfl (.same rfl .nil))) rfl), h⟩))))))))))) (fun _ h => ⟨(z43l1C0 a_1 b_1 out_1), (.cn [5]), h⟩)))
noncomputable def spans_Intersect_l1 (a_1 b_1 : (List GSpan)) (s : ((List GSpan) × Int × Int)) : Option (((List GSpan) × Int × Int) ⊕ (((List GSpan)))) := match s with | (out_1, i_1, j) => spans_Intersect_p0 a_1 b_1 out_1 i_1 j
theorem z43l1ok (a_1 b_1 : (List GSpan)) (s : ((List GSpan) × Int × Int)) : Pp Tryz.prog 71 (List.drop 0 z43i1) (z43l1S a_1 b_1 s) (spans_Intersect_l1 a_1 b_1 s) (nextE (z43l1S a_1 b_1) (z43l1E a_1 b_1)) := fun K h => match s, h with | (out_1, i_1, j), h => (z43p0ok a_1 b_1 out_1 i_1 j _ h)
theorem z43l1Ethen (a_1 b_1 : (List GSpan)) : ∀ (r : (((List GSpan)))) (J : St → Prop) (K : KT), z43l1E a_1 b_1 r K → z43l1E a_1 b_1 r (thenK J K)
  | s, _, _, h => h
def z43p1S (out_3 : (List GSpan)) : St := { tm := [sv 5 (.row 0 2 0 out_3.length)], hp := [(0, some (.row 34 2 out_3.length (lsEl eGSpan zGSpan out_3)))], nx := 1 }
noncomputable def spans_Intersect_p1 (out_3 : (List GSpan)) : Option ((List GSpan)) := (some out_3)
theorem z43p1ok (out_3 : (List GSpan)) (K : KT) (h : W (spans_Intersect_p1 out_3) (rE z43R K)) : EvL Tryz.prog 71 (List.drop 5 z43i0) K (z43p1S out_3) :=
  EvL.pE mixed (lookC_ok (l := []) trivial) [4] 5 2 (.nf (X := fun K => wK K .ret (z43R out_3)) (fun K => by kernel_rfl) (⟨_, .refl _, h⟩))
def z43p2S (a_1 b_1 : (List GSpan)) : St := { tm := [sv 0 (.row 0 2 0 a_1.length), sv 1 (.row 1 2 0 b_1.length), sv 5 (.c .nil), sv 6 (i64 (0 : Int)), sv 7 (i64 (0 : Int))], hp := [(0, some (.row 34 2 a_1.length (lsEl eGSpan zGSpan a_1))), (1, some (.row 34 2 b_1.length (lsEl eGSpan zGSpan b_1)))], nx := 2 }
noncomputable def spans_Intersect_p2_g (a_1 b_1 : (List GSpan)) (r : (((List GSpan)))) : Option ((List GSpan)) := match r with | out_2 => (spans_Intersect_p1 out_2)
noncomputable def spans_Intersect_p2 (a_1 b_1 : (List GSpan)) : Option ((List GSpan)) := (fixL (spans_Intersect_l1 a_1 b_1) (([] : List GSpan), (0 : Int), (0 : Int))).bind (spans_Intersect_p2_g a_1 b_1)
theorem z43p2at : List.drop 4 z43i0 = .block 0 (.loop (inside (inside (nthI z43i0 4)))) :: List.drop 5 z43i0 := by kernel_rfl
theorem z43p2k (a_1 b_1 : (List GSpan)) (K : KT) : ∀ r : (((List GSpan))), W (spans_Intersect_p2_g a_1 b_1 r) (rE z43R K) → z43l1E a_1 b_1 r (wK (blockK 0 (thenK (EvL Tryz.prog 71 (List.drop 5 z43i0) K) K)))
  | out_2, h => ⟨(z43p1S out_2), (.refl _), (z43p1ok out_2 _ h)⟩
theorem z43p2ok (a_1 b_1 : (List GSpan)) (K : KT) (h : W (spans_Intersect_p2 a_1 b_1) (rE z43R K)) : EvL Tryz.prog 71 (List.drop 4 z43i0) K (z43p2S a_1 b_1) :=
  EvL.at_ z43p2at (EvL.cons_loop (EvOk.weak (EvOk.ent (.trans (.nilrow 5 2 34 2 (lsEl eGSpan zGSpan []) (Nat.le_of_ble_eq_true rfl) rfl) (.cn [0, 1, 5, 6, 7])) (EvOk.loopF (x := inside (inside (nthI z43i0 4))) (f := spans_Intersect_l1 a_1 b_1) (emb := z43l1S a_1 b_1) (E := z43l1E a_1 b_1) (z43l1ok a_1 b_1) (z43l1Ethen a_1 b_1) (W_loop h (z43p2k a_1 b_1 K))))))
def z43p3S (a b : (List GSpan)) : St := { tm := [sv 0 (.c (.sl 2 a.length (lsEl eGSpan zGSpan a))), sv 1 (.c (.sl 2 b.length (lsEl eGSpan zGSpan b)))], hp := [], nx := 0 }
noncomputable def spans_Intersect_p3 (a b : (List GSpan)) : Option ((List GSpan)) := (spans_Make a).bind fun r_1 => ((spans_Make b).bind fun r_2 => ((spans_Intersect_p2 r_1 r_2)))
theorem z43p3nf (a b : (List GSpan)) (K : KT) (L1_ : List GSpan) (hL1_ : lst dGSpan a.length (lsEl eGSpan zGSpan a) = L1_) (L2_ : List GSpan) (hL2_ : lst dGSpan b.length (lsEl eGSpan zGSpan b) = L2_) :
    ev Tryz.prog (lookC [(64, .pure spans_Make_C)]) 71 (ofItems ((List.drop 0 z43i0).take 4)) (cN [0, 1, 5, 6, 7, 18, 19, 20, 21] K) (z43p3S a b) =
    ((LstOk eGSpan dGSpan 2 2 a.length (lsEl eGSpan zGSpan a)) ∧ ((spans_Make L1_).isSome = true) ∧ (LstOk eGSpan dGSpan 2 2 b.length (lsEl eGSpan zGSpan b)) ∧ ((spans_Make L2_).isSome = true) ∧ (wK K .normal (z43p2S ((spans_Make L1_).getD ([] : List GSpan)) ((spans_Make L2_).getD ([] : List GSpan))))) := by subst hL1_ hL2_; kernel_rfl
theorem z43p3ok (a b : (List GSpan)) (K : KT) (h : W (spans_Intersect_p3 a b) (rE z43R K)) : EvL Tryz.prog 71 (List.drop 0 z43i0) K (z43p3S a b) :=
  EvL.pD mixed (lookC_ok (l := [(64, .pure spans_Make_C)]) ⟨spans_Make_ok, trivial⟩) [0, 1, 5, 6, 7, 18, 19, 20, 21] 0 4 4 (.of (z43p3nf a b _ _ (RowIs.lst dGSpan_eGSpan (RowIs.ls eGSpan zGSpan a)) _ (RowIs.lst dGSpan_eGSpan (RowIs.ls eGSpan zGSpan b))) (⟨RowIs.ok dGSpan_eGSpan (RowIs.ls eGSpan zGSpan a), (W_bind ([] : List GSpan) h fun hp0 h => ⟨RowIs.ok dGSpan_eGSpan (RowIs.ls eGSpan zGSpan b), (W_bind ([] : List GSpan) h fun hp1 h => ⟨_, .refl _, (z43p2ok ((spans_Make a).getD ([] : List GSpan)) ((spans_Make b).getD ([] : List GSpan)) _ h)⟩)⟩)⟩))
noncomputable def spans_Intersect (a b : (List GSpan)) : Option ((List GSpan)) := spans_Intersect_p3 a b
theorem z43run (a b : (List GSpan)) (y_ : (List GSpan)) (h : spans_Intersect a b = some y_) : EvL Tryz.prog 71 (items (bodyOf Tryz.f43)) (retK Tryz.prog [.tmp 4] (OutOk (spans_Intersect_out y_))) (z43p3S a b) :=
  z43p3ok a b _ (W_iff.2 ⟨y_, h, z43Rok y_⟩)
noncomputable def spans_Intersect_C : Con
  | [(.c (.sl k1 n2 e3)), (.c (.sl k4 n5 e6))] => some ([LstOk eGSpan dGSpan 2 k1 n2 e3, LstOk eGSpan dGSpan 2 k4 n5 e6, (spans_Intersect (lst dGSpan n2 e3) (lst dGSpan n5 e6)).isSome = true], (spans_Intersect_out ((spans_Intersect (lst dGSpan n2 e3) (lst dGSpan n5 e6)).getD ([] : List GSpan))))
  | _ => none
theorem spans_Intersect_ok : Meets Tryz.prog 43 spans_Intersect_C := by
  refine meets_fun (fn := Tryz.f43) (c := bodyOf Tryz.f43) (by kernel_rfl) (by kernel_rfl) (by kernel_rfl) (rs := [.tmp 4]) (by kernel_rfl) (nt := 71) (by kernel_rfl) fun vs p out h hp => ?_
  unfold spans_Intersect_C at h
  split at h
  · next k1 n2 e3 k4 n5 e6 =>
    cases h
    obtain ⟨g0, hp⟩ := allq hp
    obtain ⟨g1, hp⟩ := allq hp
    obtain ⟨g, hp⟩ := allq hp
    obtain ⟨x, hx⟩ := Option.isSome_iff_exists.1 g
    rw [hx]
    exact ⟨[(.c (.sl 2 ((lst dGSpan n2 e3)).length (lsEl eGSpan zGSpan (lst dGSpan n2 e3)))), (.c (.sl 2 ((lst dGSpan n5 e6)).length (lsEl eGSpan zGSpan (lst dGSpan n5 e6))))], (VLes.cons (VLe.slk g0.1 (RowIs.of_ok g0)) (VLes.cons (VLe.slk g1.1 (RowIs.of_ok g1)) VLes.nil)), rfl, z43run (lst dGSpan n2 e3) (lst dGSpan n5 e6) x hx⟩
  · cases h

noncomputable def z23i0 : List Code := items (bodyOf Tryz.f23)
def spans_Clip_out (x_1 : (List GSpan)) : Out := .own true 34 2 (x_1).length (lsEl eGSpan zGSpan x_1)
def z23R (x_1 : (List GSpan)) : St := { tm := [sv 4 (.row 0 2 0 x_1.length)], hp := [(0, some (.row 34 2 x_1.length (lsEl eGSpan zGSpan x_1)))], nx := 1 }
theorem z23Rok (x_1 : (List GSpan)) : retK Tryz.prog [.tmp 4] (OutOk (spans_Clip_out x_1)) .ret (z23R x_1) :=
  retK.intro (v := (.row 0 2 0 x_1.length)) (by kernel_rfl) (⟨_, _, _, rfl, rfl, rfl, fun _ _ => rfl, fun _ i hi d hd => scal_GSpan _ d hd⟩)
def z23p0S (l : (List GSpan)) (s_1 : GSpan) : St := { tm := [sv 0 (.c (.sl 2 l.length (lsEl eGSpan zGSpan l))), sv 1 (.ag (eGSpan s_1))], hp := [], nx := 0 }
noncomputable def spans_Clip_p0 (l : (List GSpan)) (s_1 : GSpan) : Option ((List GSpan)) := (spans_Intersect l ([s_1] : List GSpan)).bind fun r_1 => ((some r_1))
theorem z23p0nf (l : (List GSpan)) (s_1 : GSpan) (K : KT) (L1_ : List GSpan) (hL1_ : lst dGSpan l.length (lsEl eGSpan zGSpan l) = L1_) (L2_ : List GSpan) (hL2_ : lst dGSpan 1 (fun i => (litE 2 (eGSpan s_1)) (0 + i)) = L2_) :
    ev Tryz.prog (lookC [(43, .pure spans_Intersect_C)]) 9 (ofItems ((List.drop 0 z23i0).take 3)) (cN [4] K) (z23p0S l s_1) =
    ((LstOk eGSpan dGSpan 2 2 l.length (lsEl eGSpan zGSpan l)) ∧ (LstOk eGSpan dGSpan 2 2 1 (fun i => (litE 2 (eGSpan s_1)) (0 + i))) ∧ ((spans_Intersect L1_ L2_).isSome = true) ∧ (wK K .ret (z23R ((spans_Intersect L1_ L2_).getD ([] : List GSpan))))) := by subst hL1_ hL2_; kernel_rfl
theorem z23p0ok (l : (List GSpan)) (s_1 : GSpan) (K : KT) (h : W (spans_Clip_p0 l s_1) (rE z23R K)) : EvL Tryz.prog 9 (List.drop 0 z23i0) K (z23p0S l s_1) :=
  EvL.pE mixed (lookC_ok (l := [(43, .pure spans_Intersect_C)]) ⟨spans_Intersect_ok, trivial⟩) [4] 0 3 (.of (z23p0nf l s_1 _ _ (RowIs.lst dGSpan_eGSpan (RowIs.ls eGSpan zGSpan l)) _ (RowIs.lst dGSpan_eGSpan (RowIs.zero (RowIs.l1 (enc := eGSpan) (z := zGSpan) 2 s_1 rfl)))) (⟨RowIs.ok dGSpan_eGSpan (RowIs.ls eGSpan zGSpan l), ⟨RowIs.ok dGSpan_eGSpan (RowIs.zero (RowIs.l1 (enc := eGSpan) (z := zGSpan) 2 s_1 rfl)), (W_bind ([] : List GSpan) h fun hp0 h => ⟨_, .refl _, h⟩)⟩⟩))
noncomputable def spans_Clip (l : (List GSpan)) (s_1 : GSpan) : Option ((List GSpan)) := spans_Clip_p0 l s_1
theorem z23run (l : (List GSpan)) (s_1 : GSpan) (y_ : (List GSpan)) (h : spans_Clip l s_1 = some y_) : EvL Tryz.prog 9 (items (bodyOf Tryz.f23)) (retK Tryz.prog [.tmp 4] (OutOk (spans_Clip_out y_))) (z23p0S l s_1) :=
  z23p0ok l s_1 _ (W_iff.2 ⟨y_, h, z23Rok y_⟩)
noncomputable def spans_Clip_C : Con
  | [(.c (.sl k1 n2 e3)), (.agg [(.c (.lit (.int .i64 a4))), (.c (.lit (.int .i64 a5)))])] => some ([LstOk eGSpan dGSpan 2 k1 n2 e3, (spans_Clip (lst dGSpan n2 e3) (GSpan.mk a4 a5)).isSome = true], (spans_Clip_out ((spans_Clip (lst dGSpan n2 e3) (GSpan.mk a4 a5)).getD ([] : List GSpan))))
  | _ => none
theorem spans_Clip_ok : Meets Tryz.prog 23 spans_Clip_C := by
  refine meets_fun (fn := Tryz.f23) (c := bodyOf Tryz.f23) (by kernel_rfl) (by kernel_rfl) (by kernel_rfl) (rs := [.tmp 4]) (by kernel_rfl) (nt := 9) (by kernel_rfl) fun vs p out h hp => ?_
  unfold spans_Clip_C at h
  split at h
  · next k1 n2 e3 a4 a5 =>
    cases h
    obtain ⟨g0, hp⟩ := allq hp
    obtain ⟨g, hp⟩ := allq hp
    obtain ⟨x, hx⟩ := Option.isSome_iff_exists.1 g
    rw [hx]
    exact ⟨[(.c (.sl 2 ((lst dGSpan n2 e3)).length (lsEl eGSpan zGSpan (lst dGSpan n2 e3)))), (.agg [(i64 (GSpan.mk a4 a5).From), (i64 (GSpan.mk a4 a5).To)])], (VLes.cons (VLe.slk g0.1 (RowIs.of_ok g0)) (VLes.cons (VLe.rfl' _) VLes.nil)), rfl, z23run (lst dGSpan n2 e3) (GSpan.mk a4 a5) x hx⟩
  · cases h

noncomputable def z7i0 : List Code := items (bodyOf Tryz.f7)
noncomputable def z7i1 : List Code := items (inside (inside (nthI z7i0 3)))
def career_Spans_out (x_1 : (List GSpan)) : Out := .own true 34 2 (x_1).length (lsEl eGSpan zGSpan x_1)
def z7R (x_1 : (List GSpan)) : St := { tm := [sv 6 (.row 0 2 0 x_1.length)], hp := [(0, some (.row 34 2 x_1.length (lsEl eGSpan zGSpan x_1)))], nx := 1 }
theorem z7Rok (x_1 : (List GSpan)) : retK Tryz.prog [.tmp 6] (OutOk (career_Spans_out x_1)) .ret (z7R x_1) :=
  retK.intro (v := (.row 0 2 0 x_1.length)) (by kernel_rfl) (⟨_, _, _, rfl, rfl, rfl, fun _ _ => rfl, fun _ i hi d hd => scal_GSpan _ d hd⟩)
def z7l1S (l : (List GFact)) (kind state : Int) (s : ((List GSpan) × Int)) : St := match s with | (out_1, t12) => { tm := [sv 0 (.c (.sl 14 l.length (lsEl eGFact zGFact l))), sv 1 (i64 kind), sv 2 (i64 state), sv 7 (.row 0 2 0 out_1.length), sv 10 (.c (.sl 14 l.length (lsEl eGFact zGFact l))), sv 11 (i64 ((l.length : Nat) : Int)), sv 12 (i64 t12)], hp := [(0, some (.row 34 2 out_1.length (lsEl eGSpan zGSpan out_1)))], nx := 1 }
def z7l1C0 (l : (List GFact)) (kind state : Int) (s : (List GSpan)) : St := match s with | out_2 => { tm := [sv 0 (.c (.sl 14 l.length (lsEl eGFact zGFact l))), sv 7 (.row 0 2 0 out_2.length)], hp := [(0, some (.row 34 2 out_2.length (lsEl eGSpan zGSpan out_2)))], nx := 1 }
def z7l1E (l : (List GFact)) (kind state : Int) (r : (((List GSpan)))) (K : KT) : Prop := match r with | s => K (.exit 0) (z7l1C0 l kind state s)
def z7p0S (l : (List GFact)) (kind state : Int) (out_1 : (List GSpan)) (t12 : Int) : St := { tm := [sv 0 (.c (.sl 14 l.length (lsEl eGFact zGFact l))), sv 1 (i64 kind), sv 2 (i64 state), sv 7 (.row 0 2 0 out_1.length), sv 10 (.c (.sl 14 l.length (lsEl eGFact zGFact l))), sv 11 (i64 ((l.length : Nat) : Int)), sv 12 (i64 t12)], hp := [(0, some (.row 34 2 out_1.length (lsEl eGSpan zGSpan out_1)))], nx := 1 }
noncomputable def career_Spans_p0 (l : (List GFact)) (kind state : Int) (out_1 : (List GSpan)) (t12 : Int) : Option (((List GSpan) × Int) ⊕ (((List GSpan)))) := (bif (decide (t12 < ((l.length : Nat) : Int))) then gd ((0 : Int) ≤ t12 ∧ t12 < ((l.length : Nat) : Int)) ((career_current (l.getD (Int.toNat t12) zGFact)).bind fun r_1 => ((bif (bif (bif r_1 then ((l.getD (Int.toNat t12) zGFact).Kind == kind) else false) then ((l.getD (Int.toNat t12) zGFact).State == state) else false) then gd (capB (out_1.length + 1) 16) ((some (Sum.inl ((out_1 ++ ([(l.getD (Int.toNat t12) zGFact).Span] : List GSpan)), (w64 (t12 + (1 : Int))))))) else (some (Sum.inl (out_1, (w64 (t12 + (1 : Int))))))))) else (some (Sum.inr out_1)))
theorem z7p0ok (l : (List GFact)) (kind state : Int) (out_1 : (List GSpan)) (t12 : Int) (K : KT) (h : W (career_Spans_p0 l kind state out_1 t12) (nE (z7l1S l kind state) (z7l1E l kind state) K)) : EvL Tryz.prog 40 (List.drop 0 z7i1) K (z7p0S l kind state out_1 t12) :=
  EvL.pE mixed (lookC_ok (l := [(22, .pure career_current_C)]) ⟨career_current_ok, trivial⟩) [0, 1, 2, 7, 10, 11, 12, 19, 20, 21, 22, 25, 26, 27, 28] 0 4 (.nf (X := fun K => (bif (decide (t12 < ((l.length : Nat) : Int))) then ((0 : Int) ≤ t12) ∧ (t12 < ((l.length : Nat) : Int)) ∧ (((career_current (l.getD (Int.toNat t12) zGFact)).isSome = true) ∧ ((bif (bif (bif ((career_current (l.getD (Int.toNat t12) zGFact)).getD false) then ((l.getD (Int.toNat t12) zGFact).Kind == kind) else false) then ((l.getD (Int.toNat t12) zGFact).State == state) else false) then (out_1.length = out_1.length) ∧ ((out_1.length + 1) * 16 ≤ 140737488355328) ∧ ((out_1.length + 1) ≤ 140737488355328) ∧ (wK K .normal ({ tm := [sv 0 (.c (.sl 14 l.length (lsEl eGFact zGFact l))), sv 1 (i64 kind), sv 2 (i64 state), sv 7 (.row 0 2 0 (out_1.length + 1)), sv 10 (.c (.sl 14 l.length (lsEl eGFact zGFact l))), sv 11 (i64 ((l.length : Nat) : Int)), sv 12 (i64 (w64 (t12 + (1 : Int)))), sv 19 (.c .unk), sv 20 (.c .unk), sv 21 (.c .unk), sv 22 (.c .unk), sv 25 (.c .unk), sv 26 (.c .unk), sv 27 (.c .unk), sv 28 (.c .unk)], hp := [(0, some (.row 34 2 (out_1.length + 1) (fun i => bif Nat.blt i out_1.length then (lsEl eGSpan zGSpan out_1) i else (fun i => (litE 2 (eGSpan ((l.getD (Int.toNat t12) zGFact).Span))) (0 + i)) (i - out_1.length))))], nx := 1 })) else wK K .normal ({ tm := [sv 0 (.c (.sl 14 l.length (lsEl eGFact zGFact l))), sv 1 (i64 kind), sv 2 (i64 state), sv 7 (.row 0 2 0 out_1.length), sv 10 (.c (.sl 14 l.length (lsEl eGFact zGFact l))), sv 11 (i64 ((l.length : Nat) : Int)), sv 12 (i64 (w64 (t12 + (1 : Int)))), sv 19 (.c .unk), sv 20 (.c .unk), sv 21 (.c .unk), sv 22 (.c .unk), sv 25 (.c .unk), sv 26 (.c .unk), sv 27 (.c .unk), sv 28 (.c .unk)], hp := [(0, some (.row 34 2 out_1.length (lsEl eGSpan zGSpan out_1)))], nx := 1 })))) else wK K (.exit 0) ({ tm := [sv 0 (.c (.sl 14 l.length (lsEl eGFact zGFact l))), sv 1 (i64 kind), sv 2 (i64 state), sv 7 (.row 0 2 0 out_1.length), sv 10 (.c (.sl 14 l.length (lsEl eGFact zGFact l))), sv 11 (i64 ((l.length : Nat) : Int)), sv 12 (i64 t12)], hp := [(0, some (.row 34 2 out_1.length (lsEl eGSpan zGSpan out_1)))], nx := 1 }))) (fun K => by kernel_rfl) (W_bif h (fun _ h => (W_gd2 h fun hp0 h => (W_bind false h fun hp1 h => (W_bif h (fun _ h => ⟨rfl, (W_gd2 h fun hp2 h => ⟨(z7l1S l kind state ((out_1 ++ ([(l.getD (Int.toNat t12) zGFact).Span] : List GSpan)), (w64 (t12 + (1 : Int))))), (.of (.q rfl (.q rfl (.q rfl (.cons rfl (.rown (len_app rfl rfl)) (.q rfl (.q rfl (.q rfl .nil))))))) (.row rfl (RowIs.app (RowIs.ls eGSpan zGSpan out_1) (RowIs.zero (RowIs.l1 (enc := eGSpan) (z := zGSpan) 2 ((l.getD (Int.toNat t12) zGFact).Span) rfl))) .nil rfl) rfl), h⟩)⟩) (fun _ h => ⟨(z7l1S l kind state (out_1, (w64 (t12 + (1 : Int))))), (.of (.q rfl (.q rfl (.q rfl (.q rfl (.q rfl (.q rfl (.q rfl .nil))))))) (.same rfl .nil) rfl), h⟩))))) (fun _ h => ⟨(z7l1C0 l kind state out_1), (.of (.q rfl (.q rfl .nil)) (.same rfl .nil) rfl), h⟩)))
noncomputable def career_Spans_l1 (l : (List GFact)) (kind state : Int) (s : ((List GSpan) × Int)) : Option (((List GSpan) × Int) ⊕ (((List GSpan)))) := match s with | (out_1, t12) => career_Spans_p0 l kind state out_1 t12
theorem z7l1ok (l : (List GFact)) (kind state : Int) (s : ((List GSpan) × Int)) : Pp Tryz.prog 40 (List.drop 0 z7i1) (z7l1S l kind state s) (career_Spans_l1 l kind state s) (nextE (z7l1S l kind state) (z7l1E l kind state)) := fun K h => match s, h with | (out_1, t12), h => (z7p0ok l kind state out_1 t12 _ h)
theorem z7l1Ethen (l : (List GFact)) (kind state : Int) : ∀ (r : (((List GSpan)))) (J : St → Prop) (K : KT), z7l1E l kind state r K → z7l1E l kind state r (thenK J K)
  | s, _, _, h => h
def z7p1S (l : (List GFact)) (out_3 : (List GSpan)) : St := { tm := [sv 0 (.c (.sl 14 l.length (lsEl eGFact zGFact l))), sv 7 (.row 0 2 0 out_3.length)], hp := [(0, some (.row 34 2 out_3.length (lsEl eGSpan zGSpan out_3)))], nx := 1 }
noncomputable def career_Spans_p1 (l : (List GFact)) (out_3 : (List GSpan)) : Option ((List GSpan)) := (career_Life l).bind fun r_2 => ((spans_Clip out_3 r_2).bind fun r_3 => ((some r_3)))
theorem z7p1nf (l : (List GFact)) (out_3 : (List GSpan)) (K : KT) (L1_ : List GFact) (hL1_ : lst dGFact l.length (lsEl eGFact zGFact l) = L1_) (L2_ : List GSpan) (hL2_ : lst dGSpan out_3.length (fun i => (lsEl eGSpan zGSpan out_3) (0 + i)) = L2_) :
    ev Tryz.prog (lookC [(13, .pure career_Life_C), (23, .pure spans_Clip_C)]) 40 (ofItems ((List.drop 4 z7i0).take 2)) (cN [6] K) (z7p1S l out_3) =
    ((LstOk eGFact dGFact 14 14 l.length (lsEl eGFact zGFact l)) ∧ ((career_Life L1_).isSome = true) ∧ (LstOk eGSpan dGSpan 2 2 out_3.length (fun i => (lsEl eGSpan zGSpan out_3) (0 + i))) ∧ ((spans_Clip L2_ ((career_Life L1_).getD zGSpan)).isSome = true) ∧ (wK K .ret (z7R ((spans_Clip L2_ ((career_Life L1_).getD zGSpan)).getD ([] : List GSpan))))) := by subst hL1_ hL2_; kernel_rfl
theorem z7p1ok (l : (List GFact)) (out_3 : (List GSpan)) (K : KT) (h : W (career_Spans_p1 l out_3) (rE z7R K)) : EvL Tryz.prog 40 (List.drop 4 z7i0) K (z7p1S l out_3) :=
  EvL.pE mixed (lookC_ok (l := [(13, .pure career_Life_C), (23, .pure spans_Clip_C)]) ⟨career_Life_ok, spans_Clip_ok, trivial⟩) [6] 4 2 (.of (z7p1nf l out_3 _ _ (RowIs.lst dGFact_eGFact (RowIs.ls eGFact zGFact l)) _ (RowIs.lst dGSpan_eGSpan (RowIs.zero (RowIs.ls eGSpan zGSpan out_3)))) (⟨RowIs.ok dGFact_eGFact (RowIs.ls eGFact zGFact l), (W_bind zGSpan h fun hp0 h => ⟨RowIs.ok dGSpan_eGSpan (RowIs.zero (RowIs.ls eGSpan zGSpan out_3)), (W_bind ([] : List GSpan) h fun hp1 h => ⟨_, .refl _, h⟩)⟩)⟩))
def z7p2S (l : (List GFact)) (kind state : Int) : St := { tm := [sv 0 (.c (.sl 14 l.length (lsEl eGFact zGFact l))), sv 1 (i64 kind), sv 2 (i64 state), sv 7 (.c .nil), sv 10 (.c (.sl 14 l.length (lsEl eGFact zGFact l))), sv 11 (i64 ((l.length : Nat) : Int)), sv 12 (i64 (0 : Int))], hp := [], nx := 0 }
noncomputable def career_Spans_p2_g (l : (List GFact)) (kind state : Int) (r : (((List GSpan)))) : Option ((List GSpan)) := match r with | out_2 => (career_Spans_p1 l out_2)
noncomputable def career_Spans_p2 (l : (List GFact)) (kind state : Int) : Option ((List GSpan)) := (fixL (career_Spans_l1 l kind state) (([] : List GSpan), (0 : Int))).bind (career_Spans_p2_g l kind state)
theorem z7p2at : List.drop 3 z7i0 = .block 0 (.loop (inside (inside (nthI z7i0 3)))) :: List.drop 4 z7i0 := by kernel_rfl
theorem z7p2k (l : (List GFact)) (kind state : Int) (K : KT) : ∀ r : (((List GSpan))), W (career_Spans_p2_g l kind state r) (rE z7R K) → z7l1E l kind state r (wK (blockK 0 (thenK (EvL Tryz.prog 40 (List.drop 4 z7i0) K) K)))
  | out_2, h => ⟨(z7p1S l out_2), (.refl _), (z7p1ok l out_2 _ h)⟩
theorem z7p2ok (l : (List GFact)) (kind state : Int) (K : KT) (h : W (career_Spans_p2 l kind state) (rE z7R K)) : EvL Tryz.prog 40 (List.drop 3 z7i0) K (z7p2S l kind state) :=
  EvL.at_ z7p2at (EvL.cons_loop (EvOk.weak (EvOk.ent (.trans (.nilrow 7 0 34 2 (lsEl eGSpan zGSpan []) (Nat.le_of_ble_eq_true rfl) rfl) (.cn [0, 1, 2, 7, 10, 11, 12])) (EvOk.loopF (x := inside (inside (nthI z7i0 3))) (f := career_Spans_l1 l kind state) (emb := z7l1S l kind state) (E := z7l1E l kind state) (z7l1ok l kind state) (z7l1Ethen l kind state) (W_loop h (z7p2k l kind state K))))))
def z7p3S (l : (List GFact)) (kind state : Int) : St := { tm := [sv 0 (.c (.sl 14 l.length (lsEl eGFact zGFact l))), sv 1 (i64 kind), sv 2 (i64 state)], hp := [], nx := 0 }
noncomputable def career_Spans_p3 (l : (List GFact)) (kind state : Int) : Option ((List GSpan)) := (career_Spans_p2 l kind state)
theorem z7p3ok (l : (List GFact)) (kind state : Int) (K : KT) (h : W (career_Spans_p3 l kind state) (rE z7R K)) : EvL Tryz.prog 40 (List.drop 0 z7i0) K (z7p3S l kind state) :=
  EvL.pD mixed (lookC_ok (l := []) trivial) [0, 1, 2, 7, 10, 11, 12, 19, 20, 21, 22, 25, 26, 27, 28] 0 3 3 (.nf (X := fun K => wK K .normal (z7p2S l kind state)) (fun K => by kernel_rfl) (⟨_, .refl _, (z7p2ok l kind state _ h)⟩))
noncomputable def career_Spans (l : (List GFact)) (kind state : Int) : Option ((List GSpan)) := career_Spans_p3 l kind state
theorem z7run (l : (List GFact)) (kind state : Int) (y_ : (List GSpan)) (h : career_Spans l kind state = some y_) : EvL Tryz.prog 40 (items (bodyOf Tryz.f7)) (retK Tryz.prog [.tmp 6] (OutOk (career_Spans_out y_))) (z7p3S l kind state) :=
  z7p3ok l kind state _ (W_iff.2 ⟨y_, h, z7Rok y_⟩)
noncomputable def career_Spans_C : Con
  | [(.c (.sl k1 n2 e3)), (.c (.lit (.int .i64 a4))), (.c (.lit (.int .i64 a5)))] => some ([LstOk eGFact dGFact 14 k1 n2 e3, (career_Spans (lst dGFact n2 e3) a4 a5).isSome = true], (career_Spans_out ((career_Spans (lst dGFact n2 e3) a4 a5).getD ([] : List GSpan))))
  | _ => none
theorem career_Spans_ok : Meets Tryz.prog 7 career_Spans_C := by
  refine meets_fun (fn := Tryz.f7) (c := bodyOf Tryz.f7) (by kernel_rfl) (by kernel_rfl) (by kernel_rfl) (rs := [.tmp 6]) (by kernel_rfl) (nt := 40) (by kernel_rfl) fun vs p out h hp => ?_
  unfold career_Spans_C at h
  split at h
  · next k1 n2 e3 a4 a5 =>
    cases h
    obtain ⟨g0, hp⟩ := allq hp
    obtain ⟨g, hp⟩ := allq hp
    obtain ⟨x, hx⟩ := Option.isSome_iff_exists.1 g
    rw [hx]
    exact ⟨[(.c (.sl 14 ((lst dGFact n2 e3)).length (lsEl eGFact zGFact (lst dGFact n2 e3)))), (i64 a4), (i64 a5)], (VLes.cons (VLe.slk g0.1 (RowIs.of_ok g0)) (VLes.cons (VLe.rfl' _) (VLes.cons (VLe.rfl' _) VLes.nil))), rfl, z7run (lst dGFact n2 e3) a4 a5 x hx⟩
  · cases h

noncomputable def z9i0 : List Code := items (bodyOf Tryz.f9)
noncomputable def z9i1 : List Code := items (inside (inside (nthI z9i0 4)))
def ref1_SameSpans_out (x_1 : Bool) : Out := .data (bl x_1)
def z9R (x_1 : Bool) : St := { tm := [sv 4 (bl x_1)], hp := [], nx := 0 }
theorem z9Rok (x_1 : Bool) : retK Tryz.prog [.tmp 4] (OutOk (ref1_SameSpans_out x_1)) .ret (z9R x_1) :=
  retK.intro (v := (bl x_1)) (by kernel_rfl) ((VLe.rfl' _))
def z9l1S (a b : (List GSpan)) (s : (Int)) : St := match s with | i_1 => { tm := [sv 0 (.c (.sl 2 a.length (lsEl eGSpan zGSpan a))), sv 1 (.c (.sl 2 b.length (lsEl eGSpan zGSpan b))), sv 5 (i64 i_1)], hp := [], nx := 0 }
def z9l1C0 (a b : (List GSpan)) (s : Unit) : St := match s with | () => { tm := [sv 4 (bl false)], hp := [], nx := 0 }
def z9l1C1 (a b : (List GSpan)) (s : Unit) : St := match s with | () => { tm := [], hp := [], nx := 0 }
def z9l1E (a b : (List GSpan)) (r : ((Unit) ⊕ (Unit))) (K : KT) : Prop := match r with | (.inl s) => K .ret (z9l1C0 a b s) | (.inr s) => K (.exit 0) (z9l1C1 a b s)
def z9p0S (a b : (List GSpan)) (i_1 : Int) : St := { tm := [sv 0 (.c (.sl 2 a.length (lsEl eGSpan zGSpan a))), sv 1 (.c (.sl 2 b.length (lsEl eGSpan zGSpan b))), sv 5 (i64 i_1)], hp := [], nx := 0 }
noncomputable def ref1_SameSpans_p0 (a b : (List GSpan)) (i_1 : Int) : Option ((Int) ⊕ ((Unit) ⊕ (Unit))) := (bif (decide (i_1 < ((a.length : Nat) : Int))) then gd ((0 : Int) ≤ i_1 ∧ i_1 < ((a.length : Nat) : Int)) (gd ((0 : Int) ≤ i_1 ∧ i_1 < ((b.length : Nat) : Int)) ((bif (!(((a.getD (Int.toNat i_1) zGSpan).From == (b.getD (Int.toNat i_1) zGSpan).From) && (((a.getD (Int.toNat i_1) zGSpan).To == (b.getD (Int.toNat i_1) zGSpan).To) && true))) then (some (Sum.inr (Sum.inl ()))) else (some (Sum.inl (w64 (i_1 + (1 : Int)))))))) else (some (Sum.inr (Sum.inr ()))))
theorem z9p0ok (a b : (List GSpan)) (i_1 : Int) (K : KT) (h : W (ref1_SameSpans_p0 a b i_1) (nE (z9l1S a b) (z9l1E a b) K)) : EvL Tryz.prog 26 (List.drop 0 z9i1) K (z9p0S a b i_1) :=
  EvL.pE mixed (lookC_ok (l := []) trivial) [0, 1, 4, 5] 0 4 (.nf (X := fun K => (bif (decide (i_1 < ((a.length : Nat) : Int))) then ((0 : Int) ≤ i_1) ∧ (i_1 < ((a.length : Nat) : Int)) ∧ ((0 : Int) ≤ i_1) ∧ (i_1 < ((b.length : Nat) : Int)) ∧ ((bif (!(((a.getD (Int.toNat i_1) zGSpan).From == (b.getD (Int.toNat i_1) zGSpan).From) && (((a.getD (Int.toNat i_1) zGSpan).To == (b.getD (Int.toNat i_1) zGSpan).To) && true))) then wK K .ret ({ tm := [sv 0 (.c (.sl 2 a.length (lsEl eGSpan zGSpan a))), sv 1 (.c (.sl 2 b.length (lsEl eGSpan zGSpan b))), sv 4 (bl false), sv 5 (i64 i_1)], hp := [], nx := 0 }) else wK K .normal (z9l1S a b (w64 (i_1 + (1 : Int)))))) else wK K (.exit 0) ({ tm := [sv 0 (.c (.sl 2 a.length (lsEl eGSpan zGSpan a))), sv 1 (.c (.sl 2 b.length (lsEl eGSpan zGSpan b))), sv 5 (i64 i_1)], hp := [], nx := 0 }))) (fun K => by kernel_rfl) (W_bif h (fun _ h => (W_gd2 h fun hp0 h => (W_gd2 h fun hp1 h => (W_bif h (fun _ h => ⟨(z9l1C0 a b ()), (.of (.q rfl .nil) .nil rfl), h⟩) (fun _ h => ⟨_, .refl _, h⟩))))) (fun _ h => ⟨(z9l1C1 a b ()), (.of .nil .nil rfl), h⟩)))
noncomputable def ref1_SameSpans_l1 (a b : (List GSpan)) (s : (Int)) : Option ((Int) ⊕ ((Unit) ⊕ (Unit))) := match s with | i_1 => ref1_SameSpans_p0 a b i_1
theorem z9l1ok (a b : (List GSpan)) (s : (Int)) : Pp Tryz.prog 26 (List.drop 0 z9i1) (z9l1S a b s) (ref1_SameSpans_l1 a b s) (nextE (z9l1S a b) (z9l1E a b)) := fun K h => match s, h with | i_1, h => (z9p0ok a b i_1 _ h)
theorem z9l1Ethen (a b : (List GSpan)) : ∀ (r : ((Unit) ⊕ (Unit))) (J : St → Prop) (K : KT), z9l1E a b r K → z9l1E a b r (thenK J K)
  | (.inl s), _, _, h => h
  | (.inr s), _, _, h => h
def z9p1S : St := { tm := [], hp := [], nx := 0 }
noncomputable def ref1_SameSpans_p1 : Option (Bool) := (some true)
theorem z9p1ok (K : KT) (h : W (ref1_SameSpans_p1) (rE z9R K)) : EvL Tryz.prog 26 (List.drop 5 z9i0) K (z9p1S) :=
  EvL.pE mixed (lookC_ok (l := []) trivial) [4] 5 2 (.nf (X := fun K => wK K .ret (z9R true)) (fun K => by kernel_rfl) (⟨_, .refl _, h⟩))
def z9p2S (a b : (List GSpan)) : St := { tm := [sv 0 (.c (.sl 2 a.length (lsEl eGSpan zGSpan a))), sv 1 (.c (.sl 2 b.length (lsEl eGSpan zGSpan b))), sv 5 (i64 (0 : Int))], hp := [], nx := 0 }
noncomputable def ref1_SameSpans_p2_g (a b : (List GSpan)) (r : ((Unit) ⊕ (Unit))) : Option (Bool) := match r with | (.inl ()) => (some false) | (.inr ()) => ref1_SameSpans_p1
noncomputable def ref1_SameSpans_p2 (a b : (List GSpan)) : Option (Bool) := (fixL (ref1_SameSpans_l1 a b) (0 : Int)).bind (ref1_SameSpans_p2_g a b)
theorem z9p2at : List.drop 4 z9i0 = .block 0 (.loop (inside (inside (nthI z9i0 4)))) :: List.drop 5 z9i0 := by kernel_rfl
theorem z9p2k (a b : (List GSpan)) (K : KT) : ∀ r : ((Unit) ⊕ (Unit)), W (ref1_SameSpans_p2_g a b r) (rE z9R K) → z9l1E a b r (wK (blockK 0 (thenK (EvL Tryz.prog 26 (List.drop 5 z9i0) K) K)))
  | (.inl ()), h => ⟨(z9R false), (.refl _), h⟩
  | (.inr ()), h => ⟨(z9p1S), (.refl _), (z9p1ok _ h)⟩
theorem z9p2ok (a b : (List GSpan)) (K : KT) (h : W (ref1_SameSpans_p2 a b) (rE z9R K)) : EvL Tryz.prog 26 (List.drop 4 z9i0) K (z9p2S a b) :=
  EvL.at_ z9p2at (EvL.cons_loop (EvOk.weak (EvOk.ent (.refl _) (EvOk.loopF (x := inside (inside (nthI z9i0 4))) (f := ref1_SameSpans_l1 a b) (emb := z9l1S a b) (E := z9l1E a b) (z9l1ok a b) (z9l1Ethen a b) (W_loop h (z9p2k a b K))))))
def z9p3S (a b : (List GSpan)) : St := { tm := [sv 0 (.c (.sl 2 a.length (lsEl eGSpan zGSpan a))), sv 1 (.c (.sl 2 b.length (lsEl eGSpan zGSpan b)))], hp := [], nx := 0 }
noncomputable def ref1_SameSpans_p3 (a b : (List GSpan)) : Option (Bool) := (bif (((a.length : Nat) : Int) != ((b.length : Nat) : Int)) then (some false) else (ref1_SameSpans_p2 a b))
theorem z9p3ok (a b : (List GSpan)) (K : KT) (h : W (ref1_SameSpans_p3 a b) (rE z9R K)) : EvL Tryz.prog 26 (List.drop 0 z9i0) K (z9p3S a b) :=
  EvL.pD mixed (lookC_ok (l := []) trivial) [0, 1, 4, 5] 0 4 4 (.nf (X := fun K => (bif (((a.length : Nat) : Int) != ((b.length : Nat) : Int)) then wK K .ret ({ tm := [sv 0 (.c (.sl 2 a.length (lsEl eGSpan zGSpan a))), sv 1 (.c (.sl 2 b.length (lsEl eGSpan zGSpan b))), sv 4 (bl false)], hp := [], nx := 0 }) else wK K .normal ({ tm := [sv 0 (.c (.sl 2 a.length (lsEl eGSpan zGSpan a))), sv 1 (.c (.sl 2 b.length (lsEl eGSpan zGSpan b))), sv 4 (bl false), sv 5 (i64 (0 : Int))], hp := [], nx := 0 }))) (fun K => by kernel_rfl) (W_bif h (fun _ h => ⟨(z9R false), (.of (.q rfl .nil) .nil rfl), h⟩) (fun _ h => ⟨(z9p2S a b), (.of (.q rfl (.q rfl (.q rfl .nil))) .nil rfl), (z9p2ok a b _ h)⟩)))
noncomputable def ref1_SameSpans (a b : (List GSpan)) : Option (Bool) := ref1_SameSpans_p3 a b
theorem z9run (a b : (List GSpan)) (y_ : Bool) (h : ref1_SameSpans a b = some y_) : EvL Tryz.prog 26 (items (bodyOf Tryz.f9)) (retK Tryz.prog [.tmp 4] (OutOk (ref1_SameSpans_out y_))) (z9p3S a b) :=
  z9p3ok a b _ (W_iff.2 ⟨y_, h, z9Rok y_⟩)
noncomputable def ref1_SameSpans_C : Con
  | [(.c (.sl k1 n2 e3)), (.c (.sl k4 n5 e6))] => some ([LstOk eGSpan dGSpan 2 k1 n2 e3, LstOk eGSpan dGSpan 2 k4 n5 e6, (ref1_SameSpans (lst dGSpan n2 e3) (lst dGSpan n5 e6)).isSome = true], (ref1_SameSpans_out ((ref1_SameSpans (lst dGSpan n2 e3) (lst dGSpan n5 e6)).getD false)))
  | _ => none
theorem ref1_SameSpans_ok : Meets Tryz.prog 9 ref1_SameSpans_C := by
  refine meets_fun (fn := Tryz.f9) (c := bodyOf Tryz.f9) (by kernel_rfl) (by kernel_rfl) (by kernel_rfl) (rs := [.tmp 4]) (by kernel_rfl) (nt := 26) (by kernel_rfl) fun vs p out h hp => ?_
  unfold ref1_SameSpans_C at h
  split at h
  · next k1 n2 e3 k4 n5 e6 =>
    cases h
    obtain ⟨g0, hp⟩ := allq hp
    obtain ⟨g1, hp⟩ := allq hp
    obtain ⟨g, hp⟩ := allq hp
    obtain ⟨x, hx⟩ := Option.isSome_iff_exists.1 g
    rw [hx]
    exact ⟨[(.c (.sl 2 ((lst dGSpan n2 e3)).length (lsEl eGSpan zGSpan (lst dGSpan n2 e3)))), (.c (.sl 2 ((lst dGSpan n5 e6)).length (lsEl eGSpan zGSpan (lst dGSpan n5 e6))))], (VLes.cons (VLe.slk g0.1 (RowIs.of_ok g0)) (VLes.cons (VLe.slk g1.1 (RowIs.of_ok g1)) VLes.nil)), rfl, z9run (lst dGSpan n2 e3) (lst dGSpan n5 e6) x hx⟩
  · cases h


/-- slices.Sort at ints. -/
noncomputable def slices_Sort_int_int (l : List Int) : Option (List Int) := gd (l.length < 4611686018427387904) (some (sortI l))
noncomputable def slices_Sort_int_int_C : Heap → Nat → List V → Option Res := keptC eI64 dI64 3 slices_Sort_int_int
theorem slices_Sort_int_int_ok : MeetsC Tryz.prog 32 (.mut slices_Sort_int_int_C) :=
  kept_meets (G := sortI) (fun _ => rfl) (fun l x h => ⟨(gd_some.1 h).1, (Option.some.inj (gd_some.1 h).2).symm⟩) (sortInts_run (ρ := Tryz.si_ren) Tryz.si (by kernel_rfl) (enters_of (c := bodyOf Tryz.f32) Tryz.func32 (by kernel_rfl) (by kernel_rfl)))


/-- slices.Compact at ints. -/
noncomputable def slices_Compact_int_int (l : List Int) : Option (List Int) := gd (l.length < 4611686018427387904) (some (Lib.compact l))
noncomputable def slices_Compact_int_int_C : Heap → Nat → List V → Option Res := backC eI64 dI64 3 slices_Compact_int_int
theorem slices_Compact_int_int_ok : MeetsC Tryz.prog 33 (.mut slices_Compact_int_int_C) :=
  back_meets (G := Lib.compact) (fun _ => rfl) (fun l x h => ⟨(gd_some.1 h).1, (Option.some.inj (gd_some.1 h).2).symm⟩) (compactInts_run (ρ := Tryz.ci_ren) Tryz.ci (by kernel_rfl) (enters_of (c := bodyOf Tryz.f33) Tryz.func33 (by kernel_rfl) (by kernel_rfl)))

noncomputable def z15i0 : List Code := items (bodyOf Tryz.f15)
noncomputable def z15i1 : List Code := items (inside (inside (nthI z15i0 3)))
def career_Children_out (x_1 : (List Int)) : Out := .own true 3 1 (x_1).length (lsEl eI64 (0 : Int) x_1)
def z15R (x_1 : (List Int)) : St := { tm := [sv 4 (.row 0 1 0 x_1.length)], hp := [(0, some (.row 3 1 x_1.length (lsEl eI64 (0 : Int) x_1)))], nx := 1 }
theorem z15Rok (x_1 : (List Int)) : retK Tryz.prog [.tmp 4] (OutOk (career_Children_out x_1)) .ret (z15R x_1) :=
  retK.intro (v := (.row 0 1 0 x_1.length)) (by kernel_rfl) (⟨_, _, _, rfl, rfl, rfl, fun _ _ => rfl, fun _ i hi d hd => scal_I64 _ d hd⟩)
def z15l1S (day : Int) (l : (List GFact)) (s : ((List Int) × Int)) : St := match s with | (out_1, t10) => { tm := [sv 1 (i64 day), sv 5 (.row 0 1 0 out_1.length), sv 8 (.c (.sl 14 l.length (lsEl eGFact zGFact l))), sv 9 (i64 ((l.length : Nat) : Int)), sv 10 (i64 t10)], hp := [(0, some (.row 3 1 out_1.length (lsEl eI64 (0 : Int) out_1)))], nx := 1 }
def z15l1C0 (day : Int) (l : (List GFact)) (s : (List Int)) : St := match s with | out_2 => { tm := [sv 5 (.row 0 1 0 out_2.length)], hp := [(0, some (.row 3 1 out_2.length (lsEl eI64 (0 : Int) out_2)))], nx := 1 }
def z15l1E (day : Int) (l : (List GFact)) (r : (((List Int)))) (K : KT) : Prop := match r with | s => K (.exit 0) (z15l1C0 day l s)
def z15p0S (day : Int) (out_1 : (List Int)) (l : (List GFact)) (t10 : Int) : St := { tm := [sv 1 (i64 day), sv 5 (.row 0 1 0 out_1.length), sv 8 (.c (.sl 14 l.length (lsEl eGFact zGFact l))), sv 9 (i64 ((l.length : Nat) : Int)), sv 10 (i64 t10)], hp := [(0, some (.row 3 1 out_1.length (lsEl eI64 (0 : Int) out_1)))], nx := 1 }
noncomputable def career_Children_p0 (day : Int) (out_1 : (List Int)) (l : (List GFact)) (t10 : Int) : Option (((List Int) × Int) ⊕ (((List Int)))) := (bif (decide (t10 < ((l.length : Nat) : Int))) then gd ((0 : Int) ≤ t10 ∧ t10 < ((l.length : Nat) : Int)) ((career_current (l.getD (Int.toNat t10) zGFact)).bind fun r_1 => ((bif (bif (bif r_1 then ((l.getD (Int.toNat t10) zGFact).Kind == (10 : Int)) else false) then (decide (((l.getD (Int.toNat t10) zGFact).Span).From < day)) else false) then gd (capB (out_1.length + 1) 8) ((some (Sum.inl ((out_1 ++ ([(l.getD (Int.toNat t10) zGFact).Ref] : List Int)), (w64 (t10 + (1 : Int))))))) else (some (Sum.inl (out_1, (w64 (t10 + (1 : Int))))))))) else (some (Sum.inr out_1)))
theorem z15p0ok (day : Int) (out_1 : (List Int)) (l : (List GFact)) (t10 : Int) (K : KT) (h : W (career_Children_p0 day out_1 l t10) (nE (z15l1S day l) (z15l1E day l) K)) : EvL Tryz.prog 38 (List.drop 0 z15i1) K (z15p0S day out_1 l t10) :=
  EvL.pE mixed (lookC_ok (l := [(22, .pure career_current_C)]) ⟨career_current_ok, trivial⟩) [1, 5, 8, 9, 10, 17, 18, 19, 22, 23, 24, 25, 26] 0 4 (.nf (X := fun K => (bif (decide (t10 < ((l.length : Nat) : Int))) then ((0 : Int) ≤ t10) ∧ (t10 < ((l.length : Nat) : Int)) ∧ (((career_current (l.getD (Int.toNat t10) zGFact)).isSome = true) ∧ ((bif (bif (bif ((career_current (l.getD (Int.toNat t10) zGFact)).getD false) then ((l.getD (Int.toNat t10) zGFact).Kind == (10 : Int)) else false) then (decide (((l.getD (Int.toNat t10) zGFact).Span).From < day)) else false) then (out_1.length = out_1.length) ∧ ((out_1.length + 1) * 8 ≤ 140737488355328) ∧ ((out_1.length + 1) ≤ 140737488355328) ∧ (wK K .normal ({ tm := [sv 1 (i64 day), sv 5 (.row 0 1 0 (out_1.length + 1)), sv 8 (.c (.sl 14 l.length (lsEl eGFact zGFact l))), sv 9 (i64 ((l.length : Nat) : Int)), sv 10 (i64 (w64 (t10 + (1 : Int)))), sv 17 (.c .unk), sv 18 (.c .unk), sv 19 (.c .unk), sv 22 (.c .unk), sv 23 (.c .unk), sv 24 (.c .unk), sv 25 (.c .unk), sv 26 (.c .unk)], hp := [(0, some (.row 3 1 (out_1.length + 1) (fun i => bif Nat.blt i out_1.length then (lsEl eI64 (0 : Int) out_1) i else (fun i => (lsEl eI64 (0 : Int) ([(l.getD (Int.toNat t10) zGFact).Ref] : List Int)) (0 + i)) (i - out_1.length))))], nx := 1 })) else wK K .normal ({ tm := [sv 1 (i64 day), sv 5 (.row 0 1 0 out_1.length), sv 8 (.c (.sl 14 l.length (lsEl eGFact zGFact l))), sv 9 (i64 ((l.length : Nat) : Int)), sv 10 (i64 (w64 (t10 + (1 : Int)))), sv 17 (.c .unk), sv 18 (.c .unk), sv 19 (.c .unk), sv 22 (.c .unk), sv 23 (.c .unk), sv 24 (.c .unk), sv 25 (.c .unk), sv 26 (.c .unk)], hp := [(0, some (.row 3 1 out_1.length (lsEl eI64 (0 : Int) out_1)))], nx := 1 })))) else wK K (.exit 0) ({ tm := [sv 1 (i64 day), sv 5 (.row 0 1 0 out_1.length), sv 8 (.c (.sl 14 l.length (lsEl eGFact zGFact l))), sv 9 (i64 ((l.length : Nat) : Int)), sv 10 (i64 t10)], hp := [(0, some (.row 3 1 out_1.length (lsEl eI64 (0 : Int) out_1)))], nx := 1 }))) (fun K => by kernel_rfl) (W_bif h (fun _ h => (W_gd2 h fun hp0 h => (W_bind false h fun hp1 h => (W_bif h (fun _ h => ⟨rfl, (W_gd2 h fun hp2 h => ⟨(z15l1S day l ((out_1 ++ ([(l.getD (Int.toNat t10) zGFact).Ref] : List Int)), (w64 (t10 + (1 : Int))))), (.of (.q rfl (.cons rfl (.rown (len_app rfl rfl)) (.q rfl (.q rfl (.q rfl .nil))))) (.row rfl (RowIs.app (RowIs.ls eI64 (0 : Int) out_1) (RowIs.zero (RowIs.ls eI64 (0 : Int) ([(l.getD (Int.toNat t10) zGFact).Ref] : List Int)))) .nil rfl) rfl), h⟩)⟩) (fun _ h => ⟨(z15l1S day l (out_1, (w64 (t10 + (1 : Int))))), (.of (.q rfl (.q rfl (.q rfl (.q rfl (.q rfl .nil))))) (.same rfl .nil) rfl), h⟩))))) (fun _ h => ⟨(z15l1C0 day l out_1), (.of (.q rfl .nil) (.same rfl .nil) rfl), h⟩)))
noncomputable def career_Children_l1 (day : Int) (l : (List GFact)) (s : ((List Int) × Int)) : Option (((List Int) × Int) ⊕ (((List Int)))) := match s with | (out_1, t10) => career_Children_p0 day out_1 l t10
theorem z15l1ok (day : Int) (l : (List GFact)) (s : ((List Int) × Int)) : Pp Tryz.prog 38 (List.drop 0 z15i1) (z15l1S day l s) (career_Children_l1 day l s) (nextE (z15l1S day l) (z15l1E day l)) := fun K h => match s, h with | (out_1, t10), h => (z15p0ok day out_1 l t10 _ h)
theorem z15l1Ethen (day : Int) (l : (List GFact)) : ∀ (r : (((List Int)))) (J : St → Prop) (K : KT), z15l1E day l r K → z15l1E day l r (thenK J K)
  | s, _, _, h => h
def z15p1S (out_3 : (List Int)) : St := { tm := [sv 5 (.row 0 1 0 out_3.length)], hp := [(0, some (.row 3 1 out_3.length (lsEl eI64 (0 : Int) out_3)))], nx := 1 }
noncomputable def career_Children_p1 (out_3 : (List Int)) : Option ((List Int)) := (slices_Sort_int_int out_3).bind fun r_2 => (gd ((0 : Int) ≤ (0 : Int) ∧ (0 : Int) ≤ ((out_3.length : Nat) : Int) ∧ ((out_3.length : Nat) : Int) ≤ ((r_2.length : Nat) : Int)) ((slices_Compact_int_int (subL (0 : Int) r_2 0 out_3.length)).bind fun r_3 => ((some r_3))))
theorem z15p1nf (out_3 : (List Int)) (K : KT) (L1_ : List Int) (hL1_ : lst dI64 out_3.length (lsEl eI64 (0 : Int) out_3) = L1_) (L2_ : List Int) (hL2_ : lst dI64 out_3.length (fun i => (lsEl eI64 (0 : Int) ((slices_Sort_int_int L1_).getD ([] : List Int))) (0 + i)) = L2_) :
    ev Tryz.prog (lookC [(32, .mut slices_Sort_int_int_C), (33, .mut slices_Compact_int_int_C)]) 38 (ofItems ((List.drop 4 z15i0).take 3)) (cN [4] K) (z15p1S out_3) =
    ((out_3.length = out_3.length) ∧ (LstOk eI64 dI64 1 1 out_3.length (lsEl eI64 (0 : Int) out_3)) ∧ ((slices_Sort_int_int L1_).isSome = true) ∧ (((0 : Int) ≤ (0 : Int)) ∧ ((0 : Int) ≤ ((out_3.length : Nat) : Int)) ∧ (((out_3.length : Nat) : Int) ≤ (((((slices_Sort_int_int L1_).getD ([] : List Int))).length : Nat) : Int)) ∧ (LstOk eI64 dI64 1 1 out_3.length (fun i => (lsEl eI64 (0 : Int) ((slices_Sort_int_int L1_).getD ([] : List Int))) (0 + i))) ∧ ((slices_Compact_int_int L2_).isSome = true) ∧ (wK K .ret (z15R ((slices_Compact_int_int L2_).getD ([] : List Int)))))) := by subst hL1_ hL2_; kernel_rfl
theorem z15p1ok (out_3 : (List Int)) (K : KT) (h : W (career_Children_p1 out_3) (rE z15R K)) : EvL Tryz.prog 38 (List.drop 4 z15i0) K (z15p1S out_3) :=
  EvL.pE mixed (lookC_ok (l := [(32, .mut slices_Sort_int_int_C), (33, .mut slices_Compact_int_int_C)]) ⟨slices_Sort_int_int_ok, slices_Compact_int_int_ok, trivial⟩) [4] 4 3 (.of (z15p1nf out_3 _ _ (RowIs.lst dI64_eI64 (RowIs.ls eI64 (0 : Int) out_3)) _ (RowIs.lst dI64_eI64 (RowIs.sub eI64 (0 : Int) ((slices_Sort_int_int out_3).getD ([] : List Int)) 0 out_3.length))) (⟨(rfl), ⟨RowIs.ok dI64_eI64 (RowIs.ls eI64 (0 : Int) out_3), (W_bind ([] : List Int) h fun hp0 h => (W_gd3 h fun hp1 h => ⟨RowIs.ok dI64_eI64 (RowIs.sub eI64 (0 : Int) ((slices_Sort_int_int out_3).getD ([] : List Int)) 0 out_3.length), (W_bind ([] : List Int) h fun hp2 h => ⟨_, .refl _, h⟩)⟩))⟩⟩))
def z15p2S (day : Int) (l : (List GFact)) : St := { tm := [sv 1 (i64 day), sv 5 (.c .nil), sv 8 (.c (.sl 14 l.length (lsEl eGFact zGFact l))), sv 9 (i64 ((l.length : Nat) : Int)), sv 10 (i64 (0 : Int))], hp := [], nx := 0 }
noncomputable def career_Children_p2_g (day : Int) (l : (List GFact)) (r : (((List Int)))) : Option ((List Int)) := match r with | out_2 => (career_Children_p1 out_2)
noncomputable def career_Children_p2 (day : Int) (l : (List GFact)) : Option ((List Int)) := (fixL (career_Children_l1 day l) (([] : List Int), (0 : Int))).bind (career_Children_p2_g day l)
theorem z15p2at : List.drop 3 z15i0 = .block 0 (.loop (inside (inside (nthI z15i0 3)))) :: List.drop 4 z15i0 := by kernel_rfl
theorem z15p2k (day : Int) (l : (List GFact)) (K : KT) : ∀ r : (((List Int))), W (career_Children_p2_g day l r) (rE z15R K) → z15l1E day l r (wK (blockK 0 (thenK (EvL Tryz.prog 38 (List.drop 4 z15i0) K) K)))
  | out_2, h => ⟨(z15p1S out_2), (.refl _), (z15p1ok out_2 _ h)⟩
theorem z15p2ok (day : Int) (l : (List GFact)) (K : KT) (h : W (career_Children_p2 day l) (rE z15R K)) : EvL Tryz.prog 38 (List.drop 3 z15i0) K (z15p2S day l) :=
  EvL.at_ z15p2at (EvL.cons_loop (EvOk.weak (EvOk.ent (.trans (.nilrow 5 0 3 1 (lsEl eI64 (0 : Int) []) (Nat.le_of_ble_eq_true rfl) rfl) (.cn [1, 5, 8, 9, 10])) (EvOk.loopF (x := inside (inside (nthI z15i0 3))) (f := career_Children_l1 day l) (emb := z15l1S day l) (E := z15l1E day l) (z15l1ok day l) (z15l1Ethen day l) (W_loop h (z15p2k day l K))))))
def z15p3S (l : (List GFact)) (day : Int) : St := { tm := [sv 0 (.c (.sl 14 l.length (lsEl eGFact zGFact l))), sv 1 (i64 day)], hp := [], nx := 0 }
noncomputable def career_Children_p3 (l : (List GFact)) (day : Int) : Option ((List Int)) := (career_Children_p2 day l)
theorem z15p3ok (l : (List GFact)) (day : Int) (K : KT) (h : W (career_Children_p3 l day) (rE z15R K)) : EvL Tryz.prog 38 (List.drop 0 z15i0) K (z15p3S l day) :=
  EvL.pD mixed (lookC_ok (l := []) trivial) [1, 5, 8, 9, 10, 17, 18, 19, 22, 23, 24, 25, 26] 0 3 3 (.nf (X := fun K => wK K .normal (z15p2S day l)) (fun K => by kernel_rfl) (⟨_, .refl _, (z15p2ok day l _ h)⟩))
noncomputable def career_Children (l : (List GFact)) (day : Int) : Option ((List Int)) := career_Children_p3 l day
theorem z15run (l : (List GFact)) (day : Int) (y_ : (List Int)) (h : career_Children l day = some y_) : EvL Tryz.prog 38 (items (bodyOf Tryz.f15)) (retK Tryz.prog [.tmp 4] (OutOk (career_Children_out y_))) (z15p3S l day) :=
  z15p3ok l day _ (W_iff.2 ⟨y_, h, z15Rok y_⟩)
noncomputable def career_Children_C : Con
  | [(.c (.sl k1 n2 e3)), (.c (.lit (.int .i64 a4)))] => some ([LstOk eGFact dGFact 14 k1 n2 e3, (career_Children (lst dGFact n2 e3) a4).isSome = true], (career_Children_out ((career_Children (lst dGFact n2 e3) a4).getD ([] : List Int))))
  | _ => none
theorem career_Children_ok : Meets Tryz.prog 15 career_Children_C := by
  refine meets_fun (fn := Tryz.f15) (c := bodyOf Tryz.f15) (by kernel_rfl) (by kernel_rfl) (by kernel_rfl) (rs := [.tmp 4]) (by kernel_rfl) (nt := 38) (by kernel_rfl) fun vs p out h hp => ?_
  unfold career_Children_C at h
  split at h
  · next k1 n2 e3 a4 =>
    cases h
    obtain ⟨g0, hp⟩ := allq hp
    obtain ⟨g, hp⟩ := allq hp
    obtain ⟨x, hx⟩ := Option.isSome_iff_exists.1 g
    rw [hx]
    exact ⟨[(.c (.sl 14 ((lst dGFact n2 e3)).length (lsEl eGFact zGFact (lst dGFact n2 e3)))), (i64 a4)], (VLes.cons (VLe.slk g0.1 (RowIs.of_ok g0)) (VLes.cons (VLe.rfl' _) VLes.nil)), rfl, z15run (lst dGFact n2 e3) a4 x hx⟩
  · cases h

end Go.Ax
