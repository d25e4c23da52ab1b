import Derived.Test.YtchffdmfiffifaaF5
import Derived.Test.YtchffdmfiffifaaRows
/- Types of the program, and functions of it: printed by a program, checked by the kernel. -/
set_option linter.all false
set_option maxRecDepth 100000
namespace Go.Ax
open Go.Proofs Go.Proofs.Ytchffdmfiffifaa
noncomputable def z46i0 : List Code := items (bodyOf Try.f46)
def z46R (x_1 : Bool) : St := { tm := [sv 2 (bl x_1)], hp := [], nx := 0 }
def career_Valid_out (x_1 : Bool) : Out := .data (bl x_1)
theorem z46Rok (x_1 : Bool) : retK Try.prog [.tmp 2] (OutOk (career_Valid_out x_1)) .ret (z46R x_1) :=
  retK.intro (v := (bl x_1)) (by kernel_rfl) ((VLe.rfl' _))
def z46p0S (t2 : Bool) : St := { tm := [sv 2 (bl t2)], hp := [], nx := 0 }
noncomputable def career_Valid_p0 (t2 : Bool) : Option (Bool) := (some t2)
theorem z46p0ok (t2 : Bool) (K : KT) (h : W (career_Valid_p0 t2) (rE z46R K)) : EvL Try.prog 27 (List.drop 2 z46i0) K (z46p0S t2) :=
  EvL.pE mixed (lookC_ok (l := []) trivial) [2] 2 1 (.nf (X := fun K => wK K .ret (z46R t2)) (fun K => by kernel_rfl) (⟨_, .refl _, h⟩))
def z46p1S (l : (List GFact)) : St := { tm := [sv 0 (.c (.sl 14 l.length (lsEl eGFact zGFact l)))], hp := [], nx := 0 }
noncomputable def career_Valid_p1 (l : (List GFact)) : Option (Bool) := (career_Merged l).bind fun r_1 => ((bif r_1 then (bif (decide (((l.length : Nat) : Int) ≤ (40 : Int))) then (bif (((l.length : Nat) : Int) == (0 : Int)) then (career_Valid_p0 true) else gd ((0 : Int) ≤ (0 : Int) ∧ (0 : Int) < ((l.length : Nat) : Int)) ((career_Of l ((l.getD 0 zGFact).Person)).bind fun r_2 => ((career_Valid_p0 (((r_2.length : Nat) : Int) == ((l.length : Nat) : Int)))))) else (career_Valid_p0 false)) else (career_Valid_p0 false)))
theorem z46p1nf (l : (List GFact)) (K : KT) (L1_ : List GFact) (hL1_ : lst dGFact l.length (lsEl eGFact zGFact l) = L1_) (L2_ : List GFact) (hL2_ : lst dGFact l.length (lsEl eGFact zGFact l) = L2_) :
    ev Try.prog (lookC [(34, .pure career_Merged_C), (36, .pure career_Of_C)]) 27 (ofItems ((List.drop 0 z46i0).take 2)) (cN [2] K) (z46p1S l) =
    ((LstOk eGFact dGFact 14 14 l.length (lsEl eGFact zGFact l)) ∧ ((career_Merged L1_).isSome = true) ∧ ((bif ((career_Merged L1_).getD false) then (bif (decide (((l.length : Nat) : Int) ≤ (40 : Int))) then (bif (((l.length : Nat) : Int) == (0 : Int)) then wK K .normal (z46p0S true) else ((0 : Int) ≤ (0 : Int)) ∧ ((0 : Int) < ((l.length : Nat) : Int)) ∧ ((LstOk eGFact dGFact 14 14 l.length (lsEl eGFact zGFact l)) ∧ ((career_Of L2_ ((l.getD 0 zGFact).Person)).isSome = true) ∧ (wK K .normal (z46p0S ((((((career_Of L2_ ((l.getD 0 zGFact).Person)).getD ([] : List GFact))).length : Nat) : Int) == ((l.length : Nat) : Int)))))) else wK K .normal (z46p0S false)) else wK K .normal (z46p0S false)))) := by subst hL1_ hL2_; kernel_rfl
theorem z46p1ok (l : (List GFact)) (K : KT) (h : W (career_Valid_p1 l) (rE z46R K)) : EvL Try.prog 27 (List.drop 0 z46i0) K (z46p1S l) :=
  EvL.pD mixed (lookC_ok (l := [(34, .pure career_Merged_C), (36, .pure career_Of_C)]) ⟨career_Merged_ok, career_Of_ok, trivial⟩) [2] 0 2 2 (.of (z46p1nf l _ _ (RowIs.lst dGFact_eGFact (RowIs.ls eGFact zGFact l)) _ (RowIs.lst dGFact_eGFact (RowIs.ls eGFact zGFact l))) (⟨RowIs.ok dGFact_eGFact (RowIs.ls eGFact zGFact l), (W_bind false h fun hp0 h => (W_bif h (fun _ h => (W_bif h (fun _ h => (W_bif h (fun _ h => ⟨_, .refl _, (z46p0ok true _ h)⟩) (fun _ h => (W_gd2 h fun hp1 h => ⟨RowIs.ok dGFact_eGFact (RowIs.ls eGFact zGFact l), (W_bind ([] : List GFact) h fun hp2 h => ⟨_, .refl _, (z46p0ok ((((((career_Of l (l.getD 0 zGFact).Person).getD ([] : List GFact))).length : Nat) : Int) == ((l.length : Nat) : Int)) _ h)⟩)⟩)))) (fun _ h => ⟨_, .refl _, (z46p0ok false _ h)⟩))) (fun _ h => ⟨_, .refl _, (z46p0ok false _ h)⟩)))⟩))
noncomputable def career_Valid (l : (List GFact)) : Option (Bool) := career_Valid_p1 l
theorem z46run (l : (List GFact)) (y_ : Bool) (h : career_Valid l = some y_) : EvL Try.prog 27 (items (bodyOf Try.f46)) (retK Try.prog [.tmp 2] (OutOk (career_Valid_out y_))) (z46p1S l) :=
  z46p1ok l _ (W_iff.2 ⟨y_, h, z46Rok y_⟩)
noncomputable def career_Valid_C : Con
  | [(.c (.sl k1 n2 e3))] => some ([LstOk eGFact dGFact 14 k1 n2 e3, (career_Valid (lst dGFact n2 e3)).isSome = true], (career_Valid_out ((career_Valid (lst dGFact n2 e3)).getD false)))
  | _ => none
theorem career_Valid_ok : Meets Try.prog 46 career_Valid_C := by
  refine meets_fun (fn := Try.f46) (c := bodyOf Try.f46) (by kernel_rfl) (by kernel_rfl) (by kernel_rfl) (rs := [.tmp 2]) (by kernel_rfl) (nt := 27) (by kernel_rfl) fun vs p out h hp => ?_
  unfold career_Valid_C at h
  split at h
  · next k1 n2 e3 =>
    cases h
    obtain ⟨g0, hp⟩ := allq hp
    obtain ⟨g, hp⟩ := allq hp
    obtain ⟨x, hx⟩ := Option.isSome_iff_exists.1 g
    rw [hx]
    exact ⟨[(.c (.sl 14 ((lst dGFact n2 e3)).length (lsEl eGFact zGFact (lst dGFact n2 e3))))], (VLes.cons (VLe.slk g0.1 (RowIs.of_ok g0)) VLes.nil), rfl, z46run (lst dGFact n2 e3) x hx⟩
  · cases h

noncomputable def z47i0 : List Code := items (bodyOf Try.f47)
noncomputable def z47i1 : List Code := items (inside (inside (nthI z47i0 2)))
def z47R (x_1 : Bool) : St := { tm := [sv 2 (bl x_1)], hp := [], nx := 0 }
def ref12_Career_out (x_1 : Bool) : Out := .data (bl x_1)
theorem z47Rok (x_1 : Bool) : retK Try.prog [.tmp 2] (OutOk (ref12_Career_out x_1)) .ret (z47R x_1) :=
  retK.intro (v := (bl x_1)) (by kernel_rfl) ((VLe.rfl' _))
def z47l1S (l : (List GFact)) (s : (Int)) : St := match s with | i_1 => { tm := [sv 0 (.c (.sl 14 l.length (lsEl eGFact zGFact l))), sv 3 (i64 i_1)], hp := [], nx := 0 }
def z47l1C0 (l : (List GFact)) (s : Unit) : St := match s with | () => { tm := [sv 2 (bl false)], hp := [], nx := 0 }
def z47l1C1 (l : (List GFact)) (s : Unit) : St := match s with | () => { tm := [sv 0 (.c (.sl 14 l.length (lsEl eGFact zGFact l)))], hp := [], nx := 0 }
def z47l1E (l : (List GFact)) (r : ((Unit) ⊕ (Unit))) (K : KT) : Prop := match r with | (.inl s) => K .ret (z47l1C0 l s) | (.inr s) => K (.exit 0) (z47l1C1 l s)
def z47p0S (l : (List GFact)) (i_1 : Int) : St := { tm := [sv 0 (.c (.sl 14 l.length (lsEl eGFact zGFact l))), sv 3 (i64 i_1)], hp := [], nx := 0 }
noncomputable def ref12_Career_p0 (l : (List GFact)) (i_1 : Int) : Option ((Int) ⊕ ((Unit) ⊕ (Unit))) := (bif (decide (i_1 < ((l.length : Nat) : Int))) then gd ((0 : Int) ≤ i_1 ∧ i_1 < ((l.length : Nat) : Int)) (gd ((0 : Int) ≤ (0 : Int) ∧ (0 : Int) < ((l.length : Nat) : Int)) ((bif ((l.getD (Int.toNat i_1) zGFact).Person != (l.getD 0 zGFact).Person) then (some (Sum.inr (Sum.inl ()))) else (some (Sum.inl (w64 (i_1 + (1 : Int)))))))) else (some (Sum.inr (Sum.inr ()))))
theorem z47p0ok (l : (List GFact)) (i_1 : Int) (K : KT) (h : W (ref12_Career_p0 l i_1) (nE (z47l1S l) (z47l1E l) K)) : EvL Try.prog 27 (List.drop 0 z47i1) K (z47p0S l i_1) :=
  EvL.pE mixed (lookC_ok (l := []) trivial) [0, 2, 3, 24, 25] 0 4 (.nf (X := fun K => (bif (decide (i_1 < ((l.length : Nat) : Int))) then ((0 : Int) ≤ i_1) ∧ (i_1 < ((l.length : Nat) : Int)) ∧ ((0 : Int) ≤ (0 : Int)) ∧ ((0 : Int) < ((l.length : Nat) : Int)) ∧ ((bif ((l.getD (Int.toNat i_1) zGFact).Person != (l.getD 0 zGFact).Person) then wK K .ret ({ tm := [sv 0 (.c (.sl 14 l.length (lsEl eGFact zGFact l))), sv 2 (bl false), sv 3 (i64 i_1)], hp := [], nx := 0 }) else wK K .normal (z47l1S l (w64 (i_1 + (1 : Int)))))) else wK K (.exit 0) ({ tm := [sv 0 (.c (.sl 14 l.length (lsEl eGFact zGFact l))), sv 3 (i64 i_1)], hp := [], nx := 0 }))) (fun K => by kernel_rfl) (W_bif h (fun _ h => (W_gd2 h fun hp0 h => (W_gd2 h fun hp1 h => (W_bif h (fun _ h => ⟨(z47l1C0 l ()), (.of (.q rfl .nil) .nil rfl), h⟩) (fun _ h => ⟨_, .refl _, h⟩))))) (fun _ h => ⟨(z47l1C1 l ()), (.of (.q rfl .nil) .nil rfl), h⟩)))
noncomputable def ref12_Career_l1 (l : (List GFact)) (s : (Int)) : Option ((Int) ⊕ ((Unit) ⊕ (Unit))) := match s with | i_1 => ref12_Career_p0 l i_1
theorem z47l1ok (l : (List GFact)) (s : (Int)) : Pp Try.prog 27 (List.drop 0 z47i1) (z47l1S l s) (ref12_Career_l1 l s) (nextE (z47l1S l) (z47l1E l)) := fun K h => match s, h with | i_1, h => (z47p0ok l i_1 _ h)
theorem z47l1Ethen (l : (List GFact)) : ∀ (r : ((Unit) ⊕ (Unit))) (J : St → Prop) (K : KT), z47l1E l r K → z47l1E l r (thenK J K)
  | (.inl s), _, _, h => h
  | (.inr s), _, _, h => h
def z47p1S (l : (List GFact)) : St := { tm := [sv 0 (.c (.sl 14 l.length (lsEl eGFact zGFact l)))], hp := [], nx := 0 }
noncomputable def ref12_Career_p1 (l : (List GFact)) : Option (Bool) := gd (((decide (((l.length : Nat) : Int) ≤ (40 : Int))) && true) = true → (ref12_Merged l).isSome = true) ((some (bif (decide (((l.length : Nat) : Int) ≤ (40 : Int))) then ((ref12_Merged l).getD false) else false)))
theorem z47p1nf (l : (List GFact)) (K : KT) (L1_ : List GFact) (hL1_ : lst dGFact l.length (lsEl eGFact zGFact l) = L1_) :
    ev Try.prog (lookC [(35, .pure ref12_Merged_C)]) 27 (ofItems ((List.drop 3 z47i0).take 2)) (cN [2] K) (z47p1S l) =
    ((((decide (((l.length : Nat) : Int) ≤ (40 : Int))) && true) = true → LstOk eGFact dGFact 14 14 l.length (lsEl eGFact zGFact l)) ∧ (((decide (((l.length : Nat) : Int) ≤ (40 : Int))) && true) = true → (ref12_Merged L1_).isSome = true) ∧ (wK K .ret (z47R (bif (decide (((l.length : Nat) : Int) ≤ (40 : Int))) then ((ref12_Merged L1_).getD false) else false)))) := by subst hL1_; kernel_rfl
theorem z47p1ok (l : (List GFact)) (K : KT) (h : W (ref12_Career_p1 l) (rE z47R K)) : EvL Try.prog 27 (List.drop 3 z47i0) K (z47p1S l) :=
  EvL.pE mixed (lookC_ok (l := [(35, .pure ref12_Merged_C)]) ⟨ref12_Merged_ok, trivial⟩) [2] 3 2 (.of (z47p1nf l _ _ (RowIs.lst dGFact_eGFact (RowIs.ls eGFact zGFact l))) (⟨(fun _ => RowIs.ok dGFact_eGFact (RowIs.ls eGFact zGFact l)), (W_gd h fun hp0 h => ⟨_, .refl _, h⟩)⟩))
def z47p2S (l : (List GFact)) : St := { tm := [sv 0 (.c (.sl 14 l.length (lsEl eGFact zGFact l))), sv 3 (i64 (1 : Int))], hp := [], nx := 0 }
noncomputable def ref12_Career_p2_g (l : (List GFact)) (r : ((Unit) ⊕ (Unit))) : Option (Bool) := match r with | (.inl ()) => (some false) | (.inr ()) => (ref12_Career_p1 l)
noncomputable def ref12_Career_p2 (l : (List GFact)) : Option (Bool) := (fixL (ref12_Career_l1 l) (1 : Int)).bind (ref12_Career_p2_g l)
theorem z47p2at : List.drop 2 z47i0 = .block 0 (.loop (inside (inside (nthI z47i0 2)))) :: List.drop 3 z47i0 := by kernel_rfl
theorem z47p2k (l : (List GFact)) (K : KT) : ∀ r : ((Unit) ⊕ (Unit)), W (ref12_Career_p2_g l r) (rE z47R K) → z47l1E l r (wK (blockK 0 (thenK (EvL Try.prog 27 (List.drop 3 z47i0) K) K)))
  | (.inl ()), h => ⟨(z47R false), (.refl _), h⟩
  | (.inr ()), h => ⟨(z47p1S l), (.refl _), (z47p1ok l _ h)⟩
theorem z47p2ok (l : (List GFact)) (K : KT) (h : W (ref12_Career_p2 l) (rE z47R K)) : EvL Try.prog 27 (List.drop 2 z47i0) K (z47p2S l) :=
  EvL.at_ z47p2at (EvL.cons_loop (EvOk.weak (EvOk.ent (.refl _) (EvOk.loopF (x := inside (inside (nthI z47i0 2))) (f := ref12_Career_l1 l) (emb := z47l1S l) (E := z47l1E l) (z47l1ok l) (z47l1Ethen l) (W_loop h (z47p2k l K))))))
def z47p3S (l : (List GFact)) : St := { tm := [sv 0 (.c (.sl 14 l.length (lsEl eGFact zGFact l)))], hp := [], nx := 0 }
noncomputable def ref12_Career_p3 (l : (List GFact)) : Option (Bool) := (ref12_Career_p2 l)
theorem z47p3ok (l : (List GFact)) (K : KT) (h : W (ref12_Career_p3 l) (rE z47R K)) : EvL Try.prog 27 (List.drop 0 z47i0) K (z47p3S l) :=
  EvL.pD mixed (lookC_ok (l := []) trivial) [0, 3, 24, 25] 0 2 2 (.nf (X := fun K => wK K .normal (z47p2S l)) (fun K => by kernel_rfl) (⟨_, .refl _, (z47p2ok l _ h)⟩))
noncomputable def ref12_Career (l : (List GFact)) : Option (Bool) := ref12_Career_p3 l
theorem z47run (l : (List GFact)) (y_ : Bool) (h : ref12_Career l = some y_) : EvL Try.prog 27 (items (bodyOf Try.f47)) (retK Try.prog [.tmp 2] (OutOk (ref12_Career_out y_))) (z47p3S l) :=
  z47p3ok l _ (W_iff.2 ⟨y_, h, z47Rok y_⟩)
noncomputable def ref12_Career_C : Con
  | [(.c (.sl k1 n2 e3))] => some ([LstOk eGFact dGFact 14 k1 n2 e3, (ref12_Career (lst dGFact n2 e3)).isSome = true], (ref12_Career_out ((ref12_Career (lst dGFact n2 e3)).getD false)))
  | _ => none
theorem ref12_Career_ok : Meets Try.prog 47 ref12_Career_C := by
  refine meets_fun (fn := Try.f47) (c := bodyOf Try.f47) (by kernel_rfl) (by kernel_rfl) (by kernel_rfl) (rs := [.tmp 2]) (by kernel_rfl) (nt := 27) (by kernel_rfl) fun vs p out h hp => ?_
  unfold ref12_Career_C at h
  split at h
  · next k1 n2 e3 =>
    cases h
    obtain ⟨g0, hp⟩ := allq hp
    obtain ⟨g, hp⟩ := allq hp
    obtain ⟨x, hx⟩ := Option.isSome_iff_exists.1 g
    rw [hx]
    exact ⟨[(.c (.sl 14 ((lst dGFact n2 e3)).length (lsEl eGFact zGFact (lst dGFact n2 e3))))], (VLes.cons (VLe.slk g0.1 (RowIs.of_ok g0)) VLes.nil), rfl, z47run (lst dGFact n2 e3) x hx⟩
  · cases h

noncomputable def z86_1i0 : List Code := items (bodyOf Try.f86)
noncomputable def z86_1i1 : List Code := items (inside (inside (nthI z86_1i0 3)))
def z86_1R (x_1 : (List GFact)) : St := { tm := [sv 4 (.row 0 14 0 x_1.length)], hp := [(0, some (.row 27 14 x_1.length (lsEl eGFact zGFact x_1)))], nx := 1 }
def career_filter_current_out (x_1 : (List GFact)) : Out := .own true 27 14 (x_1).length (lsEl eGFact zGFact x_1)
theorem z86_1Rok (x_1 : (List GFact)) : retK Try.prog [.tmp 4] (OutOk (career_filter_current_out x_1)) .ret (z86_1R x_1) :=
  retK.intro (v := (.row 0 14 0 x_1.length)) (by kernel_rfl) (⟨_, _, _, rfl, rfl, rfl, fun _ _ => rfl, fun _ i hi d hd => scal_GFact _ d hd⟩)
def z86_1l1S (l : (List GFact)) (s : ((List GFact) × Int)) : St := match s with | (out_1, t10) => { tm := [sv 1 (.fn 93 []), sv 5 (.row 0 14 0 out_1.length), sv 8 (.c (.sl 14 l.length (lsEl eGFact zGFact l))), sv 9 (i64 ((l.length : Nat) : Int)), sv 10 (i64 t10)], hp := [(0, some (.row 27 14 out_1.length (lsEl eGFact zGFact out_1)))], nx := 1 }
def z86_1l1C0 (l : (List GFact)) (s : (List GFact)) : St := match s with | out_2 => { tm := [sv 5 (.row 0 14 0 out_2.length)], hp := [(0, some (.row 27 14 out_2.length (lsEl eGFact zGFact out_2)))], nx := 1 }
def z86_1l1E (l : (List GFact)) (r : (((List GFact)))) (K : KT) : Prop := match r with | s => K (.exit 0) (z86_1l1C0 l s)
def z86_1p0S (out_1 l : (List GFact)) (t10 : Int) : St := { tm := [sv 1 (.fn 93 []), sv 5 (.row 0 14 0 out_1.length), sv 8 (.c (.sl 14 l.length (lsEl eGFact zGFact l))), sv 9 (i64 ((l.length : Nat) : Int)), sv 10 (i64 t10)], hp := [(0, some (.row 27 14 out_1.length (lsEl eGFact zGFact out_1)))], nx := 1 }
noncomputable def career_filter_current_p0 (out_1 l : (List GFact)) (t10 : Int) : Option (((List GFact) × Int) ⊕ (((List GFact)))) := (bif (decide (t10 < ((l.length : Nat) : Int))) then gd ((0 : Int) ≤ t10 ∧ t10 < ((l.length : Nat) : Int)) ((career_current (l.getD (Int.toNat t10) zGFact)).bind fun r_1 => ((bif r_1 then gd (capB (out_1.length + 1) 112) ((some (Sum.inl ((out_1 ++ ([(l.getD (Int.toNat t10) zGFact)] : List GFact)), (w64 (t10 + (1 : Int))))))) else (some (Sum.inl (out_1, (w64 (t10 + (1 : Int))))))))) else (some (Sum.inr out_1)))
theorem z86_1p0ok (out_1 l : (List GFact)) (t10 : Int) (K : KT) (h : W (career_filter_current_p0 out_1 l t10) (nE (z86_1l1S l) (z86_1l1E l) K)) : EvL Try.prog 23 (List.drop 0 z86_1i1) K (z86_1p0S out_1 l t10) :=
  EvL.pE mixed (lookC_ok (l := [(93, .pure career_current_C)]) ⟨career_current_ok, trivial⟩) [1, 5, 8, 9, 10] 0 4 (.nf (X := fun K => (bif (decide (t10 < ((l.length : Nat) : Int))) then ((0 : Int) ≤ t10) ∧ (t10 < ((l.length : Nat) : Int)) ∧ (((career_current (l.getD (Int.toNat t10) zGFact)).isSome = true) ∧ ((bif ((career_current (l.getD (Int.toNat t10) zGFact)).getD false) then (out_1.length = out_1.length) ∧ ((out_1.length + 1) * 112 ≤ 70368744177664) ∧ ((out_1.length + 1) ≤ 70368744177664) ∧ (wK K .normal ({ tm := [sv 1 (.fn 93 []), sv 5 (.row 0 14 0 (out_1.length + 1)), sv 8 (.c (.sl 14 l.length (lsEl eGFact zGFact l))), sv 9 (i64 ((l.length : Nat) : Int)), sv 10 (i64 (w64 (t10 + (1 : Int))))], hp := [(0, some (.row 27 14 (out_1.length + 1) (fun i => bif Nat.blt i out_1.length then (lsEl eGFact zGFact out_1) i else (fun i => (litE 14 (eGFact (l.getD (Int.toNat t10) zGFact))) (0 + i)) (i - out_1.length))))], nx := 1 })) else wK K .normal (z86_1l1S l (out_1, (w64 (t10 + (1 : Int)))))))) else wK K (.exit 0) ({ tm := [sv 1 (.fn 93 []), sv 5 (.row 0 14 0 out_1.length), sv 8 (.c (.sl 14 l.length (lsEl eGFact zGFact l))), sv 9 (i64 ((l.length : Nat) : Int)), sv 10 (i64 t10)], hp := [(0, some (.row 27 14 out_1.length (lsEl eGFact zGFact out_1)))], nx := 1 }))) (fun K => by kernel_rfl) (W_bif h (fun _ h => (W_gd2 h fun hp0 h => (W_bind false h fun hp1 h => (W_bif h (fun _ h => ⟨rfl, (W_gd2 h fun hp2 h => ⟨(z86_1l1S l ((out_1 ++ ([(l.getD (Int.toNat t10) zGFact)] : List GFact)), (w64 (t10 + (1 : Int))))), (.of (.q rfl (.cons rfl (.rown (len_app rfl rfl)) (.q rfl (.q rfl (.q rfl .nil))))) (.row rfl (RowIs.app (RowIs.ls eGFact zGFact out_1) (RowIs.zero (RowIs.l1 (enc := eGFact) (z := zGFact) 14 (l.getD (Int.toNat t10) zGFact) rfl))) .nil rfl) rfl), h⟩)⟩) (fun _ h => ⟨_, .refl _, h⟩))))) (fun _ h => ⟨(z86_1l1C0 l out_1), (.of (.q rfl .nil) (.same rfl .nil) rfl), h⟩)))
noncomputable def career_filter_current_l1 (l : (List GFact)) (s : ((List GFact) × Int)) : Option (((List GFact) × Int) ⊕ (((List GFact)))) := match s with | (out_1, t10) => career_filter_current_p0 out_1 l t10
theorem z86_1l1ok (l : (List GFact)) (s : ((List GFact) × Int)) : Pp Try.prog 23 (List.drop 0 z86_1i1) (z86_1l1S l s) (career_filter_current_l1 l s) (nextE (z86_1l1S l) (z86_1l1E l)) := fun K h => match s, h with | (out_1, t10), h => (z86_1p0ok out_1 l t10 _ h)
theorem z86_1l1Ethen (l : (List GFact)) : ∀ (r : (((List GFact)))) (J : St → Prop) (K : KT), z86_1l1E l r K → z86_1l1E l r (thenK J K)
  | s, _, _, h => h
def z86_1p1S (out_3 : (List GFact)) : St := { tm := [sv 5 (.row 0 14 0 out_3.length)], hp := [(0, some (.row 27 14 out_3.length (lsEl eGFact zGFact out_3)))], nx := 1 }
noncomputable def career_filter_current_p1 (out_3 : (List GFact)) : Option ((List GFact)) := (some out_3)
theorem z86_1p1ok (out_3 : (List GFact)) (K : KT) (h : W (career_filter_current_p1 out_3) (rE z86_1R K)) : EvL Try.prog 23 (List.drop 4 z86_1i0) K (z86_1p1S out_3) :=
  EvL.pE mixed (lookC_ok (l := []) trivial) [4] 4 2 (.nf (X := fun K => wK K .ret (z86_1R out_3)) (fun K => by kernel_rfl) (⟨_, .refl _, h⟩))
def z86_1p2S (l : (List GFact)) : St := { tm := [sv 1 (.fn 93 []), sv 5 (.c .nil), sv 8 (.c (.sl 14 l.length (lsEl eGFact zGFact l))), sv 9 (i64 ((l.length : Nat) : Int)), sv 10 (i64 (0 : Int))], hp := [], nx := 0 }
noncomputable def career_filter_current_p2_g (l : (List GFact)) (r : (((List GFact)))) : Option ((List GFact)) := match r with | out_2 => (career_filter_current_p1 out_2)
noncomputable def career_filter_current_p2 (l : (List GFact)) : Option ((List GFact)) := (fixL (career_filter_current_l1 l) (([] : List GFact), (0 : Int))).bind (career_filter_current_p2_g l)
theorem z86_1p2at : List.drop 3 z86_1i0 = .block 0 (.loop (inside (inside (nthI z86_1i0 3)))) :: List.drop 4 z86_1i0 := by kernel_rfl
theorem z86_1p2k (l : (List GFact)) (K : KT) : ∀ r : (((List GFact))), W (career_filter_current_p2_g l r) (rE z86_1R K) → z86_1l1E l r (wK (blockK 0 (thenK (EvL Try.prog 23 (List.drop 4 z86_1i0) K) K)))
  | out_2, h => ⟨(z86_1p1S out_2), (.refl _), (z86_1p1ok out_2 _ h)⟩
theorem z86_1p2ok (l : (List GFact)) (K : KT) (h : W (career_filter_current_p2 l) (rE z86_1R K)) : EvL Try.prog 23 (List.drop 3 z86_1i0) K (z86_1p2S l) :=
  EvL.at_ z86_1p2at (EvL.cons_loop (EvOk.weak (EvOk.ent (.trans (.nilrow 5 0 27 14 (lsEl eGFact zGFact []) (Nat.le_of_ble_eq_true rfl) rfl) (.cn [1, 5, 8, 9, 10])) (EvOk.loopF (x := inside (inside (nthI z86_1i0 3))) (f := career_filter_current_l1 l) (emb := z86_1l1S l) (E := z86_1l1E l) (z86_1l1ok l) (z86_1l1Ethen l) (W_loop h (z86_1p2k l K))))))
def z86_1p3S (l : (List GFact)) : St := { tm := [sv 0 (.c (.sl 14 l.length (lsEl eGFact zGFact l))), sv 1 (.fn 93 [])], hp := [], nx := 0 }
noncomputable def career_filter_current_p3 (l : (List GFact)) : Option ((List GFact)) := (career_filter_current_p2 l)
theorem z86_1p3ok (l : (List GFact)) (K : KT) (h : W (career_filter_current_p3 l) (rE z86_1R K)) : EvL Try.prog 23 (List.drop 0 z86_1i0) K (z86_1p3S l) :=
  EvL.pD mixed (lookC_ok (l := []) trivial) [1, 5, 8, 9, 10] 0 3 3 (.nf (X := fun K => wK K .normal (z86_1p2S l)) (fun K => by kernel_rfl) (⟨_, .refl _, (z86_1p2ok l _ h)⟩))
noncomputable def career_filter_current (l : (List GFact)) : Option ((List GFact)) := career_filter_current_p3 l
theorem z86_1run (l : (List GFact)) (y_ : (List GFact)) (h : career_filter_current l = some y_) : EvL Try.prog 23 (items (bodyOf Try.f86)) (retK Try.prog [.tmp 4] (OutOk (career_filter_current_out y_))) (z86_1p3S l) :=
  z86_1p3ok l _ (W_iff.2 ⟨y_, h, z86_1Rok y_⟩)
noncomputable def career_filter_current_C : Con
  | [(.c (.sl k1 n2 e3)), (.fn 93 [])] => some ([LstOk eGFact dGFact 14 k1 n2 e3, (career_filter_current (lst dGFact n2 e3)).isSome = true], (career_filter_current_out ((career_filter_current (lst dGFact n2 e3)).getD ([] : List GFact))))
  | _ => none
theorem career_filter_current_ok : Meets Try.prog 86 career_filter_current_C := by
  refine meets_fun (fn := Try.f86) (c := bodyOf Try.f86) (by kernel_rfl) (by kernel_rfl) (by kernel_rfl) (rs := [.tmp 4]) (by kernel_rfl) (nt := 23) (by kernel_rfl) fun vs p out h hp => ?_
  unfold career_filter_current_C at h
  split at h
  · next k1 n2 e3 =>
    cases h
    obtain ⟨g0, hp⟩ := allq hp
    obtain ⟨g, hp⟩ := allq hp
    obtain ⟨x, hx⟩ := Option.isSome_iff_exists.1 g
    rw [hx]
    exact ⟨[(.c (.sl 14 ((lst dGFact n2 e3)).length (lsEl eGFact zGFact (lst dGFact n2 e3)))), (.fn 93 [])], (VLes.cons (VLe.slk g0.1 (RowIs.of_ok g0)) (VLes.cons (VLe.rfl' _) VLes.nil)), rfl, z86_1run (lst dGFact n2 e3) x hx⟩
  · cases h

noncomputable def z48i0 : List Code := items (bodyOf Try.f48)
def z48R (x_1 : (List GFact)) : St := { tm := [sv 2 (.row 0 14 0 x_1.length)], hp := [(0, some (.row 27 14 x_1.length (lsEl eGFact zGFact x_1)))], nx := 1 }
def career_Current_out (x_1 : (List GFact)) : Out := .own true 27 14 (x_1).length (lsEl eGFact zGFact x_1)
theorem z48Rok (x_1 : (List GFact)) : retK Try.prog [.tmp 2] (OutOk (career_Current_out x_1)) .ret (z48R x_1) :=
  retK.intro (v := (.row 0 14 0 x_1.length)) (by kernel_rfl) (⟨_, _, _, rfl, rfl, rfl, fun _ _ => rfl, fun _ i hi d hd => scal_GFact _ d hd⟩)
def z48p0S (l : (List GFact)) : St := { tm := [sv 0 (.c (.sl 14 l.length (lsEl eGFact zGFact l)))], hp := [], nx := 0 }
noncomputable def career_Current_p0 (l : (List GFact)) : Option ((List GFact)) := (career_filter_current l).bind fun r_1 => ((some r_1))
theorem z48p0nf (l : (List GFact)) (K : KT) (L1_ : List GFact) (hL1_ : lst dGFact l.length (lsEl eGFact zGFact l) = L1_) :
    ev Try.prog (lookC [(86, .pure career_filter_current_C)]) 5 (ofItems ((List.drop 0 z48i0).take 3)) (cN [2] K) (z48p0S l) =
    ((LstOk eGFact dGFact 14 14 l.length (lsEl eGFact zGFact l)) ∧ ((career_filter_current L1_).isSome = true) ∧ (wK K .ret (z48R ((career_filter_current L1_).getD ([] : List GFact))))) := by subst hL1_; kernel_rfl
theorem z48p0ok (l : (List GFact)) (K : KT) (h : W (career_Current_p0 l) (rE z48R K)) : EvL Try.prog 5 (List.drop 0 z48i0) K (z48p0S l) :=
  EvL.pE mixed (lookC_ok (l := [(86, .pure career_filter_current_C)]) ⟨career_filter_current_ok, trivial⟩) [2] 0 3 (.of (z48p0nf l _ _ (RowIs.lst dGFact_eGFact (RowIs.ls eGFact zGFact l))) (⟨RowIs.ok dGFact_eGFact (RowIs.ls eGFact zGFact l), (W_bind ([] : List GFact) h fun hp0 h => ⟨_, .refl _, h⟩)⟩))
noncomputable def career_Current (l : (List GFact)) : Option ((List GFact)) := career_Current_p0 l
theorem z48run (l : (List GFact)) (y_ : (List GFact)) (h : career_Current l = some y_) : EvL Try.prog 5 (items (bodyOf Try.f48)) (retK Try.prog [.tmp 2] (OutOk (career_Current_out y_))) (z48p0S l) :=
  z48p0ok l _ (W_iff.2 ⟨y_, h, z48Rok y_⟩)
noncomputable def career_Current_C : Con
  | [(.c (.sl k1 n2 e3))] => some ([LstOk eGFact dGFact 14 k1 n2 e3, (career_Current (lst dGFact n2 e3)).isSome = true], (career_Current_out ((career_Current (lst dGFact n2 e3)).getD ([] : List GFact))))
  | _ => none
theorem career_Current_ok : Meets Try.prog 48 career_Current_C := by
  refine meets_fun (fn := Try.f48) (c := bodyOf Try.f48) (by kernel_rfl) (by kernel_rfl) (by kernel_rfl) (rs := [.tmp 2]) (by kernel_rfl) (nt := 5) (by kernel_rfl) fun vs p out h hp => ?_
  unfold career_Current_C at h
  split at h
  · next k1 n2 e3 =>
    cases h
    obtain ⟨g0, hp⟩ := allq hp
    obtain ⟨g, hp⟩ := allq hp
    obtain ⟨x, hx⟩ := Option.isSome_iff_exists.1 g
    rw [hx]
    exact ⟨[(.c (.sl 14 ((lst dGFact n2 e3)).length (lsEl eGFact zGFact (lst dGFact n2 e3))))], (VLes.cons (VLe.slk g0.1 (RowIs.of_ok g0)) VLes.nil), rfl, z48run (lst dGFact n2 e3) x hx⟩
  · cases h

noncomputable def z12i0 : List Code := items (bodyOf Try.f12)
def z12R (x_1 : Bool) : St := { tm := [sv 8 (bl x_1)], hp := [], nx := 0 }
def law13_CareerSelects_out (x_1 : Bool) : Out := .data (bl x_1)
theorem z12Rok (x_1 : Bool) : retK Try.prog [.tmp 8] (OutOk (law13_CareerSelects_out x_1)) .ret (z12R x_1) :=
  retK.intro (v := (bl x_1)) (by kernel_rfl) ((VLe.rfl' _))
def z12p0S (t8 : Bool) : St := { tm := [sv 8 (bl t8)], hp := [], nx := 0 }
noncomputable def law13_CareerSelects_p0 (t8 : Bool) : Option (Bool) := (some t8)
theorem z12p0ok (t8 : Bool) (K : KT) (h : W (law13_CareerSelects_p0 t8) (rE z12R K)) : EvL Try.prog 46 (List.drop 6 z12i0) K (z12p0S t8) :=
  EvL.pE mixed (lookC_ok (l := []) trivial) [8] 6 1 (.nf (X := fun K => wK K .ret (z12R t8)) (fun K => by kernel_rfl) (⟨_, .refl _, h⟩))
def z12p1S (person : Int) (a : (List GFact)) : St := { tm := [sv 2 (i64 person), sv 9 (.row 0 14 0 a.length)], hp := [(0, some (.row 27 14 a.length (lsEl eGFact zGFact a)))], nx := 1 }
noncomputable def law13_CareerSelects_p1 (person : Int) (a : (List GFact)) : Option (Bool) := (made_Pick person (6 : Int)).bind fun r_5 => ((law13_awake).bind fun r_6 => ((bif r_6 then (career_Of a r_5).bind fun r_7 => ((ref12_Of a r_5).bind fun r_8 => ((ref12_SameFacts r_7 r_8).bind fun r_9 => ((bif r_9 then (career_Valid a).bind fun r_10 => ((ref12_Career a).bind fun r_11 => ((bif (r_10 == r_11) then (career_Current a).bind fun r_12 => ((ref12_Current a).bind fun r_13 => ((ref12_SameFacts r_12 r_13).bind fun r_14 => ((law13_CareerSelects_p0 r_14)))) else (law13_CareerSelects_p0 false)))) else (law13_CareerSelects_p0 false))))) else (law13_CareerSelects_p0 false))))
theorem z12p1nf (person : Int) (a : (List GFact)) (K : KT) (L1_ : List GFact) (hL1_ : lst dGFact a.length (fun i => (lsEl eGFact zGFact a) (0 + i)) = L1_) (L2_ : List GFact) (hL2_ : lst dGFact a.length (fun i => (lsEl eGFact zGFact a) (0 + i)) = L2_) (L3_ : List GFact) (hL3_ : lst dGFact ((((career_Of L1_ ((made_Pick person (6 : Int)).getD (0 : Int))).getD ([] : List GFact))).length) (fun i => (lsEl eGFact zGFact ((career_Of L1_ ((made_Pick person (6 : Int)).getD (0 : Int))).getD ([] : List GFact))) (0 + i)) = L3_) (L4_ : List GFact) (hL4_ : lst dGFact ((((ref12_Of L2_ ((made_Pick person (6 : Int)).getD (0 : Int))).getD ([] : List GFact))).length) (fun i => (lsEl eGFact zGFact ((ref12_Of L2_ ((made_Pick person (6 : Int)).getD (0 : Int))).getD ([] : List GFact))) (0 + i)) = L4_) (L5_ : List GFact) (hL5_ : lst dGFact a.length (fun i => (lsEl eGFact zGFact a) (0 + i)) = L5_) (L6_ : List GFact) (hL6_ : lst dGFact a.length (fun i => (lsEl eGFact zGFact a) (0 + i)) = L6_) (L7_ : List GFact) (hL7_ : lst dGFact a.length (fun i => (lsEl eGFact zGFact a) (0 + i)) = L7_) (L8_ : List GFact) (hL8_ : lst dGFact a.length (fun i => (lsEl eGFact zGFact a) (0 + i)) = L8_) (L9_ : List GFact) (hL9_ : lst dGFact ((((career_Current L7_).getD ([] : List GFact))).length) (fun i => (lsEl eGFact zGFact ((career_Current L7_).getD ([] : List GFact))) (0 + i)) = L9_) (L10_ : List GFact) (hL10_ : lst dGFact ((((ref12_Current L8_).getD ([] : List GFact))).length) (fun i => (lsEl eGFact zGFact ((ref12_Current L8_).getD ([] : List GFact))) (0 + i)) = L10_) :
    ev Try.prog (lookC [(23, .pure made_Pick_C), (28, .pure ref12_SameFacts_C), (30, .pure law13_awake_C), (36, .pure career_Of_C), (45, .pure ref12_Of_C), (46, .pure career_Valid_C), (47, .pure ref12_Career_C), (48, .pure career_Current_C), (49, .pure ref12_Current_C)]) 46 (ofItems ((List.drop 4 z12i0).take 2)) (cN [8] K) (z12p1S person a) =
    (((made_Pick person (6 : Int)).isSome = true) ∧ (((law13_awake).isSome = true) ∧ ((bif ((law13_awake).getD false) then (LstOk eGFact dGFact 14 14 a.length (fun i => (lsEl eGFact zGFact a) (0 + i))) ∧ ((career_Of L1_ ((made_Pick person (6 : Int)).getD (0 : Int))).isSome = true) ∧ ((LstOk eGFact dGFact 14 14 a.length (fun i => (lsEl eGFact zGFact a) (0 + i))) ∧ ((ref12_Of L2_ ((made_Pick person (6 : Int)).getD (0 : Int))).isSome = true) ∧ ((LstOk eGFact dGFact 14 14 ((((career_Of L1_ ((made_Pick person (6 : Int)).getD (0 : Int))).getD ([] : List GFact))).length) (fun i => (lsEl eGFact zGFact ((career_Of L1_ ((made_Pick person (6 : Int)).getD (0 : Int))).getD ([] : List GFact))) (0 + i))) ∧ (LstOk eGFact dGFact 14 14 ((((ref12_Of L2_ ((made_Pick person (6 : Int)).getD (0 : Int))).getD ([] : List GFact))).length) (fun i => (lsEl eGFact zGFact ((ref12_Of L2_ ((made_Pick person (6 : Int)).getD (0 : Int))).getD ([] : List GFact))) (0 + i))) ∧ ((ref12_SameFacts L3_ L4_).isSome = true) ∧ ((bif ((ref12_SameFacts L3_ L4_).getD false) then (LstOk eGFact dGFact 14 14 a.length (fun i => (lsEl eGFact zGFact a) (0 + i))) ∧ ((career_Valid L5_).isSome = true) ∧ ((LstOk eGFact dGFact 14 14 a.length (fun i => (lsEl eGFact zGFact a) (0 + i))) ∧ ((ref12_Career L6_).isSome = true) ∧ ((bif (((career_Valid L5_).getD false) == ((ref12_Career L6_).getD false)) then (LstOk eGFact dGFact 14 14 a.length (fun i => (lsEl eGFact zGFact a) (0 + i))) ∧ ((career_Current L7_).isSome = true) ∧ ((LstOk eGFact dGFact 14 14 a.length (fun i => (lsEl eGFact zGFact a) (0 + i))) ∧ ((ref12_Current L8_).isSome = true) ∧ ((LstOk eGFact dGFact 14 14 ((((career_Current L7_).getD ([] : List GFact))).length) (fun i => (lsEl eGFact zGFact ((career_Current L7_).getD ([] : List GFact))) (0 + i))) ∧ (LstOk eGFact dGFact 14 14 ((((ref12_Current L8_).getD ([] : List GFact))).length) (fun i => (lsEl eGFact zGFact ((ref12_Current L8_).getD ([] : List GFact))) (0 + i))) ∧ ((ref12_SameFacts L9_ L10_).isSome = true) ∧ (wK K .normal (z12p0S ((ref12_SameFacts L9_ L10_).getD false))))) else wK K .normal (z12p0S false)))) else wK K .normal (z12p0S false))))) else wK K .normal (z12p0S false))))) := by subst hL1_ hL2_ hL3_ hL4_ hL5_ hL6_ hL7_ hL8_ hL9_ hL10_; kernel_rfl
theorem z12p1ok (person : Int) (a : (List GFact)) (K : KT) (h : W (law13_CareerSelects_p1 person a) (rE z12R K)) : EvL Try.prog 46 (List.drop 4 z12i0) K (z12p1S person a) :=
  EvL.pD mixed (lookC_ok (l := [(23, .pure made_Pick_C), (28, .pure ref12_SameFacts_C), (30, .pure law13_awake_C), (36, .pure career_Of_C), (45, .pure ref12_Of_C), (46, .pure career_Valid_C), (47, .pure ref12_Career_C), (48, .pure career_Current_C), (49, .pure ref12_Current_C)]) ⟨made_Pick_ok, ref12_SameFacts_ok, law13_awake_ok, career_Of_ok, ref12_Of_ok, career_Valid_ok, ref12_Career_ok, career_Current_ok, ref12_Current_ok, trivial⟩) [8] 4 2 6 (.of (z12p1nf person a _ _ (RowIs.lst dGFact_eGFact (RowIs.zero (RowIs.ls eGFact zGFact a))) _ (RowIs.lst dGFact_eGFact (RowIs.zero (RowIs.ls eGFact zGFact a))) _ (RowIs.lst dGFact_eGFact (RowIs.zero (RowIs.ls eGFact zGFact ((career_Of a ((made_Pick person (6 : Int)).getD (0 : Int))).getD ([] : List GFact))))) _ (RowIs.lst dGFact_eGFact (RowIs.zero (RowIs.ls eGFact zGFact ((ref12_Of a ((made_Pick person (6 : Int)).getD (0 : Int))).getD ([] : List GFact))))) _ (RowIs.lst dGFact_eGFact (RowIs.zero (RowIs.ls eGFact zGFact a))) _ (RowIs.lst dGFact_eGFact (RowIs.zero (RowIs.ls eGFact zGFact a))) _ (RowIs.lst dGFact_eGFact (RowIs.zero (RowIs.ls eGFact zGFact a))) _ (RowIs.lst dGFact_eGFact (RowIs.zero (RowIs.ls eGFact zGFact a))) _ (RowIs.lst dGFact_eGFact (RowIs.zero (RowIs.ls eGFact zGFact ((career_Current a).getD ([] : List GFact))))) _ (RowIs.lst dGFact_eGFact (RowIs.zero (RowIs.ls eGFact zGFact ((ref12_Current a).getD ([] : List GFact)))))) (W_bind (0 : Int) h fun hp0 h => (W_bind false h fun hp1 h => (W_bif h (fun _ h => ⟨RowIs.ok dGFact_eGFact (RowIs.zero (RowIs.ls eGFact zGFact a)), (W_bind ([] : List GFact) h fun hp2 h => ⟨RowIs.ok dGFact_eGFact (RowIs.zero (RowIs.ls eGFact zGFact a)), (W_bind ([] : List GFact) h fun hp3 h => ⟨RowIs.ok dGFact_eGFact (RowIs.zero (RowIs.ls eGFact zGFact ((career_Of a ((made_Pick person (6 : Int)).getD (0 : Int))).getD ([] : List GFact)))), ⟨RowIs.ok dGFact_eGFact (RowIs.zero (RowIs.ls eGFact zGFact ((ref12_Of a ((made_Pick person (6 : Int)).getD (0 : Int))).getD ([] : List GFact)))), (W_bind false h fun hp4 h => (W_bif h (fun _ h => ⟨RowIs.ok dGFact_eGFact (RowIs.zero (RowIs.ls eGFact zGFact a)), (W_bind false h fun hp5 h => ⟨RowIs.ok dGFact_eGFact (RowIs.zero (RowIs.ls eGFact zGFact a)), (W_bind false h fun hp6 h => (W_bif h (fun _ h => ⟨RowIs.ok dGFact_eGFact (RowIs.zero (RowIs.ls eGFact zGFact a)), (W_bind ([] : List GFact) h fun hp7 h => ⟨RowIs.ok dGFact_eGFact (RowIs.zero (RowIs.ls eGFact zGFact a)), (W_bind ([] : List GFact) h fun hp8 h => ⟨RowIs.ok dGFact_eGFact (RowIs.zero (RowIs.ls eGFact zGFact ((career_Current a).getD ([] : List GFact)))), ⟨RowIs.ok dGFact_eGFact (RowIs.zero (RowIs.ls eGFact zGFact ((ref12_Current a).getD ([] : List GFact)))), (W_bind false h fun hp9 h => ⟨_, .refl _, (z12p0ok ((ref12_SameFacts ((career_Current a).getD ([] : List GFact)) ((ref12_Current a).getD ([] : List GFact))).getD false) _ h)⟩)⟩⟩)⟩)⟩) (fun _ h => ⟨_, .refl _, (z12p0ok false _ h)⟩)))⟩)⟩) (fun _ h => ⟨_, .refl _, (z12p0ok false _ h)⟩)))⟩⟩)⟩)⟩) (fun _ h => ⟨_, .refl _, (z12p0ok false _ h)⟩)))))
def z12p2S (l : (List GPensionhand_Fact)) (near person : Int) (sorted : Bool) : St := { tm := [sv 0 (.c (.sl 13 l.length (lsEl eGPensionhand_Fact zGPensionhand_Fact l))), sv 1 (i64 near), sv 2 (i64 person), sv 3 (bl sorted)], hp := [], nx := 0 }
noncomputable def law13_CareerSelects_p2 (l : (List GPensionhand_Fact)) (near person : Int) (sorted : Bool) : Option (Bool) := (law13_facts l near).bind fun r_1 => ((bif sorted then (ref12_Merge r_1 ([] : List GFact)).bind fun r_2 => ((made_Pick person (4 : Int)).bind fun r_3 => ((ref12_Of r_2 (w64 ((1 : Int) + r_3))).bind fun r_4 => ((law13_CareerSelects_p1 person r_4)))) else (law13_CareerSelects_p1 person r_1)))
theorem z12p2nf (l : (List GPensionhand_Fact)) (near person : Int) (sorted : Bool) (K : KT) (L1_ : List GPensionhand_Fact) (hL1_ : lst dGPensionhand_Fact l.length (lsEl eGPensionhand_Fact zGPensionhand_Fact l) = L1_) (L2_ : List GFact) (hL2_ : lst dGFact ((((law13_facts L1_ near).getD ([] : List GFact))).length) (fun i => (lsEl eGFact zGFact ((law13_facts L1_ near).getD ([] : List GFact))) (0 + i)) = L2_) (L3_ : List GFact) (hL3_ : lst dGFact 0 (fun _ => []) = L3_) (L4_ : List GFact) (hL4_ : lst dGFact ((((ref12_Merge L2_ L3_).getD ([] : List GFact))).length) (fun i => (lsEl eGFact zGFact ((ref12_Merge L2_ L3_).getD ([] : List GFact))) (0 + i)) = L4_) :
    ev Try.prog (lookC [(23, .pure made_Pick_C), (27, .pure law13_facts_C), (33, .pure ref12_Merge_C), (45, .pure ref12_Of_C)]) 46 (ofItems ((List.drop 0 z12i0).take 4)) (cN [2, 9, 24, 25, 26, 27, 28, 29, 30, 33, 34, 35, 36, 37, 40, 41, 42, 43, 44] K) (z12p2S l near person sorted) =
    ((LstOk eGPensionhand_Fact dGPensionhand_Fact 13 13 l.length (lsEl eGPensionhand_Fact zGPensionhand_Fact l)) ∧ ((law13_facts L1_ near).isSome = true) ∧ ((bif sorted then (LstOk eGFact dGFact 14 14 ((((law13_facts L1_ near).getD ([] : List GFact))).length) (fun i => (lsEl eGFact zGFact ((law13_facts L1_ near).getD ([] : List GFact))) (0 + i))) ∧ (LstOk eGFact dGFact 14 0 0 (fun _ => [])) ∧ ((ref12_Merge L2_ L3_).isSome = true) ∧ ((made_Pick person (4 : Int)).isSome = true) ∧ (LstOk eGFact dGFact 14 14 ((((ref12_Merge L2_ L3_).getD ([] : List GFact))).length) (fun i => (lsEl eGFact zGFact ((ref12_Merge L2_ L3_).getD ([] : List GFact))) (0 + i))) ∧ ((ref12_Of L4_ (w64 ((1 : Int) + ((made_Pick person (4 : Int)).getD (0 : Int))))).isSome = true) ∧ (wK K .normal (z12p1S person ((ref12_Of L4_ (w64 ((1 : Int) + ((made_Pick person (4 : Int)).getD (0 : Int))))).getD ([] : List GFact)))) else wK K .normal (z12p1S person ((law13_facts L1_ near).getD ([] : List GFact)))))) := by subst hL1_ hL2_ hL3_ hL4_; kernel_rfl
theorem z12p2ok (l : (List GPensionhand_Fact)) (near person : Int) (sorted : Bool) (K : KT) (h : W (law13_CareerSelects_p2 l near person sorted) (rE z12R K)) : EvL Try.prog 46 (List.drop 0 z12i0) K (z12p2S l near person sorted) :=
  EvL.pD mixed (lookC_ok (l := [(23, .pure made_Pick_C), (27, .pure law13_facts_C), (33, .pure ref12_Merge_C), (45, .pure ref12_Of_C)]) ⟨made_Pick_ok, law13_facts_ok, ref12_Merge_ok, ref12_Of_ok, trivial⟩) [2, 9, 24, 25, 26, 27, 28, 29, 30, 33, 34, 35, 36, 37, 40, 41, 42, 43, 44] 0 4 4 (.of (z12p2nf l near person sorted _ _ (RowIs.lst dGPensionhand_Fact_eGPensionhand_Fact (RowIs.ls eGPensionhand_Fact zGPensionhand_Fact l)) _ (RowIs.lst dGFact_eGFact (RowIs.zero (RowIs.ls eGFact zGFact ((law13_facts l near).getD ([] : List GFact))))) _ (RowIs.lst dGFact_eGFact (RowIs.nil eGFact zGFact _)) _ (RowIs.lst dGFact_eGFact (RowIs.zero (RowIs.ls eGFact zGFact ((ref12_Merge ((law13_facts l near).getD ([] : List GFact)) ([] : List GFact)).getD ([] : List GFact)))))) (⟨RowIs.ok dGPensionhand_Fact_eGPensionhand_Fact (RowIs.ls eGPensionhand_Fact zGPensionhand_Fact l), (W_bind ([] : List GFact) h fun hp0 h => (W_bif h (fun _ h => ⟨RowIs.ok dGFact_eGFact (RowIs.zero (RowIs.ls eGFact zGFact ((law13_facts l near).getD ([] : List GFact)))), ⟨RowIs.okN dGFact_eGFact (RowIs.nil eGFact zGFact _), (W_bind ([] : List GFact) h fun hp1 h => (W_bind (0 : Int) h fun hp2 h => ⟨RowIs.ok dGFact_eGFact (RowIs.zero (RowIs.ls eGFact zGFact ((ref12_Merge ((law13_facts l near).getD ([] : List GFact)) ([] : List GFact)).getD ([] : List GFact)))), (W_bind ([] : List GFact) h fun hp3 h => ⟨_, .refl _, (z12p1ok person ((ref12_Of ((ref12_Merge ((law13_facts l near).getD ([] : List GFact)) ([] : List GFact)).getD ([] : List GFact)) (w64 ((1 : Int) + ((made_Pick person (4 : Int)).getD (0 : Int))))).getD ([] : List GFact)) _ h)⟩)⟩))⟩⟩) (fun _ h => ⟨_, .refl _, (z12p1ok person ((law13_facts l near).getD ([] : List GFact)) _ h)⟩)))⟩))
noncomputable def law13_CareerSelects (l : (List GPensionhand_Fact)) (near person : Int) (sorted : Bool) : Option (Bool) := law13_CareerSelects_p2 l near person sorted
theorem z12run (l : (List GPensionhand_Fact)) (near person : Int) (sorted : Bool) (y_ : Bool) (h : law13_CareerSelects l near person sorted = some y_) : EvL Try.prog 46 (items (bodyOf Try.f12)) (retK Try.prog [.tmp 8] (OutOk (law13_CareerSelects_out y_))) (z12p2S l near person sorted) :=
  z12p2ok l near person sorted _ (W_iff.2 ⟨y_, h, z12Rok y_⟩)
noncomputable def law13_CareerSelects_C : Con
  | [(.c (.sl k1 n2 e3)), (.c (.lit (.int .i64 a4))), (.c (.lit (.int .i64 a5))), (.c (.lit (.bool a6)))] => some ([LstOk eGPensionhand_Fact dGPensionhand_Fact 13 k1 n2 e3, (law13_CareerSelects (lst dGPensionhand_Fact n2 e3) a4 a5 a6).isSome = true], (law13_CareerSelects_out ((law13_CareerSelects (lst dGPensionhand_Fact n2 e3) a4 a5 a6).getD false)))
  | _ => none
theorem law13_CareerSelects_ok : Meets Try.prog 12 law13_CareerSelects_C := by
  refine meets_fun (fn := Try.f12) (c := bodyOf Try.f12) (by kernel_rfl) (by kernel_rfl) (by kernel_rfl) (rs := [.tmp 8]) (by kernel_rfl) (nt := 46) (by kernel_rfl) fun vs p out h hp => ?_
  unfold law13_CareerSelects_C at h
  split at h
  · next k1 n2 e3 a4 a5 a6 =>
    cases h
    obtain ⟨g0, hp⟩ := allq hp
    obtain ⟨g, hp⟩ := allq hp
    obtain ⟨x, hx⟩ := Option.isSome_iff_exists.1 g
    rw [hx]
    exact ⟨[(.c (.sl 13 ((lst dGPensionhand_Fact n2 e3)).length (lsEl eGPensionhand_Fact zGPensionhand_Fact (lst dGPensionhand_Fact n2 e3)))), (i64 a4), (i64 a5), (bl a6)], (VLes.cons (VLe.slk g0.1 (RowIs.of_ok g0)) (VLes.cons (VLe.rfl' _) (VLes.cons (VLe.rfl' _) (VLes.cons (VLe.rfl' _) VLes.nil)))), rfl, z12run (lst dGPensionhand_Fact n2 e3) a4 a5 a6 x hx⟩
  · cases h

end Go.Ax
