import Derived.Test.YtkijjjdaijjpaaaGreatF3
import Derived.Test.YtkijjjdaijjpaaaGreatRows
/- Types of the program, and functions of it: printed by a program, checked by the kernel. -/
set_option linter.all false
set_option maxRecDepth 100000
namespace Go.Ax
open Go.Proofs Go.Proofs.YtkijjjdaijjpaaaGreat
noncomputable def z45i0 : List Code := items (bodyOf Tryz.f45)
def career_current_out (x_1 : Bool) : Out := .data (bl x_1)
def z45R (x_1 : Bool) : St := ⟨[sv 2 (bl x_1)], [], 0⟩
def z45p0S (f : GFact) : St := ⟨[sv 0 (.ag (eGFact f))], [], 0⟩
noncomputable def career_current_p0 (f : GFact) : Option (Bool) := (fact_Valid f).bind fun r_1 => ((some (bif r_1 then (!f.Withdrawn) else false)))
theorem z45p0ok {f : GFact} {K : KT} (h : W (career_current_p0 f) (rE z45R K)) : EvL Tryz.prog 10 (List.drop 0 z45i0) K (z45p0S f) :=
  EvL.qE mixed [e65] [2] 0 3 (.nx (fun K => ((fact_Valid f).isSome = true) ∧ (wK K .ret (z45R (bif ((fact_Valid f).getD false) then (!f.Withdrawn) else false)))) (W_bind false h fun _ h => (l0 h)))
noncomputable def career_current (f : GFact) : Option (Bool) := career_current_p0 f
noncomputable def career_current_C : Con := con1 wGFact career_current false career_current_out
theorem career_current_ok : Meets Tryz.prog 45 career_current_C := meets1 Tryz.f45 (bodyOf Tryz.f45) [.tmp 2] 10 fun u0 y h => @z45p0ok u0 _ (W_iff.2 ⟨y, h, (rtI (bl y) (VLe.rfl' _))⟩)
noncomputable abbrev e45 : FE Tryz.prog := ⟨45, .pure career_current_C, career_current_ok⟩

noncomputable def z44i0 : List Code := items (bodyOf Tryz.f44)
noncomputable def z44i1 : List Code := items (inside (inside (nthI z44i0 3)))
def career_filter_current_out (x_1 : (List GFact)) : Out := .own true 38 14 (x_1).length (lsEl eGFact zGFact x_1)
def z44R (x_1 : (List GFact)) : St := ⟨[sv 4 (.row 0 14 0 x_1.length)], [(rGFact 0 38 x_1)], 1⟩
theorem z44Rok (x_1 : (List GFact)) : retK Tryz.prog [.tmp 4] (OutOk (career_filter_current_out x_1)) .ret (z44R x_1) :=
  retK.intro (v := (.row 0 14 0 x_1.length)) (by kernel_rfl) (⟨_, _, _, rfl, rfl, rfl, fun _ _ => rfl, fun _ i hi d hd => scal_GFact _ d hd⟩)
def z44l1S (l : (List GFact)) (s : ((List GFact) × Int)) : St := match s with | (out_1, t10) => ⟨[sv 1 (.fn 45 []), sv 5 (.row 0 14 0 out_1.length), sv 8 (sGFact l), sv 9 (i64 (l.length : Int)), sv 10 (i64 t10)], [(rGFact 0 38 out_1)], 1⟩
def z44l1C0 (l : (List GFact)) (s : (List GFact)) : St := match s with | out_2 => ⟨[sv 5 (.row 0 14 0 out_2.length)], [(rGFact 0 38 out_2)], 1⟩
def z44l1E (l : (List GFact)) (r : (((List GFact)))) (K : KT) : Prop := match r with | s => K (.exit 0) (z44l1C0 l s)
def z44p0S (out_1 l : (List GFact)) (t10 : Int) : St := ⟨[sv 1 (.fn 45 []), sv 5 (.row 0 14 0 out_1.length), sv 8 (sGFact l), sv 9 (i64 (l.length : Int)), sv 10 (i64 t10)], [(rGFact 0 38 out_1)], 1⟩
noncomputable def career_filter_current_p0 (out_1 l : (List GFact)) (t10 : Int) : Option (((List GFact) × Int) ⊕ (((List GFact)))) := (bif (decide (t10 < (l.length : Int))) then gd (0 ≤ t10 ∧ t10 < (l.length : Int)) ((career_current (l.getD (Int.toNat t10) zGFact)).bind fun r_1 => ((bif r_1 then gd (capB (out_1.length + 1) 112) ((some (Sum.inl ((out_1 ++ ([(l.getD (Int.toNat t10) zGFact)] : List GFact)), (w64 (t10 + 1)))))) else (some (Sum.inl (out_1, (w64 (t10 + 1)))))))) else (some (Sum.inr out_1)))
theorem z44p0ok {out_1 l : (List GFact)} {t10 : Int} {K : KT} (h : W (career_filter_current_p0 out_1 l t10) (nE (z44l1S l) (z44l1E l) K)) : EvL Tryz.prog 23 (List.drop 0 z44i1) K (z44p0S out_1 l t10) :=
  EvL.qE mixed [e45] [1, 5, 8, 9, 10] 0 4 (.nx (fun K => let a1_ := l.getD (Int.toNat t10) zGFact; let a2_ := out_1.length + 1; (bif (decide (t10 < (l.length : Int))) then (0 ≤ t10) ∧ (t10 < (l.length : Int)) ∧ (((career_current a1_).isSome = true) ∧ ((bif ((career_current a1_).getD false) then (out_1.length = out_1.length) ∧ (a2_ * 112 ≤ 140737488355328) ∧ (a2_ ≤ 140737488355328) ∧ (wK K .normal (⟨[sv 1 (.fn 45 []), sv 5 (.row 0 14 0 a2_), sv 8 (sGFact l), sv 9 (i64 (l.length : Int)), sv 10 (i64 (w64 (t10 + 1)))], [(0, some (.row 38 14 a2_ (fun i => bif Nat.blt i out_1.length then (lGFact out_1) i else (fun i => (litE 14 (eGFact a1_)) (0 + i)) (i - out_1.length))))], 1⟩)) else wK K .normal (z44l1S l (out_1, (w64 (t10 + 1))))))) else wK K (.exit 0) (⟨[sv 1 (.fn 45 []), sv 5 (.row 0 14 0 out_1.length), sv 8 (sGFact l), sv 9 (i64 (l.length : Int)), sv 10 (i64 t10)], [(rGFact 0 38 out_1)], 1⟩))) (W_bif h (fun _ h => (W_gd2 h fun _ h => (W_bind false h fun _ h => (W_bif h (fun _ h => ⟨rfl, (W_gd2 h fun _ h => (lf h (.of (.q rfl (.cons rfl (.rown (len_app rfl rfl)) (.qs 3 .nil))) (.row rfl (RowIs.app .b (RowIs.zero (RowIs.l1 (enc := eGFact) (z := zGFact) 14 (l.getD (Int.toNat t10) zGFact) rfl))) .nil rfl) rfl)))⟩) (fun _ h => (l0 h)))))) (fun _ h => (lf h (.cn [5])))))
noncomputable def career_filter_current_l1 (l : (List GFact)) (s : ((List GFact) × Int)) : Option (((List GFact) × Int) ⊕ (((List GFact)))) := match s with | (out_1, t10) => career_filter_current_p0 out_1 l t10
theorem z44l1ok (l : (List GFact)) (s : ((List GFact) × Int)) : Pp Tryz.prog 23 (List.drop 0 z44i1) (z44l1S l s) (career_filter_current_l1 l s) (nextE (z44l1S l) (z44l1E l)) := fun K h => match s, h with | (out_1, t10), h => (z44p0ok h)
theorem z44l1Ethen (l : (List GFact)) : ∀ (r : (((List GFact)))) (J : St → Prop) (K : KT), z44l1E l r K → z44l1E l r (thenK J K)
  | s, _, _, h => h
def z44p1S (out_3 : (List GFact)) : St := ⟨[sv 5 (.row 0 14 0 out_3.length)], [(rGFact 0 38 out_3)], 1⟩
noncomputable def career_filter_current_p1 (out_3 : (List GFact)) : Option ((List GFact)) := (some out_3)
theorem z44p1ok {out_3 : (List GFact)} {K : KT} (h : W (career_filter_current_p1 out_3) (rE z44R K)) : EvL Tryz.prog 23 (List.drop 4 z44i0) K (z44p1S out_3) :=
  EvL.qE mixed [] [4] 4 2 (.nx (fun K => wK K .ret (z44R out_3)) (l0 h))
def z44p2S (l : (List GFact)) : St := ⟨[sv 1 (.fn 45 []), sv 5 (.c .nil), sv 8 (sGFact l), sv 9 (i64 (l.length : Int)), sv 10 (i64 0)], [], 0⟩
noncomputable def career_filter_current_p2_g (l : (List GFact)) (r : (((List GFact)))) : Option ((List GFact)) := match r with | out_2 => (career_filter_current_p1 out_2)
noncomputable def career_filter_current_p2 (l : (List GFact)) : Option ((List GFact)) := (fixL (career_filter_current_l1 l) (([] : List GFact), 0)).bind (career_filter_current_p2_g l)
theorem z44p2at : List.drop 3 z44i0 = .block 0 (.loop (inside (inside (nthI z44i0 3)))) :: List.drop 4 z44i0 := by kernel_rfl
theorem z44p2k (l : (List GFact)) (K : KT) : ∀ r : (((List GFact))), W (career_filter_current_p2_g l r) (rE z44R K) → z44l1E l r (wK (blockK 0 (thenK (EvL Tryz.prog 23 (List.drop 4 z44i0) K) K)))
  | out_2, h => ⟨(z44p1S out_2), (.refl _), (z44p1ok h)⟩
theorem z44p2ok {l : (List GFact)} {K : KT} (h : W (career_filter_current_p2 l) (rE z44R K)) : EvL Tryz.prog 23 (List.drop 3 z44i0) K (z44p2S l) :=
  EvL.at_ z44p2at (EvL.cons_loop (EvOk.weak (EvOk.ent (.trans (.nilrow 5 0 38 14 (lsEl eGFact zGFact []) (Nat.le_of_ble_eq_true rfl) rfl) (.cn [1, 5, 8, 9, 10])) (EvOk.loopF (x := inside (inside (nthI z44i0 3))) (f := career_filter_current_l1 l) (emb := z44l1S l) (E := z44l1E l) (z44l1ok l) (z44l1Ethen l) (W_loop h (z44p2k l K))))))
def z44p3S (l : (List GFact)) : St := ⟨[sv 0 (sGFact l), sv 1 (.fn 45 [])], [], 0⟩
noncomputable def career_filter_current_p3 (l : (List GFact)) : Option ((List GFact)) := (career_filter_current_p2 l)
theorem z44p3ok {l : (List GFact)} {K : KT} (h : W (career_filter_current_p3 l) (rE z44R K)) : EvL Tryz.prog 23 (List.drop 0 z44i0) K (z44p3S l) :=
  EvL.qD mixed [] [1, 5, 8, 9, 10] 0 3 3 (.nx (fun K => wK K .normal (z44p2S l)) (l0 (z44p2ok h)))
noncomputable def career_filter_current (l : (List GFact)) : Option ((List GFact)) := career_filter_current_p3 l
theorem z44run (l : (List GFact)) (y_ : (List GFact)) (h : career_filter_current l = some y_) : EvL Tryz.prog 23 (items (bodyOf Tryz.f44)) (retK Tryz.prog [.tmp 4] (OutOk (career_filter_current_out y_))) (z44p3S l) :=
  @z44p3ok l _ (W_iff.2 ⟨y_, h, z44Rok y_⟩)
noncomputable def career_filter_current_C : Con
  | [(.c (.sl k1 n2 e3)), (.fn 45 [])] => some ([LstOk eGFact dGFact 14 k1 n2 e3, (career_filter_current (lst dGFact n2 e3)).isSome = true], (career_filter_current_out ((career_filter_current (lst dGFact n2 e3)).getD ([] : List GFact))))
  | _ => none
theorem career_filter_current_ok : Meets Tryz.prog 44 career_filter_current_C := by
  refine meets_fun (fn := Tryz.f44) (c := bodyOf Tryz.f44) (by kernel_rfl) (by kernel_rfl) (by kernel_rfl) (rs := [.tmp 4]) (by kernel_rfl) (nt := 23) (by kernel_rfl) fun vs p out h hp => ?_
  unfold career_filter_current_C at h
  split at h
  · next k1 n2 e3 =>
    cases h
    obtain ⟨g0, hp⟩ := allq hp
    obtain ⟨g, hp⟩ := allq hp
    obtain ⟨x, hx⟩ := Option.isSome_iff_exists.1 g
    rw [hx]
    exact ⟨[(sGFact (lst dGFact n2 e3)), (.fn 45 [])], (VLes.cons (VLe.slk g0.1 (RowIs.of_ok g0)) (VLes.cons (VLe.rfl' _) VLes.nil)), rfl, z44run (lst dGFact n2 e3) x hx⟩
  · cases h
noncomputable abbrev e44 : FE Tryz.prog := ⟨44, .pure career_filter_current_C, career_filter_current_ok⟩

noncomputable def z18i0 : List Code := items (bodyOf Tryz.f18)
def career_Current_out (x_1 : (List GFact)) : Out := .own true 38 14 (x_1).length (lsEl eGFact zGFact x_1)
def z18R (x_1 : (List GFact)) : St := ⟨[sv 2 (.row 0 14 0 x_1.length)], [(rGFact 0 38 x_1)], 1⟩
def z18p0S (l : (List GFact)) : St := ⟨[sv 0 (sGFact l)], [], 0⟩
noncomputable def career_Current_p0 (l : (List GFact)) : Option ((List GFact)) := (career_filter_current l).bind fun r_1 => ((some r_1))
theorem z18p0nf (l : (List GFact)) (K : KT) {L1_ : List GFact} (hL1_ : lst dGFact l.length (lGFact l) = L1_) :
    ev Tryz.prog (lookF [e44]) 5 (ofItems ((List.drop 0 z18i0).take 3)) (cN [2] K) (z18p0S l) =
    ((kGFact l) ∧ ((career_filter_current L1_).isSome = true) ∧ (wK K .ret (z18R ((career_filter_current L1_).getD [])))) := by subst hL1_; kernel_rfl
theorem z18p0ok {l : (List GFact)} {K : KT} (h : W (career_Current_p0 l) (rE z18R K)) : EvL Tryz.prog 5 (List.drop 0 z18i0) K (z18p0S l) :=
  EvL.qE mixed [e44] [2] 0 3 (.of (z18p0nf l _ (lb dGFact_eGFact)) (⟨kb dGFact_eGFact, (W_bind [] h fun _ h => (l0 h))⟩))
noncomputable def career_Current (l : (List GFact)) : Option ((List GFact)) := career_Current_p0 l
noncomputable def career_Current_C : Con := con1 uGFact career_Current ([] : List GFact) career_Current_out
theorem career_Current_ok : Meets Tryz.prog 18 career_Current_C := meets1 Tryz.f18 (bodyOf Tryz.f18) [.tmp 2] 5 fun u0 y h => @z18p0ok u0 _ (W_iff.2 ⟨y, h, (rtI (.row 0 14 0 y.length) (⟨_, _, _, rfl, rfl, rfl, fun _ _ => rfl, fun _ i hi d hd => scal_GFact _ d hd⟩))⟩)
noncomputable abbrev e18 : FE Tryz.prog := ⟨18, .pure career_Current_C, career_Current_ok⟩

noncomputable def z50i0 : List Code := items (bodyOf Tryz.f50)
def career_Of_1_out (x_1 : Bool) : Out := .data (bl x_1)
def z50R (x_1 : Bool) : St := ⟨[sv 3 (bl x_1)], [], 0⟩
theorem z50Rok (x_1 : Bool) : retK Tryz.prog [.tmp 3] (OutOk (career_Of_1_out x_1)) .ret (z50R x_1) :=
  retK.intro (v := (bl x_1)) (by kernel_rfl) ((VLe.rfl' _))
def z50p0S (f : GFact) (t1 : Int) : St := ⟨[sv 0 (.ag (eGFact f)), sv 1 (.dptr 1 [(di t1)] 0)], [], 0⟩
noncomputable def career_Of_1_p0 (f : GFact) (t1 : Int) : Option (Bool) := (some (f.Person == t1))
theorem z50p0ok {f : GFact} {t1 : Int} {K : KT} (h : W (career_Of_1_p0 f t1) (rE z50R K)) : EvL Tryz.prog 8 (List.drop 0 z50i0) K (z50p0S f t1) :=
  EvL.qE mixed [] [3] 0 3 (.nx (fun K => wK K .ret (z50R (f.Person == t1))) (l0 h))
noncomputable def career_Of_1 (f : GFact) (t1 : Int) : Option (Bool) := career_Of_1_p0 f t1
theorem z50run (f : GFact) (t1 : Int) (y_ : Bool) (h : career_Of_1 f t1 = some y_) : EvL Tryz.prog 8 (items (bodyOf Tryz.f50)) (retK Tryz.prog [.tmp 3] (OutOk (career_Of_1_out y_))) (z50p0S f t1) :=
  @z50p0ok f t1 _ (W_iff.2 ⟨y_, h, z50Rok y_⟩)
noncomputable def career_Of_1_C : Con
  | [(.agg [(.c (.lit (.int .i64 a1))), (.c (.lit (.int .i64 a2))), (.c (.lit (.int .i64 a3))), (.c (.lit (.bool a4))), (.c (.lit (.int .i64 a5))), (.c (.lit (.int .i64 a6))), (.c (.lit (.int .i64 a7))), (.c (.lit (.int .i64 a8))), (.c (.lit (.int .i64 a9))), (.c (.lit (.int .i64 a10))), (.c (.lit (.int .i64 a11))), (.c (.lit (.int .i64 a12))), (.c (.lit (.int .i64 a13))), (.c (.lit (.int .i64 a14)))]), (.dptr 1 [(.lit (.int .i64 a15))] 0)] => some ([(career_Of_1 (GFact.mk a1 a2 a3 a4 a5 a6 a7 (GSpan.mk a8 a9) a10 a11 a12 a13 a14) a15).isSome = true], (career_Of_1_out ((career_Of_1 (GFact.mk a1 a2 a3 a4 a5 a6 a7 (GSpan.mk a8 a9) a10 a11 a12 a13 a14) a15).getD false)))
  | _ => none
theorem career_Of_1_ok : Meets Tryz.prog 50 career_Of_1_C := by
  refine meets_fun (fn := Tryz.f50) (c := bodyOf Tryz.f50) (by kernel_rfl) (by kernel_rfl) (by kernel_rfl) (rs := [.tmp 3]) (by kernel_rfl) (nt := 8) (by kernel_rfl) fun vs p out h hp => ?_
  unfold career_Of_1_C at h
  split at h
  · next a1 a2 a3 a4 a5 a6 a7 a8 a9 a10 a11 a12 a13 a14 a15 =>
    cases h
    obtain ⟨g, hp⟩ := allq hp
    obtain ⟨x, hx⟩ := Option.isSome_iff_exists.1 g
    rw [hx]
    exact ⟨[(.agg [(i64 (GFact.mk a1 a2 a3 a4 a5 a6 a7 (GSpan.mk a8 a9) a10 a11 a12 a13 a14).Issuer), (i64 (GFact.mk a1 a2 a3 a4 a5 a6 a7 (GSpan.mk a8 a9) a10 a11 a12 a13 a14).Number), (i64 (GFact.mk a1 a2 a3 a4 a5 a6 a7 (GSpan.mk a8 a9) a10 a11 a12 a13 a14).Version), (bl (GFact.mk a1 a2 a3 a4 a5 a6 a7 (GSpan.mk a8 a9) a10 a11 a12 a13 a14).Withdrawn), (i64 (GFact.mk a1 a2 a3 a4 a5 a6 a7 (GSpan.mk a8 a9) a10 a11 a12 a13 a14).Person), (i64 (GFact.mk a1 a2 a3 a4 a5 a6 a7 (GSpan.mk a8 a9) a10 a11 a12 a13 a14).Kind), (i64 (GFact.mk a1 a2 a3 a4 a5 a6 a7 (GSpan.mk a8 a9) a10 a11 a12 a13 a14).State), (i64 ((GFact.mk a1 a2 a3 a4 a5 a6 a7 (GSpan.mk a8 a9) a10 a11 a12 a13 a14).Span).From), (i64 ((GFact.mk a1 a2 a3 a4 a5 a6 a7 (GSpan.mk a8 a9) a10 a11 a12 a13 a14).Span).To), (i64 (GFact.mk a1 a2 a3 a4 a5 a6 a7 (GSpan.mk a8 a9) a10 a11 a12 a13 a14).Seat), (i64 (GFact.mk a1 a2 a3 a4 a5 a6 a7 (GSpan.mk a8 a9) a10 a11 a12 a13 a14).Share), (i64 (GFact.mk a1 a2 a3 a4 a5 a6 a7 (GSpan.mk a8 a9) a10 a11 a12 a13 a14).Currency), (i64 (GFact.mk a1 a2 a3 a4 a5 a6 a7 (GSpan.mk a8 a9) a10 a11 a12 a13 a14).Amount), (i64 (GFact.mk a1 a2 a3 a4 a5 a6 a7 (GSpan.mk a8 a9) a10 a11 a12 a13 a14).Ref)]), (.dptr 1 [(di a15)] 0)], (VLes.cons (VLe.rfl' _) (VLes.cons (VLe.rfl' _) VLes.nil)), rfl, z50run (GFact.mk a1 a2 a3 a4 a5 a6 a7 (GSpan.mk a8 a9) a10 a11 a12 a13 a14) a15 x hx⟩
  · cases h
noncomputable abbrev e50 : FE Tryz.prog := ⟨50, .pure career_Of_1_C, career_Of_1_ok⟩

noncomputable def z44_1i0 : List Code := items (bodyOf Tryz.f44)
noncomputable def z44_1i1 : List Code := items (inside (inside (nthI z44_1i0 3)))
def career_filter_Of_1_out (x_1 : (List GFact)) : Out := .own true 38 14 (x_1).length (lsEl eGFact zGFact x_1)
def z44_1R (x_1 : (List GFact)) : St := ⟨[sv 4 (.row 0 14 0 x_1.length)], [(rGFact 0 38 x_1)], 1⟩
theorem z44_1Rok (x_1 : (List GFact)) : retK Tryz.prog [.tmp 4] (OutOk (career_filter_Of_1_out x_1)) .ret (z44_1R x_1) :=
  retK.intro (v := (.row 0 14 0 x_1.length)) (by kernel_rfl) (⟨_, _, _, rfl, rfl, rfl, fun _ _ => rfl, fun _ i hi d hd => scal_GFact _ d hd⟩)
def z44_1l1S (want : Int) (l : (List GFact)) (s : ((List GFact) × Int)) : St := match s with | (out_1, t10) => ⟨[sv 1 (.fn 50 [(.dptr 1 [(di want)] 0)]), sv 5 (.row 0 14 0 out_1.length), sv 8 (sGFact l), sv 9 (i64 (l.length : Int)), sv 10 (i64 t10)], [(rGFact 0 38 out_1)], 1⟩
def z44_1l1C0 (want : Int) (l : (List GFact)) (s : (List GFact)) : St := match s with | out_2 => ⟨[sv 5 (.row 0 14 0 out_2.length)], [(rGFact 0 38 out_2)], 1⟩
def z44_1l1E (want : Int) (l : (List GFact)) (r : (((List GFact)))) (K : KT) : Prop := match r with | s => K (.exit 0) (z44_1l1C0 want l s)
def z44_1p0S (want : Int) (out_1 l : (List GFact)) (t10 : Int) : St := ⟨[sv 1 (.fn 50 [(.dptr 1 [(di want)] 0)]), sv 5 (.row 0 14 0 out_1.length), sv 8 (sGFact l), sv 9 (i64 (l.length : Int)), sv 10 (i64 t10)], [(rGFact 0 38 out_1)], 1⟩
noncomputable def career_filter_Of_1_p0 (want : Int) (out_1 l : (List GFact)) (t10 : Int) : Option (((List GFact) × Int) ⊕ (((List GFact)))) := (bif (decide (t10 < (l.length : Int))) then gd (0 ≤ t10 ∧ t10 < (l.length : Int)) ((career_Of_1 (l.getD (Int.toNat t10) zGFact) want).bind fun r_1 => ((bif r_1 then gd (capB (out_1.length + 1) 112) ((some (Sum.inl ((out_1 ++ ([(l.getD (Int.toNat t10) zGFact)] : List GFact)), (w64 (t10 + 1)))))) else (some (Sum.inl (out_1, (w64 (t10 + 1)))))))) else (some (Sum.inr out_1)))
theorem z44_1p0ok {want : Int} {out_1 l : (List GFact)} {t10 : Int} {K : KT} (h : W (career_filter_Of_1_p0 want out_1 l t10) (nE (z44_1l1S want l) (z44_1l1E want l) K)) : EvL Tryz.prog 23 (List.drop 0 z44_1i1) K (z44_1p0S want out_1 l t10) :=
  EvL.qE mixed [e50] [1, 5, 8, 9, 10] 0 4 (.nx (fun K => let a1_ := l.getD (Int.toNat t10) zGFact; let a2_ := out_1.length + 1; (bif (decide (t10 < (l.length : Int))) then (0 ≤ t10) ∧ (t10 < (l.length : Int)) ∧ (((career_Of_1 a1_ want).isSome = true) ∧ ((bif ((career_Of_1 a1_ want).getD false) then (out_1.length = out_1.length) ∧ (a2_ * 112 ≤ 140737488355328) ∧ (a2_ ≤ 140737488355328) ∧ (wK K .normal (⟨[sv 1 (.fn 50 [(.dptr 1 [(di want)] 0)]), sv 5 (.row 0 14 0 a2_), sv 8 (sGFact l), sv 9 (i64 (l.length : Int)), sv 10 (i64 (w64 (t10 + 1)))], [(0, some (.row 38 14 a2_ (fun i => bif Nat.blt i out_1.length then (lGFact out_1) i else (fun i => (litE 14 (eGFact a1_)) (0 + i)) (i - out_1.length))))], 1⟩)) else wK K .normal (z44_1l1S want l (out_1, (w64 (t10 + 1))))))) else wK K (.exit 0) (⟨[sv 1 (.fn 50 [(.dptr 1 [(di want)] 0)]), sv 5 (.row 0 14 0 out_1.length), sv 8 (sGFact l), sv 9 (i64 (l.length : Int)), sv 10 (i64 t10)], [(rGFact 0 38 out_1)], 1⟩))) (W_bif h (fun _ h => (W_gd2 h fun _ h => (W_bind false h fun _ h => (W_bif h (fun _ h => ⟨rfl, (W_gd2 h fun _ h => (lf h (.of (.q rfl (.cons rfl (.rown (len_app rfl rfl)) (.qs 3 .nil))) (.row rfl (RowIs.app .b (RowIs.zero (RowIs.l1 (enc := eGFact) (z := zGFact) 14 (l.getD (Int.toNat t10) zGFact) rfl))) .nil rfl) rfl)))⟩) (fun _ h => (l0 h)))))) (fun _ h => (lf h (.cn [5])))))
noncomputable def career_filter_Of_1_l1 (want : Int) (l : (List GFact)) (s : ((List GFact) × Int)) : Option (((List GFact) × Int) ⊕ (((List GFact)))) := match s with | (out_1, t10) => career_filter_Of_1_p0 want out_1 l t10
theorem z44_1l1ok (want : Int) (l : (List GFact)) (s : ((List GFact) × Int)) : Pp Tryz.prog 23 (List.drop 0 z44_1i1) (z44_1l1S want l s) (career_filter_Of_1_l1 want l s) (nextE (z44_1l1S want l) (z44_1l1E want l)) := fun K h => match s, h with | (out_1, t10), h => (z44_1p0ok h)
theorem z44_1l1Ethen (want : Int) (l : (List GFact)) : ∀ (r : (((List GFact)))) (J : St → Prop) (K : KT), z44_1l1E want l r K → z44_1l1E want l r (thenK J K)
  | s, _, _, h => h
def z44_1p1S (out_3 : (List GFact)) : St := ⟨[sv 5 (.row 0 14 0 out_3.length)], [(rGFact 0 38 out_3)], 1⟩
noncomputable def career_filter_Of_1_p1 (out_3 : (List GFact)) : Option ((List GFact)) := (some out_3)
theorem z44_1p1ok {out_3 : (List GFact)} {K : KT} (h : W (career_filter_Of_1_p1 out_3) (rE z44_1R K)) : EvL Tryz.prog 23 (List.drop 4 z44_1i0) K (z44_1p1S out_3) :=
  EvL.qE mixed [] [4] 4 2 (.nx (fun K => wK K .ret (z44_1R out_3)) (l0 h))
def z44_1p2S (want : Int) (l : (List GFact)) : St := ⟨[sv 1 (.fn 50 [(.dptr 1 [(di want)] 0)]), sv 5 (.c .nil), sv 8 (sGFact l), sv 9 (i64 (l.length : Int)), sv 10 (i64 0)], [], 0⟩
noncomputable def career_filter_Of_1_p2_g (want : Int) (l : (List GFact)) (r : (((List GFact)))) : Option ((List GFact)) := match r with | out_2 => (career_filter_Of_1_p1 out_2)
noncomputable def career_filter_Of_1_p2 (want : Int) (l : (List GFact)) : Option ((List GFact)) := (fixL (career_filter_Of_1_l1 want l) (([] : List GFact), 0)).bind (career_filter_Of_1_p2_g want l)
theorem z44_1p2at : List.drop 3 z44_1i0 = .block 0 (.loop (inside (inside (nthI z44_1i0 3)))) :: List.drop 4 z44_1i0 := by kernel_rfl
theorem z44_1p2k (want : Int) (l : (List GFact)) (K : KT) : ∀ r : (((List GFact))), W (career_filter_Of_1_p2_g want l r) (rE z44_1R K) → z44_1l1E want l r (wK (blockK 0 (thenK (EvL Tryz.prog 23 (List.drop 4 z44_1i0) K) K)))
  | out_2, h => ⟨(z44_1p1S out_2), (.refl _), (z44_1p1ok h)⟩
theorem z44_1p2ok {want : Int} {l : (List GFact)} {K : KT} (h : W (career_filter_Of_1_p2 want l) (rE z44_1R K)) : EvL Tryz.prog 23 (List.drop 3 z44_1i0) K (z44_1p2S want l) :=
  EvL.at_ z44_1p2at (EvL.cons_loop (EvOk.weak (EvOk.ent (.trans (.nilrow 5 0 38 14 (lsEl eGFact zGFact []) (Nat.le_of_ble_eq_true rfl) rfl) (.cn [1, 5, 8, 9, 10])) (EvOk.loopF (x := inside (inside (nthI z44_1i0 3))) (f := career_filter_Of_1_l1 want l) (emb := z44_1l1S want l) (E := z44_1l1E want l) (z44_1l1ok want l) (z44_1l1Ethen want l) (W_loop h (z44_1p2k want l K))))))
def z44_1p3S (l : (List GFact)) (want : Int) : St := ⟨[sv 0 (sGFact l), sv 1 (.fn 50 [(.dptr 1 [(di want)] 0)])], [], 0⟩
noncomputable def career_filter_Of_1_p3 (l : (List GFact)) (want : Int) : Option ((List GFact)) := (career_filter_Of_1_p2 want l)
theorem z44_1p3ok {l : (List GFact)} {want : Int} {K : KT} (h : W (career_filter_Of_1_p3 l want) (rE z44_1R K)) : EvL Tryz.prog 23 (List.drop 0 z44_1i0) K (z44_1p3S l want) :=
  EvL.qD mixed [] [1, 5, 8, 9, 10] 0 3 3 (.nx (fun K => wK K .normal (z44_1p2S want l)) (l0 (z44_1p2ok h)))
noncomputable def career_filter_Of_1 (l : (List GFact)) (want : Int) : Option ((List GFact)) := career_filter_Of_1_p3 l want
theorem z44_1run (l : (List GFact)) (want : Int) (y_ : (List GFact)) (h : career_filter_Of_1 l want = some y_) : EvL Tryz.prog 23 (items (bodyOf Tryz.f44)) (retK Tryz.prog [.tmp 4] (OutOk (career_filter_Of_1_out y_))) (z44_1p3S l want) :=
  @z44_1p3ok l want _ (W_iff.2 ⟨y_, h, z44_1Rok y_⟩)
noncomputable def career_filter_Of_1_C : Con
  | [(.c (.sl k1 n2 e3)), (.fn 50 [(.dptr 1 [(.lit (.int .i64 a4))] 0)])] => some ([LstOk eGFact dGFact 14 k1 n2 e3, (career_filter_Of_1 (lst dGFact n2 e3) a4).isSome = true], (career_filter_Of_1_out ((career_filter_Of_1 (lst dGFact n2 e3) a4).getD ([] : List GFact))))
  | _ => none
theorem career_filter_Of_1_ok : Meets Tryz.prog 44 career_filter_Of_1_C := by
  refine meets_fun (fn := Tryz.f44) (c := bodyOf Tryz.f44) (by kernel_rfl) (by kernel_rfl) (by kernel_rfl) (rs := [.tmp 4]) (by kernel_rfl) (nt := 23) (by kernel_rfl) fun vs p out h hp => ?_
  unfold career_filter_Of_1_C at h
  split at h
  · next k1 n2 e3 a4 =>
    cases h
    obtain ⟨g0, hp⟩ := allq hp
    obtain ⟨g, hp⟩ := allq hp
    obtain ⟨x, hx⟩ := Option.isSome_iff_exists.1 g
    rw [hx]
    exact ⟨[(sGFact (lst dGFact n2 e3)), (.fn 50 [(.dptr 1 [(di a4)] 0)])], (VLes.cons (VLe.slk g0.1 (RowIs.of_ok g0)) (VLes.cons (VLe.rfl' _) VLes.nil)), rfl, z44_1run (lst dGFact n2 e3) a4 x hx⟩
  · cases h
noncomputable abbrev e44_1 : FE Tryz.prog := ⟨44, .pure career_filter_Of_1_C, career_filter_Of_1_ok⟩

noncomputable def z20i0 : List Code := items (bodyOf Tryz.f20)
def career_Of_out (x_1 : (List GFact)) : Out := .own true 38 14 (x_1).length (lsEl eGFact zGFact x_1)
def z20R (x_1 : (List GFact)) : St := ⟨[sv 4 (.row 0 14 0 x_1.length)], [(rGFact 0 38 x_1)], 1⟩
def z20p0S (l : (List GFact)) (person : Int) : St := ⟨[sv 0 (sGFact l), sv 1 (i64 person)], [], 0⟩
noncomputable def career_Of_p0 (l : (List GFact)) (person : Int) : Option ((List GFact)) := (career_filter_Of_1 l person).bind fun r_1 => ((some r_1))
theorem z20p0nf (l : (List GFact)) (person : Int) (K : KT) {L1_ : List GFact} (hL1_ : lst dGFact l.length (lGFact l) = L1_) :
    ev Tryz.prog (lookF [e44_1]) 8 (ofItems ((List.drop 0 z20i0).take 3)) (cN [4] K) (z20p0S l person) =
    (let a1_ := career_filter_Of_1 L1_ person; (kGFact l) ∧ (a1_.isSome = true) ∧ (wK K .ret (z20R (a1_.getD [])))) := by subst hL1_; kernel_rfl
theorem z20p0ok {l : (List GFact)} {person : Int} {K : KT} (h : W (career_Of_p0 l person) (rE z20R K)) : EvL Tryz.prog 8 (List.drop 0 z20i0) K (z20p0S l person) :=
  EvL.qE mixed [e44_1] [4] 0 3 (.of (z20p0nf l person _ (lb dGFact_eGFact)) (⟨kb dGFact_eGFact, (W_bind [] h fun _ h => (l0 h))⟩))
noncomputable def career_Of (l : (List GFact)) (person : Int) : Option ((List GFact)) := career_Of_p0 l person
noncomputable def career_Of_C : Con := con2 uGFact (aI .i64) career_Of ([] : List GFact) career_Of_out
theorem career_Of_ok : Meets Tryz.prog 20 career_Of_C := meets2 Tryz.f20 (bodyOf Tryz.f20) [.tmp 4] 8 fun u0 u1 y h => @z20p0ok u0 u1 _ (W_iff.2 ⟨y, h, (rtI (.row 0 14 0 y.length) (⟨_, _, _, rfl, rfl, rfl, fun _ _ => rfl, fun _ i hi d hd => scal_GFact _ d hd⟩))⟩)
noncomputable abbrev e20 : FE Tryz.prog := ⟨20, .pure career_Of_C, career_Of_ok⟩

noncomputable def z51i0 : List Code := items (bodyOf Tryz.f51)
noncomputable def z51i1 : List Code := items (inside (inside (nthI z51i0 3)))
def career_first_out (x_1 : (Int × Bool)) : Out := .data (.tup [(i64 x_1.1), (bl x_1.2)])
def z51R (x_1 : (Int × Bool)) : St := ⟨[sv 4 (i64 x_1.1), sv 5 (bl x_1.2)], [], 0⟩
def z51l1S (kind : Int) (l : (List GFact)) (s : (Int × Bool × Int)) : St := match s with | (day, ok, t12) => ⟨[sv 1 (i64 kind), sv 6 (i64 day), sv 7 (bl ok), sv 10 (sGFact l), sv 11 (i64 (l.length : Int)), sv 12 (i64 t12)], [], 0⟩
def z51l1C0 (kind : Int) (l : (List GFact)) (s : Int × Bool) : St := match s with | (day_1, ok_1) => ⟨[sv 6 (i64 day_1), sv 7 (bl ok_1)], [], 0⟩
def z51l1E (kind : Int) (l : (List GFact)) (r : ((Int × Bool))) (K : KT) : Prop := match r with | s => K (.exit 0) (z51l1C0 kind l s)
def z51p0S (kind day : Int) (ok : Bool) (l : (List GFact)) (t12 : Int) : St := ⟨[sv 1 (i64 kind), sv 6 (i64 day), sv 7 (bl ok), sv 10 (sGFact l), sv 11 (i64 (l.length : Int)), sv 12 (i64 t12)], [], 0⟩
noncomputable def career_first_p0 (kind day : Int) (ok : Bool) (l : (List GFact)) (t12 : Int) : Option ((Int × Bool × Int) ⊕ ((Int × Bool))) := (bif (decide (t12 < (l.length : Int))) then gd (0 ≤ t12 ∧ t12 < (l.length : Int)) ((career_current (l.getD (Int.toNat t12) zGFact)).bind fun r_1 => ((bif (bif (bif r_1 then ((l.getD (Int.toNat t12) zGFact).Kind == kind) else false) then (bif (!ok) then true else (decide (((l.getD (Int.toNat t12) zGFact).Span).From < day))) else false) then (some (Sum.inl (((l.getD (Int.toNat t12) zGFact).Span).From, true, (w64 (t12 + 1))))) else (some (Sum.inl (day, ok, (w64 (t12 + 1)))))))) else (some (Sum.inr (day, ok))))
theorem z51p0ok {kind day : Int} {ok : Bool} {l : (List GFact)} {t12 : Int} {K : KT} (h : W (career_first_p0 kind day ok l t12) (nE (z51l1S kind l) (z51l1E kind l) K)) : EvL Tryz.prog 41 (List.drop 0 z51i1) K (z51p0S kind day ok l t12) :=
  EvL.qE mixed [e45] [1, 6, 7, 10, 11, 12, 19, 20, 21, 22, 25, 26, 27, 28, 29, 30, 31, 32, 33] 0 4 (.nx (fun K => let a1_ := l.getD (Int.toNat t12) zGFact; let a2_ := i64 (l.length : Int); (bif (decide (t12 < (l.length : Int))) then (0 ≤ t12) ∧ (t12 < (l.length : Int)) ∧ (((career_current a1_).isSome = true) ∧ ((bif (bif (bif ((career_current a1_).getD false) then (a1_.Kind == kind) else false) then (bif (!ok) then true else (decide ((a1_.Span).From < day))) else false) then wK K .normal (⟨[sv 1 (i64 kind), sv 6 (i64 (a1_.Span).From), sv 7 (bl true), sv 10 (sGFact l), sv 11 a2_, sv 12 (i64 (w64 (t12 + 1))), un 19, un 20, un 21, un 22, un 25, un 26, un 27, un 28, un 29, un 30, un 31, un 32, un 33], [], 0⟩) else wK K .normal (⟨[sv 1 (i64 kind), sv 6 (i64 day), sv 7 (bl ok), sv 10 (sGFact l), sv 11 a2_, sv 12 (i64 (w64 (t12 + 1))), un 19, un 20, un 21, un 22, un 25, un 26, un 27, un 28, un 29, un 30, un 31, un 32, un 33], [], 0⟩)))) else wK K (.exit 0) (⟨[sv 1 (i64 kind), sv 6 (i64 day), sv 7 (bl ok), sv 10 (sGFact l), sv 11 a2_, sv 12 (i64 t12)], [], 0⟩))) (W_bif h (fun _ h => (W_gd2 h fun _ h => (W_bind false h fun _ h => (W_bif h (fun _ h => (lf h (.cn [1, 6, 7, 10, 11, 12]))) (fun _ h => (lf h (.cn [1, 6, 7, 10, 11, 12]))))))) (fun _ h => (lf h (.cn [6, 7])))))
noncomputable def career_first_l1 (kind : Int) (l : (List GFact)) (s : (Int × Bool × Int)) : Option ((Int × Bool × Int) ⊕ ((Int × Bool))) := match s with | (day, ok, t12) => career_first_p0 kind day ok l t12
theorem z51l1ok (kind : Int) (l : (List GFact)) (s : (Int × Bool × Int)) : Pp Tryz.prog 41 (List.drop 0 z51i1) (z51l1S kind l s) (career_first_l1 kind l s) (nextE (z51l1S kind l) (z51l1E kind l)) := fun K h => match s, h with | (day, ok, t12), h => (z51p0ok h)
theorem z51l1Ethen (kind : Int) (l : (List GFact)) : ∀ (r : ((Int × Bool))) (J : St → Prop) (K : KT), z51l1E kind l r K → z51l1E kind l r (thenK J K)
  | s, _, _, h => h
def z51p1S (day_2 : Int) (ok_2 : Bool) : St := ⟨[sv 6 (i64 day_2), sv 7 (bl ok_2)], [], 0⟩
noncomputable def career_first_p1 (day_2 : Int) (ok_2 : Bool) : Option ((Int × Bool)) := (some (day_2, ok_2))
theorem z51p1ok {day_2 : Int} {ok_2 : Bool} {K : KT} (h : W (career_first_p1 day_2 ok_2) (rE z51R K)) : EvL Tryz.prog 41 (List.drop 4 z51i0) K (z51p1S day_2 ok_2) :=
  EvL.qE mixed [] [4, 5] 4 2 (.nx (fun K => wK K .ret (z51R (day_2, ok_2))) (l0 h))
def z51p2S (kind : Int) (l : (List GFact)) : St := ⟨[sv 1 (i64 kind), sv 6 (i64 0), sv 7 (bl false), sv 10 (sGFact l), sv 11 (i64 (l.length : Int)), sv 12 (i64 0)], [], 0⟩
noncomputable def career_first_p2_g (kind : Int) (l : (List GFact)) (r : ((Int × Bool))) : Option ((Int × Bool)) := match r with | (day_1, ok_1) => (career_first_p1 day_1 ok_1)
noncomputable def career_first_p2 (kind : Int) (l : (List GFact)) : Option ((Int × Bool)) := (fixL (career_first_l1 kind l) (0, false, 0)).bind (career_first_p2_g kind l)
theorem z51p2at : List.drop 3 z51i0 = .block 0 (.loop (inside (inside (nthI z51i0 3)))) :: List.drop 4 z51i0 := by kernel_rfl
theorem z51p2k (kind : Int) (l : (List GFact)) (K : KT) : ∀ r : ((Int × Bool)), W (career_first_p2_g kind l r) (rE z51R K) → z51l1E kind l r (wK (blockK 0 (thenK (EvL Tryz.prog 41 (List.drop 4 z51i0) K) K)))
  | (day_1, ok_1), h => ⟨(z51p1S day_1 ok_1), (.refl _), (z51p1ok h)⟩
theorem z51p2ok {kind : Int} {l : (List GFact)} {K : KT} (h : W (career_first_p2 kind l) (rE z51R K)) : EvL Tryz.prog 41 (List.drop 3 z51i0) K (z51p2S kind l) :=
  EvL.at_ z51p2at (EvL.cons_loop (EvOk.weak (EvOk.ent (.refl _) (EvOk.loopF (x := inside (inside (nthI z51i0 3))) (f := career_first_l1 kind l) (emb := z51l1S kind l) (E := z51l1E kind l) (z51l1ok kind l) (z51l1Ethen kind l) (W_loop h (z51p2k kind l K))))))
def z51p3S (l : (List GFact)) (kind : Int) : St := ⟨[sv 0 (sGFact l), sv 1 (i64 kind)], [], 0⟩
noncomputable def career_first_p3 (l : (List GFact)) (kind : Int) : Option ((Int × Bool)) := (career_first_p2 kind l)
theorem z51p3ok {l : (List GFact)} {kind : Int} {K : KT} (h : W (career_first_p3 l kind) (rE z51R K)) : EvL Tryz.prog 41 (List.drop 0 z51i0) K (z51p3S l kind) :=
  EvL.qD mixed [] [1, 6, 7, 10, 11, 12, 19, 20, 21, 22, 25, 26, 27, 28, 29, 30, 31, 32, 33] 0 3 3 (.nx (fun K => wK K .normal (z51p2S kind l)) (l0 (z51p2ok h)))
noncomputable def career_first (l : (List GFact)) (kind : Int) : Option ((Int × Bool)) := career_first_p3 l kind
noncomputable def career_first_C : Con := con2 uGFact (aI .i64) career_first ((0 : Int), false) career_first_out
theorem career_first_ok : Meets Tryz.prog 51 career_first_C := meets2 Tryz.f51 (bodyOf Tryz.f51) [.tmp 4, .tmp 5] 41 fun u0 u1 y h => @z51p3ok u0 u1 _ (W_iff.2 ⟨y, h, (rtI (.tup [(i64 y.1), (bl y.2)]) (VLe.tup (VLes.cons (VLe.rfl' _) (VLes.cons (VLe.rfl' _) (VLes.nil)))))⟩)
noncomputable abbrev e51 : FE Tryz.prog := ⟨51, .pure career_first_C, career_first_ok⟩

noncomputable def z21i0 : List Code := items (bodyOf Tryz.f21)
def career_Death_out (x_1 : (Int × Bool)) : Out := .data (.tup [(i64 x_1.1), (bl x_1.2)])
def z21R (x_1 : (Int × Bool)) : St := ⟨[sv 2 (i64 x_1.1), sv 3 (bl x_1.2)], [], 0⟩
def z21p0S (l : (List GFact)) : St := ⟨[sv 0 (sGFact l)], [], 0⟩
noncomputable def career_Death_p0 (l : (List GFact)) : Option ((Int × Bool)) := (career_first l 12).bind fun r_1 => ((some (r_1.1, r_1.2)))
theorem z21p0nf (l : (List GFact)) (K : KT) {L1_ : List GFact} (hL1_ : lst dGFact l.length (lGFact l) = L1_) :
    ev Tryz.prog (lookF [e51]) 8 (ofItems ((List.drop 0 z21i0).take 3)) (cN [2, 3] K) (z21p0S l) =
    (let a1_ := career_first L1_ 12; (kGFact l) ∧ (a1_.isSome = true) ∧ (wK K .ret (z21R ((a1_.getD (0, false)).1, (a1_.getD (0, false)).2)))) := by subst hL1_; kernel_rfl
theorem z21p0ok {l : (List GFact)} {K : KT} (h : W (career_Death_p0 l) (rE z21R K)) : EvL Tryz.prog 8 (List.drop 0 z21i0) K (z21p0S l) :=
  EvL.qE mixed [e51] [2, 3] 0 3 (.of (z21p0nf l _ (lb dGFact_eGFact)) (⟨kb dGFact_eGFact, (W_bind (0, false) h fun _ h => (l0 h))⟩))
noncomputable def career_Death (l : (List GFact)) : Option ((Int × Bool)) := career_Death_p0 l
noncomputable def career_Death_C : Con := con1 uGFact career_Death ((0 : Int), false) career_Death_out
theorem career_Death_ok : Meets Tryz.prog 21 career_Death_C := meets1 Tryz.f21 (bodyOf Tryz.f21) [.tmp 2, .tmp 3] 8 fun u0 y h => @z21p0ok u0 _ (W_iff.2 ⟨y, h, (rtI (.tup [(i64 y.1), (bl y.2)]) (VLe.tup (VLes.cons (VLe.rfl' _) (VLes.cons (VLe.rfl' _) (VLes.nil)))))⟩)
noncomputable abbrev e21 : FE Tryz.prog := ⟨21, .pure career_Death_C, career_Death_ok⟩

noncomputable def z24i0 : List Code := items (bodyOf Tryz.f24)
noncomputable def z24i1 : List Code := items (inside (inside (nthI z24i0 3)))
def conversion_refer_out (x_1 : (List GSpan)) : Out := .own true 36 2 (x_1).length (lsEl eGSpan zGSpan x_1)
def z24R (x_1 : (List GSpan)) : St := ⟨[sv 6 (.row 0 2 0 x_1.length)], [(rGSpan 0 36 x_1)], 1⟩
def z24l1S (kind ref : Int) (l : (List GFact)) (s : ((List GSpan) × Int)) : St := match s with | (out_1, t12) => ⟨[sv 1 (i64 kind), sv 2 (i64 ref), sv 7 (.row 0 2 0 out_1.length), sv 10 (sGFact l), sv 11 (i64 (l.length : Int)), sv 12 (i64 t12)], [(rGSpan 0 36 out_1)], 1⟩
def z24l1C0 (kind ref : Int) (l : (List GFact)) (s : (List GSpan)) : St := match s with | out_2 => ⟨[sv 7 (.row 0 2 0 out_2.length)], [(rGSpan 0 36 out_2)], 1⟩
def z24l1E (kind ref : Int) (l : (List GFact)) (r : (((List GSpan)))) (K : KT) : Prop := match r with | s => K (.exit 0) (z24l1C0 kind ref l s)
def z24p0S (kind ref : Int) (out_1 : (List GSpan)) (l : (List GFact)) (t12 : Int) : St := ⟨[sv 1 (i64 kind), sv 2 (i64 ref), sv 7 (.row 0 2 0 out_1.length), sv 10 (sGFact l), sv 11 (i64 (l.length : Int)), sv 12 (i64 t12)], [(rGSpan 0 36 out_1)], 1⟩
noncomputable def conversion_refer_p0 (kind ref : Int) (out_1 : (List GSpan)) (l : (List GFact)) (t12 : Int) : Option (((List GSpan) × Int) ⊕ (((List GSpan)))) := (bif (decide (t12 < (l.length : Int))) then gd (0 ≤ t12 ∧ t12 < (l.length : Int)) ((bif (bif ((l.getD (Int.toNat t12) zGFact).Kind == kind) then ((l.getD (Int.toNat t12) zGFact).Ref == ref) else false) then gd (capB (out_1.length + 1) 16) ((some (Sum.inl ((out_1 ++ ([(l.getD (Int.toNat t12) zGFact).Span] : List GSpan)), (w64 (t12 + 1)))))) else (some (Sum.inl (out_1, (w64 (t12 + 1))))))) else (some (Sum.inr out_1)))
theorem z24p0ok {kind ref : Int} {out_1 : (List GSpan)} {l : (List GFact)} {t12 : Int} {K : KT} (h : W (conversion_refer_p0 kind ref out_1 l t12) (nE (z24l1S kind ref l) (z24l1E kind ref l) K)) : EvL Tryz.prog 33 (List.drop 0 z24i1) K (z24p0S kind ref out_1 l t12) :=
  EvL.qE mixed [] [1, 2, 7, 10, 11, 12, 21, 22, 23, 24] 0 4 (.nx (fun K => let a1_ := l.getD (Int.toNat t12) zGFact; let a2_ := out_1.length + 1; let a3_ := i64 (l.length : Int); (bif (decide (t12 < (l.length : Int))) then (0 ≤ t12) ∧ (t12 < (l.length : Int)) ∧ ((bif (bif (a1_.Kind == kind) then (a1_.Ref == ref) else false) then (out_1.length = out_1.length) ∧ (a2_ * 16 ≤ 140737488355328) ∧ (a2_ ≤ 140737488355328) ∧ (wK K .normal (⟨[sv 1 (i64 kind), sv 2 (i64 ref), sv 7 (.row 0 2 0 a2_), sv 10 (sGFact l), sv 11 a3_, sv 12 (i64 (w64 (t12 + 1))), un 21, un 22, un 23, un 24], [(0, some (.row 36 2 a2_ (fun i => bif Nat.blt i out_1.length then (lGSpan out_1) i else (fun i => (litE 2 (eGSpan (a1_.Span))) (0 + i)) (i - out_1.length))))], 1⟩)) else wK K .normal (⟨[sv 1 (i64 kind), sv 2 (i64 ref), sv 7 (.row 0 2 0 out_1.length), sv 10 (sGFact l), sv 11 a3_, sv 12 (i64 (w64 (t12 + 1))), un 21, un 22, un 23, un 24], [(rGSpan 0 36 out_1)], 1⟩))) else wK K (.exit 0) (⟨[sv 1 (i64 kind), sv 2 (i64 ref), sv 7 (.row 0 2 0 out_1.length), sv 10 (sGFact l), sv 11 a3_, sv 12 (i64 t12)], [(rGSpan 0 36 out_1)], 1⟩))) (W_bif h (fun _ h => (W_gd2 h fun _ h => (W_bif h (fun _ h => ⟨rfl, (W_gd2 h fun _ h => (lf h (.of (.q rfl (.q rfl (.cons rfl (.rown (len_app rfl rfl)) (.qs 3 .nil)))) (.row rfl (RowIs.app .b (RowIs.zero (RowIs.l1 (enc := eGSpan) (z := zGSpan) 2 ((l.getD (Int.toNat t12) zGFact).Span) rfl))) .nil rfl) rfl)))⟩) (fun _ h => (lf h (.cn [1, 2, 7, 10, 11, 12])))))) (fun _ h => (lf h (.cn [7])))))
noncomputable def conversion_refer_l1 (kind ref : Int) (l : (List GFact)) (s : ((List GSpan) × Int)) : Option (((List GSpan) × Int) ⊕ (((List GSpan)))) := match s with | (out_1, t12) => conversion_refer_p0 kind ref out_1 l t12
theorem z24l1ok (kind ref : Int) (l : (List GFact)) (s : ((List GSpan) × Int)) : Pp Tryz.prog 33 (List.drop 0 z24i1) (z24l1S kind ref l s) (conversion_refer_l1 kind ref l s) (nextE (z24l1S kind ref l) (z24l1E kind ref l)) := fun K h => match s, h with | (out_1, t12), h => (z24p0ok h)
theorem z24l1Ethen (kind ref : Int) (l : (List GFact)) : ∀ (r : (((List GSpan)))) (J : St → Prop) (K : KT), z24l1E kind ref l r K → z24l1E kind ref l r (thenK J K)
  | s, _, _, h => h
def z24p1S (out_3 : (List GSpan)) : St := ⟨[sv 7 (.row 0 2 0 out_3.length)], [(rGSpan 0 36 out_3)], 1⟩
noncomputable def conversion_refer_p1 (out_3 : (List GSpan)) : Option ((List GSpan)) := (some out_3)
theorem z24p1ok {out_3 : (List GSpan)} {K : KT} (h : W (conversion_refer_p1 out_3) (rE z24R K)) : EvL Tryz.prog 33 (List.drop 4 z24i0) K (z24p1S out_3) :=
  EvL.qE mixed [] [6] 4 2 (.nx (fun K => wK K .ret (z24R out_3)) (l0 h))
def z24p2S (kind ref : Int) (l : (List GFact)) : St := ⟨[sv 1 (i64 kind), sv 2 (i64 ref), sv 7 (.c .nil), sv 10 (sGFact l), sv 11 (i64 (l.length : Int)), sv 12 (i64 0)], [], 0⟩
noncomputable def conversion_refer_p2_g (kind ref : Int) (l : (List GFact)) (r : (((List GSpan)))) : Option ((List GSpan)) := match r with | out_2 => (conversion_refer_p1 out_2)
noncomputable def conversion_refer_p2 (kind ref : Int) (l : (List GFact)) : Option ((List GSpan)) := (fixL (conversion_refer_l1 kind ref l) (([] : List GSpan), 0)).bind (conversion_refer_p2_g kind ref l)
theorem z24p2at : List.drop 3 z24i0 = .block 0 (.loop (inside (inside (nthI z24i0 3)))) :: List.drop 4 z24i0 := by kernel_rfl
theorem z24p2k (kind ref : Int) (l : (List GFact)) (K : KT) : ∀ r : (((List GSpan))), W (conversion_refer_p2_g kind ref l r) (rE z24R K) → z24l1E kind ref l r (wK (blockK 0 (thenK (EvL Tryz.prog 33 (List.drop 4 z24i0) K) K)))
  | out_2, h => ⟨(z24p1S out_2), (.refl _), (z24p1ok h)⟩
theorem z24p2ok {kind ref : Int} {l : (List GFact)} {K : KT} (h : W (conversion_refer_p2 kind ref l) (rE z24R K)) : EvL Tryz.prog 33 (List.drop 3 z24i0) K (z24p2S kind ref l) :=
  EvL.at_ z24p2at (EvL.cons_loop (EvOk.weak (EvOk.ent (.trans (.nilrow 7 0 36 2 (lsEl eGSpan zGSpan []) (Nat.le_of_ble_eq_true rfl) rfl) (.cn [1, 2, 7, 10, 11, 12])) (EvOk.loopF (x := inside (inside (nthI z24i0 3))) (f := conversion_refer_l1 kind ref l) (emb := z24l1S kind ref l) (E := z24l1E kind ref l) (z24l1ok kind ref l) (z24l1Ethen kind ref l) (W_loop h (z24p2k kind ref l K))))))
def z24p3S (l : (List GFact)) (kind ref : Int) : St := ⟨[sv 0 (sGFact l), sv 1 (i64 kind), sv 2 (i64 ref)], [], 0⟩
noncomputable def conversion_refer_p3 (l : (List GFact)) (kind ref : Int) : Option ((List GSpan)) := (conversion_refer_p2 kind ref l)
theorem z24p3ok {l : (List GFact)} {kind ref : Int} {K : KT} (h : W (conversion_refer_p3 l kind ref) (rE z24R K)) : EvL Tryz.prog 33 (List.drop 0 z24i0) K (z24p3S l kind ref) :=
  EvL.qD mixed [] [1, 2, 7, 10, 11, 12, 21, 22, 23, 24] 0 3 3 (.nx (fun K => wK K .normal (z24p2S kind ref l)) (l0 (z24p2ok h)))
noncomputable def conversion_refer (l : (List GFact)) (kind ref : Int) : Option ((List GSpan)) := conversion_refer_p3 l kind ref
noncomputable def conversion_refer_C : Con := con3 uGFact (aI .i64) (aI .i64) conversion_refer ([] : List GSpan) conversion_refer_out
theorem conversion_refer_ok : Meets Tryz.prog 24 conversion_refer_C := meets3 Tryz.f24 (bodyOf Tryz.f24) [.tmp 6] 33 fun u0 u1 u2 y h => @z24p3ok u0 u1 u2 _ (W_iff.2 ⟨y, h, (rtI (.row 0 2 0 y.length) (⟨_, _, _, rfl, rfl, rfl, fun _ _ => rfl, fun _ i hi d hd => scal_GSpan _ d hd⟩))⟩)
noncomputable abbrev e24 : FE Tryz.prog := ⟨24, .pure conversion_refer_C, conversion_refer_ok⟩

noncomputable def z87i0 : List Code := items (bodyOf Tryz.f87)
def spans_clamp_out (x_1 : GSpan) : Out := .data (.agg [(i64 x_1.From), (i64 x_1.To)])
def z87R (x_1 : GSpan) : St := ⟨[sv 2 (.ptr 0 2 0 0)], [(0, some (.box [(i64 x_1.From), (i64 x_1.To)]))], 1⟩
def z87p0S (s_1 : GSpan) : St := ⟨[sv 0 (.ag (eGSpan s_1))], [], 0⟩
noncomputable def spans_clamp_p0 (s_1 : GSpan) : Option (GSpan) := (some (GSpan.mk (if s_1.From < 0 then (0 : Int) else s_1.From) (if (73049 : Int) < s_1.To then (73049 : Int) else s_1.To)))
theorem z87p0ok {s_1 : GSpan} {K : KT} (h : W (spans_clamp_p0 s_1) (rE z87R K)) : EvL Tryz.prog 10 (List.drop 0 z87i0) K (z87p0S s_1) :=
  EvL.qE mixed [] [2] 0 3 (.nx (fun K => wK K .ret (z87R (GSpan.mk (if s_1.From < 0 then (0 : Int) else s_1.From) (if (73049 : Int) < s_1.To then (73049 : Int) else s_1.To)))) (l0 h))
noncomputable def spans_clamp (s_1 : GSpan) : Option (GSpan) := spans_clamp_p0 s_1
noncomputable def spans_clamp_C : Con := con1 wGSpan spans_clamp zGSpan spans_clamp_out
theorem spans_clamp_ok : Meets Tryz.prog 87 spans_clamp_C := meets1 Tryz.f87 (bodyOf Tryz.f87) [.cell 2 36] 10 fun u0 y h => @z87p0ok u0 _ (W_iff.2 ⟨y, h, (rtI (.agg [(i64 y.From), (i64 y.To)]) (VLe.rfl' _))⟩)
noncomputable abbrev e87 : FE Tryz.prog := ⟨87, .pure spans_clamp_C, spans_clamp_ok⟩


instance : Inhabited GSpan := ⟨zGSpan⟩
/-- Which of two stands first. -/
def sort_Slice_lt (a b : GSpan) : Bool := decide (a.From < b.From)
theorem sort_Slice_swo : Go.Sort.SWO sort_Slice_lt := ⟨fun x => by simp [sort_Slice_lt], fun x y z h1 h2 => by simp [sort_Slice_lt] at *; omega, fun x y z h1 h2 => by simp [sort_Slice_lt] at *; omega⟩
/-- An element's words. -/
def sort_Slice_enc (x : GSpan) : List Value := [.int .i64 x.From, .int .i64 x.To]
theorem sort_Slice_one (x : GSpan) (v : Value) (hv : v ∈ sort_Slice_enc x) : v.oneCell' = true := by
  unfold sort_Slice_enc at hv
  simp only [List.mem_cons, List.not_mem_nil, or_false] at hv
  rcases hv with rfl | rfl <;> rfl
/-- sort.Slice, in the order in which it leaves the list. -/
noncomputable def sort_Slice (l : List GSpan) : Option (List GSpan) := gd (l.length < 4611686018427387904) (some (sortL sort_Slice_lt l))
noncomputable def sort_Slice_C : Heap → Nat → List V → Option Res := sortC eGSpan dGSpan zGSpan 66 36 2 89 sort_Slice
section
open Go.Shelf Go.RowKit Go.Lib Go.Sort
set_option maxHeartbeats 2000000 in
theorem sort_Slice_walk (W : World) (blk off c Bs size : Nat) (G : Nat → Int) (hs : W.cell? ⟨Bs, 0, none⟩ = some (.slice (some ⟨blk, off, none⟩) size c))
    (hc : ∀ t, t < size → W.cell? ⟨blk, off + t * 2, none⟩ = some (.int .i64 (G t))) (i j : Nat) (hi : i < size) (hj : j < size) (_hsz : size < 4611686018427387904) :
    Calls Tryz.prog 89 #[.int .i64 i, .int .i64 j, .pointer (some ⟨Bs, 0, none⟩)] W fun e w' => e = .returned (.bool (decide (G i < G j))) ∧ ∃ q, w' = W.drewN q := by
  have ci := hc i hi
  have cj := hc j hj
  go_enter Tryz.func89, Tryz.ntmps89
  go_wp2
  go_quiet (fail)
  go_wp2
  go_ret
  exact ⟨rfl, nq, rfl⟩
theorem sort_Slice_less (W : World) (blk c Bs : Nat) (d : Array GSpan) (hH : HoldsK sort_Slice_enc 2 W blk 0 d) (hsz : d.size < 4611686018427387904) (hs : W.cell? ⟨Bs, 0, none⟩ = some (.slice (some ⟨blk, 0, none⟩) d.size c)) (i j : Nat) (hi : i < d.size) (hj : j < d.size) :
    Calls Tryz.prog 89 #[.int .i64 i, .int .i64 j, .pointer (some ⟨Bs, 0, none⟩)] W fun e w' => e = .returned (.bool (sort_Slice_lt d[i]! d[j]!)) ∧ ∃ q, w' = W.drewN q :=
  sort_Slice_walk W blk 0 c Bs d.size (fun t => d[t]!.From) hs (fun t ht => (hH.cell (i := t) (c := 0) ht (by omega)).1) i j hi hj hsz
noncomputable def sort_Slice_ti : TypeInfo := (Tryz.prog.info? 66).get (by kernel_rfl)
noncomputable def sort_Slice_ei : TypeInfo := (Tryz.prog.info? 36).get (by kernel_rfl)
theorem sort_Slice_run : SortRun Tryz.prog 88 66 89 2 sort_Slice_enc sort_Slice_lt := by
  have hp : sort_Slice_ei.hasPointers = false := by kernel_rfl
  have hb : sort_Slice_ei.bytes = 16 := by kernel_rfl
  exact sortRun_of (T := GSpan) (enc := sort_Slice_enc) (k := 2) (lt := sort_Slice_lt) (t := 66) (e := 36) (g := 89) (i := sort_Slice_ti) (ie := sort_Slice_ei) (s := 9) (f2 := 118) Tryz.sl (by kernel_rfl) (by kernel_rfl) (by kernel_rfl) (by kernel_rfl) (ke := 25) (fun _ => by kernel_rfl) (fun _ => rfl) (by kernel_rfl) (fun _ => by kernel_rfl) sort_Slice_one sort_Slice_swo
    (enters_of (c := bodyOf Tryz.f89) Tryz.func89 (by kernel_rfl) (by kernel_rfl)) (by kernel_rfl) (enters_of (c := bodyOf Tryz.f88) Tryz.func88 (by kernel_rfl) (by kernel_rfl)) (f0 := 110) (by kernel_rfl) (f1 := 111) (by kernel_rfl)
    (fun n h2 => by
      have c : (n == 0) = false := by simp; omega
      have d : (n == 1) = false := by simp; omega
      simp [Lib.swapperK, hp, hb, c, d]) (by kernel_rfl) (gS := false) (fun args W => run_callFunc_extern Tryz.func118 (by kernel_rfl) (by kernel_rfl) (by kernel_rfl) (e := Extern.ReflectliteSwapper.swap false) (by kernel_rfl) args W)
    sort_Slice_less
end
theorem sort_Slice_ok : MeetsC Tryz.prog 88 (.mut sort_Slice_C) :=
  sortC_meets sort_Slice_swo (by decide) (by kernel_rfl) (fun _ => rfl) (fun _ => rfl) sort_Slice_one (fun l x h => ⟨(gd_some.1 h).1, (Option.some.inj (gd_some.1 h).2).symm⟩) sort_Slice_run
noncomputable abbrev e88 : FE Tryz.prog := ⟨88, .mut sort_Slice_C, sort_Slice_ok⟩

noncomputable def z69i0 : List Code := items (bodyOf Tryz.f69)
noncomputable def z69i1 : List Code := items (inside (inside (nthI z69i0 3)))
noncomputable def z69i2 : List Code := items (inside (inside (nthI z69i0 7)))
def spans_Make_out (x_1 : (List GSpan)) : Out := .own true 36 2 (x_1).length (lsEl eGSpan zGSpan x_1)
def z69R (x_1 : (List GSpan)) : St := ⟨[sv 2 (.row 0 2 0 x_1.length)], [(rGSpan 0 36 x_1)], 1⟩
def z69l1S (l : (List GSpan)) (s : (Int × (List GSpan))) : St := match s with | (t12, sorted) => ⟨[sv 3 (.ptr 0 1 0 0), sv 10 (sGSpan l), sv 11 (i64 (l.length : Int)), sv 12 (i64 t12)], [(0, some (.box [(.row 1 2 0 sorted.length)])), (rGSpan 1 36 sorted)], 2⟩
def z69l1C0 (l : (List GSpan)) (s : (List GSpan)) : St := match s with | sorted_1 => ⟨[sv 3 (.ptr 0 1 0 0)], [(0, some (.box [(.row 1 2 0 sorted_1.length)])), (rGSpan 1 36 sorted_1)], 2⟩
def z69l1E (l : (List GSpan)) (r : (((List GSpan)))) (K : KT) : Prop := match r with | s => K (.exit 0) (z69l1C0 l s)
def z69p0S (l : (List GSpan)) (t12 : Int) (sorted : (List GSpan)) : St := ⟨[sv 3 (.ptr 0 1 0 0), sv 10 (sGSpan l), sv 11 (i64 (l.length : Int)), sv 12 (i64 t12)], [(0, some (.box [(.row 1 2 0 sorted.length)])), (rGSpan 1 36 sorted)], 2⟩
noncomputable def spans_Make_p0 (l : (List GSpan)) (t12 : Int) (sorted : (List GSpan)) : Option ((Int × (List GSpan)) ⊕ (((List GSpan)))) := (bif (decide (t12 < (l.length : Int))) then gd (0 ≤ t12 ∧ t12 < (l.length : Int)) ((spans_clamp (l.getD (Int.toNat t12) zGSpan)).bind fun r_1 => ((bif (decide (r_1.From < r_1.To)) then gd (capB (sorted.length + 1) 16) ((some (Sum.inl ((w64 (t12 + 1)), (sorted ++ ([r_1] : List GSpan)))))) else (some (Sum.inl ((w64 (t12 + 1)), sorted)))))) else (some (Sum.inr sorted)))
theorem z69p0ok {l : (List GSpan)} {t12 : Int} {sorted : (List GSpan)} {K : KT} (h : W (spans_Make_p0 l t12 sorted) (nE (z69l1S l) (z69l1E l) K)) : EvL Tryz.prog 73 (List.drop 0 z69i1) K (z69p0S l t12 sorted) :=
  EvL.qE mixed [e87] [3, 10, 11, 12, 43, 44, 45, 46, 47, 48, 49, 50, 51] 0 4 (.nx (fun K => let a1_ := spans_clamp (l.getD (Int.toNat t12) zGSpan); let a2_ := sorted.length + 1; (bif (decide (t12 < (l.length : Int))) then (0 ≤ t12) ∧ (t12 < (l.length : Int)) ∧ ((a1_.isSome = true) ∧ ((bif (decide ((a1_.getD zGSpan).From < (a1_.getD zGSpan).To)) then (sorted.length = sorted.length) ∧ (a2_ * 16 ≤ 140737488355328) ∧ (a2_ ≤ 140737488355328) ∧ (wK K .normal (⟨[sv 3 (.ptr 0 1 0 0), sv 10 (sGSpan l), sv 11 (i64 (l.length : Int)), sv 12 (i64 (w64 (t12 + 1)))], [(0, some (.box [(.row 1 2 0 a2_)])), (1, some (.row 36 2 a2_ (fun i => bif Nat.blt i sorted.length then (lGSpan sorted) i else (fun i => (litE 2 (eGSpan (a1_.getD zGSpan))) (0 + i)) (i - sorted.length))))], 2⟩)) else wK K .normal (z69l1S l ((w64 (t12 + 1)), sorted))))) else wK K (.exit 0) (⟨[sv 3 (.ptr 0 1 0 0), sv 10 (sGSpan l), sv 11 (i64 (l.length : Int)), sv 12 (i64 t12)], [(0, some (.box [(.row 1 2 0 sorted.length)])), (rGSpan 1 36 sorted)], 2⟩))) (W_bif h (fun _ h => (W_gd2 h fun _ h => (W_bind zGSpan h fun _ h => (W_bif h (fun _ h => ⟨rfl, (W_gd2 h fun _ h => (lf h (.of (.qs 4 .nil) (.box rfl (.cons (.rown (len_app rfl rfl)) .nil) (.row rfl (RowIs.app .b (RowIs.zero (RowIs.l1 (enc := eGSpan) (z := zGSpan) 2 ((spans_clamp (l.getD (Int.toNat t12) zGSpan)).getD zGSpan) rfl))) .nil rfl)) rfl)))⟩) (fun _ h => (l0 h)))))) (fun _ h => (lf h (.cn [3])))))
noncomputable def spans_Make_l1 (l : (List GSpan)) (s : (Int × (List GSpan))) : Option ((Int × (List GSpan)) ⊕ (((List GSpan)))) := match s with | (t12, sorted) => spans_Make_p0 l t12 sorted
theorem z69l1ok (l : (List GSpan)) (s : (Int × (List GSpan))) : Pp Tryz.prog 73 (List.drop 0 z69i1) (z69l1S l s) (spans_Make_l1 l s) (nextE (z69l1S l) (z69l1E l)) := fun K h => match s, h with | (t12, sorted), h => (z69p0ok h)
theorem z69l1Ethen (l : (List GSpan)) : ∀ (r : (((List GSpan)))) (J : St → Prop) (K : KT), z69l1E l r K → z69l1E l r (thenK J K)
  | s, _, _, h => h
def z69l2S (t32 : (List GSpan)) (t33 : Int) (s : ((List GSpan) × (List GSpan) × Int × Int)) : St := match s with | (out_1, t32_1, t33_1, t34) => ⟨[sv 6 (.row 0 2 0 out_1.length), sv 32 (.row 1 2 0 t32_1.length), sv 33 (i64 t33_1), sv 34 (i64 t34)], [(rGSpan 0 36 out_1), (rGSpan 1 36 t32_1)], 2⟩
def z69l2C0 (t32 : (List GSpan)) (t33 : Int) (s : (List GSpan)) : St := match s with | out_2 => ⟨[sv 6 (.row 0 2 0 out_2.length)], [(rGSpan 0 36 out_2)], 1⟩
def z69l2E (t32 : (List GSpan)) (t33 : Int) (r : (((List GSpan)))) (K : KT) : Prop := match r with | s => K (.exit 2) (z69l2C0 t32 t33 s)
def z69p1S (out_1 t32_1 : (List GSpan)) (t33_1 t34 : Int) : St := ⟨[sv 6 (.row 0 2 0 out_1.length), sv 32 (.row 1 2 0 t32_1.length), sv 33 (i64 t33_1), sv 34 (i64 t34)], [(rGSpan 0 36 out_1), (rGSpan 1 36 t32_1)], 2⟩
noncomputable def spans_Make_p1 (out_1 t32_1 : (List GSpan)) (t33_1 t34 : Int) : Option (((List GSpan) × (List GSpan) × Int × Int) ⊕ (((List GSpan)))) := (bif (decide (t34 < t33_1)) then gd (0 ≤ t34 ∧ t34 < (t32_1.length : Int)) (gd (((decide (0 < (out_1.length : Int))) && true) = true → 0 ≤ (w64 ((out_1.length : Int) - 1))) (gd (((decide (0 < (out_1.length : Int))) && true) = true → (w64 ((out_1.length : Int) - 1)) < (out_1.length : Int)) ((bif (bif (decide (0 < (out_1.length : Int))) then (decide ((t32_1.getD (0 + (Int.toNat t34)) zGSpan).From ≤ (out_1.getD (0 + (Int.toNat (w64 ((out_1.length : Int) - 1)))) zGSpan).To)) else false) then gd (0 ≤ (w64 ((out_1.length : Int) - 1)) ∧ (w64 ((out_1.length : Int) - 1)) < (out_1.length : Int)) (gd (0 ≤ (w64 ((out_1.length : Int) - 1)) ∧ (w64 ((out_1.length : Int) - 1)) < (out_1.length : Int)) ((some (Sum.inl ((out_1.set (0 + (Int.toNat (w64 ((out_1.length : Int) - 1)))) (GSpan.mk (out_1.getD (0 + (Int.toNat (w64 ((out_1.length : Int) - 1)))) zGSpan).From (if (out_1.getD (0 + (Int.toNat (w64 ((out_1.length : Int) - 1)))) zGSpan).To < (t32_1.getD (0 + (Int.toNat t34)) zGSpan).To then (t32_1.getD (0 + (Int.toNat t34)) zGSpan).To else (out_1.getD (0 + (Int.toNat (w64 ((out_1.length : Int) - 1)))) zGSpan).To))), t32_1, t33_1, (w64 (t34 + 1))))))) else gd (capB (out_1.length + 1) 16) ((some (Sum.inl ((out_1 ++ ([(t32_1.getD (0 + (Int.toNat t34)) zGSpan)] : List GSpan)), t32_1, t33_1, (w64 (t34 + 1)))))))))) else (some (Sum.inr out_1)))
theorem z69p1ok {out_1 t32_1 : (List GSpan)} {t33_1 t34 : Int} {t32 : (List GSpan)} {t33 : Int} {K : KT} (h : W (spans_Make_p1 out_1 t32_1 t33_1 t34) (nE (z69l2S t32 t33) (z69l2E t32 t33) K)) : EvL Tryz.prog 73 (List.drop 0 z69i2) K (z69p1S out_1 t32_1 t33_1 t34) :=
  EvL.qE mixed [] [6, 32, 33, 34, 43, 44, 45, 46, 47, 48, 49, 50, 51] 0 4 (.nx (fun K => let a4_ := (out_1.length : Int); let a1_ := w64 (a4_ - 1); let a2_ := t32_1.getD (0 + (Int.toNat t34)) zGSpan; let a3_ := out_1.getD (0 + (Int.toNat a1_)) zGSpan; let a5_ := out_1.length + 1; let a6_ := rGSpan 1 36 t32_1; let a7_ := decide (0 < a4_); (bif (decide (t34 < t33_1)) then (0 ≤ t34) ∧ (t34 < (t32_1.length : Int)) ∧ (((a7_ && true) = true → 0 ≤ a1_) ∧ ((a7_ && true) = true → a1_ < a4_) ∧ ((bif (bif a7_ then (decide (a2_.From ≤ a3_.To)) else false) then (0 ≤ a1_) ∧ (a1_ < a4_) ∧ (0 ≤ a1_) ∧ (a1_ < a4_) ∧ (wK K .normal (⟨[sv 6 (.row 0 2 0 out_1.length), sv 32 (.row 1 2 0 t32_1.length), sv 33 (i64 t33_1), sv 34 (i64 (w64 (t34 + 1))), un 43, un 44, un 45, un 46, un 47, un 48, un 49, un 50, un 51], [(0, some (.row 36 2 out_1.length (fun q => bif Nat.beq q (0 + (Int.toNat a1_)) then (eGSpan (GSpan.s_To a3_ (if a3_.To < a2_.To then a2_.To else a3_.To))) else (lGSpan out_1) q))), a6_], 2⟩)) else (out_1.length = out_1.length) ∧ (a5_ * 16 ≤ 140737488355328) ∧ (a5_ ≤ 140737488355328) ∧ (wK K .normal (⟨[sv 6 (.row 0 2 0 a5_), sv 32 (.row 1 2 0 t32_1.length), sv 33 (i64 t33_1), sv 34 (i64 (w64 (t34 + 1))), un 43, un 44, un 45, un 46, un 47, un 48, un 49, un 50, un 51], [(0, some (.row 36 2 a5_ (fun i => bif Nat.blt i out_1.length then (lGSpan out_1) i else (fun i => (litE 2 (eGSpan a2_)) (0 + i)) (i - out_1.length)))), a6_], 2⟩))))) else wK K (.exit 2) (⟨[sv 6 (.row 0 2 0 out_1.length), sv 32 (.row 1 2 0 t32_1.length), sv 33 (i64 t33_1), sv 34 (i64 t34)], [(rGSpan 0 36 out_1), a6_], 2⟩))) (W_bif h (fun _ h => (W_gd2 h fun _ h => (W_gd h fun _ h => (W_gd h fun _ h => (W_bif h (fun _ h => (W_gd2 h fun _ h => (W_gd2 h fun _ h => (lf h (.of (.cons rfl (.rown (len_set rfl)) (.qs 3 .nil)) (.row rfl (RowIs.set .b (0 + (Int.toNat (w64 ((out_1.length : Int) - 1)))) (GSpan.s_To (out_1.getD (0 + (Int.toNat (w64 ((out_1.length : Int) - 1)))) zGSpan) (if (out_1.getD (0 + (Int.toNat (w64 ((out_1.length : Int) - 1)))) zGSpan).To < (t32_1.getD (0 + (Int.toNat t34)) zGSpan).To then (t32_1.getD (0 + (Int.toNat t34)) zGSpan).To else (out_1.getD (0 + (Int.toNat (w64 ((out_1.length : Int) - 1)))) zGSpan).To)) rfl) (.same rfl .nil) rfl) rfl))))) (fun _ h => ⟨rfl, (W_gd2 h fun _ h => (lf h (.of (.cons rfl (.rown (len_app rfl rfl)) (.qs 3 .nil)) (.row rfl (RowIs.app .b (RowIs.zero (RowIs.l1 (enc := eGSpan) (z := zGSpan) 2 (t32_1.getD (0 + (Int.toNat t34)) zGSpan) rfl))) (.same rfl .nil) rfl) rfl)))⟩)))))) (fun _ h => (lf h (.cn [6])))))
noncomputable def spans_Make_l2 (t32 : (List GSpan)) (t33 : Int) (s : ((List GSpan) × (List GSpan) × Int × Int)) : Option (((List GSpan) × (List GSpan) × Int × Int) ⊕ (((List GSpan)))) := match s with | (out_1, t32_1, t33_1, t34) => spans_Make_p1 out_1 t32_1 t33_1 t34
theorem z69l2ok (t32 : (List GSpan)) (t33 : Int) (s : ((List GSpan) × (List GSpan) × Int × Int)) : Pp Tryz.prog 73 (List.drop 0 z69i2) (z69l2S t32 t33 s) (spans_Make_l2 t32 t33 s) (nextE (z69l2S t32 t33) (z69l2E t32 t33)) := fun K h => match s, h with | (out_1, t32_1, t33_1, t34), h => (z69p1ok h)
theorem z69l2Ethen (t32 : (List GSpan)) (t33 : Int) : ∀ (r : (((List GSpan)))) (J : St → Prop) (K : KT), z69l2E t32 t33 r K → z69l2E t32 t33 r (thenK J K)
  | s, _, _, h => h
def z69p2S (out_3 : (List GSpan)) : St := ⟨[sv 6 (.row 0 2 0 out_3.length)], [(rGSpan 0 36 out_3)], 1⟩
noncomputable def spans_Make_p2 (out_3 : (List GSpan)) : Option ((List GSpan)) := (some out_3)
theorem z69p2ok {out_3 : (List GSpan)} {K : KT} (h : W (spans_Make_p2 out_3) (rE z69R K)) : EvL Tryz.prog 73 (List.drop 8 z69i0) K (z69p2S out_3) :=
  EvL.qE mixed [] [2] 8 2 (.nx (fun K => wK K .ret (z69R out_3)) (l0 h))
def z69p3S (t32 : (List GSpan)) (t33 : Int) : St := ⟨[sv 6 (.c .nil), sv 32 (.row 0 2 0 t32.length), sv 33 (i64 t33), sv 34 (i64 0)], [(rGSpan 0 36 t32)], 1⟩
noncomputable def spans_Make_p3_g (t32 : (List GSpan)) (t33 : Int) (r : (((List GSpan)))) : Option ((List GSpan)) := match r with | out_2 => (spans_Make_p2 out_2)
noncomputable def spans_Make_p3 (t32 : (List GSpan)) (t33 : Int) : Option ((List GSpan)) := (fixL (spans_Make_l2 t32 t33) (([] : List GSpan), t32, t33, 0)).bind (spans_Make_p3_g t32 t33)
theorem z69p3at : List.drop 7 z69i0 = .block 2 (.loop (inside (inside (nthI z69i0 7)))) :: List.drop 8 z69i0 := by kernel_rfl
theorem z69p3k (t32 : (List GSpan)) (t33 : Int) (K : KT) : ∀ r : (((List GSpan))), W (spans_Make_p3_g t32 t33 r) (rE z69R K) → z69l2E t32 t33 r (wK (blockK 2 (thenK (EvL Tryz.prog 73 (List.drop 8 z69i0) K) K)))
  | out_2, h => ⟨(z69p2S out_2), (.refl _), (z69p2ok h)⟩
theorem z69p3ok {t32 : (List GSpan)} {t33 : Int} {K : KT} (h : W (spans_Make_p3 t32 t33) (rE z69R K)) : EvL Tryz.prog 73 (List.drop 7 z69i0) K (z69p3S t32 t33) :=
  EvL.at_ z69p3at (EvL.cons_loop (EvOk.weak (EvOk.ent (.trans (.nilrow 6 1 36 2 (lsEl eGSpan zGSpan []) (Nat.le_of_ble_eq_true rfl) rfl) (.cn [6, 32, 33, 34])) (EvOk.loopF (x := inside (inside (nthI z69i0 7))) (f := spans_Make_l2 t32 t33) (emb := z69l2S t32 t33) (E := z69l2E t32 t33) (z69l2ok t32 t33) (z69l2Ethen t32 t33) (W_loop h (z69p3k t32 t33 K))))))
def z69p4S (sorted_2 : (List GSpan)) : St := ⟨[sv 3 (.ptr 0 1 0 0)], [(0, some (.box [(.row 1 2 0 sorted_2.length)])), (rGSpan 1 36 sorted_2)], 2⟩
noncomputable def spans_Make_p4 (sorted_2 : (List GSpan)) : Option ((List GSpan)) := (sort_Slice sorted_2).bind fun r_2 => ((spans_Make_p3 r_2 (r_2.length : Int)))
theorem z69p4nf (sorted_2 : (List GSpan)) (K : KT) {L1_ : List GSpan} (hL1_ : lst dGSpan sorted_2.length (lGSpan sorted_2) = L1_) :
    ev Tryz.prog (lookF [e88]) 73 (ofItems ((List.drop 4 z69i0).take 3)) (cN [6, 32, 33, 34, 43, 44, 45, 46, 47, 48, 49, 50, 51] K) (z69p4S sorted_2) =
    (let a1_ := sorted_2.length = sorted_2.length; a1_ ∧ a1_ ∧ (kGSpan sorted_2) ∧ ((sort_Slice L1_).isSome = true) ∧ (wK K .normal (z69p3S ((sort_Slice L1_).getD []) ((((sort_Slice L1_).getD [])).length : Int)))) := by subst hL1_; kernel_rfl
theorem z69p4ok {sorted_2 : (List GSpan)} {K : KT} (h : W (spans_Make_p4 sorted_2) (rE z69R K)) : EvL Tryz.prog 73 (List.drop 4 z69i0) K (z69p4S sorted_2) :=
  EvL.qD mixed [e88] [6, 32, 33, 34, 43, 44, 45, 46, 47, 48, 49, 50, 51] 4 3 7 (.of (z69p4nf sorted_2 _ (lb dGSpan_eGSpan)) (⟨(rfl), ⟨(rfl), ⟨kb dGSpan_eGSpan, (W_bind [] h fun _ h => (l0 (z69p3ok h)))⟩⟩⟩))
def z69p5S (l : (List GSpan)) : St := ⟨[sv 3 (.ptr 0 1 0 0), sv 10 (sGSpan l), sv 11 (i64 (l.length : Int)), sv 12 (i64 0)], [(0, some (.box [(.c .nil)]))], 1⟩
noncomputable def spans_Make_p5_g (l : (List GSpan)) (r : (((List GSpan)))) : Option ((List GSpan)) := match r with | sorted_1 => (spans_Make_p4 sorted_1)
noncomputable def spans_Make_p5 (l : (List GSpan)) : Option ((List GSpan)) := (fixL (spans_Make_l1 l) (0, ([] : List GSpan))).bind (spans_Make_p5_g l)
theorem z69p5at : List.drop 3 z69i0 = .block 0 (.loop (inside (inside (nthI z69i0 3)))) :: List.drop 4 z69i0 := by kernel_rfl
theorem z69p5k (l : (List GSpan)) (K : KT) : ∀ r : (((List GSpan))), W (spans_Make_p5_g l r) (rE z69R K) → z69l1E l r (wK (blockK 0 (thenK (EvL Tryz.prog 73 (List.drop 4 z69i0) K) K)))
  | sorted_1, h => ⟨(z69p4S sorted_1), (.refl _), (z69p4ok h)⟩
theorem z69p5ok {l : (List GSpan)} {K : KT} (h : W (spans_Make_p5 l) (rE z69R K)) : EvL Tryz.prog 73 (List.drop 3 z69i0) K (z69p5S l) :=
  EvL.at_ z69p5at (EvL.cons_loop (EvOk.weak (EvOk.ent (.trans (.nilbox 0 0 1 36 2 (lsEl eGSpan zGSpan []) [(.c .nil)] (Nat.le_of_ble_eq_true rfl) rfl rfl) (.cn [3, 10, 11, 12])) (EvOk.loopF (x := inside (inside (nthI z69i0 3))) (f := spans_Make_l1 l) (emb := z69l1S l) (E := z69l1E l) (z69l1ok l) (z69l1Ethen l) (W_loop h (z69p5k l K))))))
def z69p6S (l : (List GSpan)) : St := ⟨[sv 0 (sGSpan l)], [], 0⟩
noncomputable def spans_Make_p6 (l : (List GSpan)) : Option ((List GSpan)) := (spans_Make_p5 l)
theorem z69p6ok {l : (List GSpan)} {K : KT} (h : W (spans_Make_p6 l) (rE z69R K)) : EvL Tryz.prog 73 (List.drop 0 z69i0) K (z69p6S l) :=
  EvL.qD mixed [] [3, 10, 11, 12, 43, 44, 45, 46, 47, 48, 49, 50, 51] 0 3 3 (.nx (fun K => wK K .normal (z69p5S l)) (l0 (z69p5ok h)))
noncomputable def spans_Make (l : (List GSpan)) : Option ((List GSpan)) := spans_Make_p6 l
noncomputable def spans_Make_C : Con := con1 uGSpan spans_Make ([] : List GSpan) spans_Make_out
theorem spans_Make_ok : Meets Tryz.prog 69 spans_Make_C := meets1 Tryz.f69 (bodyOf Tryz.f69) [.tmp 2] 73 fun u0 y h => @z69p6ok u0 _ (W_iff.2 ⟨y, h, (rtI (.row 0 2 0 y.length) (⟨_, _, _, rfl, rfl, rfl, fun _ _ => rfl, fun _ i hi d hd => scal_GSpan _ d hd⟩))⟩)
noncomputable abbrev e69 : FE Tryz.prog := ⟨69, .pure spans_Make_C, spans_Make_ok⟩

noncomputable def z53i0 : List Code := items (bodyOf Tryz.f53)
noncomputable def z53i1 : List Code := items (inside (inside (nthI z53i0 4)))
def spans_Intersect_out (x_1 : (List GSpan)) : Out := .own true 36 2 (x_1).length (lsEl eGSpan zGSpan x_1)
def z53R (x_1 : (List GSpan)) : St := ⟨[sv 4 (.row 0 2 0 x_1.length)], [(rGSpan 0 36 x_1)], 1⟩
def z53l1S (a_1 b_1 : (List GSpan)) (s : ((List GSpan) × Int × Int)) : St := match s with | (out_1, i_1, j) => ⟨[sv 0 (.row 0 2 0 a_1.length), sv 1 (.row 1 2 0 b_1.length), sv 5 (.row 2 2 0 out_1.length), sv 6 (i64 i_1), sv 7 (i64 j)], [(rGSpan 0 36 a_1), (rGSpan 1 36 b_1), (rGSpan 2 36 out_1)], 3⟩
def z53l1C0 (a_1 b_1 : (List GSpan)) (s : (List GSpan)) : St := match s with | out_2 => ⟨[sv 5 (.row 0 2 0 out_2.length)], [(rGSpan 0 36 out_2)], 1⟩
def z53l1E (a_1 b_1 : (List GSpan)) (r : (((List GSpan)))) (K : KT) : Prop := match r with | s => K (.exit 0) (z53l1C0 a_1 b_1 s)
def z53p0S (a_1 b_1 out_1 : (List GSpan)) (i_1 j : Int) : St := ⟨[sv 0 (.row 0 2 0 a_1.length), sv 1 (.row 1 2 0 b_1.length), sv 5 (.row 2 2 0 out_1.length), sv 6 (i64 i_1), sv 7 (i64 j)], [(rGSpan 0 36 a_1), (rGSpan 1 36 b_1), (rGSpan 2 36 out_1)], 3⟩
noncomputable def spans_Intersect_p0 (a_1 b_1 out_1 : (List GSpan)) (i_1 j : Int) : Option (((List GSpan) × Int × Int) ⊕ (((List GSpan)))) := (bif (bif (decide (i_1 < (a_1.length : Int))) then (decide (j < (b_1.length : Int))) else false) then gd (0 ≤ i_1 ∧ i_1 < (a_1.length : Int)) (gd (0 ≤ j ∧ j < (b_1.length : Int)) (gd (0 ≤ i_1 ∧ i_1 < (a_1.length : Int)) (gd (0 ≤ j ∧ j < (b_1.length : Int)) ((bif (decide ((if (a_1.getD (0 + (Int.toNat i_1)) zGSpan).From < (b_1.getD (0 + (Int.toNat j)) zGSpan).From then (b_1.getD (0 + (Int.toNat j)) zGSpan).From else (a_1.getD (0 + (Int.toNat i_1)) zGSpan).From) < (if (b_1.getD (0 + (Int.toNat j)) zGSpan).To < (a_1.getD (0 + (Int.toNat i_1)) zGSpan).To then (b_1.getD (0 + (Int.toNat j)) zGSpan).To else (a_1.getD (0 + (Int.toNat i_1)) zGSpan).To))) then gd (capB (out_1.length + 1) 16) (gd (0 ≤ i_1 ∧ i_1 < (a_1.length : Int)) (gd (0 ≤ j ∧ j < (b_1.length : Int)) ((bif (decide ((a_1.getD (0 + (Int.toNat i_1)) zGSpan).To < (b_1.getD (0 + (Int.toNat j)) zGSpan).To)) then (some (Sum.inl ((out_1 ++ ([(GSpan.mk (if (a_1.getD (0 + (Int.toNat i_1)) zGSpan).From < (b_1.getD (0 + (Int.toNat j)) zGSpan).From then (b_1.getD (0 + (Int.toNat j)) zGSpan).From else (a_1.getD (0 + (Int.toNat i_1)) zGSpan).From) (if (b_1.getD (0 + (Int.toNat j)) zGSpan).To < (a_1.getD (0 + (Int.toNat i_1)) zGSpan).To then (b_1.getD (0 + (Int.toNat j)) zGSpan).To else (a_1.getD (0 + (Int.toNat i_1)) zGSpan).To))] : List GSpan)), (w64 (i_1 + 1)), j))) else (some (Sum.inl ((out_1 ++ ([(GSpan.mk (if (a_1.getD (0 + (Int.toNat i_1)) zGSpan).From < (b_1.getD (0 + (Int.toNat j)) zGSpan).From then (b_1.getD (0 + (Int.toNat j)) zGSpan).From else (a_1.getD (0 + (Int.toNat i_1)) zGSpan).From) (if (b_1.getD (0 + (Int.toNat j)) zGSpan).To < (a_1.getD (0 + (Int.toNat i_1)) zGSpan).To then (b_1.getD (0 + (Int.toNat j)) zGSpan).To else (a_1.getD (0 + (Int.toNat i_1)) zGSpan).To))] : List GSpan)), i_1, (w64 (j + 1))))))))) else gd (0 ≤ i_1 ∧ i_1 < (a_1.length : Int)) (gd (0 ≤ j ∧ j < (b_1.length : Int)) ((bif (decide ((a_1.getD (0 + (Int.toNat i_1)) zGSpan).To < (b_1.getD (0 + (Int.toNat j)) zGSpan).To)) then (some (Sum.inl (out_1, (w64 (i_1 + 1)), j))) else (some (Sum.inl (out_1, i_1, (w64 (j + 1))))))))))))) else (some (Sum.inr out_1)))
theorem z53p0ok {a_1 b_1 out_1 : (List GSpan)} {i_1 j : Int} {K : KT} (h : W (spans_Intersect_p0 a_1 b_1 out_1 i_1 j) (nE (z53l1S a_1 b_1) (z53l1E a_1 b_1) K)) : EvL Tryz.prog 71 (List.drop 0 z53i1) K (z53p0S a_1 b_1 out_1 i_1 j) :=
  EvL.qE mixed [] [0, 1, 5, 6, 7, 18, 19, 20, 21] 0 3 (.nx (fun K => let a1_ := a_1.getD (0 + (Int.toNat i_1)) zGSpan; let a2_ := b_1.getD (0 + (Int.toNat j)) zGSpan; let a3_ := litE 2 (eGSpan (GSpan.mk (if a1_.From < a2_.From then a2_.From else a1_.From) (if a2_.To < a1_.To then a2_.To else a1_.To))); let a4_ := i_1 < (a_1.length : Int); let a5_ := j < (b_1.length : Int); let a6_ := out_1.length + 1; let a7_ := rGSpan 2 36 out_1; (bif (bif (decide a4_) then (decide a5_) else false) then (0 ≤ i_1) ∧ a4_ ∧ (0 ≤ j) ∧ a5_ ∧ (0 ≤ i_1) ∧ a4_ ∧ (0 ≤ j) ∧ a5_ ∧ ((bif (decide ((if a1_.From < a2_.From then a2_.From else a1_.From) < (if a2_.To < a1_.To then a2_.To else a1_.To))) then (out_1.length = out_1.length) ∧ (a6_ * 16 ≤ 140737488355328) ∧ (a6_ ≤ 140737488355328) ∧ ((0 ≤ i_1) ∧ a4_ ∧ (0 ≤ j) ∧ a5_ ∧ ((bif (decide (a1_.To < a2_.To)) then wK K .normal (⟨[sv 0 (.row 0 2 0 a_1.length), sv 1 (.row 1 2 0 b_1.length), sv 5 (.row 2 2 0 a6_), sv 6 (i64 (w64 (i_1 + 1))), sv 7 (i64 j), un 18, un 19, un 20, un 21], [(rGSpan 0 36 a_1), (rGSpan 1 36 b_1), (2, some (.row 36 2 a6_ (fun i => bif Nat.blt i out_1.length then (lGSpan out_1) i else (fun i => a3_ (0 + i)) (i - out_1.length))))], 3⟩) else wK K .normal (⟨[sv 0 (.row 0 2 0 a_1.length), sv 1 (.row 1 2 0 b_1.length), sv 5 (.row 2 2 0 a6_), sv 6 (i64 i_1), sv 7 (i64 (w64 (j + 1))), un 18, un 19, un 20, un 21], [(rGSpan 0 36 a_1), (rGSpan 1 36 b_1), (2, some (.row 36 2 a6_ (fun i => bif Nat.blt i out_1.length then (lGSpan out_1) i else (fun i => a3_ (0 + i)) (i - out_1.length))))], 3⟩)))) else (0 ≤ i_1) ∧ a4_ ∧ (0 ≤ j) ∧ a5_ ∧ ((bif (decide (a1_.To < a2_.To)) then wK K .normal (⟨[sv 0 (.row 0 2 0 a_1.length), sv 1 (.row 1 2 0 b_1.length), sv 5 (.row 2 2 0 out_1.length), sv 6 (i64 (w64 (i_1 + 1))), sv 7 (i64 j), un 18, un 19, un 20, un 21], [(rGSpan 0 36 a_1), (rGSpan 1 36 b_1), a7_], 3⟩) else wK K .normal (⟨[sv 0 (.row 0 2 0 a_1.length), sv 1 (.row 1 2 0 b_1.length), sv 5 (.row 2 2 0 out_1.length), sv 6 (i64 i_1), sv 7 (i64 (w64 (j + 1))), un 18, un 19, un 20, un 21], [(rGSpan 0 36 a_1), (rGSpan 1 36 b_1), a7_], 3⟩))))) else wK K (.exit 0) (⟨[sv 0 (.row 0 2 0 a_1.length), sv 1 (.row 1 2 0 b_1.length), sv 5 (.row 2 2 0 out_1.length), sv 6 (i64 i_1), sv 7 (i64 j), un 18, un 19, un 20, un 21], [(rGSpan 0 36 a_1), (rGSpan 1 36 b_1), a7_], 3⟩))) (W_bif h (fun _ h => (W_gd2 h fun _ h => (W_gd2 h fun _ h => (W_gd2 h fun _ h => (W_gd2 h fun _ h => (W_bif h (fun _ h => ⟨rfl, (W_gd2 h fun _ h => (W_gd2 h fun _ h => (W_gd2 h fun _ h => (W_bif h (fun _ h => (lf h (.of (.q rfl (.q rfl (.cons rfl (.rown (len_app rfl rfl)) (.q rfl (.q rfl .nil))))) (.same rfl (.same rfl (.row rfl (RowIs.app .b (RowIs.zero (RowIs.l1 (enc := eGSpan) (z := zGSpan) 2 (GSpan.mk (if (a_1.getD (0 + (Int.toNat i_1)) zGSpan).From < (b_1.getD (0 + (Int.toNat j)) zGSpan).From then (b_1.getD (0 + (Int.toNat j)) zGSpan).From else (a_1.getD (0 + (Int.toNat i_1)) zGSpan).From) (if (b_1.getD (0 + (Int.toNat j)) zGSpan).To < (a_1.getD (0 + (Int.toNat i_1)) zGSpan).To then (b_1.getD (0 + (Int.toNat j)) zGSpan).To else (a_1.getD (0 + (Int.toNat i_1)) zGSpan).To)) rfl))) .nil rfl))) rfl))) (fun _ h => (lf h (.of (.q rfl (.q rfl (.cons rfl (.rown (len_app rfl rfl)) (.q rfl (.q rfl .nil))))) (.same rfl (.same rfl (.row rfl (RowIs.app .b (RowIs.zero (RowIs.l1 (enc := eGSpan) (z := zGSpan) 2 (GSpan.mk (if (a_1.getD (0 + (Int.toNat i_1)) zGSpan).From < (b_1.getD (0 + (Int.toNat j)) zGSpan).From then (b_1.getD (0 + (Int.toNat j)) zGSpan).From else (a_1.getD (0 + (Int.toNat i_1)) zGSpan).From) (if (b_1.getD (0 + (Int.toNat j)) zGSpan).To < (a_1.getD (0 + (Int.toNat i_1)) zGSpan).To then (b_1.getD (0 + (Int.toNat j)) zGSpan).To else (a_1.getD (0 + (Int.toNat i_1)) zGSpan).To)) rfl))) .nil rfl))) rfl)))))))⟩) (fun _ h => (W_gd2 h fun _ h => (W_gd2 h fun _ h => (W_bif h (fun _ h => (lf h (.cn [0, 1, 5, 6, 7]))) (fun _ h => (lf h (.cn [0, 1, 5, 6, 7]))))))))))))) (fun _ h => (lf h (.cn [5])))))
noncomputable def spans_Intersect_l1 (a_1 b_1 : (List GSpan)) (s : ((List GSpan) × Int × Int)) : Option (((List GSpan) × Int × Int) ⊕ (((List GSpan)))) := match s with | (out_1, i_1, j) => spans_Intersect_p0 a_1 b_1 out_1 i_1 j
theorem z53l1ok (a_1 b_1 : (List GSpan)) (s : ((List GSpan) × Int × Int)) : Pp Tryz.prog 71 (List.drop 0 z53i1) (z53l1S a_1 b_1 s) (spans_Intersect_l1 a_1 b_1 s) (nextE (z53l1S a_1 b_1) (z53l1E a_1 b_1)) := fun K h => match s, h with | (out_1, i_1, j), h => (z53p0ok h)
theorem z53l1Ethen (a_1 b_1 : (List GSpan)) : ∀ (r : (((List GSpan)))) (J : St → Prop) (K : KT), z53l1E a_1 b_1 r K → z53l1E a_1 b_1 r (thenK J K)
  | s, _, _, h => h
def z53p1S (out_3 : (List GSpan)) : St := ⟨[sv 5 (.row 0 2 0 out_3.length)], [(rGSpan 0 36 out_3)], 1⟩
noncomputable def spans_Intersect_p1 (out_3 : (List GSpan)) : Option ((List GSpan)) := (some out_3)
theorem z53p1ok {out_3 : (List GSpan)} {K : KT} (h : W (spans_Intersect_p1 out_3) (rE z53R K)) : EvL Tryz.prog 71 (List.drop 5 z53i0) K (z53p1S out_3) :=
  EvL.qE mixed [] [4] 5 2 (.nx (fun K => wK K .ret (z53R out_3)) (l0 h))
def z53p2S (a_1 b_1 : (List GSpan)) : St := ⟨[sv 0 (.row 0 2 0 a_1.length), sv 1 (.row 1 2 0 b_1.length), sv 5 (.c .nil), sv 6 (i64 0), sv 7 (i64 0)], [(rGSpan 0 36 a_1), (rGSpan 1 36 b_1)], 2⟩
noncomputable def spans_Intersect_p2_g (a_1 b_1 : (List GSpan)) (r : (((List GSpan)))) : Option ((List GSpan)) := match r with | out_2 => (spans_Intersect_p1 out_2)
noncomputable def spans_Intersect_p2 (a_1 b_1 : (List GSpan)) : Option ((List GSpan)) := (fixL (spans_Intersect_l1 a_1 b_1) (([] : List GSpan), 0, 0)).bind (spans_Intersect_p2_g a_1 b_1)
theorem z53p2at : List.drop 4 z53i0 = .block 0 (.loop (inside (inside (nthI z53i0 4)))) :: List.drop 5 z53i0 := by kernel_rfl
theorem z53p2k (a_1 b_1 : (List GSpan)) (K : KT) : ∀ r : (((List GSpan))), W (spans_Intersect_p2_g a_1 b_1 r) (rE z53R K) → z53l1E a_1 b_1 r (wK (blockK 0 (thenK (EvL Tryz.prog 71 (List.drop 5 z53i0) K) K)))
  | out_2, h => ⟨(z53p1S out_2), (.refl _), (z53p1ok h)⟩
theorem z53p2ok {a_1 b_1 : (List GSpan)} {K : KT} (h : W (spans_Intersect_p2 a_1 b_1) (rE z53R K)) : EvL Tryz.prog 71 (List.drop 4 z53i0) K (z53p2S a_1 b_1) :=
  EvL.at_ z53p2at (EvL.cons_loop (EvOk.weak (EvOk.ent (.trans (.nilrow 5 2 36 2 (lsEl eGSpan zGSpan []) (Nat.le_of_ble_eq_true rfl) rfl) (.cn [0, 1, 5, 6, 7])) (EvOk.loopF (x := inside (inside (nthI z53i0 4))) (f := spans_Intersect_l1 a_1 b_1) (emb := z53l1S a_1 b_1) (E := z53l1E a_1 b_1) (z53l1ok a_1 b_1) (z53l1Ethen a_1 b_1) (W_loop h (z53p2k a_1 b_1 K))))))
def z53p3S (a b : (List GSpan)) : St := ⟨[sv 0 (sGSpan a), sv 1 (sGSpan b)], [], 0⟩
noncomputable def spans_Intersect_p3 (a b : (List GSpan)) : Option ((List GSpan)) := (spans_Make a).bind fun r_1 => ((spans_Make b).bind fun r_2 => ((spans_Intersect_p2 r_1 r_2)))
theorem z53p3nf (a b : (List GSpan)) (K : KT) {L1_ : List GSpan} (hL1_ : lst dGSpan a.length (lGSpan a) = L1_) {L2_ : List GSpan} (hL2_ : lst dGSpan b.length (lGSpan b) = L2_) :
    ev Tryz.prog (lookF [e69]) 71 (ofItems ((List.drop 0 z53i0).take 4)) (cN [0, 1, 5, 6, 7, 18, 19, 20, 21] K) (z53p3S a b) =
    ((kGSpan a) ∧ ((spans_Make L1_).isSome = true) ∧ (kGSpan b) ∧ ((spans_Make L2_).isSome = true) ∧ (wK K .normal (z53p2S ((spans_Make L1_).getD []) ((spans_Make L2_).getD [])))) := by subst hL1_ hL2_; kernel_rfl
theorem z53p3ok {a b : (List GSpan)} {K : KT} (h : W (spans_Intersect_p3 a b) (rE z53R K)) : EvL Tryz.prog 71 (List.drop 0 z53i0) K (z53p3S a b) :=
  EvL.qD mixed [e69] [0, 1, 5, 6, 7, 18, 19, 20, 21] 0 4 4 (.of (z53p3nf a b _ (lb dGSpan_eGSpan) (lb dGSpan_eGSpan)) (⟨kb dGSpan_eGSpan, (W_bind [] h fun _ h => ⟨kb dGSpan_eGSpan, (W_bind [] h fun _ h => (l0 (z53p2ok h)))⟩)⟩))
noncomputable def spans_Intersect (a b : (List GSpan)) : Option ((List GSpan)) := spans_Intersect_p3 a b
noncomputable def spans_Intersect_C : Con := con2 uGSpan uGSpan spans_Intersect ([] : List GSpan) spans_Intersect_out
theorem spans_Intersect_ok : Meets Tryz.prog 53 spans_Intersect_C := meets2 Tryz.f53 (bodyOf Tryz.f53) [.tmp 4] 71 fun u0 u1 y h => @z53p3ok u0 u1 _ (W_iff.2 ⟨y, h, (rtI (.row 0 2 0 y.length) (⟨_, _, _, rfl, rfl, rfl, fun _ _ => rfl, fun _ i hi d hd => scal_GSpan _ d hd⟩))⟩)
noncomputable abbrev e53 : FE Tryz.prog := ⟨53, .pure spans_Intersect_C, spans_Intersect_ok⟩

noncomputable def z23i0 : List Code := items (bodyOf Tryz.f23)
def spans_Clip_out (x_1 : (List GSpan)) : Out := .own true 36 2 (x_1).length (lsEl eGSpan zGSpan x_1)
def z23R (x_1 : (List GSpan)) : St := ⟨[sv 4 (.row 0 2 0 x_1.length)], [(rGSpan 0 36 x_1)], 1⟩
def z23p0S (l : (List GSpan)) (s_1 : GSpan) : St := ⟨[sv 0 (sGSpan l), sv 1 (.ag (eGSpan s_1))], [], 0⟩
noncomputable def spans_Clip_p0 (l : (List GSpan)) (s_1 : GSpan) : Option ((List GSpan)) := (spans_Intersect l ([s_1] : List GSpan)).bind fun r_1 => ((some r_1))
theorem z23p0nf (l : (List GSpan)) (s_1 : GSpan) (K : KT) {L1_ : List GSpan} (hL1_ : lst dGSpan l.length (lGSpan l) = L1_) {L2_ : List GSpan} (hL2_ : lst dGSpan 1 (fun i => (litE 2 (eGSpan s_1)) (0 + i)) = L2_) :
    ev Tryz.prog (lookF [e53]) 9 (ofItems ((List.drop 0 z23i0).take 3)) (cN [4] K) (z23p0S l s_1) =
    ((kGSpan l) ∧ (LstOk eGSpan dGSpan 2 2 1 (fun i => (litE 2 (eGSpan s_1)) (0 + i))) ∧ ((spans_Intersect L1_ L2_).isSome = true) ∧ (wK K .ret (z23R ((spans_Intersect L1_ L2_).getD [])))) := by subst hL1_ hL2_; kernel_rfl
theorem z23p0ok {l : (List GSpan)} {s_1 : GSpan} {K : KT} (h : W (spans_Clip_p0 l s_1) (rE z23R K)) : EvL Tryz.prog 9 (List.drop 0 z23i0) K (z23p0S l s_1) :=
  EvL.qE mixed [e53] [4] 0 3 (.of (z23p0nf l s_1 _ (lb dGSpan_eGSpan) (lr dGSpan_eGSpan (RowIs.zero (RowIs.l1 (enc := eGSpan) (z := zGSpan) 2 s_1 rfl)))) (⟨kb dGSpan_eGSpan, ⟨RowIs.ok dGSpan_eGSpan (RowIs.zero (RowIs.l1 (enc := eGSpan) (z := zGSpan) 2 s_1 rfl)), (W_bind [] h fun _ h => (l0 h))⟩⟩))
noncomputable def spans_Clip (l : (List GSpan)) (s_1 : GSpan) : Option ((List GSpan)) := spans_Clip_p0 l s_1
noncomputable def spans_Clip_C : Con := con2 uGSpan wGSpan spans_Clip ([] : List GSpan) spans_Clip_out
theorem spans_Clip_ok : Meets Tryz.prog 23 spans_Clip_C := meets2 Tryz.f23 (bodyOf Tryz.f23) [.tmp 4] 9 fun u0 u1 y h => @z23p0ok u0 u1 _ (W_iff.2 ⟨y, h, (rtI (.row 0 2 0 y.length) (⟨_, _, _, rfl, rfl, rfl, fun _ _ => rfl, fun _ i hi d hd => scal_GSpan _ d hd⟩))⟩)
noncomputable abbrev e23 : FE Tryz.prog := ⟨23, .pure spans_Clip_C, spans_Clip_ok⟩

noncomputable def z52i0 : List Code := items (bodyOf Tryz.f52)
noncomputable def z52i1 : List Code := items (inside (inside (nthI z52i0 3)))
def spans_Before_out (x_1 : Int) : Out := .data (i64 x_1)
def z52R (x_1 : Int) : St := ⟨[sv 4 (i64 x_1)], [], 0⟩
def z52l1S (day : Int) (t9 : (List GSpan)) (t10 : Int) (s : (Int × Int)) : St := match s with | (n, t11) => ⟨[sv 1 (i64 day), sv 5 (i64 n), sv 9 (.row 0 2 0 t9.length), sv 10 (i64 t10), sv 11 (i64 t11)], [(rGSpan 0 36 t9)], 1⟩
def z52l1C0 (day : Int) (t9 : (List GSpan)) (t10 : Int) (s : Int) : St := match s with | n_1 => ⟨[sv 5 (i64 n_1)], [], 0⟩
def z52l1E (day : Int) (t9 : (List GSpan)) (t10 : Int) (r : ((Int))) (K : KT) : Prop := match r with | s => K (.exit 0) (z52l1C0 day t9 t10 s)
def z52p0S (day n : Int) (t9 : (List GSpan)) (t10 t11 : Int) : St := ⟨[sv 1 (i64 day), sv 5 (i64 n), sv 9 (.row 0 2 0 t9.length), sv 10 (i64 t10), sv 11 (i64 t11)], [(rGSpan 0 36 t9)], 1⟩
noncomputable def spans_Before_p0 (day n : Int) (t9 : (List GSpan)) (t10 t11 : Int) : Option ((Int × Int) ⊕ ((Int))) := (bif (decide (t11 < t10)) then gd (0 ≤ t11 ∧ t11 < (t9.length : Int)) ((bif (decide ((t9.getD (0 + (Int.toNat t11)) zGSpan).From < day)) then (some (Sum.inl ((w64 (n + (w64 ((if day < (t9.getD (0 + (Int.toNat t11)) zGSpan).To then day else (t9.getD (0 + (Int.toNat t11)) zGSpan).To) - (t9.getD (0 + (Int.toNat t11)) zGSpan).From)))), (w64 (t11 + 1))))) else (some (Sum.inl (n, (w64 (t11 + 1))))))) else (some (Sum.inr n)))
theorem z52p0ok {day n : Int} {t9 : (List GSpan)} {t10 t11 : Int} {K : KT} (h : W (spans_Before_p0 day n t9 t10 t11) (nE (z52l1S day t9 t10) (z52l1E day t9 t10) K)) : EvL Tryz.prog 30 (List.drop 0 z52i1) K (z52p0S day n t9 t10 t11) :=
  EvL.qE mixed [] [1, 5, 9, 10, 11] 0 4 (.nx (fun K => let a1_ := t9.getD (0 + (Int.toNat t11)) zGSpan; (bif (decide (t11 < t10)) then (0 ≤ t11) ∧ (t11 < (t9.length : Int)) ∧ ((bif (decide (a1_.From < day)) then wK K .normal (z52l1S day t9 t10 ((w64 (n + (w64 ((if day < a1_.To then day else a1_.To) - a1_.From)))), (w64 (t11 + 1)))) else wK K .normal (z52l1S day t9 t10 (n, (w64 (t11 + 1)))))) else wK K (.exit 0) (⟨[sv 1 (i64 day), sv 5 (i64 n), sv 9 (.row 0 2 0 t9.length), sv 10 (i64 t10), sv 11 (i64 t11)], [(rGSpan 0 36 t9)], 1⟩))) (W_bif h (fun _ h => (W_gd2 h fun _ h => (W_bif h (fun _ h => (l0 h)) (fun _ h => (l0 h))))) (fun _ h => (lf h (.cn [5])))))
noncomputable def spans_Before_l1 (day : Int) (t9 : (List GSpan)) (t10 : Int) (s : (Int × Int)) : Option ((Int × Int) ⊕ ((Int))) := match s with | (n, t11) => spans_Before_p0 day n t9 t10 t11
theorem z52l1ok (day : Int) (t9 : (List GSpan)) (t10 : Int) (s : (Int × Int)) : Pp Tryz.prog 30 (List.drop 0 z52i1) (z52l1S day t9 t10 s) (spans_Before_l1 day t9 t10 s) (nextE (z52l1S day t9 t10) (z52l1E day t9 t10)) := fun K h => match s, h with | (n, t11), h => (z52p0ok h)
theorem z52l1Ethen (day : Int) (t9 : (List GSpan)) (t10 : Int) : ∀ (r : ((Int))) (J : St → Prop) (K : KT), z52l1E day t9 t10 r K → z52l1E day t9 t10 r (thenK J K)
  | s, _, _, h => h
def z52p1S (n_2 : Int) : St := ⟨[sv 5 (i64 n_2)], [], 0⟩
noncomputable def spans_Before_p1 (n_2 : Int) : Option (Int) := (some n_2)
theorem z52p1ok {n_2 : Int} {K : KT} (h : W (spans_Before_p1 n_2) (rE z52R K)) : EvL Tryz.prog 30 (List.drop 4 z52i0) K (z52p1S n_2) :=
  EvL.qE mixed [] [4] 4 2 (.nx (fun K => wK K .ret (z52R n_2)) (l0 h))
def z52p2S (day : Int) (t9 : (List GSpan)) (t10 : Int) : St := ⟨[sv 1 (i64 day), sv 5 (i64 0), sv 9 (.row 0 2 0 t9.length), sv 10 (i64 t10), sv 11 (i64 0)], [(rGSpan 0 36 t9)], 1⟩
noncomputable def spans_Before_p2_g (day : Int) (t9 : (List GSpan)) (t10 : Int) (r : ((Int))) : Option (Int) := match r with | n_1 => (spans_Before_p1 n_1)
noncomputable def spans_Before_p2 (day : Int) (t9 : (List GSpan)) (t10 : Int) : Option (Int) := (fixL (spans_Before_l1 day t9 t10) (0, 0)).bind (spans_Before_p2_g day t9 t10)
theorem z52p2at : List.drop 3 z52i0 = .block 0 (.loop (inside (inside (nthI z52i0 3)))) :: List.drop 4 z52i0 := by kernel_rfl
theorem z52p2k (day : Int) (t9 : (List GSpan)) (t10 : Int) (K : KT) : ∀ r : ((Int)), W (spans_Before_p2_g day t9 t10 r) (rE z52R K) → z52l1E day t9 t10 r (wK (blockK 0 (thenK (EvL Tryz.prog 30 (List.drop 4 z52i0) K) K)))
  | n_1, h => ⟨(z52p1S n_1), (.refl _), (z52p1ok h)⟩
theorem z52p2ok {day : Int} {t9 : (List GSpan)} {t10 : Int} {K : KT} (h : W (spans_Before_p2 day t9 t10) (rE z52R K)) : EvL Tryz.prog 30 (List.drop 3 z52i0) K (z52p2S day t9 t10) :=
  EvL.at_ z52p2at (EvL.cons_loop (EvOk.weak (EvOk.ent (.refl _) (EvOk.loopF (x := inside (inside (nthI z52i0 3))) (f := spans_Before_l1 day t9 t10) (emb := z52l1S day t9 t10) (E := z52l1E day t9 t10) (z52l1ok day t9 t10) (z52l1Ethen day t9 t10) (W_loop h (z52p2k day t9 t10 K))))))
def z52p3S (l : (List GSpan)) (day : Int) : St := ⟨[sv 0 (sGSpan l), sv 1 (i64 day)], [], 0⟩
noncomputable def spans_Before_p3 (l : (List GSpan)) (day : Int) : Option (Int) := (spans_Make l).bind fun r_1 => ((spans_Before_p2 day r_1 (r_1.length : Int)))
theorem z52p3nf (l : (List GSpan)) (day : Int) (K : KT) {L1_ : List GSpan} (hL1_ : lst dGSpan l.length (lGSpan l) = L1_) :
    ev Tryz.prog (lookF [e69]) 30 (ofItems ((List.drop 0 z52i0).take 3)) (cN [1, 5, 9, 10, 11] K) (z52p3S l day) =
    ((kGSpan l) ∧ ((spans_Make L1_).isSome = true) ∧ (wK K .normal (z52p2S day ((spans_Make L1_).getD []) ((((spans_Make L1_).getD [])).length : Int)))) := by subst hL1_; kernel_rfl
theorem z52p3ok {l : (List GSpan)} {day : Int} {K : KT} (h : W (spans_Before_p3 l day) (rE z52R K)) : EvL Tryz.prog 30 (List.drop 0 z52i0) K (z52p3S l day) :=
  EvL.qD mixed [e69] [1, 5, 9, 10, 11] 0 3 3 (.of (z52p3nf l day _ (lb dGSpan_eGSpan)) (⟨kb dGSpan_eGSpan, (W_bind [] h fun _ h => (l0 (z52p2ok h)))⟩))
noncomputable def spans_Before (l : (List GSpan)) (day : Int) : Option (Int) := spans_Before_p3 l day
noncomputable def spans_Before_C : Con := con2 uGSpan (aI .i64) spans_Before (0 : Int) spans_Before_out
theorem spans_Before_ok : Meets Tryz.prog 52 spans_Before_C := meets2 Tryz.f52 (bodyOf Tryz.f52) [.tmp 4] 30 fun u0 u1 y h => @z52p3ok u0 u1 _ (W_iff.2 ⟨y, h, (rtI (i64 y) (VLe.rfl' _))⟩)
noncomputable abbrev e52 : FE Tryz.prog := ⟨52, .pure spans_Before_C, spans_Before_ok⟩

noncomputable def z22i0 : List Code := items (bodyOf Tryz.f22)
def spans_Days_out (x_1 : Int) : Out := .data (i64 x_1)
def z22R (x_1 : Int) : St := ⟨[sv 2 (i64 x_1)], [], 0⟩
def z22p0S (l : (List GSpan)) : St := ⟨[sv 0 (sGSpan l)], [], 0⟩
noncomputable def spans_Days_p0 (l : (List GSpan)) : Option (Int) := (spans_Before l 73049).bind fun r_1 => ((some r_1))
theorem z22p0nf (l : (List GSpan)) (K : KT) {L1_ : List GSpan} (hL1_ : lst dGSpan l.length (lGSpan l) = L1_) :
    ev Tryz.prog (lookF [e52]) 5 (ofItems ((List.drop 0 z22i0).take 3)) (cN [2] K) (z22p0S l) =
    ((kGSpan l) ∧ ((spans_Before L1_ 73049).isSome = true) ∧ (wK K .ret (z22R ((spans_Before L1_ 73049).getD 0)))) := by subst hL1_; kernel_rfl
theorem z22p0ok {l : (List GSpan)} {K : KT} (h : W (spans_Days_p0 l) (rE z22R K)) : EvL Tryz.prog 5 (List.drop 0 z22i0) K (z22p0S l) :=
  EvL.qE mixed [e52] [2] 0 3 (.of (z22p0nf l _ (lb dGSpan_eGSpan)) (⟨kb dGSpan_eGSpan, (W_bind 0 h fun _ h => (l0 h))⟩))
noncomputable def spans_Days (l : (List GSpan)) : Option (Int) := spans_Days_p0 l
noncomputable def spans_Days_C : Con := con1 uGSpan spans_Days (0 : Int) spans_Days_out
theorem spans_Days_ok : Meets Tryz.prog 22 spans_Days_C := meets1 Tryz.f22 (bodyOf Tryz.f22) [.tmp 2] 5 fun u0 y h => @z22p0ok u0 _ (W_iff.2 ⟨y, h, (rtI (i64 y) (VLe.rfl' _))⟩)
noncomputable abbrev e22 : FE Tryz.prog := ⟨22, .pure spans_Days_C, spans_Days_ok⟩

noncomputable def z25i0 : List Code := items (bodyOf Tryz.f25)
def conversion_alive_out (x_1 : Bool) : Out := .data (bl x_1)
def z25R (x_1 : Bool) : St := ⟨[sv 6 (bl x_1)], [], 0⟩
def z25p0S (l : (List GFact)) (person day : Int) : St := ⟨[sv 0 (sGFact l), sv 1 (i64 person), sv 2 (i64 day)], [], 0⟩
noncomputable def conversion_alive_p0 (l : (List GFact)) (person day : Int) : Option (Bool) := (career_Of l person).bind fun r_1 => ((career_Death r_1).bind fun r_2 => ((some (bif (!r_2.2) then true else (decide (day ≤ r_2.1))))))
theorem z25p0nf (l : (List GFact)) (person day : Int) (K : KT) {L1_ : List GFact} (hL1_ : lst dGFact l.length (lGFact l) = L1_) {L2_ : List GFact} (hL2_ : lst dGFact ((((career_Of L1_ person).getD [])).length) (fun i => (lGFact ((career_Of L1_ person).getD [])) (0 + i)) = L2_) :
    ev Tryz.prog (lookF [e20, e21]) 23 (ofItems ((List.drop 0 z25i0).take 4)) (cN [6] K) (z25p0S l person day) =
    (let a1_ := career_Of L1_ person; let a2_ := (career_Death L2_).getD (0, false); (kGFact l) ∧ (a1_.isSome = true) ∧ (LstOk eGFact dGFact 14 14 (((a1_.getD [])).length) (fun i => (lGFact (a1_.getD [])) (0 + i))) ∧ ((career_Death L2_).isSome = true) ∧ (wK K .ret (z25R (bif (!a2_.2) then true else (decide (day ≤ a2_.1)))))) := by subst hL1_ hL2_; kernel_rfl
theorem z25p0ok {l : (List GFact)} {person day : Int} {K : KT} (h : W (conversion_alive_p0 l person day) (rE z25R K)) : EvL Tryz.prog 23 (List.drop 0 z25i0) K (z25p0S l person day) :=
  EvL.qE mixed [e20, e21] [6] 0 4 (.of (z25p0nf l person day _ (lb dGFact_eGFact) (lr dGFact_eGFact (RowIs.zero .b))) (⟨kb dGFact_eGFact, (W_bind [] h fun _ h => ⟨RowIs.ok dGFact_eGFact (RowIs.zero .b), (W_bind (0, false) h fun _ h => (l0 h))⟩)⟩))
noncomputable def conversion_alive (l : (List GFact)) (person day : Int) : Option (Bool) := conversion_alive_p0 l person day
noncomputable def conversion_alive_C : Con := con3 uGFact (aI .i64) (aI .i64) conversion_alive false conversion_alive_out
theorem conversion_alive_ok : Meets Tryz.prog 25 conversion_alive_C := meets3 Tryz.f25 (bodyOf Tryz.f25) [.tmp 6] 23 fun u0 u1 u2 y h => @z25p0ok u0 u1 u2 _ (W_iff.2 ⟨y, h, (rtI (bl y) (VLe.rfl' _))⟩)
noncomputable abbrev e25 : FE Tryz.prog := ⟨25, .pure conversion_alive_C, conversion_alive_ok⟩

noncomputable def z55i0 : List Code := items (bodyOf Tryz.f55)
def spans_Contains_1_out (x_1 : Bool) : Out := .data (bl x_1)
def z55R (x_1 : Bool) : St := ⟨[sv 3 (bl x_1)], [], 0⟩
theorem z55Rok (x_1 : Bool) : retK Tryz.prog [.tmp 3] (OutOk (spans_Contains_1_out x_1)) .ret (z55R x_1) :=
  retK.intro (v := (bl x_1)) (by kernel_rfl) ((VLe.rfl' _))
def z55p0S (s_1 : GSpan) (t1 : Int) : St := ⟨[sv 0 (.ag (eGSpan s_1)), sv 1 (.dptr 1 [(di t1)] 0)], [], 0⟩
noncomputable def spans_Contains_1_p0 (s_1 : GSpan) (t1 : Int) : Option (Bool) := (some (bif (decide (s_1.From ≤ t1)) then (decide (t1 < s_1.To)) else false))
theorem z55p0ok {s_1 : GSpan} {t1 : Int} {K : KT} (h : W (spans_Contains_1_p0 s_1 t1) (rE z55R K)) : EvL Tryz.prog 14 (List.drop 0 z55i0) K (z55p0S s_1 t1) :=
  EvL.qE mixed [] [3] 0 3 (.nx (fun K => wK K .ret (z55R (bif (decide (s_1.From ≤ t1)) then (decide (t1 < s_1.To)) else false))) (l0 h))
noncomputable def spans_Contains_1 (s_1 : GSpan) (t1 : Int) : Option (Bool) := spans_Contains_1_p0 s_1 t1
theorem z55run (s_1 : GSpan) (t1 : Int) (y_ : Bool) (h : spans_Contains_1 s_1 t1 = some y_) : EvL Tryz.prog 14 (items (bodyOf Tryz.f55)) (retK Tryz.prog [.tmp 3] (OutOk (spans_Contains_1_out y_))) (z55p0S s_1 t1) :=
  @z55p0ok s_1 t1 _ (W_iff.2 ⟨y_, h, z55Rok y_⟩)
noncomputable def spans_Contains_1_C : Con
  | [(.agg [(.c (.lit (.int .i64 a1))), (.c (.lit (.int .i64 a2)))]), (.dptr 1 [(.lit (.int .i64 a3))] 0)] => some ([(spans_Contains_1 (GSpan.mk a1 a2) a3).isSome = true], (spans_Contains_1_out ((spans_Contains_1 (GSpan.mk a1 a2) a3).getD false)))
  | _ => none
theorem spans_Contains_1_ok : Meets Tryz.prog 55 spans_Contains_1_C := by
  refine meets_fun (fn := Tryz.f55) (c := bodyOf Tryz.f55) (by kernel_rfl) (by kernel_rfl) (by kernel_rfl) (rs := [.tmp 3]) (by kernel_rfl) (nt := 14) (by kernel_rfl) fun vs p out h hp => ?_
  unfold spans_Contains_1_C at h
  split at h
  · next a1 a2 a3 =>
    cases h
    obtain ⟨g, hp⟩ := allq hp
    obtain ⟨x, hx⟩ := Option.isSome_iff_exists.1 g
    rw [hx]
    exact ⟨[(.agg [(i64 (GSpan.mk a1 a2).From), (i64 (GSpan.mk a1 a2).To)]), (.dptr 1 [(di a3)] 0)], (VLes.cons (VLe.rfl' _) (VLes.cons (VLe.rfl' _) VLes.nil)), rfl, z55run (GSpan.mk a1 a2) a3 x hx⟩
  · cases h
noncomputable abbrev e55 : FE Tryz.prog := ⟨55, .pure spans_Contains_1_C, spans_Contains_1_ok⟩

noncomputable def z70i0 : List Code := items (bodyOf Tryz.f70)
noncomputable def z70i1 : List Code := items (inside (inside (nthI z70i0 2)))
def slices_IndexFunc_api_Span_api_Span_Contains_1_out (x_1 : Int) : Out := .data (i64 x_1)
def z70R (x_1 : Int) : St := ⟨[sv 4 (i64 x_1)], [], 0⟩
theorem z70Rok (x_1 : Int) : retK Tryz.prog [.tmp 4] (OutOk (slices_IndexFunc_api_Span_api_Span_Contains_1_out x_1)) .ret (z70R x_1) :=
  retK.intro (v := (i64 x_1)) (by kernel_rfl) ((VLe.rfl' _))
def z70l1S (s_1 : (List GSpan)) (f : Int) (s : (Int)) : St := match s with | t8 => ⟨[sv 0 (sGSpan s_1), sv 1 (.fn 55 [(.dptr 1 [(di f)] 0)]), sv 7 (i64 (s_1.length : Int)), sv 8 (i64 t8)], [], 0⟩
def z70l1C0 (s_1 : (List GSpan)) (f : Int) (s : Int) : St := match s with | t4_1 => ⟨[sv 4 (i64 t4_1)], [], 0⟩
def z70l1C1 (s_1 : (List GSpan)) (f : Int) (s : Unit) : St := match s with | () => ⟨[], [], 0⟩
def z70l1E (s_1 : (List GSpan)) (f : Int) (r : ((Int) ⊕ (Unit))) (K : KT) : Prop := match r with | (.inl s) => K .ret (z70l1C0 s_1 f s) | (.inr s) => K (.exit 0) (z70l1C1 s_1 f s)
def z70p0S (s_1 : (List GSpan)) (f t8 : Int) : St := ⟨[sv 0 (sGSpan s_1), sv 1 (.fn 55 [(.dptr 1 [(di f)] 0)]), sv 7 (i64 (s_1.length : Int)), sv 8 (i64 t8)], [], 0⟩
noncomputable def slices_IndexFunc_api_Span_api_Span_Contains_1_p0 (s_1 : (List GSpan)) (f t8 : Int) : Option ((Int) ⊕ ((Int) ⊕ (Unit))) := (bif (decide (t8 < (s_1.length : Int))) then gd (0 ≤ t8 ∧ t8 < (s_1.length : Int)) ((spans_Contains_1 (s_1.getD (Int.toNat t8) zGSpan) f).bind fun r_1 => ((bif r_1 then (some (Sum.inr (Sum.inl t8))) else (some (Sum.inl (w64 (t8 + 1))))))) else (some (Sum.inr (Sum.inr ()))))
theorem z70p0ok {s_1 : (List GSpan)} {f t8 : Int} {K : KT} (h : W (slices_IndexFunc_api_Span_api_Span_Contains_1_p0 s_1 f t8) (nE (z70l1S s_1 f) (z70l1E s_1 f) K)) : EvL Tryz.prog 19 (List.drop 0 z70i1) K (z70p0S s_1 f t8) :=
  EvL.qE mixed [e55] [0, 1, 4, 7, 8] 0 4 (.nx (fun K => let a1_ := spans_Contains_1 (s_1.getD (Int.toNat t8) zGSpan) f; let a2_ := (s_1.length : Int); (bif (decide (t8 < a2_)) then (0 ≤ t8) ∧ (t8 < a2_) ∧ (a1_.isSome = true) ∧ ((bif (a1_.getD false) then wK K .ret (⟨[sv 0 (sGSpan s_1), sv 1 (.fn 55 [(.dptr 1 [(di f)] 0)]), sv 4 (i64 t8), sv 7 (i64 a2_), sv 8 (i64 t8)], [], 0⟩) else wK K .normal (z70l1S s_1 f (w64 (t8 + 1))))) else wK K (.exit 0) (⟨[sv 0 (sGSpan s_1), sv 1 (.fn 55 [(.dptr 1 [(di f)] 0)]), sv 7 (i64 a2_), sv 8 (i64 t8)], [], 0⟩))) (W_bif h (fun _ h => (W_gd2 h fun _ h => (W_bind false h fun _ h => (W_bif h (fun _ h => (lf h (.cn [4]))) (fun _ h => (l0 h)))))) (fun _ h => (lf h (.cn [])))))
noncomputable def slices_IndexFunc_api_Span_api_Span_Contains_1_l1 (s_1 : (List GSpan)) (f : Int) (s : (Int)) : Option ((Int) ⊕ ((Int) ⊕ (Unit))) := match s with | t8 => slices_IndexFunc_api_Span_api_Span_Contains_1_p0 s_1 f t8
theorem z70l1ok (s_1 : (List GSpan)) (f : Int) (s : (Int)) : Pp Tryz.prog 19 (List.drop 0 z70i1) (z70l1S s_1 f s) (slices_IndexFunc_api_Span_api_Span_Contains_1_l1 s_1 f s) (nextE (z70l1S s_1 f) (z70l1E s_1 f)) := fun K h => match s, h with | t8, h => (z70p0ok h)
theorem z70l1Ethen (s_1 : (List GSpan)) (f : Int) : ∀ (r : ((Int) ⊕ (Unit))) (J : St → Prop) (K : KT), z70l1E s_1 f r K → z70l1E s_1 f r (thenK J K)
  | (.inl s), _, _, h => h
  | (.inr s), _, _, h => h
def z70p1S : St := ⟨[], [], 0⟩
noncomputable def slices_IndexFunc_api_Span_api_Span_Contains_1_p1 : Option (Int) := (some (-1))
theorem z70p1ok {K : KT} (h : W (slices_IndexFunc_api_Span_api_Span_Contains_1_p1) (rE z70R K)) : EvL Tryz.prog 19 (List.drop 3 z70i0) K (z70p1S) :=
  EvL.qE mixed [] [4] 3 2 (.nx (fun K => wK K .ret (z70R (-1))) (l0 h))
def z70p2S (s_1 : (List GSpan)) (f : Int) : St := ⟨[sv 0 (sGSpan s_1), sv 1 (.fn 55 [(.dptr 1 [(di f)] 0)]), sv 7 (i64 (s_1.length : Int)), sv 8 (i64 0)], [], 0⟩
noncomputable def slices_IndexFunc_api_Span_api_Span_Contains_1_p2_g (s_1 : (List GSpan)) (f : Int) (r : ((Int) ⊕ (Unit))) : Option (Int) := match r with | (.inl t4_1) => (some t4_1) | (.inr ()) => slices_IndexFunc_api_Span_api_Span_Contains_1_p1
noncomputable def slices_IndexFunc_api_Span_api_Span_Contains_1_p2 (s_1 : (List GSpan)) (f : Int) : Option (Int) := (fixL (slices_IndexFunc_api_Span_api_Span_Contains_1_l1 s_1 f) 0).bind (slices_IndexFunc_api_Span_api_Span_Contains_1_p2_g s_1 f)
theorem z70p2at : List.drop 2 z70i0 = .block 0 (.loop (inside (inside (nthI z70i0 2)))) :: List.drop 3 z70i0 := by kernel_rfl
theorem z70p2k (s_1 : (List GSpan)) (f : Int) (K : KT) : ∀ r : ((Int) ⊕ (Unit)), W (slices_IndexFunc_api_Span_api_Span_Contains_1_p2_g s_1 f r) (rE z70R K) → z70l1E s_1 f r (wK (blockK 0 (thenK (EvL Tryz.prog 19 (List.drop 3 z70i0) K) K)))
  | (.inl t4_1), h => ⟨(z70R t4_1), (.refl _), h⟩
  | (.inr ()), h => ⟨(z70p1S), (.refl _), (z70p1ok h)⟩
theorem z70p2ok {s_1 : (List GSpan)} {f : Int} {K : KT} (h : W (slices_IndexFunc_api_Span_api_Span_Contains_1_p2 s_1 f) (rE z70R K)) : EvL Tryz.prog 19 (List.drop 2 z70i0) K (z70p2S s_1 f) :=
  EvL.at_ z70p2at (EvL.cons_loop (EvOk.weak (EvOk.ent (.refl _) (EvOk.loopF (x := inside (inside (nthI z70i0 2))) (f := slices_IndexFunc_api_Span_api_Span_Contains_1_l1 s_1 f) (emb := z70l1S s_1 f) (E := z70l1E s_1 f) (z70l1ok s_1 f) (z70l1Ethen s_1 f) (W_loop h (z70p2k s_1 f K))))))
def z70p3S (s_1 : (List GSpan)) (f : Int) : St := ⟨[sv 0 (sGSpan s_1), sv 1 (.fn 55 [(.dptr 1 [(di f)] 0)])], [], 0⟩
noncomputable def slices_IndexFunc_api_Span_api_Span_Contains_1_p3 (s_1 : (List GSpan)) (f : Int) : Option (Int) := (slices_IndexFunc_api_Span_api_Span_Contains_1_p2 s_1 f)
theorem z70p3ok {s_1 : (List GSpan)} {f : Int} {K : KT} (h : W (slices_IndexFunc_api_Span_api_Span_Contains_1_p3 s_1 f) (rE z70R K)) : EvL Tryz.prog 19 (List.drop 0 z70i0) K (z70p3S s_1 f) :=
  EvL.qD mixed [] [0, 1, 7, 8] 0 2 2 (.nx (fun K => wK K .normal (z70p2S s_1 f)) (l0 (z70p2ok h)))
noncomputable def slices_IndexFunc_api_Span_api_Span_Contains_1 (s_1 : (List GSpan)) (f : Int) : Option (Int) := slices_IndexFunc_api_Span_api_Span_Contains_1_p3 s_1 f
theorem z70run (s_1 : (List GSpan)) (f : Int) (y_ : Int) (h : slices_IndexFunc_api_Span_api_Span_Contains_1 s_1 f = some y_) : EvL Tryz.prog 19 (items (bodyOf Tryz.f70)) (retK Tryz.prog [.tmp 4] (OutOk (slices_IndexFunc_api_Span_api_Span_Contains_1_out y_))) (z70p3S s_1 f) :=
  @z70p3ok s_1 f _ (W_iff.2 ⟨y_, h, z70Rok y_⟩)
noncomputable def slices_IndexFunc_api_Span_api_Span_Contains_1_C : Con
  | [(.c (.sl k1 n2 e3)), (.fn 55 [(.dptr 1 [(.lit (.int .i64 a4))] 0)])] => some ([LstOk eGSpan dGSpan 2 k1 n2 e3, (slices_IndexFunc_api_Span_api_Span_Contains_1 (lst dGSpan n2 e3) a4).isSome = true], (slices_IndexFunc_api_Span_api_Span_Contains_1_out ((slices_IndexFunc_api_Span_api_Span_Contains_1 (lst dGSpan n2 e3) a4).getD (0 : Int))))
  | _ => none
theorem slices_IndexFunc_api_Span_api_Span_Contains_1_ok : Meets Tryz.prog 70 slices_IndexFunc_api_Span_api_Span_Contains_1_C := by
  refine meets_fun (fn := Tryz.f70) (c := bodyOf Tryz.f70) (by kernel_rfl) (by kernel_rfl) (by kernel_rfl) (rs := [.tmp 4]) (by kernel_rfl) (nt := 19) (by kernel_rfl) fun vs p out h hp => ?_
  unfold slices_IndexFunc_api_Span_api_Span_Contains_1_C at h
  split at h
  · next k1 n2 e3 a4 =>
    cases h
    obtain ⟨g0, hp⟩ := allq hp
    obtain ⟨g, hp⟩ := allq hp
    obtain ⟨x, hx⟩ := Option.isSome_iff_exists.1 g
    rw [hx]
    exact ⟨[(sGSpan (lst dGSpan n2 e3)), (.fn 55 [(.dptr 1 [(di a4)] 0)])], (VLes.cons (VLe.slk g0.1 (RowIs.of_ok g0)) (VLes.cons (VLe.rfl' _) VLes.nil)), rfl, z70run (lst dGSpan n2 e3) a4 x hx⟩
  · cases h
noncomputable abbrev e70 : FE Tryz.prog := ⟨70, .pure slices_IndexFunc_api_Span_api_Span_Contains_1_C, slices_IndexFunc_api_Span_api_Span_Contains_1_ok⟩

noncomputable def z54i0 : List Code := items (bodyOf Tryz.f54)
def slices_ContainsFunc_api_Span_api_Span_Contains_1_out (x_1 : Bool) : Out := .data (bl x_1)
def z54R (x_1 : Bool) : St := ⟨[sv 4 (bl x_1)], [], 0⟩
theorem z54Rok (x_1 : Bool) : retK Tryz.prog [.tmp 4] (OutOk (slices_ContainsFunc_api_Span_api_Span_Contains_1_out x_1)) .ret (z54R x_1) :=
  retK.intro (v := (bl x_1)) (by kernel_rfl) ((VLe.rfl' _))
def z54p0S (s_1 : (List GSpan)) (f : Int) : St := ⟨[sv 0 (sGSpan s_1), sv 1 (.fn 55 [(.dptr 1 [(di f)] 0)])], [], 0⟩
noncomputable def slices_ContainsFunc_api_Span_api_Span_Contains_1_p0 (s_1 : (List GSpan)) (f : Int) : Option (Bool) := (slices_IndexFunc_api_Span_api_Span_Contains_1 s_1 f).bind fun r_1 => ((some (decide (0 ≤ r_1))))
theorem z54p0nf (s_1 : (List GSpan)) (f : Int) (K : KT) {L1_ : List GSpan} (hL1_ : lst dGSpan s_1.length (lGSpan s_1) = L1_) :
    ev Tryz.prog (lookF [e70]) 9 (ofItems ((List.drop 0 z54i0).take 3)) (cN [4] K) (z54p0S s_1 f) =
    (let a1_ := slices_IndexFunc_api_Span_api_Span_Contains_1 L1_ f; (kGSpan s_1) ∧ (a1_.isSome = true) ∧ (wK K .ret (z54R (decide (0 ≤ (a1_.getD 0)))))) := by subst hL1_; kernel_rfl
theorem z54p0ok {s_1 : (List GSpan)} {f : Int} {K : KT} (h : W (slices_ContainsFunc_api_Span_api_Span_Contains_1_p0 s_1 f) (rE z54R K)) : EvL Tryz.prog 9 (List.drop 0 z54i0) K (z54p0S s_1 f) :=
  EvL.qE mixed [e70] [4] 0 3 (.of (z54p0nf s_1 f _ (lb dGSpan_eGSpan)) (⟨kb dGSpan_eGSpan, (W_bind 0 h fun _ h => (l0 h))⟩))
noncomputable def slices_ContainsFunc_api_Span_api_Span_Contains_1 (s_1 : (List GSpan)) (f : Int) : Option (Bool) := slices_ContainsFunc_api_Span_api_Span_Contains_1_p0 s_1 f
theorem z54run (s_1 : (List GSpan)) (f : Int) (y_ : Bool) (h : slices_ContainsFunc_api_Span_api_Span_Contains_1 s_1 f = some y_) : EvL Tryz.prog 9 (items (bodyOf Tryz.f54)) (retK Tryz.prog [.tmp 4] (OutOk (slices_ContainsFunc_api_Span_api_Span_Contains_1_out y_))) (z54p0S s_1 f) :=
  @z54p0ok s_1 f _ (W_iff.2 ⟨y_, h, z54Rok y_⟩)
noncomputable def slices_ContainsFunc_api_Span_api_Span_Contains_1_C : Con
  | [(.c (.sl k1 n2 e3)), (.fn 55 [(.dptr 1 [(.lit (.int .i64 a4))] 0)])] => some ([LstOk eGSpan dGSpan 2 k1 n2 e3, (slices_ContainsFunc_api_Span_api_Span_Contains_1 (lst dGSpan n2 e3) a4).isSome = true], (slices_ContainsFunc_api_Span_api_Span_Contains_1_out ((slices_ContainsFunc_api_Span_api_Span_Contains_1 (lst dGSpan n2 e3) a4).getD false)))
  | _ => none
theorem slices_ContainsFunc_api_Span_api_Span_Contains_1_ok : Meets Tryz.prog 54 slices_ContainsFunc_api_Span_api_Span_Contains_1_C := by
  refine meets_fun (fn := Tryz.f54) (c := bodyOf Tryz.f54) (by kernel_rfl) (by kernel_rfl) (by kernel_rfl) (rs := [.tmp 4]) (by kernel_rfl) (nt := 9) (by kernel_rfl) fun vs p out h hp => ?_
  unfold slices_ContainsFunc_api_Span_api_Span_Contains_1_C at h
  split at h
  · next k1 n2 e3 a4 =>
    cases h
    obtain ⟨g0, hp⟩ := allq hp
    obtain ⟨g, hp⟩ := allq hp
    obtain ⟨x, hx⟩ := Option.isSome_iff_exists.1 g
    rw [hx]
    exact ⟨[(sGSpan (lst dGSpan n2 e3)), (.fn 55 [(.dptr 1 [(di a4)] 0)])], (VLes.cons (VLe.slk g0.1 (RowIs.of_ok g0)) (VLes.cons (VLe.rfl' _) VLes.nil)), rfl, z54run (lst dGSpan n2 e3) a4 x hx⟩
  · cases h
noncomputable abbrev e54 : FE Tryz.prog := ⟨54, .pure slices_ContainsFunc_api_Span_api_Span_Contains_1_C, slices_ContainsFunc_api_Span_api_Span_Contains_1_ok⟩

noncomputable def z26i0 : List Code := items (bodyOf Tryz.f26)
def spans_Contains_out (x_1 : Bool) : Out := .data (bl x_1)
def z26R (x_1 : Bool) : St := ⟨[sv 4 (bl x_1)], [], 0⟩
def z26p0S (l : (List GSpan)) (day : Int) : St := ⟨[sv 0 (sGSpan l), sv 1 (i64 day)], [], 0⟩
noncomputable def spans_Contains_p0 (l : (List GSpan)) (day : Int) : Option (Bool) := (bif (bif (decide (day < 0)) then true else (decide (73049 ≤ day))) then (some false) else (slices_ContainsFunc_api_Span_api_Span_Contains_1 l day).bind fun r_1 => ((some r_1)))
theorem z26p0nf (l : (List GSpan)) (day : Int) (K : KT) {L1_ : List GSpan} (hL1_ : lst dGSpan l.length (lGSpan l) = L1_) :
    ev Tryz.prog (lookF [e54]) 14 (ofItems ((List.drop 0 z26i0).take 5)) (cN [4] K) (z26p0S l day) =
    (let a1_ := slices_ContainsFunc_api_Span_api_Span_Contains_1 L1_ day; (bif (bif (decide (day < 0)) then true else (decide (73049 ≤ day))) then wK K .ret (z26R false) else (kGSpan l) ∧ (a1_.isSome = true) ∧ (wK K .ret (z26R (a1_.getD false))))) := by subst hL1_; kernel_rfl
theorem z26p0ok {l : (List GSpan)} {day : Int} {K : KT} (h : W (spans_Contains_p0 l day) (rE z26R K)) : EvL Tryz.prog 14 (List.drop 0 z26i0) K (z26p0S l day) :=
  EvL.qE mixed [e54] [4] 0 5 (.of (z26p0nf l day _ (lb dGSpan_eGSpan)) (W_bif h (fun _ h => (l0 h)) (fun _ h => ⟨kb dGSpan_eGSpan, (W_bind false h fun _ h => (l0 h))⟩)))
noncomputable def spans_Contains (l : (List GSpan)) (day : Int) : Option (Bool) := spans_Contains_p0 l day
noncomputable def spans_Contains_C : Con := con2 uGSpan (aI .i64) spans_Contains false spans_Contains_out
theorem spans_Contains_ok : Meets Tryz.prog 26 spans_Contains_C := meets2 Tryz.f26 (bodyOf Tryz.f26) [.tmp 4] 14 fun u0 u1 y h => @z26p0ok u0 u1 _ (W_iff.2 ⟨y, h, (rtI (bl y) (VLe.rfl' _))⟩)
noncomputable abbrev e26 : FE Tryz.prog := ⟨26, .pure spans_Contains_C, spans_Contains_ok⟩

noncomputable def z27i0 : List Code := items (bodyOf Tryz.f27)
noncomputable def z27i1 : List Code := items (inside (inside (nthI z27i0 2)))
def conversion_raised_out (x_1 : Bool) : Out := .data (bl x_1)
def z27R (x_1 : Bool) : St := ⟨[sv 6 (bl x_1)], [], 0⟩
def z27l1S (l : (List GFact)) (child day : Int) (s : (Int)) : St := match s with | p_1 => ⟨[sv 0 (sGFact l), sv 1 (i64 child), sv 2 (i64 day), sv 7 (i64 p_1)], [], 0⟩
def z27l1C0 (l : (List GFact)) (child day : Int) (s : Unit) : St := match s with | () => ⟨[sv 6 (bl true)], [], 0⟩
def z27l1C1 (l : (List GFact)) (child day : Int) (s : Unit) : St := match s with | () => ⟨[], [], 0⟩
def z27l1E (l : (List GFact)) (child day : Int) (r : ((Unit) ⊕ (Unit))) (K : KT) : Prop := match r with | (.inl s) => K .ret (z27l1C0 l child day s) | (.inr s) => K (.exit 0) (z27l1C1 l child day s)
def z27p0S (l : (List GFact)) (child day p_1 : Int) : St := ⟨[sv 0 (sGFact l), sv 1 (i64 child), sv 2 (i64 day), sv 7 (i64 p_1)], [], 0⟩
noncomputable def conversion_raised_p0 (l : (List GFact)) (child day p_1 : Int) : Option ((Int) ⊕ ((Unit) ⊕ (Unit))) := (bif (decide (p_1 ≤ 99)) then (bif (p_1 != child) then (conversion_alive l p_1 day).bind fun r_1 => ((bif r_1 then (career_Of l p_1).bind fun r_2 => ((conversion_refer r_2 10 child).bind fun r_3 => ((spans_Contains r_3 day).bind fun r_4 => ((bif r_4 then (some (Sum.inr (Sum.inl ()))) else (some (Sum.inl (w64 (p_1 + 1)))))))) else (some (Sum.inl (w64 (p_1 + 1)))))) else (some (Sum.inl (w64 (p_1 + 1))))) else (some (Sum.inr (Sum.inr ()))))
theorem z27p0nf (l : (List GFact)) (child day p_1 : Int) (K : KT) {L1_ : List GFact} (hL1_ : lst dGFact l.length (lGFact l) = L1_) {L2_ : List GFact} (hL2_ : lst dGFact l.length (lGFact l) = L2_) {L3_ : List GFact} (hL3_ : lst dGFact ((((career_Of L2_ p_1).getD [])).length) (fun i => (lGFact ((career_Of L2_ p_1).getD [])) (0 + i)) = L3_) {L4_ : List GSpan} (hL4_ : lst dGSpan ((((conversion_refer L3_ 10 child).getD [])).length) (fun i => (lGSpan ((conversion_refer L3_ 10 child).getD [])) (0 + i)) = L4_) :
    ev Tryz.prog (lookF [e20, e24, e25, e26]) 30 (ofItems ((List.drop 0 z27i1).take 4)) (cN [0, 1, 2, 6, 7, 16, 17, 18, 19, 22, 23, 24, 25, 26, 27, 28] K) (z27p0S l child day p_1) =
    (let a1_ := (conversion_refer L3_ 10 child).getD []; let a2_ := (career_Of L2_ p_1).getD []; let a3_ := (conversion_alive L1_ p_1 day).getD false; let a4_ := (spans_Contains L4_ day).getD false; let a5_ := i64 (w64 (p_1 + 1)); (bif (decide (p_1 ≤ 99)) then (bif (p_1 != child) then (kGFact l) ∧ ((conversion_alive L1_ p_1 day).isSome = true) ∧ ((bif a3_ then (kGFact l) ∧ ((career_Of L2_ p_1).isSome = true) ∧ ((LstOk eGFact dGFact 14 14 ((a2_).length) (fun i => (lGFact a2_) (0 + i))) ∧ ((conversion_refer L3_ 10 child).isSome = true) ∧ ((LstOk eGSpan dGSpan 2 2 ((a1_).length) (fun i => (lGSpan a1_) (0 + i))) ∧ ((spans_Contains L4_ day).isSome = true) ∧ ((bif a4_ then wK K .ret (⟨[sv 0 (sGFact l), sv 1 (i64 child), sv 2 (i64 day), sv 6 (bl true), sv 7 (i64 p_1), sv 16 (sGFact l), sv 17 (i64 p_1), sv 18 (i64 day), sv 19 (bl a3_), sv 22 (sGFact l), sv 23 (i64 p_1), sv 24 (.row 0 14 0 (a2_).length), sv 25 (i64 child), sv 26 (.row 1 2 0 (a1_).length), sv 27 (i64 day), sv 28 (bl a4_)], [(rGFact 0 38 a2_), (rGSpan 1 36 a1_)], 2⟩) else wK K .normal (⟨[sv 0 (sGFact l), sv 1 (i64 child), sv 2 (i64 day), sv 7 a5_, sv 16 (sGFact l), sv 17 (i64 p_1), sv 18 (i64 day), sv 19 (bl a3_), sv 22 (sGFact l), sv 23 (i64 p_1), sv 24 (.row 0 14 0 (a2_).length), sv 25 (i64 child), sv 26 (.row 1 2 0 (a1_).length), sv 27 (i64 day), sv 28 (bl a4_)], [(rGFact 0 38 a2_), (rGSpan 1 36 a1_)], 2⟩))))) else wK K .normal (⟨[sv 0 (sGFact l), sv 1 (i64 child), sv 2 (i64 day), sv 7 a5_, sv 16 (sGFact l), sv 17 (i64 p_1), sv 18 (i64 day), sv 19 (bl a3_), un 22, un 23, un 24, un 25, un 26, un 27, un 28], [], 0⟩))) else wK K .normal (⟨[sv 0 (sGFact l), sv 1 (i64 child), sv 2 (i64 day), sv 7 a5_, un 16, un 17, un 18, un 19, un 22, un 23, un 24, un 25, un 26, un 27, un 28], [], 0⟩)) else wK K (.exit 0) (⟨[sv 0 (sGFact l), sv 1 (i64 child), sv 2 (i64 day), sv 7 (i64 p_1)], [], 0⟩))) := by subst hL1_ hL2_ hL3_ hL4_; kernel_rfl
theorem z27p0ok {l : (List GFact)} {child day p_1 : Int} {K : KT} (h : W (conversion_raised_p0 l child day p_1) (nE (z27l1S l child day) (z27l1E l child day) K)) : EvL Tryz.prog 30 (List.drop 0 z27i1) K (z27p0S l child day p_1) :=
  EvL.qE mixed [e20, e24, e25, e26] [0, 1, 2, 6, 7, 16, 17, 18, 19, 22, 23, 24, 25, 26, 27, 28] 0 4 (.of (z27p0nf l child day p_1 _ (lb dGFact_eGFact) (lb dGFact_eGFact) (lr dGFact_eGFact (RowIs.zero .b)) (lr dGSpan_eGSpan (RowIs.zero .b))) (W_bif h (fun _ h => (W_bif h (fun _ h => ⟨kb dGFact_eGFact, (W_bind false h fun _ h => (W_bif h (fun _ h => ⟨kb dGFact_eGFact, (W_bind [] h fun _ h => ⟨RowIs.ok dGFact_eGFact (RowIs.zero .b), (W_bind [] h fun _ h => ⟨RowIs.ok dGSpan_eGSpan (RowIs.zero .b), (W_bind false h fun _ h => (W_bif h (fun _ h => (lf h (.cn [6]))) (fun _ h => (lf h (.cn [0, 1, 2, 7])))))⟩)⟩)⟩) (fun _ h => (lf h (.cn [0, 1, 2, 7])))))⟩) (fun _ h => (lf h (.cn [0, 1, 2, 7]))))) (fun _ h => (lf h (.cn [])))))
noncomputable def conversion_raised_l1 (l : (List GFact)) (child day : Int) (s : (Int)) : Option ((Int) ⊕ ((Unit) ⊕ (Unit))) := match s with | p_1 => conversion_raised_p0 l child day p_1
theorem z27l1ok (l : (List GFact)) (child day : Int) (s : (Int)) : Pp Tryz.prog 30 (List.drop 0 z27i1) (z27l1S l child day s) (conversion_raised_l1 l child day s) (nextE (z27l1S l child day) (z27l1E l child day)) := fun K h => match s, h with | p_1, h => (z27p0ok h)
theorem z27l1Ethen (l : (List GFact)) (child day : Int) : ∀ (r : ((Unit) ⊕ (Unit))) (J : St → Prop) (K : KT), z27l1E l child day r K → z27l1E l child day r (thenK J K)
  | (.inl s), _, _, h => h
  | (.inr s), _, _, h => h
def z27p1S : St := ⟨[], [], 0⟩
noncomputable def conversion_raised_p1 : Option (Bool) := (some false)
theorem z27p1ok {K : KT} (h : W (conversion_raised_p1) (rE z27R K)) : EvL Tryz.prog 30 (List.drop 3 z27i0) K (z27p1S) :=
  EvL.qE mixed [] [6] 3 2 (.nx (fun K => wK K .ret (z27R false)) (l0 h))
def z27p2S (l : (List GFact)) (child day : Int) : St := ⟨[sv 0 (sGFact l), sv 1 (i64 child), sv 2 (i64 day), sv 7 (i64 1)], [], 0⟩
noncomputable def conversion_raised_p2_g (l : (List GFact)) (child day : Int) (r : ((Unit) ⊕ (Unit))) : Option (Bool) := match r with | (.inl ()) => (some true) | (.inr ()) => conversion_raised_p1
noncomputable def conversion_raised_p2 (l : (List GFact)) (child day : Int) : Option (Bool) := (fixL (conversion_raised_l1 l child day) 1).bind (conversion_raised_p2_g l child day)
theorem z27p2at : List.drop 2 z27i0 = .block 0 (.loop (inside (inside (nthI z27i0 2)))) :: List.drop 3 z27i0 := by kernel_rfl
theorem z27p2k (l : (List GFact)) (child day : Int) (K : KT) : ∀ r : ((Unit) ⊕ (Unit)), W (conversion_raised_p2_g l child day r) (rE z27R K) → z27l1E l child day r (wK (blockK 0 (thenK (EvL Tryz.prog 30 (List.drop 3 z27i0) K) K)))
  | (.inl ()), h => ⟨(z27R true), (.refl _), h⟩
  | (.inr ()), h => ⟨(z27p1S), (.refl _), (z27p1ok h)⟩
theorem z27p2ok {l : (List GFact)} {child day : Int} {K : KT} (h : W (conversion_raised_p2 l child day) (rE z27R K)) : EvL Tryz.prog 30 (List.drop 2 z27i0) K (z27p2S l child day) :=
  EvL.at_ z27p2at (EvL.cons_loop (EvOk.weak (EvOk.ent (.refl _) (EvOk.loopF (x := inside (inside (nthI z27i0 2))) (f := conversion_raised_l1 l child day) (emb := z27l1S l child day) (E := z27l1E l child day) (z27l1ok l child day) (z27l1Ethen l child day) (W_loop h (z27p2k l child day K))))))
def z27p3S (l : (List GFact)) (child day : Int) : St := ⟨[sv 0 (sGFact l), sv 1 (i64 child), sv 2 (i64 day)], [], 0⟩
noncomputable def conversion_raised_p3 (l : (List GFact)) (child day : Int) : Option (Bool) := (conversion_raised_p2 l child day)
theorem z27p3ok {l : (List GFact)} {child day : Int} {K : KT} (h : W (conversion_raised_p3 l child day) (rE z27R K)) : EvL Tryz.prog 30 (List.drop 0 z27i0) K (z27p3S l child day) :=
  EvL.qD mixed [] [0, 1, 2, 7, 16, 17, 18, 19, 22, 23, 24, 25, 26, 27, 28] 0 2 2 (.nx (fun K => wK K .normal (z27p2S l child day)) (l0 (z27p2ok h)))
noncomputable def conversion_raised (l : (List GFact)) (child day : Int) : Option (Bool) := conversion_raised_p3 l child day
noncomputable def conversion_raised_C : Con := con3 uGFact (aI .i64) (aI .i64) conversion_raised false conversion_raised_out
theorem conversion_raised_ok : Meets Tryz.prog 27 conversion_raised_C := meets3 Tryz.f27 (bodyOf Tryz.f27) [.tmp 6] 30 fun u0 u1 u2 y h => @z27p3ok u0 u1 u2 _ (W_iff.2 ⟨y, h, (rtI (bl y) (VLe.rfl' _))⟩)
noncomputable abbrev e27 : FE Tryz.prog := ⟨27, .pure conversion_raised_C, conversion_raised_ok⟩

end Go.Ax
