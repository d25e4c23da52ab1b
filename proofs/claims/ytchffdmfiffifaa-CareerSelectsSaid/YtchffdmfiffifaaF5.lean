import Derived.Test.YtchffdmfiffifaaF4
import Derived.Test.YtchffdmfiffifaaRows
/- Types of the program, and functions of it: printed by a program, checked by the kernel. -/
set_option linter.all false
set_option maxRecDepth 100000
namespace Go.Ax
open Go.Proofs Go.Proofs.Ytchffdmfiffifaa
noncomputable def z8i0 : List Code := items (bodyOf Try.f8)
def z8R (x_1 : Bool) : St := { tm := [sv 6 (bl x_1)], hp := [], nx := 0 }
def law13_CareerMerges_out (x_1 : Bool) : Out := .data (bl x_1)
theorem z8Rok (x_1 : Bool) : retK Try.prog [.tmp 6] (OutOk (law13_CareerMerges_out x_1)) .ret (z8R x_1) :=
  retK.intro (v := (bl x_1)) (by kernel_rfl) ((VLe.rfl' _))
def z8p0S (t6 : Bool) : St := { tm := [sv 6 (bl t6)], hp := [], nx := 0 }
noncomputable def law13_CareerMerges_p0 (t6 : Bool) : Option (Bool) := (some t6)
theorem z8p0ok (t6 : Bool) (K : KT) (h : W (law13_CareerMerges_p0 t6) (rE z8R K)) : EvL Try.prog 38 (List.drop 4 z8i0) K (z8p0S t6) :=
  EvL.pE mixed (lookC_ok (l := []) trivial) [6] 4 1 (.nf (X := fun K => wK K .ret (z8R t6)) (fun K => by kernel_rfl) (⟨_, .refl _, h⟩))
def z8p1S (l m : (List GPensionhand_Fact)) (near : Int) : St := { tm := [sv 0 (.c (.sl 13 l.length (lsEl eGPensionhand_Fact zGPensionhand_Fact l))), sv 1 (.c (.sl 13 m.length (lsEl eGPensionhand_Fact zGPensionhand_Fact m))), sv 2 (i64 near)], hp := [], nx := 0 }
noncomputable def law13_CareerMerges_p1 (l m : (List GPensionhand_Fact)) (near : Int) : Option (Bool) := (law13_facts l near).bind fun r_1 => ((law13_facts m near).bind fun r_2 => ((career_Merge r_1 r_2).bind fun r_3 => ((law13_awake).bind fun r_4 => ((bif r_4 then (ref12_Merge r_1 r_2).bind fun r_5 => ((ref12_SameFacts r_3 r_5).bind fun r_6 => ((bif r_6 then (career_Merged r_1).bind fun r_7 => ((ref12_Merged r_1).bind fun r_8 => ((bif (r_7 == r_8) then (career_Merged r_3).bind fun r_9 => ((law13_CareerMerges_p0 r_9)) else (law13_CareerMerges_p0 false)))) else (law13_CareerMerges_p0 false)))) else (law13_CareerMerges_p0 false))))))
theorem z8p1nf (l m : (List GPensionhand_Fact)) (near : Int) (K : KT) (L1_ : List GPensionhand_Fact) (hL1_ : lst dGPensionhand_Fact l.length (lsEl eGPensionhand_Fact zGPensionhand_Fact l) = L1_) (L2_ : List GPensionhand_Fact) (hL2_ : lst dGPensionhand_Fact m.length (lsEl eGPensionhand_Fact zGPensionhand_Fact m) = L2_) (L3_ : List GFact) (hL3_ : lst dGFact ((((law13_facts L1_ near).getD ([] : List GFact))).length) (fun i => (lsEl eGFact zGFact ((law13_facts L1_ near).getD ([] : List GFact))) (0 + i)) = L3_) (L4_ : List GFact) (hL4_ : lst dGFact ((((law13_facts L2_ near).getD ([] : List GFact))).length) (fun i => (lsEl eGFact zGFact ((law13_facts L2_ near).getD ([] : List GFact))) (0 + i)) = L4_) (L5_ : List GFact) (hL5_ : lst dGFact ((((law13_facts L1_ near).getD ([] : List GFact))).length) (fun i => (lsEl eGFact zGFact ((law13_facts L1_ near).getD ([] : List GFact))) (0 + i)) = L5_) (L6_ : List GFact) (hL6_ : lst dGFact ((((law13_facts L2_ near).getD ([] : List GFact))).length) (fun i => (lsEl eGFact zGFact ((law13_facts L2_ near).getD ([] : List GFact))) (0 + i)) = L6_) (L7_ : List GFact) (hL7_ : lst dGFact ((((career_Merge L3_ L4_).getD ([] : List GFact))).length) (fun i => (lsEl eGFact zGFact ((career_Merge L3_ L4_).getD ([] : List GFact))) (0 + i)) = L7_) (L8_ : List GFact) (hL8_ : lst dGFact ((((ref12_Merge L5_ L6_).getD ([] : List GFact))).length) (fun i => (lsEl eGFact zGFact ((ref12_Merge L5_ L6_).getD ([] : List GFact))) (0 + i)) = L8_) (L9_ : List GFact) (hL9_ : lst dGFact ((((law13_facts L1_ near).getD ([] : List GFact))).length) (fun i => (lsEl eGFact zGFact ((law13_facts L1_ near).getD ([] : List GFact))) (0 + i)) = L9_) (L10_ : List GFact) (hL10_ : lst dGFact ((((law13_facts L1_ near).getD ([] : List GFact))).length) (fun i => (lsEl eGFact zGFact ((law13_facts L1_ near).getD ([] : List GFact))) (0 + i)) = L10_) (L11_ : List GFact) (hL11_ : lst dGFact ((((career_Merge L3_ L4_).getD ([] : List GFact))).length) (fun i => (lsEl eGFact zGFact ((career_Merge L3_ L4_).getD ([] : List GFact))) (0 + i)) = L11_) :
    ev Try.prog (lookC [(27, .pure law13_facts_C), (28, .pure ref12_SameFacts_C), (29, .pure career_Merge_C), (30, .pure law13_awake_C), (33, .pure ref12_Merge_C), (34, .pure career_Merged_C), (35, .pure ref12_Merged_C)]) 38 (ofItems ((List.drop 0 z8i0).take 4)) (cN [6] K) (z8p1S l m near) =
    ((LstOk eGPensionhand_Fact dGPensionhand_Fact 13 13 l.length (lsEl eGPensionhand_Fact zGPensionhand_Fact l)) ∧ ((law13_facts L1_ near).isSome = true) ∧ (LstOk eGPensionhand_Fact dGPensionhand_Fact 13 13 m.length (lsEl eGPensionhand_Fact zGPensionhand_Fact m)) ∧ ((law13_facts L2_ near).isSome = true) ∧ ((LstOk eGFact dGFact 14 14 ((((law13_facts L1_ near).getD ([] : List GFact))).length) (fun i => (lsEl eGFact zGFact ((law13_facts L1_ near).getD ([] : List GFact))) (0 + i))) ∧ (LstOk eGFact dGFact 14 14 ((((law13_facts L2_ near).getD ([] : List GFact))).length) (fun i => (lsEl eGFact zGFact ((law13_facts L2_ near).getD ([] : List GFact))) (0 + i))) ∧ ((career_Merge L3_ L4_).isSome = true) ∧ (((law13_awake).isSome = true) ∧ ((bif ((law13_awake).getD false) then (LstOk eGFact dGFact 14 14 ((((law13_facts L1_ near).getD ([] : List GFact))).length) (fun i => (lsEl eGFact zGFact ((law13_facts L1_ near).getD ([] : List GFact))) (0 + i))) ∧ (LstOk eGFact dGFact 14 14 ((((law13_facts L2_ near).getD ([] : List GFact))).length) (fun i => (lsEl eGFact zGFact ((law13_facts L2_ near).getD ([] : List GFact))) (0 + i))) ∧ ((ref12_Merge L5_ L6_).isSome = true) ∧ ((LstOk eGFact dGFact 14 14 ((((career_Merge L3_ L4_).getD ([] : List GFact))).length) (fun i => (lsEl eGFact zGFact ((career_Merge L3_ L4_).getD ([] : List GFact))) (0 + i))) ∧ (LstOk eGFact dGFact 14 14 ((((ref12_Merge L5_ L6_).getD ([] : List GFact))).length) (fun i => (lsEl eGFact zGFact ((ref12_Merge L5_ L6_).getD ([] : List GFact))) (0 + i))) ∧ ((ref12_SameFacts L7_ L8_).isSome = true) ∧ ((bif ((ref12_SameFacts L7_ L8_).getD false) then (LstOk eGFact dGFact 14 14 ((((law13_facts L1_ near).getD ([] : List GFact))).length) (fun i => (lsEl eGFact zGFact ((law13_facts L1_ near).getD ([] : List GFact))) (0 + i))) ∧ ((career_Merged L9_).isSome = true) ∧ ((LstOk eGFact dGFact 14 14 ((((law13_facts L1_ near).getD ([] : List GFact))).length) (fun i => (lsEl eGFact zGFact ((law13_facts L1_ near).getD ([] : List GFact))) (0 + i))) ∧ ((ref12_Merged L10_).isSome = true) ∧ ((bif (((career_Merged L9_).getD false) == ((ref12_Merged L10_).getD false)) then (LstOk eGFact dGFact 14 14 ((((career_Merge L3_ L4_).getD ([] : List GFact))).length) (fun i => (lsEl eGFact zGFact ((career_Merge L3_ L4_).getD ([] : List GFact))) (0 + i))) ∧ ((career_Merged L11_).isSome = true) ∧ (wK K .normal (z8p0S ((career_Merged L11_).getD false))) else wK K .normal (z8p0S false)))) else wK K .normal (z8p0S false)))) else wK K .normal (z8p0S false)))))) := by subst hL1_ hL2_ hL3_ hL4_ hL5_ hL6_ hL7_ hL8_ hL9_ hL10_ hL11_; kernel_rfl
theorem z8p1ok (l m : (List GPensionhand_Fact)) (near : Int) (K : KT) (h : W (law13_CareerMerges_p1 l m near) (rE z8R K)) : EvL Try.prog 38 (List.drop 0 z8i0) K (z8p1S l m near) :=
  EvL.pD mixed (lookC_ok (l := [(27, .pure law13_facts_C), (28, .pure ref12_SameFacts_C), (29, .pure career_Merge_C), (30, .pure law13_awake_C), (33, .pure ref12_Merge_C), (34, .pure career_Merged_C), (35, .pure ref12_Merged_C)]) ⟨law13_facts_ok, ref12_SameFacts_ok, career_Merge_ok, law13_awake_ok, ref12_Merge_ok, career_Merged_ok, ref12_Merged_ok, trivial⟩) [6] 0 4 4 (.of (z8p1nf l m near _ _ (RowIs.lst dGPensionhand_Fact_eGPensionhand_Fact (RowIs.ls eGPensionhand_Fact zGPensionhand_Fact l)) _ (RowIs.lst dGPensionhand_Fact_eGPensionhand_Fact (RowIs.ls eGPensionhand_Fact zGPensionhand_Fact m)) _ (RowIs.lst dGFact_eGFact (RowIs.zero (RowIs.ls eGFact zGFact ((law13_facts l near).getD ([] : List GFact))))) _ (RowIs.lst dGFact_eGFact (RowIs.zero (RowIs.ls eGFact zGFact ((law13_facts m near).getD ([] : List GFact))))) _ (RowIs.lst dGFact_eGFact (RowIs.zero (RowIs.ls eGFact zGFact ((law13_facts l near).getD ([] : List GFact))))) _ (RowIs.lst dGFact_eGFact (RowIs.zero (RowIs.ls eGFact zGFact ((law13_facts m near).getD ([] : List GFact))))) _ (RowIs.lst dGFact_eGFact (RowIs.zero (RowIs.ls eGFact zGFact ((career_Merge ((law13_facts l near).getD ([] : List GFact)) ((law13_facts m near).getD ([] : List GFact))).getD ([] : List GFact))))) _ (RowIs.lst dGFact_eGFact (RowIs.zero (RowIs.ls eGFact zGFact ((ref12_Merge ((law13_facts l near).getD ([] : List GFact)) ((law13_facts m near).getD ([] : List GFact))).getD ([] : List GFact))))) _ (RowIs.lst dGFact_eGFact (RowIs.zero (RowIs.ls eGFact zGFact ((law13_facts l near).getD ([] : List GFact))))) _ (RowIs.lst dGFact_eGFact (RowIs.zero (RowIs.ls eGFact zGFact ((law13_facts l near).getD ([] : List GFact))))) _ (RowIs.lst dGFact_eGFact (RowIs.zero (RowIs.ls eGFact zGFact ((career_Merge ((law13_facts l near).getD ([] : List GFact)) ((law13_facts m near).getD ([] : List GFact))).getD ([] : List GFact)))))) (⟨RowIs.ok dGPensionhand_Fact_eGPensionhand_Fact (RowIs.ls eGPensionhand_Fact zGPensionhand_Fact l), (W_bind ([] : List GFact) h fun hp0 h => ⟨RowIs.ok dGPensionhand_Fact_eGPensionhand_Fact (RowIs.ls eGPensionhand_Fact zGPensionhand_Fact m), (W_bind ([] : List GFact) h fun hp1 h => ⟨RowIs.ok dGFact_eGFact (RowIs.zero (RowIs.ls eGFact zGFact ((law13_facts l near).getD ([] : List GFact)))), ⟨RowIs.ok dGFact_eGFact (RowIs.zero (RowIs.ls eGFact zGFact ((law13_facts m near).getD ([] : List GFact)))), (W_bind ([] : List GFact) h fun hp2 h => (W_bind false h fun hp3 h => (W_bif h (fun _ h => ⟨RowIs.ok dGFact_eGFact (RowIs.zero (RowIs.ls eGFact zGFact ((law13_facts l near).getD ([] : List GFact)))), ⟨RowIs.ok dGFact_eGFact (RowIs.zero (RowIs.ls eGFact zGFact ((law13_facts m near).getD ([] : List GFact)))), (W_bind ([] : List GFact) h fun hp4 h => ⟨RowIs.ok dGFact_eGFact (RowIs.zero (RowIs.ls eGFact zGFact ((career_Merge ((law13_facts l near).getD ([] : List GFact)) ((law13_facts m near).getD ([] : List GFact))).getD ([] : List GFact)))), ⟨RowIs.ok dGFact_eGFact (RowIs.zero (RowIs.ls eGFact zGFact ((ref12_Merge ((law13_facts l near).getD ([] : List GFact)) ((law13_facts m near).getD ([] : List GFact))).getD ([] : List GFact)))), (W_bind false h fun hp5 h => (W_bif h (fun _ h => ⟨RowIs.ok dGFact_eGFact (RowIs.zero (RowIs.ls eGFact zGFact ((law13_facts l near).getD ([] : List GFact)))), (W_bind false h fun hp6 h => ⟨RowIs.ok dGFact_eGFact (RowIs.zero (RowIs.ls eGFact zGFact ((law13_facts l near).getD ([] : List GFact)))), (W_bind false h fun hp7 h => (W_bif h (fun _ h => ⟨RowIs.ok dGFact_eGFact (RowIs.zero (RowIs.ls eGFact zGFact ((career_Merge ((law13_facts l near).getD ([] : List GFact)) ((law13_facts m near).getD ([] : List GFact))).getD ([] : List GFact)))), (W_bind false h fun hp8 h => ⟨_, .refl _, (z8p0ok ((career_Merged ((career_Merge ((law13_facts l near).getD ([] : List GFact)) ((law13_facts m near).getD ([] : List GFact))).getD ([] : List GFact))).getD false) _ h)⟩)⟩) (fun _ h => ⟨_, .refl _, (z8p0ok false _ h)⟩)))⟩)⟩) (fun _ h => ⟨_, .refl _, (z8p0ok false _ h)⟩)))⟩⟩)⟩⟩) (fun _ h => ⟨_, .refl _, (z8p0ok false _ h)⟩))))⟩⟩)⟩)⟩))
noncomputable def law13_CareerMerges (l m : (List GPensionhand_Fact)) (near : Int) : Option (Bool) := law13_CareerMerges_p1 l m near
theorem z8run (l m : (List GPensionhand_Fact)) (near : Int) (y_ : Bool) (h : law13_CareerMerges l m near = some y_) : EvL Try.prog 38 (items (bodyOf Try.f8)) (retK Try.prog [.tmp 6] (OutOk (law13_CareerMerges_out y_))) (z8p1S l m near) :=
  z8p1ok l m near _ (W_iff.2 ⟨y_, h, z8Rok y_⟩)
noncomputable def law13_CareerMerges_C : Con
  | [(.c (.sl k1 n2 e3)), (.c (.sl k4 n5 e6)), (.c (.lit (.int .i64 a7)))] => some ([LstOk eGPensionhand_Fact dGPensionhand_Fact 13 k1 n2 e3, LstOk eGPensionhand_Fact dGPensionhand_Fact 13 k4 n5 e6, (law13_CareerMerges (lst dGPensionhand_Fact n2 e3) (lst dGPensionhand_Fact n5 e6) a7).isSome = true], (law13_CareerMerges_out ((law13_CareerMerges (lst dGPensionhand_Fact n2 e3) (lst dGPensionhand_Fact n5 e6) a7).getD false)))
  | _ => none
theorem law13_CareerMerges_ok : Meets Try.prog 8 law13_CareerMerges_C := by
  refine meets_fun (fn := Try.f8) (c := bodyOf Try.f8) (by kernel_rfl) (by kernel_rfl) (by kernel_rfl) (rs := [.tmp 6]) (by kernel_rfl) (nt := 38) (by kernel_rfl) fun vs p out h hp => ?_
  unfold law13_CareerMerges_C at h
  split at h
  · next k1 n2 e3 k4 n5 e6 a7 =>
    cases h
    obtain ⟨g0, hp⟩ := allq hp
    obtain ⟨g1, hp⟩ := allq hp
    obtain ⟨g, hp⟩ := allq hp
    obtain ⟨x, hx⟩ := Option.isSome_iff_exists.1 g
    rw [hx]
    exact ⟨[(.c (.sl 13 ((lst dGPensionhand_Fact n2 e3)).length (lsEl eGPensionhand_Fact zGPensionhand_Fact (lst dGPensionhand_Fact n2 e3)))), (.c (.sl 13 ((lst dGPensionhand_Fact n5 e6)).length (lsEl eGPensionhand_Fact zGPensionhand_Fact (lst dGPensionhand_Fact n5 e6)))), (i64 a7)], (VLes.cons (VLe.slk g0.1 (RowIs.of_ok g0)) (VLes.cons (VLe.slk g1.1 (RowIs.of_ok g1)) (VLes.cons (VLe.rfl' _) VLes.nil))), rfl, z8run (lst dGPensionhand_Fact n2 e3) (lst dGPensionhand_Fact n5 e6) a7 x hx⟩
  · cases h

noncomputable def z87i0 : List Code := items (bodyOf Try.f87)
def z87R (x_1 : Bool) : St := { tm := [sv 3 (bl x_1)], hp := [], nx := 0 }
def career_Of_1_out (x_1 : Bool) : Out := .data (bl x_1)
theorem z87Rok (x_1 : Bool) : retK Try.prog [.tmp 3] (OutOk (career_Of_1_out x_1)) .ret (z87R x_1) :=
  retK.intro (v := (bl x_1)) (by kernel_rfl) ((VLe.rfl' _))
def z87p0S (f : GFact) (t1 : Int) : St := { tm := [sv 0 (.ag (eGFact f)), sv 1 (.dptr 1 [(di t1)] 0)], hp := [], nx := 0 }
noncomputable def career_Of_1_p0 (f : GFact) (t1 : Int) : Option (Bool) := (some (f.Person == t1))
theorem z87p0ok (f : GFact) (t1 : Int) (K : KT) (h : W (career_Of_1_p0 f t1) (rE z87R K)) : EvL Try.prog 8 (List.drop 0 z87i0) K (z87p0S f t1) :=
  EvL.pE mixed (lookC_ok (l := []) trivial) [3] 0 3 (.nf (X := fun K => wK K .ret (z87R (f.Person == t1))) (fun K => by kernel_rfl) (⟨_, .refl _, h⟩))
noncomputable def career_Of_1 (f : GFact) (t1 : Int) : Option (Bool) := career_Of_1_p0 f t1
theorem z87run (f : GFact) (t1 : Int) (y_ : Bool) (h : career_Of_1 f t1 = some y_) : EvL Try.prog 8 (items (bodyOf Try.f87)) (retK Try.prog [.tmp 3] (OutOk (career_Of_1_out y_))) (z87p0S f t1) :=
  z87p0ok f t1 _ (W_iff.2 ⟨y_, h, z87Rok y_⟩)
noncomputable def career_Of_1_C : Con
  | [(.agg [(.c (.lit (.int .i64 a1))), (.c (.lit (.int .i64 a2))), (.c (.lit (.int .i64 a3))), (.c (.lit (.bool a4))), (.c (.lit (.int .i64 a5))), (.c (.lit (.int .i64 a6))), (.c (.lit (.int .i64 a7))), (.c (.lit (.int .i64 a8))), (.c (.lit (.int .i64 a9))), (.c (.lit (.int .i64 a10))), (.c (.lit (.int .i64 a11))), (.c (.lit (.int .i64 a12))), (.c (.lit (.int .i64 a13))), (.c (.lit (.int .i64 a14)))]), (.dptr 1 [(.lit (.int .i64 a15))] 0)] => some ([(career_Of_1 (GFact.mk a1 a2 a3 a4 a5 a6 a7 (GSpan.mk a8 a9) a10 a11 a12 a13 a14) a15).isSome = true], (career_Of_1_out ((career_Of_1 (GFact.mk a1 a2 a3 a4 a5 a6 a7 (GSpan.mk a8 a9) a10 a11 a12 a13 a14) a15).getD false)))
  | _ => none
theorem career_Of_1_ok : Meets Try.prog 87 career_Of_1_C := by
  refine meets_fun (fn := Try.f87) (c := bodyOf Try.f87) (by kernel_rfl) (by kernel_rfl) (by kernel_rfl) (rs := [.tmp 3]) (by kernel_rfl) (nt := 8) (by kernel_rfl) fun vs p out h hp => ?_
  unfold career_Of_1_C at h
  split at h
  · next a1 a2 a3 a4 a5 a6 a7 a8 a9 a10 a11 a12 a13 a14 a15 =>
    cases h
    obtain ⟨g, hp⟩ := allq hp
    obtain ⟨x, hx⟩ := Option.isSome_iff_exists.1 g
    rw [hx]
    exact ⟨[(.agg [(i64 (GFact.mk a1 a2 a3 a4 a5 a6 a7 (GSpan.mk a8 a9) a10 a11 a12 a13 a14).Issuer), (i64 (GFact.mk a1 a2 a3 a4 a5 a6 a7 (GSpan.mk a8 a9) a10 a11 a12 a13 a14).Number), (i64 (GFact.mk a1 a2 a3 a4 a5 a6 a7 (GSpan.mk a8 a9) a10 a11 a12 a13 a14).Version), (bl (GFact.mk a1 a2 a3 a4 a5 a6 a7 (GSpan.mk a8 a9) a10 a11 a12 a13 a14).Withdrawn), (i64 (GFact.mk a1 a2 a3 a4 a5 a6 a7 (GSpan.mk a8 a9) a10 a11 a12 a13 a14).Person), (i64 (GFact.mk a1 a2 a3 a4 a5 a6 a7 (GSpan.mk a8 a9) a10 a11 a12 a13 a14).Kind), (i64 (GFact.mk a1 a2 a3 a4 a5 a6 a7 (GSpan.mk a8 a9) a10 a11 a12 a13 a14).State), (i64 ((GFact.mk a1 a2 a3 a4 a5 a6 a7 (GSpan.mk a8 a9) a10 a11 a12 a13 a14).Span).From), (i64 ((GFact.mk a1 a2 a3 a4 a5 a6 a7 (GSpan.mk a8 a9) a10 a11 a12 a13 a14).Span).To), (i64 (GFact.mk a1 a2 a3 a4 a5 a6 a7 (GSpan.mk a8 a9) a10 a11 a12 a13 a14).Seat), (i64 (GFact.mk a1 a2 a3 a4 a5 a6 a7 (GSpan.mk a8 a9) a10 a11 a12 a13 a14).Share), (i64 (GFact.mk a1 a2 a3 a4 a5 a6 a7 (GSpan.mk a8 a9) a10 a11 a12 a13 a14).Currency), (i64 (GFact.mk a1 a2 a3 a4 a5 a6 a7 (GSpan.mk a8 a9) a10 a11 a12 a13 a14).Amount), (i64 (GFact.mk a1 a2 a3 a4 a5 a6 a7 (GSpan.mk a8 a9) a10 a11 a12 a13 a14).Ref)]), (.dptr 1 [(di a15)] 0)], (VLes.cons (VLe.rfl' _) (VLes.cons (VLe.rfl' _) VLes.nil)), rfl, z87run (GFact.mk a1 a2 a3 a4 a5 a6 a7 (GSpan.mk a8 a9) a10 a11 a12 a13 a14) a15 x hx⟩
  · cases h

noncomputable def z86i0 : List Code := items (bodyOf Try.f86)
noncomputable def z86i1 : List Code := items (inside (inside (nthI z86i0 3)))
def z86R (x_1 : (List GFact)) : St := { tm := [sv 4 (.row 0 14 0 x_1.length)], hp := [(0, some (.row 27 14 x_1.length (lsEl eGFact zGFact x_1)))], nx := 1 }
def career_filter_Of_1_out (x_1 : (List GFact)) : Out := .own true 27 14 (x_1).length (lsEl eGFact zGFact x_1)
theorem z86Rok (x_1 : (List GFact)) : retK Try.prog [.tmp 4] (OutOk (career_filter_Of_1_out x_1)) .ret (z86R x_1) :=
  retK.intro (v := (.row 0 14 0 x_1.length)) (by kernel_rfl) (⟨_, _, _, rfl, rfl, rfl, fun _ _ => rfl, fun _ i hi d hd => scal_GFact _ d hd⟩)
def z86l1S (want : Int) (l : (List GFact)) (s : ((List GFact) × Int)) : St := match s with | (out_1, t10) => { tm := [sv 1 (.fn 87 [(.dptr 1 [(di want)] 0)]), sv 5 (.row 0 14 0 out_1.length), sv 8 (.c (.sl 14 l.length (lsEl eGFact zGFact l))), sv 9 (i64 ((l.length : Nat) : Int)), sv 10 (i64 t10)], hp := [(0, some (.row 27 14 out_1.length (lsEl eGFact zGFact out_1)))], nx := 1 }
def z86l1C0 (want : Int) (l : (List GFact)) (s : (List GFact)) : St := match s with | out_2 => { tm := [sv 5 (.row 0 14 0 out_2.length)], hp := [(0, some (.row 27 14 out_2.length (lsEl eGFact zGFact out_2)))], nx := 1 }
def z86l1E (want : Int) (l : (List GFact)) (r : (((List GFact)))) (K : KT) : Prop := match r with | s => K (.exit 0) (z86l1C0 want l s)
def z86p0S (want : Int) (out_1 l : (List GFact)) (t10 : Int) : St := { tm := [sv 1 (.fn 87 [(.dptr 1 [(di want)] 0)]), sv 5 (.row 0 14 0 out_1.length), sv 8 (.c (.sl 14 l.length (lsEl eGFact zGFact l))), sv 9 (i64 ((l.length : Nat) : Int)), sv 10 (i64 t10)], hp := [(0, some (.row 27 14 out_1.length (lsEl eGFact zGFact out_1)))], nx := 1 }
noncomputable def career_filter_Of_1_p0 (want : Int) (out_1 l : (List GFact)) (t10 : Int) : Option (((List GFact) × Int) ⊕ (((List GFact)))) := (bif (decide (t10 < ((l.length : Nat) : Int))) then gd ((0 : Int) ≤ t10 ∧ t10 < ((l.length : Nat) : Int)) ((career_Of_1 (l.getD (Int.toNat t10) zGFact) want).bind fun r_1 => ((bif r_1 then gd (capB (out_1.length + 1) 112) ((some (Sum.inl ((out_1 ++ ([(l.getD (Int.toNat t10) zGFact)] : List GFact)), (w64 (t10 + (1 : Int))))))) else (some (Sum.inl (out_1, (w64 (t10 + (1 : Int))))))))) else (some (Sum.inr out_1)))
theorem z86p0ok (want : Int) (out_1 l : (List GFact)) (t10 : Int) (K : KT) (h : W (career_filter_Of_1_p0 want out_1 l t10) (nE (z86l1S want l) (z86l1E want l) K)) : EvL Try.prog 23 (List.drop 0 z86i1) K (z86p0S want out_1 l t10) :=
  EvL.pE mixed (lookC_ok (l := [(87, .pure career_Of_1_C)]) ⟨career_Of_1_ok, trivial⟩) [1, 5, 8, 9, 10] 0 4 (.nf (X := fun K => (bif (decide (t10 < ((l.length : Nat) : Int))) then ((0 : Int) ≤ t10) ∧ (t10 < ((l.length : Nat) : Int)) ∧ (((career_Of_1 (l.getD (Int.toNat t10) zGFact) want).isSome = true) ∧ ((bif ((career_Of_1 (l.getD (Int.toNat t10) zGFact) want).getD false) then (out_1.length = out_1.length) ∧ ((out_1.length + 1) * 112 ≤ 70368744177664) ∧ ((out_1.length + 1) ≤ 70368744177664) ∧ (wK K .normal ({ tm := [sv 1 (.fn 87 [(.dptr 1 [(di want)] 0)]), sv 5 (.row 0 14 0 (out_1.length + 1)), sv 8 (.c (.sl 14 l.length (lsEl eGFact zGFact l))), sv 9 (i64 ((l.length : Nat) : Int)), sv 10 (i64 (w64 (t10 + (1 : Int))))], hp := [(0, some (.row 27 14 (out_1.length + 1) (fun i => bif Nat.blt i out_1.length then (lsEl eGFact zGFact out_1) i else (fun i => (litE 14 (eGFact (l.getD (Int.toNat t10) zGFact))) (0 + i)) (i - out_1.length))))], nx := 1 })) else wK K .normal (z86l1S want l (out_1, (w64 (t10 + (1 : Int)))))))) else wK K (.exit 0) ({ tm := [sv 1 (.fn 87 [(.dptr 1 [(di want)] 0)]), sv 5 (.row 0 14 0 out_1.length), sv 8 (.c (.sl 14 l.length (lsEl eGFact zGFact l))), sv 9 (i64 ((l.length : Nat) : Int)), sv 10 (i64 t10)], hp := [(0, some (.row 27 14 out_1.length (lsEl eGFact zGFact out_1)))], nx := 1 }))) (fun K => by kernel_rfl) (W_bif h (fun _ h => (W_gd2 h fun hp0 h => (W_bind false h fun hp1 h => (W_bif h (fun _ h => ⟨rfl, (W_gd2 h fun hp2 h => ⟨(z86l1S want l ((out_1 ++ ([(l.getD (Int.toNat t10) zGFact)] : List GFact)), (w64 (t10 + (1 : Int))))), (.of (.q rfl (.cons rfl (.rown (len_app rfl rfl)) (.q rfl (.q rfl (.q rfl .nil))))) (.row rfl (RowIs.app (RowIs.ls eGFact zGFact out_1) (RowIs.zero (RowIs.l1 (enc := eGFact) (z := zGFact) 14 (l.getD (Int.toNat t10) zGFact) rfl))) .nil rfl) rfl), h⟩)⟩) (fun _ h => ⟨_, .refl _, h⟩))))) (fun _ h => ⟨(z86l1C0 want l out_1), (.of (.q rfl .nil) (.same rfl .nil) rfl), h⟩)))
noncomputable def career_filter_Of_1_l1 (want : Int) (l : (List GFact)) (s : ((List GFact) × Int)) : Option (((List GFact) × Int) ⊕ (((List GFact)))) := match s with | (out_1, t10) => career_filter_Of_1_p0 want out_1 l t10
theorem z86l1ok (want : Int) (l : (List GFact)) (s : ((List GFact) × Int)) : Pp Try.prog 23 (List.drop 0 z86i1) (z86l1S want l s) (career_filter_Of_1_l1 want l s) (nextE (z86l1S want l) (z86l1E want l)) := fun K h => match s, h with | (out_1, t10), h => (z86p0ok want out_1 l t10 _ h)
theorem z86l1Ethen (want : Int) (l : (List GFact)) : ∀ (r : (((List GFact)))) (J : St → Prop) (K : KT), z86l1E want l r K → z86l1E want l r (thenK J K)
  | s, _, _, h => h
def z86p1S (out_3 : (List GFact)) : St := { tm := [sv 5 (.row 0 14 0 out_3.length)], hp := [(0, some (.row 27 14 out_3.length (lsEl eGFact zGFact out_3)))], nx := 1 }
noncomputable def career_filter_Of_1_p1 (out_3 : (List GFact)) : Option ((List GFact)) := (some out_3)
theorem z86p1ok (out_3 : (List GFact)) (K : KT) (h : W (career_filter_Of_1_p1 out_3) (rE z86R K)) : EvL Try.prog 23 (List.drop 4 z86i0) K (z86p1S out_3) :=
  EvL.pE mixed (lookC_ok (l := []) trivial) [4] 4 2 (.nf (X := fun K => wK K .ret (z86R out_3)) (fun K => by kernel_rfl) (⟨_, .refl _, h⟩))
def z86p2S (want : Int) (l : (List GFact)) : St := { tm := [sv 1 (.fn 87 [(.dptr 1 [(di want)] 0)]), sv 5 (.c .nil), sv 8 (.c (.sl 14 l.length (lsEl eGFact zGFact l))), sv 9 (i64 ((l.length : Nat) : Int)), sv 10 (i64 (0 : Int))], hp := [], nx := 0 }
noncomputable def career_filter_Of_1_p2_g (want : Int) (l : (List GFact)) (r : (((List GFact)))) : Option ((List GFact)) := match r with | out_2 => (career_filter_Of_1_p1 out_2)
noncomputable def career_filter_Of_1_p2 (want : Int) (l : (List GFact)) : Option ((List GFact)) := (fixL (career_filter_Of_1_l1 want l) (([] : List GFact), (0 : Int))).bind (career_filter_Of_1_p2_g want l)
theorem z86p2at : List.drop 3 z86i0 = .block 0 (.loop (inside (inside (nthI z86i0 3)))) :: List.drop 4 z86i0 := by kernel_rfl
theorem z86p2k (want : Int) (l : (List GFact)) (K : KT) : ∀ r : (((List GFact))), W (career_filter_Of_1_p2_g want l r) (rE z86R K) → z86l1E want l r (wK (blockK 0 (thenK (EvL Try.prog 23 (List.drop 4 z86i0) K) K)))
  | out_2, h => ⟨(z86p1S out_2), (.refl _), (z86p1ok out_2 _ h)⟩
theorem z86p2ok (want : Int) (l : (List GFact)) (K : KT) (h : W (career_filter_Of_1_p2 want l) (rE z86R K)) : EvL Try.prog 23 (List.drop 3 z86i0) K (z86p2S want l) :=
  EvL.at_ z86p2at (EvL.cons_loop (EvOk.weak (EvOk.ent (.trans (.nilrow 5 0 27 14 (lsEl eGFact zGFact []) (Nat.le_of_ble_eq_true rfl) rfl) (.cn [1, 5, 8, 9, 10])) (EvOk.loopF (x := inside (inside (nthI z86i0 3))) (f := career_filter_Of_1_l1 want l) (emb := z86l1S want l) (E := z86l1E want l) (z86l1ok want l) (z86l1Ethen want l) (W_loop h (z86p2k want l K))))))
def z86p3S (l : (List GFact)) (want : Int) : St := { tm := [sv 0 (.c (.sl 14 l.length (lsEl eGFact zGFact l))), sv 1 (.fn 87 [(.dptr 1 [(di want)] 0)])], hp := [], nx := 0 }
noncomputable def career_filter_Of_1_p3 (l : (List GFact)) (want : Int) : Option ((List GFact)) := (career_filter_Of_1_p2 want l)
theorem z86p3ok (l : (List GFact)) (want : Int) (K : KT) (h : W (career_filter_Of_1_p3 l want) (rE z86R K)) : EvL Try.prog 23 (List.drop 0 z86i0) K (z86p3S l want) :=
  EvL.pD mixed (lookC_ok (l := []) trivial) [1, 5, 8, 9, 10] 0 3 3 (.nf (X := fun K => wK K .normal (z86p2S want l)) (fun K => by kernel_rfl) (⟨_, .refl _, (z86p2ok want l _ h)⟩))
noncomputable def career_filter_Of_1 (l : (List GFact)) (want : Int) : Option ((List GFact)) := career_filter_Of_1_p3 l want
theorem z86run (l : (List GFact)) (want : Int) (y_ : (List GFact)) (h : career_filter_Of_1 l want = some y_) : EvL Try.prog 23 (items (bodyOf Try.f86)) (retK Try.prog [.tmp 4] (OutOk (career_filter_Of_1_out y_))) (z86p3S l want) :=
  z86p3ok l want _ (W_iff.2 ⟨y_, h, z86Rok y_⟩)
noncomputable def career_filter_Of_1_C : Con
  | [(.c (.sl k1 n2 e3)), (.fn 87 [(.dptr 1 [(.lit (.int .i64 a4))] 0)])] => some ([LstOk eGFact dGFact 14 k1 n2 e3, (career_filter_Of_1 (lst dGFact n2 e3) a4).isSome = true], (career_filter_Of_1_out ((career_filter_Of_1 (lst dGFact n2 e3) a4).getD ([] : List GFact))))
  | _ => none
theorem career_filter_Of_1_ok : Meets Try.prog 86 career_filter_Of_1_C := by
  refine meets_fun (fn := Try.f86) (c := bodyOf Try.f86) (by kernel_rfl) (by kernel_rfl) (by kernel_rfl) (rs := [.tmp 4]) (by kernel_rfl) (nt := 23) (by kernel_rfl) fun vs p out h hp => ?_
  unfold career_filter_Of_1_C at h
  split at h
  · next k1 n2 e3 a4 =>
    cases h
    obtain ⟨g0, hp⟩ := allq hp
    obtain ⟨g, hp⟩ := allq hp
    obtain ⟨x, hx⟩ := Option.isSome_iff_exists.1 g
    rw [hx]
    exact ⟨[(.c (.sl 14 ((lst dGFact n2 e3)).length (lsEl eGFact zGFact (lst dGFact n2 e3)))), (.fn 87 [(.dptr 1 [(di a4)] 0)])], (VLes.cons (VLe.slk g0.1 (RowIs.of_ok g0)) (VLes.cons (VLe.rfl' _) VLes.nil)), rfl, z86run (lst dGFact n2 e3) a4 x hx⟩
  · cases h

noncomputable def z36i0 : List Code := items (bodyOf Try.f36)
def z36R (x_1 : (List GFact)) : St := { tm := [sv 4 (.row 0 14 0 x_1.length)], hp := [(0, some (.row 27 14 x_1.length (lsEl eGFact zGFact x_1)))], nx := 1 }
def career_Of_out (x_1 : (List GFact)) : Out := .own true 27 14 (x_1).length (lsEl eGFact zGFact x_1)
theorem z36Rok (x_1 : (List GFact)) : retK Try.prog [.tmp 4] (OutOk (career_Of_out x_1)) .ret (z36R x_1) :=
  retK.intro (v := (.row 0 14 0 x_1.length)) (by kernel_rfl) (⟨_, _, _, rfl, rfl, rfl, fun _ _ => rfl, fun _ i hi d hd => scal_GFact _ d hd⟩)
def z36p0S (l : (List GFact)) (person : Int) : St := { tm := [sv 0 (.c (.sl 14 l.length (lsEl eGFact zGFact l))), sv 1 (i64 person)], hp := [], nx := 0 }
noncomputable def career_Of_p0 (l : (List GFact)) (person : Int) : Option ((List GFact)) := (career_filter_Of_1 l person).bind fun r_1 => ((some r_1))
theorem z36p0nf (l : (List GFact)) (person : Int) (K : KT) (L1_ : List GFact) (hL1_ : lst dGFact l.length (lsEl eGFact zGFact l) = L1_) :
    ev Try.prog (lookC [(86, .pure career_filter_Of_1_C)]) 8 (ofItems ((List.drop 0 z36i0).take 3)) (cN [4] K) (z36p0S l person) =
    ((LstOk eGFact dGFact 14 14 l.length (lsEl eGFact zGFact l)) ∧ ((career_filter_Of_1 L1_ person).isSome = true) ∧ (wK K .ret (z36R ((career_filter_Of_1 L1_ person).getD ([] : List GFact))))) := by subst hL1_; kernel_rfl
theorem z36p0ok (l : (List GFact)) (person : Int) (K : KT) (h : W (career_Of_p0 l person) (rE z36R K)) : EvL Try.prog 8 (List.drop 0 z36i0) K (z36p0S l person) :=
  EvL.pE mixed (lookC_ok (l := [(86, .pure career_filter_Of_1_C)]) ⟨career_filter_Of_1_ok, trivial⟩) [4] 0 3 (.of (z36p0nf l person _ _ (RowIs.lst dGFact_eGFact (RowIs.ls eGFact zGFact l))) (⟨RowIs.ok dGFact_eGFact (RowIs.ls eGFact zGFact l), (W_bind ([] : List GFact) h fun hp0 h => ⟨_, .refl _, h⟩)⟩))
noncomputable def career_Of (l : (List GFact)) (person : Int) : Option ((List GFact)) := career_Of_p0 l person
theorem z36run (l : (List GFact)) (person : Int) (y_ : (List GFact)) (h : career_Of l person = some y_) : EvL Try.prog 8 (items (bodyOf Try.f36)) (retK Try.prog [.tmp 4] (OutOk (career_Of_out y_))) (z36p0S l person) :=
  z36p0ok l person _ (W_iff.2 ⟨y_, h, z36Rok y_⟩)
noncomputable def career_Of_C : Con
  | [(.c (.sl k1 n2 e3)), (.c (.lit (.int .i64 a4)))] => some ([LstOk eGFact dGFact 14 k1 n2 e3, (career_Of (lst dGFact n2 e3) a4).isSome = true], (career_Of_out ((career_Of (lst dGFact n2 e3) a4).getD ([] : List GFact))))
  | _ => none
theorem career_Of_ok : Meets Try.prog 36 career_Of_C := by
  refine meets_fun (fn := Try.f36) (c := bodyOf Try.f36) (by kernel_rfl) (by kernel_rfl) (by kernel_rfl) (rs := [.tmp 4]) (by kernel_rfl) (nt := 8) (by kernel_rfl) fun vs p out h hp => ?_
  unfold career_Of_C at h
  split at h
  · next k1 n2 e3 a4 =>
    cases h
    obtain ⟨g0, hp⟩ := allq hp
    obtain ⟨g, hp⟩ := allq hp
    obtain ⟨x, hx⟩ := Option.isSome_iff_exists.1 g
    rw [hx]
    exact ⟨[(.c (.sl 14 ((lst dGFact n2 e3)).length (lsEl eGFact zGFact (lst dGFact n2 e3)))), (i64 a4)], (VLes.cons (VLe.slk g0.1 (RowIs.of_ok g0)) (VLes.cons (VLe.rfl' _) VLes.nil)), rfl, z36run (lst dGFact n2 e3) a4 x hx⟩
  · cases h

noncomputable def z9i0 : List Code := items (bodyOf Try.f9)
def z9R (x_1 : Bool) : St := { tm := [sv 4 (bl x_1)], hp := [], nx := 0 }
def law13_CareerMoves_out (x_1 : Bool) : Out := .data (bl x_1)
theorem z9Rok (x_1 : Bool) : retK Try.prog [.tmp 4] (OutOk (law13_CareerMoves_out x_1)) .ret (z9R x_1) :=
  retK.intro (v := (bl x_1)) (by kernel_rfl) ((VLe.rfl' _))
def z9p0S (t4 : Bool) : St := { tm := [sv 4 (bl t4)], hp := [], nx := 0 }
noncomputable def law13_CareerMoves_p0 (t4 : Bool) : Option (Bool) := (some t4)
theorem z9p0ok (t4 : Bool) (K : KT) (h : W (law13_CareerMoves_p0 t4) (rE z9R K)) : EvL Try.prog 46 (List.drop 7 z9i0) K (z9p0S t4) :=
  EvL.pE mixed (lookC_ok (l := []) trivial) [4] 7 1 (.nf (X := fun K => wK K .ret (z9R t4)) (fun K => by kernel_rfl) (⟨_, .refl _, h⟩))
def z9p1S (r_1 : GPensionhand_Fact) (person : Int) : St := { tm := [sv 0 (.ag (eGPensionhand_Fact r_1)), sv 1 (i64 person)], hp := [], nx := 0 }
noncomputable def law13_CareerMoves_p1 (r_1 : GPensionhand_Fact) (person : Int) : Option (Bool) := (hand_Make r_1).bind fun r_2 => ((made_Pick person (40 : Int)).bind fun r_3 => ((career_Merge ([(GFact.mk r_2.Issuer r_2.Number (w64 (r_2.Version + (1 : Int))) r_2.Withdrawn (w64 ((50 : Int) + r_3)) r_2.Kind r_2.State r_2.Span r_2.Seat r_2.Share r_2.Currency r_2.Amount r_2.Ref)] : List GFact) ([r_2] : List GFact)).bind fun r_4 => ((law13_awake).bind fun r_5 => ((bif r_5 then (bif (((r_4.length : Nat) : Int) == (1 : Int)) then (career_Of r_4 r_2.Person).bind fun r_6 => ((bif (((r_6.length : Nat) : Int) == (0 : Int)) then (career_Of r_4 (w64 ((50 : Int) + r_3))).bind fun r_7 => ((law13_CareerMoves_p0 (((r_7.length : Nat) : Int) == (1 : Int)))) else (law13_CareerMoves_p0 false))) else (law13_CareerMoves_p0 false)) else (law13_CareerMoves_p0 false))))))
theorem z9p1nf (r_1 : GPensionhand_Fact) (person : Int) (K : KT) (L1_ : List GFact) (hL1_ : lst dGFact 1 (fun i => (litE 14 (eGFact (GFact.s_Person (GFact.s_Version ((hand_Make r_1).getD zGFact) (w64 (((hand_Make r_1).getD zGFact).Version + (1 : Int)))) (w64 ((50 : Int) + ((made_Pick person (40 : Int)).getD (0 : Int))))))) (0 + i)) = L1_) (L2_ : List GFact) (hL2_ : lst dGFact 1 (fun i => (litE 14 (eGFact ((hand_Make r_1).getD zGFact))) (0 + i)) = L2_) (L3_ : List GFact) (hL3_ : lst dGFact ((((career_Merge L1_ L2_).getD ([] : List GFact))).length) (fun i => (lsEl eGFact zGFact ((career_Merge L1_ L2_).getD ([] : List GFact))) (0 + i)) = L3_) (L4_ : List GFact) (hL4_ : lst dGFact ((((career_Merge L1_ L2_).getD ([] : List GFact))).length) (fun i => (lsEl eGFact zGFact ((career_Merge L1_ L2_).getD ([] : List GFact))) (0 + i)) = L4_) :
    ev Try.prog (lookC [(22, .pure hand_Make_C), (23, .pure made_Pick_C), (29, .pure career_Merge_C), (30, .pure law13_awake_C), (36, .pure career_Of_C)]) 46 (ofItems ((List.drop 0 z9i0).take 7)) (cN [4] K) (z9p1S r_1 person) =
    (((hand_Make r_1).isSome = true) ∧ (((made_Pick person (40 : Int)).isSome = true) ∧ ((LstOk eGFact dGFact 14 14 1 (fun i => (litE 14 (eGFact (GFact.s_Person (GFact.s_Version ((hand_Make r_1).getD zGFact) (w64 (((hand_Make r_1).getD zGFact).Version + (1 : Int)))) (w64 ((50 : Int) + ((made_Pick person (40 : Int)).getD (0 : Int))))))) (0 + i))) ∧ (LstOk eGFact dGFact 14 14 1 (fun i => (litE 14 (eGFact ((hand_Make r_1).getD zGFact))) (0 + i))) ∧ ((career_Merge L1_ L2_).isSome = true) ∧ (((law13_awake).isSome = true) ∧ ((bif ((law13_awake).getD false) then (bif ((((((career_Merge L1_ L2_).getD ([] : List GFact))).length : Nat) : Int) == (1 : Int)) then (LstOk eGFact dGFact 14 14 ((((career_Merge L1_ L2_).getD ([] : List GFact))).length) (fun i => (lsEl eGFact zGFact ((career_Merge L1_ L2_).getD ([] : List GFact))) (0 + i))) ∧ ((career_Of L3_ (((hand_Make r_1).getD zGFact).Person)).isSome = true) ∧ ((bif ((((((career_Of L3_ (((hand_Make r_1).getD zGFact).Person)).getD ([] : List GFact))).length : Nat) : Int) == (0 : Int)) then (LstOk eGFact dGFact 14 14 ((((career_Merge L1_ L2_).getD ([] : List GFact))).length) (fun i => (lsEl eGFact zGFact ((career_Merge L1_ L2_).getD ([] : List GFact))) (0 + i))) ∧ ((career_Of L4_ (w64 ((50 : Int) + ((made_Pick person (40 : Int)).getD (0 : Int))))).isSome = true) ∧ (wK K .normal (z9p0S ((((((career_Of L4_ (w64 ((50 : Int) + ((made_Pick person (40 : Int)).getD (0 : Int))))).getD ([] : List GFact))).length : Nat) : Int) == (1 : Int)))) else wK K .normal (z9p0S false))) else wK K .normal (z9p0S false)) else wK K .normal (z9p0S false))))))) := by subst hL1_ hL2_ hL3_ hL4_; kernel_rfl
theorem z9p1ok (r_1 : GPensionhand_Fact) (person : Int) (K : KT) (h : W (law13_CareerMoves_p1 r_1 person) (rE z9R K)) : EvL Try.prog 46 (List.drop 0 z9i0) K (z9p1S r_1 person) :=
  EvL.pD mixed (lookC_ok (l := [(22, .pure hand_Make_C), (23, .pure made_Pick_C), (29, .pure career_Merge_C), (30, .pure law13_awake_C), (36, .pure career_Of_C)]) ⟨hand_Make_ok, made_Pick_ok, career_Merge_ok, law13_awake_ok, career_Of_ok, trivial⟩) [4] 0 7 7 (.of (z9p1nf r_1 person _ _ (RowIs.lst dGFact_eGFact (RowIs.zero (RowIs.l1 (enc := eGFact) (z := zGFact) 14 (GFact.s_Person (GFact.s_Version ((hand_Make r_1).getD zGFact) (w64 (((hand_Make r_1).getD zGFact).Version + (1 : Int)))) (w64 ((50 : Int) + ((made_Pick person (40 : Int)).getD (0 : Int))))) rfl))) _ (RowIs.lst dGFact_eGFact (RowIs.zero (RowIs.l1 (enc := eGFact) (z := zGFact) 14 ((hand_Make r_1).getD zGFact) rfl))) _ (RowIs.lst dGFact_eGFact (RowIs.zero (RowIs.ls eGFact zGFact ((career_Merge ([(GFact.s_Person (GFact.s_Version ((hand_Make r_1).getD zGFact) (w64 (((hand_Make r_1).getD zGFact).Version + (1 : Int)))) (w64 ((50 : Int) + ((made_Pick person (40 : Int)).getD (0 : Int)))))] : List GFact) ([((hand_Make r_1).getD zGFact)] : List GFact)).getD ([] : List GFact))))) _ (RowIs.lst dGFact_eGFact (RowIs.zero (RowIs.ls eGFact zGFact ((career_Merge ([(GFact.s_Person (GFact.s_Version ((hand_Make r_1).getD zGFact) (w64 (((hand_Make r_1).getD zGFact).Version + (1 : Int)))) (w64 ((50 : Int) + ((made_Pick person (40 : Int)).getD (0 : Int)))))] : List GFact) ([((hand_Make r_1).getD zGFact)] : List GFact)).getD ([] : List GFact)))))) (W_bind zGFact h fun hp0 h => (W_bind (0 : Int) h fun hp1 h => ⟨RowIs.ok dGFact_eGFact (RowIs.zero (RowIs.l1 (enc := eGFact) (z := zGFact) 14 (GFact.s_Person (GFact.s_Version ((hand_Make r_1).getD zGFact) (w64 (((hand_Make r_1).getD zGFact).Version + (1 : Int)))) (w64 ((50 : Int) + ((made_Pick person (40 : Int)).getD (0 : Int))))) rfl)), ⟨RowIs.ok dGFact_eGFact (RowIs.zero (RowIs.l1 (enc := eGFact) (z := zGFact) 14 ((hand_Make r_1).getD zGFact) rfl)), (W_bind ([] : List GFact) h fun hp2 h => (W_bind false h fun hp3 h => (W_bif h (fun _ h => (W_bif h (fun _ h => ⟨RowIs.ok dGFact_eGFact (RowIs.zero (RowIs.ls eGFact zGFact ((career_Merge ([(GFact.s_Person (GFact.s_Version ((hand_Make r_1).getD zGFact) (w64 (((hand_Make r_1).getD zGFact).Version + (1 : Int)))) (w64 ((50 : Int) + ((made_Pick person (40 : Int)).getD (0 : Int)))))] : List GFact) ([((hand_Make r_1).getD zGFact)] : List GFact)).getD ([] : List GFact)))), (W_bind ([] : List GFact) h fun hp4 h => (W_bif h (fun _ h => ⟨RowIs.ok dGFact_eGFact (RowIs.zero (RowIs.ls eGFact zGFact ((career_Merge ([(GFact.s_Person (GFact.s_Version ((hand_Make r_1).getD zGFact) (w64 (((hand_Make r_1).getD zGFact).Version + (1 : Int)))) (w64 ((50 : Int) + ((made_Pick person (40 : Int)).getD (0 : Int)))))] : List GFact) ([((hand_Make r_1).getD zGFact)] : List GFact)).getD ([] : List GFact)))), (W_bind ([] : List GFact) h fun hp5 h => ⟨_, .refl _, (z9p0ok ((((((career_Of ((career_Merge ([(GFact.s_Person (GFact.s_Version ((hand_Make r_1).getD zGFact) (w64 (((hand_Make r_1).getD zGFact).Version + (1 : Int)))) (w64 ((50 : Int) + ((made_Pick person (40 : Int)).getD (0 : Int)))))] : List GFact) ([((hand_Make r_1).getD zGFact)] : List GFact)).getD ([] : List GFact)) (w64 ((50 : Int) + ((made_Pick person (40 : Int)).getD (0 : Int))))).getD ([] : List GFact))).length : Nat) : Int) == (1 : Int)) _ h)⟩)⟩) (fun _ h => ⟨_, .refl _, (z9p0ok false _ h)⟩)))⟩) (fun _ h => ⟨_, .refl _, (z9p0ok false _ h)⟩))) (fun _ h => ⟨_, .refl _, (z9p0ok false _ h)⟩))))⟩⟩)))
noncomputable def law13_CareerMoves (r_1 : GPensionhand_Fact) (person : Int) : Option (Bool) := law13_CareerMoves_p1 r_1 person
theorem z9run (r_1 : GPensionhand_Fact) (person : Int) (y_ : Bool) (h : law13_CareerMoves r_1 person = some y_) : EvL Try.prog 46 (items (bodyOf Try.f9)) (retK Try.prog [.tmp 4] (OutOk (law13_CareerMoves_out y_))) (z9p1S r_1 person) :=
  z9p1ok r_1 person _ (W_iff.2 ⟨y_, h, z9Rok y_⟩)
noncomputable def law13_CareerMoves_C : Con
  | [(.agg [(.c (.lit (.int .i64 a1))), (.c (.lit (.int .i64 a2))), (.c (.lit (.int .i64 a3))), (.c (.lit (.bool a4))), (.c (.lit (.int .i64 a5))), (.c (.lit (.int .i64 a6))), (.c (.lit (.int .i64 a7))), (.c (.lit (.int .i64 a8))), (.c (.lit (.int .i64 a9))), (.c (.lit (.int .i64 a10))), (.c (.lit (.int .i64 a11))), (.c (.lit (.int .i64 a12))), (.c (.lit (.int .i64 a13)))]), (.c (.lit (.int .i64 a14)))] => some ([(law13_CareerMoves (GPensionhand_Fact.mk a1 a2 a3 a4 a5 a6 a7 a8 a9 a10 a11 a12 a13) a14).isSome = true], (law13_CareerMoves_out ((law13_CareerMoves (GPensionhand_Fact.mk a1 a2 a3 a4 a5 a6 a7 a8 a9 a10 a11 a12 a13) a14).getD false)))
  | _ => none
theorem law13_CareerMoves_ok : Meets Try.prog 9 law13_CareerMoves_C := by
  refine meets_fun (fn := Try.f9) (c := bodyOf Try.f9) (by kernel_rfl) (by kernel_rfl) (by kernel_rfl) (rs := [.tmp 4]) (by kernel_rfl) (nt := 46) (by kernel_rfl) fun vs p out h hp => ?_
  unfold law13_CareerMoves_C at h
  split at h
  · next a1 a2 a3 a4 a5 a6 a7 a8 a9 a10 a11 a12 a13 a14 =>
    cases h
    obtain ⟨g, hp⟩ := allq hp
    obtain ⟨x, hx⟩ := Option.isSome_iff_exists.1 g
    rw [hx]
    exact ⟨[(.agg [(i64 (GPensionhand_Fact.mk a1 a2 a3 a4 a5 a6 a7 a8 a9 a10 a11 a12 a13).Issuer), (i64 (GPensionhand_Fact.mk a1 a2 a3 a4 a5 a6 a7 a8 a9 a10 a11 a12 a13).Number), (i64 (GPensionhand_Fact.mk a1 a2 a3 a4 a5 a6 a7 a8 a9 a10 a11 a12 a13).Version), (bl (GPensionhand_Fact.mk a1 a2 a3 a4 a5 a6 a7 a8 a9 a10 a11 a12 a13).Withdrawn), (i64 (GPensionhand_Fact.mk a1 a2 a3 a4 a5 a6 a7 a8 a9 a10 a11 a12 a13).Person), (i64 (GPensionhand_Fact.mk a1 a2 a3 a4 a5 a6 a7 a8 a9 a10 a11 a12 a13).Kind), (i64 (GPensionhand_Fact.mk a1 a2 a3 a4 a5 a6 a7 a8 a9 a10 a11 a12 a13).State), (i64 (GPensionhand_Fact.mk a1 a2 a3 a4 a5 a6 a7 a8 a9 a10 a11 a12 a13).Seat), (i64 (GPensionhand_Fact.mk a1 a2 a3 a4 a5 a6 a7 a8 a9 a10 a11 a12 a13).From), (i64 (GPensionhand_Fact.mk a1 a2 a3 a4 a5 a6 a7 a8 a9 a10 a11 a12 a13).Length), (i64 (GPensionhand_Fact.mk a1 a2 a3 a4 a5 a6 a7 a8 a9 a10 a11 a12 a13).Share), (i64 (GPensionhand_Fact.mk a1 a2 a3 a4 a5 a6 a7 a8 a9 a10 a11 a12 a13).Amount), (i64 (GPensionhand_Fact.mk a1 a2 a3 a4 a5 a6 a7 a8 a9 a10 a11 a12 a13).Ref)]), (i64 a14)], (VLes.cons (VLe.rfl' _) (VLes.cons (VLe.rfl' _) VLes.nil)), rfl, z9run (GPensionhand_Fact.mk a1 a2 a3 a4 a5 a6 a7 a8 a9 a10 a11 a12 a13) a14 x hx⟩
  · cases h

noncomputable def z93i0 : List Code := items (bodyOf Try.f93)
def z93R (x_1 : Bool) : St := { tm := [sv 2 (bl x_1)], hp := [], nx := 0 }
def career_current_out (x_1 : Bool) : Out := .data (bl x_1)
theorem z93Rok (x_1 : Bool) : retK Try.prog [.tmp 2] (OutOk (career_current_out x_1)) .ret (z93R x_1) :=
  retK.intro (v := (bl x_1)) (by kernel_rfl) ((VLe.rfl' _))
def z93p0S (f : GFact) : St := { tm := [sv 0 (.ag (eGFact f))], hp := [], nx := 0 }
noncomputable def career_current_p0 (f : GFact) : Option (Bool) := (fact_Valid f).bind fun r_1 => ((some (bif r_1 then (!f.Withdrawn) else false)))
theorem z93p0ok (f : GFact) (K : KT) (h : W (career_current_p0 f) (rE z93R K)) : EvL Try.prog 10 (List.drop 0 z93i0) K (z93p0S f) :=
  EvL.pE mixed (lookC_ok (l := [(77, .pure fact_Valid_C)]) ⟨fact_Valid_ok, trivial⟩) [2] 0 3 (.nf (X := fun K => ((fact_Valid f).isSome = true) ∧ (wK K .ret (z93R (bif ((fact_Valid f).getD false) then (!f.Withdrawn) else false)))) (fun K => by kernel_rfl) (W_bind false h fun hp0 h => ⟨_, .refl _, h⟩))
noncomputable def career_current (f : GFact) : Option (Bool) := career_current_p0 f
theorem z93run (f : GFact) (y_ : Bool) (h : career_current f = some y_) : EvL Try.prog 10 (items (bodyOf Try.f93)) (retK Try.prog [.tmp 2] (OutOk (career_current_out y_))) (z93p0S f) :=
  z93p0ok f _ (W_iff.2 ⟨y_, h, z93Rok y_⟩)
noncomputable def career_current_C : Con
  | [(.agg [(.c (.lit (.int .i64 a1))), (.c (.lit (.int .i64 a2))), (.c (.lit (.int .i64 a3))), (.c (.lit (.bool a4))), (.c (.lit (.int .i64 a5))), (.c (.lit (.int .i64 a6))), (.c (.lit (.int .i64 a7))), (.c (.lit (.int .i64 a8))), (.c (.lit (.int .i64 a9))), (.c (.lit (.int .i64 a10))), (.c (.lit (.int .i64 a11))), (.c (.lit (.int .i64 a12))), (.c (.lit (.int .i64 a13))), (.c (.lit (.int .i64 a14)))])] => some ([(career_current (GFact.mk a1 a2 a3 a4 a5 a6 a7 (GSpan.mk a8 a9) a10 a11 a12 a13 a14)).isSome = true], (career_current_out ((career_current (GFact.mk a1 a2 a3 a4 a5 a6 a7 (GSpan.mk a8 a9) a10 a11 a12 a13 a14)).getD false)))
  | _ => none
theorem career_current_ok : Meets Try.prog 93 career_current_C := by
  refine meets_fun (fn := Try.f93) (c := bodyOf Try.f93) (by kernel_rfl) (by kernel_rfl) (by kernel_rfl) (rs := [.tmp 2]) (by kernel_rfl) (nt := 10) (by kernel_rfl) fun vs p out h hp => ?_
  unfold career_current_C at h
  split at h
  · next a1 a2 a3 a4 a5 a6 a7 a8 a9 a10 a11 a12 a13 a14 =>
    cases h
    obtain ⟨g, hp⟩ := allq hp
    obtain ⟨x, hx⟩ := Option.isSome_iff_exists.1 g
    rw [hx]
    exact ⟨[(.agg [(i64 (GFact.mk a1 a2 a3 a4 a5 a6 a7 (GSpan.mk a8 a9) a10 a11 a12 a13 a14).Issuer), (i64 (GFact.mk a1 a2 a3 a4 a5 a6 a7 (GSpan.mk a8 a9) a10 a11 a12 a13 a14).Number), (i64 (GFact.mk a1 a2 a3 a4 a5 a6 a7 (GSpan.mk a8 a9) a10 a11 a12 a13 a14).Version), (bl (GFact.mk a1 a2 a3 a4 a5 a6 a7 (GSpan.mk a8 a9) a10 a11 a12 a13 a14).Withdrawn), (i64 (GFact.mk a1 a2 a3 a4 a5 a6 a7 (GSpan.mk a8 a9) a10 a11 a12 a13 a14).Person), (i64 (GFact.mk a1 a2 a3 a4 a5 a6 a7 (GSpan.mk a8 a9) a10 a11 a12 a13 a14).Kind), (i64 (GFact.mk a1 a2 a3 a4 a5 a6 a7 (GSpan.mk a8 a9) a10 a11 a12 a13 a14).State), (i64 ((GFact.mk a1 a2 a3 a4 a5 a6 a7 (GSpan.mk a8 a9) a10 a11 a12 a13 a14).Span).From), (i64 ((GFact.mk a1 a2 a3 a4 a5 a6 a7 (GSpan.mk a8 a9) a10 a11 a12 a13 a14).Span).To), (i64 (GFact.mk a1 a2 a3 a4 a5 a6 a7 (GSpan.mk a8 a9) a10 a11 a12 a13 a14).Seat), (i64 (GFact.mk a1 a2 a3 a4 a5 a6 a7 (GSpan.mk a8 a9) a10 a11 a12 a13 a14).Share), (i64 (GFact.mk a1 a2 a3 a4 a5 a6 a7 (GSpan.mk a8 a9) a10 a11 a12 a13 a14).Currency), (i64 (GFact.mk a1 a2 a3 a4 a5 a6 a7 (GSpan.mk a8 a9) a10 a11 a12 a13 a14).Amount), (i64 (GFact.mk a1 a2 a3 a4 a5 a6 a7 (GSpan.mk a8 a9) a10 a11 a12 a13 a14).Ref)])], (VLes.cons (VLe.rfl' _) VLes.nil), rfl, z93run (GFact.mk a1 a2 a3 a4 a5 a6 a7 (GSpan.mk a8 a9) a10 a11 a12 a13 a14) x hx⟩
  · cases h

noncomputable def z91i0 : List Code := items (bodyOf Try.f91)
noncomputable def z91i1 : List Code := items (inside (inside (nthI z91i0 3)))
def z91R (x_1 : (Int × Bool)) : St := { tm := [sv 4 (i64 x_1.1), sv 5 (bl x_1.2)], hp := [], nx := 0 }
def career_first_out (x_1 : (Int × Bool)) : Out := .data (.tup [(i64 x_1.1), (bl x_1.2)])
theorem z91Rok (x_1 : (Int × Bool)) : retK Try.prog [.tmp 4, .tmp 5] (OutOk (career_first_out x_1)) .ret (z91R x_1) :=
  retK.intro (v := (.tup [(i64 x_1.1), (bl x_1.2)])) (by kernel_rfl) (VLe.tup (VLes.cons (VLe.rfl' _) (VLes.cons (VLe.rfl' _) (VLes.nil))))
def z91l1S (kind : Int) (l : (List GFact)) (s : (Int × Bool × Int)) : St := match s with | (day, ok, t12) => { tm := [sv 1 (i64 kind), sv 6 (i64 day), sv 7 (bl ok), sv 10 (.c (.sl 14 l.length (lsEl eGFact zGFact l))), sv 11 (i64 ((l.length : Nat) : Int)), sv 12 (i64 t12)], hp := [], nx := 0 }
def z91l1C0 (kind : Int) (l : (List GFact)) (s : Int × Bool) : St := match s with | (day_1, ok_1) => { tm := [sv 6 (i64 day_1), sv 7 (bl ok_1)], hp := [], nx := 0 }
def z91l1E (kind : Int) (l : (List GFact)) (r : ((Int × Bool))) (K : KT) : Prop := match r with | s => K (.exit 0) (z91l1C0 kind l s)
def z91p0S (kind day : Int) (ok : Bool) (l : (List GFact)) (t12 : Int) : St := { tm := [sv 1 (i64 kind), sv 6 (i64 day), sv 7 (bl ok), sv 10 (.c (.sl 14 l.length (lsEl eGFact zGFact l))), sv 11 (i64 ((l.length : Nat) : Int)), sv 12 (i64 t12)], hp := [], nx := 0 }
noncomputable def career_first_p0 (kind day : Int) (ok : Bool) (l : (List GFact)) (t12 : Int) : Option ((Int × Bool × Int) ⊕ ((Int × Bool))) := (bif (decide (t12 < ((l.length : Nat) : Int))) then gd ((0 : Int) ≤ t12 ∧ t12 < ((l.length : Nat) : Int)) ((career_current (l.getD (Int.toNat t12) zGFact)).bind fun r_1 => ((bif (bif (bif r_1 then ((l.getD (Int.toNat t12) zGFact).Kind == kind) else false) then (bif (!ok) then true else (decide (((l.getD (Int.toNat t12) zGFact).Span).From < day))) else false) then (some (Sum.inl (((l.getD (Int.toNat t12) zGFact).Span).From, true, (w64 (t12 + (1 : Int)))))) else (some (Sum.inl (day, ok, (w64 (t12 + (1 : Int))))))))) else (some (Sum.inr (day, ok))))
theorem z91p0ok (kind day : Int) (ok : Bool) (l : (List GFact)) (t12 : Int) (K : KT) (h : W (career_first_p0 kind day ok l t12) (nE (z91l1S kind l) (z91l1E kind l) K)) : EvL Try.prog 41 (List.drop 0 z91i1) K (z91p0S kind day ok l t12) :=
  EvL.pE mixed (lookC_ok (l := [(93, .pure career_current_C)]) ⟨career_current_ok, trivial⟩) [1, 6, 7, 10, 11, 12, 19, 20, 21, 22, 25, 26, 27, 28, 29, 30, 31, 32, 33] 0 4 (.nf (X := fun K => (bif (decide (t12 < ((l.length : Nat) : Int))) then ((0 : Int) ≤ t12) ∧ (t12 < ((l.length : Nat) : Int)) ∧ (((career_current (l.getD (Int.toNat t12) zGFact)).isSome = true) ∧ ((bif (bif (bif ((career_current (l.getD (Int.toNat t12) zGFact)).getD false) then ((l.getD (Int.toNat t12) zGFact).Kind == kind) else false) then (bif (!ok) then true else (decide (((l.getD (Int.toNat t12) zGFact).Span).From < day))) else false) then wK K .normal ({ tm := [sv 1 (i64 kind), sv 6 (i64 ((l.getD (Int.toNat t12) zGFact).Span).From), sv 7 (bl true), sv 10 (.c (.sl 14 l.length (lsEl eGFact zGFact l))), sv 11 (i64 ((l.length : Nat) : Int)), sv 12 (i64 (w64 (t12 + (1 : Int)))), sv 19 (.c .unk), sv 20 (.c .unk), sv 21 (.c .unk), sv 22 (.c .unk), sv 25 (.c .unk), sv 26 (.c .unk), sv 27 (.c .unk), sv 28 (.c .unk), sv 29 (.c .unk), sv 30 (.c .unk), sv 31 (.c .unk), sv 32 (.c .unk), sv 33 (.c .unk)], hp := [], nx := 0 }) else wK K .normal ({ tm := [sv 1 (i64 kind), sv 6 (i64 day), sv 7 (bl ok), sv 10 (.c (.sl 14 l.length (lsEl eGFact zGFact l))), sv 11 (i64 ((l.length : Nat) : Int)), sv 12 (i64 (w64 (t12 + (1 : Int)))), sv 19 (.c .unk), sv 20 (.c .unk), sv 21 (.c .unk), sv 22 (.c .unk), sv 25 (.c .unk), sv 26 (.c .unk), sv 27 (.c .unk), sv 28 (.c .unk), sv 29 (.c .unk), sv 30 (.c .unk), sv 31 (.c .unk), sv 32 (.c .unk), sv 33 (.c .unk)], hp := [], nx := 0 })))) else wK K (.exit 0) ({ tm := [sv 1 (i64 kind), sv 6 (i64 day), sv 7 (bl ok), sv 10 (.c (.sl 14 l.length (lsEl eGFact zGFact l))), sv 11 (i64 ((l.length : Nat) : Int)), sv 12 (i64 t12)], hp := [], nx := 0 }))) (fun K => by kernel_rfl) (W_bif h (fun _ h => (W_gd2 h fun hp0 h => (W_bind false h fun hp1 h => (W_bif h (fun _ h => ⟨(z91l1S kind l (((l.getD (Int.toNat t12) zGFact).Span).From, true, (w64 (t12 + (1 : Int))))), (.of (.q rfl (.q rfl (.q rfl (.q rfl (.q rfl (.q rfl .nil)))))) .nil rfl), h⟩) (fun _ h => ⟨(z91l1S kind l (day, ok, (w64 (t12 + (1 : Int))))), (.of (.q rfl (.q rfl (.q rfl (.q rfl (.q rfl (.q rfl .nil)))))) .nil rfl), h⟩))))) (fun _ h => ⟨(z91l1C0 kind l (day, ok)), (.of (.q rfl (.q rfl .nil)) .nil rfl), h⟩)))
noncomputable def career_first_l1 (kind : Int) (l : (List GFact)) (s : (Int × Bool × Int)) : Option ((Int × Bool × Int) ⊕ ((Int × Bool))) := match s with | (day, ok, t12) => career_first_p0 kind day ok l t12
theorem z91l1ok (kind : Int) (l : (List GFact)) (s : (Int × Bool × Int)) : Pp Try.prog 41 (List.drop 0 z91i1) (z91l1S kind l s) (career_first_l1 kind l s) (nextE (z91l1S kind l) (z91l1E kind l)) := fun K h => match s, h with | (day, ok, t12), h => (z91p0ok kind day ok l t12 _ h)
theorem z91l1Ethen (kind : Int) (l : (List GFact)) : ∀ (r : ((Int × Bool))) (J : St → Prop) (K : KT), z91l1E kind l r K → z91l1E kind l r (thenK J K)
  | s, _, _, h => h
def z91p1S (day_2 : Int) (ok_2 : Bool) : St := { tm := [sv 6 (i64 day_2), sv 7 (bl ok_2)], hp := [], nx := 0 }
noncomputable def career_first_p1 (day_2 : Int) (ok_2 : Bool) : Option ((Int × Bool)) := (some (day_2, ok_2))
theorem z91p1ok (day_2 : Int) (ok_2 : Bool) (K : KT) (h : W (career_first_p1 day_2 ok_2) (rE z91R K)) : EvL Try.prog 41 (List.drop 4 z91i0) K (z91p1S day_2 ok_2) :=
  EvL.pE mixed (lookC_ok (l := []) trivial) [4, 5] 4 2 (.nf (X := fun K => wK K .ret (z91R (day_2, ok_2))) (fun K => by kernel_rfl) (⟨_, .refl _, h⟩))
def z91p2S (kind : Int) (l : (List GFact)) : St := { tm := [sv 1 (i64 kind), sv 6 (i64 (0 : Int)), sv 7 (bl false), sv 10 (.c (.sl 14 l.length (lsEl eGFact zGFact l))), sv 11 (i64 ((l.length : Nat) : Int)), sv 12 (i64 (0 : Int))], hp := [], nx := 0 }
noncomputable def career_first_p2_g (kind : Int) (l : (List GFact)) (r : ((Int × Bool))) : Option ((Int × Bool)) := match r with | (day_1, ok_1) => (career_first_p1 day_1 ok_1)
noncomputable def career_first_p2 (kind : Int) (l : (List GFact)) : Option ((Int × Bool)) := (fixL (career_first_l1 kind l) ((0 : Int), false, (0 : Int))).bind (career_first_p2_g kind l)
theorem z91p2at : List.drop 3 z91i0 = .block 0 (.loop (inside (inside (nthI z91i0 3)))) :: List.drop 4 z91i0 := by kernel_rfl
theorem z91p2k (kind : Int) (l : (List GFact)) (K : KT) : ∀ r : ((Int × Bool)), W (career_first_p2_g kind l r) (rE z91R K) → z91l1E kind l r (wK (blockK 0 (thenK (EvL Try.prog 41 (List.drop 4 z91i0) K) K)))
  | (day_1, ok_1), h => ⟨(z91p1S day_1 ok_1), (.refl _), (z91p1ok day_1 ok_1 _ h)⟩
theorem z91p2ok (kind : Int) (l : (List GFact)) (K : KT) (h : W (career_first_p2 kind l) (rE z91R K)) : EvL Try.prog 41 (List.drop 3 z91i0) K (z91p2S kind l) :=
  EvL.at_ z91p2at (EvL.cons_loop (EvOk.weak (EvOk.ent (.refl _) (EvOk.loopF (x := inside (inside (nthI z91i0 3))) (f := career_first_l1 kind l) (emb := z91l1S kind l) (E := z91l1E kind l) (z91l1ok kind l) (z91l1Ethen kind l) (W_loop h (z91p2k kind l K))))))
def z91p3S (l : (List GFact)) (kind : Int) : St := { tm := [sv 0 (.c (.sl 14 l.length (lsEl eGFact zGFact l))), sv 1 (i64 kind)], hp := [], nx := 0 }
noncomputable def career_first_p3 (l : (List GFact)) (kind : Int) : Option ((Int × Bool)) := (career_first_p2 kind l)
theorem z91p3ok (l : (List GFact)) (kind : Int) (K : KT) (h : W (career_first_p3 l kind) (rE z91R K)) : EvL Try.prog 41 (List.drop 0 z91i0) K (z91p3S l kind) :=
  EvL.pD mixed (lookC_ok (l := []) trivial) [1, 6, 7, 10, 11, 12, 19, 20, 21, 22, 25, 26, 27, 28, 29, 30, 31, 32, 33] 0 3 3 (.nf (X := fun K => wK K .normal (z91p2S kind l)) (fun K => by kernel_rfl) (⟨_, .refl _, (z91p2ok kind l _ h)⟩))
noncomputable def career_first (l : (List GFact)) (kind : Int) : Option ((Int × Bool)) := career_first_p3 l kind
theorem z91run (l : (List GFact)) (kind : Int) (y_ : (Int × Bool)) (h : career_first l kind = some y_) : EvL Try.prog 41 (items (bodyOf Try.f91)) (retK Try.prog [.tmp 4, .tmp 5] (OutOk (career_first_out y_))) (z91p3S l kind) :=
  z91p3ok l kind _ (W_iff.2 ⟨y_, h, z91Rok y_⟩)
noncomputable def career_first_C : Con
  | [(.c (.sl k1 n2 e3)), (.c (.lit (.int .i64 a4)))] => some ([LstOk eGFact dGFact 14 k1 n2 e3, (career_first (lst dGFact n2 e3) a4).isSome = true], (career_first_out ((career_first (lst dGFact n2 e3) a4).getD ((0 : Int), false))))
  | _ => none
theorem career_first_ok : Meets Try.prog 91 career_first_C := by
  refine meets_fun (fn := Try.f91) (c := bodyOf Try.f91) (by kernel_rfl) (by kernel_rfl) (by kernel_rfl) (rs := [.tmp 4, .tmp 5]) (by kernel_rfl) (nt := 41) (by kernel_rfl) fun vs p out h hp => ?_
  unfold career_first_C at h
  split at h
  · next k1 n2 e3 a4 =>
    cases h
    obtain ⟨g0, hp⟩ := allq hp
    obtain ⟨g, hp⟩ := allq hp
    obtain ⟨x, hx⟩ := Option.isSome_iff_exists.1 g
    rw [hx]
    exact ⟨[(.c (.sl 14 ((lst dGFact n2 e3)).length (lsEl eGFact zGFact (lst dGFact n2 e3)))), (i64 a4)], (VLes.cons (VLe.slk g0.1 (RowIs.of_ok g0)) (VLes.cons (VLe.rfl' _) VLes.nil)), rfl, z91run (lst dGFact n2 e3) a4 x hx⟩
  · cases h

noncomputable def z39i0 : List Code := items (bodyOf Try.f39)
def z39R (x_1 : (Int × Bool)) : St := { tm := [sv 2 (i64 x_1.1), sv 3 (bl x_1.2)], hp := [], nx := 0 }
def career_Birth_out (x_1 : (Int × Bool)) : Out := .data (.tup [(i64 x_1.1), (bl x_1.2)])
theorem z39Rok (x_1 : (Int × Bool)) : retK Try.prog [.tmp 2, .tmp 3] (OutOk (career_Birth_out x_1)) .ret (z39R x_1) :=
  retK.intro (v := (.tup [(i64 x_1.1), (bl x_1.2)])) (by kernel_rfl) (VLe.tup (VLes.cons (VLe.rfl' _) (VLes.cons (VLe.rfl' _) (VLes.nil))))
def z39p0S (l : (List GFact)) : St := { tm := [sv 0 (.c (.sl 14 l.length (lsEl eGFact zGFact l)))], hp := [], nx := 0 }
noncomputable def career_Birth_p0 (l : (List GFact)) : Option ((Int × Bool)) := (career_first l (11 : Int)).bind fun r_1 => ((some (r_1.1, r_1.2)))
theorem z39p0nf (l : (List GFact)) (K : KT) (L1_ : List GFact) (hL1_ : lst dGFact l.length (lsEl eGFact zGFact l) = L1_) :
    ev Try.prog (lookC [(91, .pure career_first_C)]) 8 (ofItems ((List.drop 0 z39i0).take 3)) (cN [2, 3] K) (z39p0S l) =
    ((LstOk eGFact dGFact 14 14 l.length (lsEl eGFact zGFact l)) ∧ ((career_first L1_ (11 : Int)).isSome = true) ∧ (wK K .ret (z39R (((career_first L1_ (11 : Int)).getD ((0 : Int), false)).1, ((career_first L1_ (11 : Int)).getD ((0 : Int), false)).2)))) := by subst hL1_; kernel_rfl
theorem z39p0ok (l : (List GFact)) (K : KT) (h : W (career_Birth_p0 l) (rE z39R K)) : EvL Try.prog 8 (List.drop 0 z39i0) K (z39p0S l) :=
  EvL.pE mixed (lookC_ok (l := [(91, .pure career_first_C)]) ⟨career_first_ok, trivial⟩) [2, 3] 0 3 (.of (z39p0nf l _ _ (RowIs.lst dGFact_eGFact (RowIs.ls eGFact zGFact l))) (⟨RowIs.ok dGFact_eGFact (RowIs.ls eGFact zGFact l), (W_bind ((0 : Int), false) h fun hp0 h => ⟨_, .refl _, h⟩)⟩))
noncomputable def career_Birth (l : (List GFact)) : Option ((Int × Bool)) := career_Birth_p0 l
theorem z39run (l : (List GFact)) (y_ : (Int × Bool)) (h : career_Birth l = some y_) : EvL Try.prog 8 (items (bodyOf Try.f39)) (retK Try.prog [.tmp 2, .tmp 3] (OutOk (career_Birth_out y_))) (z39p0S l) :=
  z39p0ok l _ (W_iff.2 ⟨y_, h, z39Rok y_⟩)
noncomputable def career_Birth_C : Con
  | [(.c (.sl k1 n2 e3))] => some ([LstOk eGFact dGFact 14 k1 n2 e3, (career_Birth (lst dGFact n2 e3)).isSome = true], (career_Birth_out ((career_Birth (lst dGFact n2 e3)).getD ((0 : Int), false))))
  | _ => none
theorem career_Birth_ok : Meets Try.prog 39 career_Birth_C := by
  refine meets_fun (fn := Try.f39) (c := bodyOf Try.f39) (by kernel_rfl) (by kernel_rfl) (by kernel_rfl) (rs := [.tmp 2, .tmp 3]) (by kernel_rfl) (nt := 8) (by kernel_rfl) fun vs p out h hp => ?_
  unfold career_Birth_C at h
  split at h
  · next k1 n2 e3 =>
    cases h
    obtain ⟨g0, hp⟩ := allq hp
    obtain ⟨g, hp⟩ := allq hp
    obtain ⟨x, hx⟩ := Option.isSome_iff_exists.1 g
    rw [hx]
    exact ⟨[(.c (.sl 14 ((lst dGFact n2 e3)).length (lsEl eGFact zGFact (lst dGFact n2 e3))))], (VLes.cons (VLe.slk g0.1 (RowIs.of_ok g0)) VLes.nil), rfl, z39run (lst dGFact n2 e3) x hx⟩
  · cases h

noncomputable def z49i0 : List Code := items (bodyOf Try.f49)
noncomputable def z49i1 : List Code := items (inside (inside (nthI z49i0 3)))
def z49R (x_1 : (List GFact)) : St := { tm := [sv 2 (.row 0 14 0 x_1.length)], hp := [(0, some (.row 27 14 x_1.length (lsEl eGFact zGFact x_1)))], nx := 1 }
def ref12_Current_out (x_1 : (List GFact)) : Out := .own true 27 14 (x_1).length (lsEl eGFact zGFact x_1)
theorem z49Rok (x_1 : (List GFact)) : retK Try.prog [.tmp 2] (OutOk (ref12_Current_out x_1)) .ret (z49R x_1) :=
  retK.intro (v := (.row 0 14 0 x_1.length)) (by kernel_rfl) (⟨_, _, _, rfl, rfl, rfl, fun _ _ => rfl, fun _ i hi d hd => scal_GFact _ d hd⟩)
def z49l1S (l : (List GFact)) (s : ((List GFact) × Int)) : St := match s with | (out_1, i_1) => { tm := [sv 0 (.c (.sl 14 l.length (lsEl eGFact zGFact l))), sv 3 (.row 0 14 0 out_1.length), sv 4 (i64 i_1)], hp := [(0, some (.row 27 14 out_1.length (lsEl eGFact zGFact out_1)))], nx := 1 }
def z49l1C0 (l : (List GFact)) (s : (List GFact)) : St := match s with | out_2 => { tm := [sv 3 (.row 0 14 0 out_2.length)], hp := [(0, some (.row 27 14 out_2.length (lsEl eGFact zGFact out_2)))], nx := 1 }
def z49l1E (l : (List GFact)) (r : (((List GFact)))) (K : KT) : Prop := match r with | s => K (.exit 0) (z49l1C0 l s)
def z49p0S (l out_1 : (List GFact)) (i_1 : Int) : St := { tm := [sv 0 (.c (.sl 14 l.length (lsEl eGFact zGFact l))), sv 3 (.row 0 14 0 out_1.length), sv 4 (i64 i_1)], hp := [(0, some (.row 27 14 out_1.length (lsEl eGFact zGFact out_1)))], nx := 1 }
noncomputable def ref12_Current_p0 (l out_1 : (List GFact)) (i_1 : Int) : Option (((List GFact) × Int) ⊕ (((List GFact)))) := (bif (decide (i_1 < ((l.length : Nat) : Int))) then gd ((0 : Int) ≤ i_1 ∧ i_1 < ((l.length : Nat) : Int)) ((ref12_Valid (l.getD (Int.toNat i_1) zGFact)).bind fun r_1 => (gd ((r_1 && true) = true → (0 : Int) ≤ i_1) (gd ((r_1 && true) = true → i_1 < ((l.length : Nat) : Int)) ((bif (bif r_1 then (!(l.getD (Int.toNat i_1) zGFact).Withdrawn) else false) then gd ((0 : Int) ≤ i_1 ∧ i_1 < ((l.length : Nat) : Int)) (gd (capB (out_1.length + 1) 112) ((some (Sum.inl ((out_1 ++ ([(l.getD (Int.toNat i_1) zGFact)] : List GFact)), (w64 (i_1 + (1 : Int)))))))) else (some (Sum.inl (out_1, (w64 (i_1 + (1 : Int))))))))))) else (some (Sum.inr out_1)))
theorem z49p0ok (l out_1 : (List GFact)) (i_1 : Int) (K : KT) (h : W (ref12_Current_p0 l out_1 i_1) (nE (z49l1S l) (z49l1E l) K)) : EvL Try.prog 32 (List.drop 0 z49i1) K (z49p0S l out_1 i_1) :=
  EvL.pE mixed (lookC_ok (l := [(78, .pure ref12_Valid_C)]) ⟨ref12_Valid_ok, trivial⟩) [0, 3, 4, 17, 18, 19, 20, 21, 22] 0 4 (.nf (X := fun K => (bif (decide (i_1 < ((l.length : Nat) : Int))) then ((0 : Int) ≤ i_1) ∧ (i_1 < ((l.length : Nat) : Int)) ∧ ((ref12_Valid (l.getD (Int.toNat i_1) zGFact)).isSome = true) ∧ ((((ref12_Valid (l.getD (Int.toNat i_1) zGFact)).getD false) && true) = true → (0 : Int) ≤ i_1) ∧ ((((ref12_Valid (l.getD (Int.toNat i_1) zGFact)).getD false) && true) = true → i_1 < ((l.length : Nat) : Int)) ∧ ((bif (bif ((ref12_Valid (l.getD (Int.toNat i_1) zGFact)).getD false) then (!(l.getD (Int.toNat i_1) zGFact).Withdrawn) else false) then ((0 : Int) ≤ i_1) ∧ (i_1 < ((l.length : Nat) : Int)) ∧ (out_1.length = out_1.length) ∧ ((out_1.length + 1) * 112 ≤ 70368744177664) ∧ ((out_1.length + 1) ≤ 70368744177664) ∧ (wK K .normal ({ tm := [sv 0 (.c (.sl 14 l.length (lsEl eGFact zGFact l))), sv 3 (.row 0 14 0 (out_1.length + 1)), sv 4 (i64 (w64 (i_1 + (1 : Int)))), sv 17 (.c .unk), sv 18 (.c .unk), sv 19 (.c .unk), sv 20 (.c .unk), sv 21 (.c .unk), sv 22 (.c .unk)], hp := [(0, some (.row 27 14 (out_1.length + 1) (fun i => bif Nat.blt i out_1.length then (lsEl eGFact zGFact out_1) i else (fun i => (litE 14 (eGFact (l.getD (Int.toNat i_1) zGFact))) (0 + i)) (i - out_1.length))))], nx := 1 })) else wK K .normal ({ tm := [sv 0 (.c (.sl 14 l.length (lsEl eGFact zGFact l))), sv 3 (.row 0 14 0 out_1.length), sv 4 (i64 (w64 (i_1 + (1 : Int)))), sv 17 (.c .unk), sv 18 (.c .unk), sv 19 (.c .unk), sv 20 (.c .unk), sv 21 (.c .unk), sv 22 (.c .unk)], hp := [(0, some (.row 27 14 out_1.length (lsEl eGFact zGFact out_1)))], nx := 1 }))) else wK K (.exit 0) ({ tm := [sv 0 (.c (.sl 14 l.length (lsEl eGFact zGFact l))), sv 3 (.row 0 14 0 out_1.length), sv 4 (i64 i_1)], hp := [(0, some (.row 27 14 out_1.length (lsEl eGFact zGFact out_1)))], nx := 1 }))) (fun K => by kernel_rfl) (W_bif h (fun _ h => (W_gd2 h fun hp0 h => (W_bind false h fun hp1 h => (W_gd h fun hp2 h => (W_gd h fun hp3 h => (W_bif h (fun _ h => (W_gd2 h fun hp4 h => ⟨rfl, (W_gd2 h fun hp5 h => ⟨(z49l1S l ((out_1 ++ ([(l.getD (Int.toNat i_1) zGFact)] : List GFact)), (w64 (i_1 + (1 : Int))))), (.of (.q rfl (.cons rfl (.rown (len_app rfl rfl)) (.q rfl .nil))) (.row rfl (RowIs.app (RowIs.ls eGFact zGFact out_1) (RowIs.zero (RowIs.l1 (enc := eGFact) (z := zGFact) 14 (l.getD (Int.toNat i_1) zGFact) rfl))) .nil rfl) rfl), h⟩)⟩)) (fun _ h => ⟨(z49l1S l (out_1, (w64 (i_1 + (1 : Int))))), (.of (.q rfl (.q rfl (.q rfl .nil))) (.same rfl .nil) rfl), h⟩))))))) (fun _ h => ⟨(z49l1C0 l out_1), (.of (.q rfl .nil) (.same rfl .nil) rfl), h⟩)))
noncomputable def ref12_Current_l1 (l : (List GFact)) (s : ((List GFact) × Int)) : Option (((List GFact) × Int) ⊕ (((List GFact)))) := match s with | (out_1, i_1) => ref12_Current_p0 l out_1 i_1
theorem z49l1ok (l : (List GFact)) (s : ((List GFact) × Int)) : Pp Try.prog 32 (List.drop 0 z49i1) (z49l1S l s) (ref12_Current_l1 l s) (nextE (z49l1S l) (z49l1E l)) := fun K h => match s, h with | (out_1, i_1), h => (z49p0ok l out_1 i_1 _ h)
theorem z49l1Ethen (l : (List GFact)) : ∀ (r : (((List GFact)))) (J : St → Prop) (K : KT), z49l1E l r K → z49l1E l r (thenK J K)
  | s, _, _, h => h
def z49p1S (out_3 : (List GFact)) : St := { tm := [sv 3 (.row 0 14 0 out_3.length)], hp := [(0, some (.row 27 14 out_3.length (lsEl eGFact zGFact out_3)))], nx := 1 }
noncomputable def ref12_Current_p1 (out_3 : (List GFact)) : Option ((List GFact)) := (some out_3)
theorem z49p1ok (out_3 : (List GFact)) (K : KT) (h : W (ref12_Current_p1 out_3) (rE z49R K)) : EvL Try.prog 32 (List.drop 4 z49i0) K (z49p1S out_3) :=
  EvL.pE mixed (lookC_ok (l := []) trivial) [2] 4 2 (.nf (X := fun K => wK K .ret (z49R out_3)) (fun K => by kernel_rfl) (⟨_, .refl _, h⟩))
def z49p2S (l : (List GFact)) : St := { tm := [sv 0 (.c (.sl 14 l.length (lsEl eGFact zGFact l))), sv 3 (.c .nil), sv 4 (i64 (0 : Int))], hp := [], nx := 0 }
noncomputable def ref12_Current_p2_g (l : (List GFact)) (r : (((List GFact)))) : Option ((List GFact)) := match r with | out_2 => (ref12_Current_p1 out_2)
noncomputable def ref12_Current_p2 (l : (List GFact)) : Option ((List GFact)) := (fixL (ref12_Current_l1 l) (([] : List GFact), (0 : Int))).bind (ref12_Current_p2_g l)
theorem z49p2at : List.drop 3 z49i0 = .block 0 (.loop (inside (inside (nthI z49i0 3)))) :: List.drop 4 z49i0 := by kernel_rfl
theorem z49p2k (l : (List GFact)) (K : KT) : ∀ r : (((List GFact))), W (ref12_Current_p2_g l r) (rE z49R K) → z49l1E l r (wK (blockK 0 (thenK (EvL Try.prog 32 (List.drop 4 z49i0) K) K)))
  | out_2, h => ⟨(z49p1S out_2), (.refl _), (z49p1ok out_2 _ h)⟩
theorem z49p2ok (l : (List GFact)) (K : KT) (h : W (ref12_Current_p2 l) (rE z49R K)) : EvL Try.prog 32 (List.drop 3 z49i0) K (z49p2S l) :=
  EvL.at_ z49p2at (EvL.cons_loop (EvOk.weak (EvOk.ent (.trans (.nilrow 3 0 27 14 (lsEl eGFact zGFact []) (Nat.le_of_ble_eq_true rfl) rfl) (.cn [0, 3, 4])) (EvOk.loopF (x := inside (inside (nthI z49i0 3))) (f := ref12_Current_l1 l) (emb := z49l1S l) (E := z49l1E l) (z49l1ok l) (z49l1Ethen l) (W_loop h (z49p2k l K))))))
def z49p3S (l : (List GFact)) : St := { tm := [sv 0 (.c (.sl 14 l.length (lsEl eGFact zGFact l)))], hp := [], nx := 0 }
noncomputable def ref12_Current_p3 (l : (List GFact)) : Option ((List GFact)) := (ref12_Current_p2 l)
theorem z49p3ok (l : (List GFact)) (K : KT) (h : W (ref12_Current_p3 l) (rE z49R K)) : EvL Try.prog 32 (List.drop 0 z49i0) K (z49p3S l) :=
  EvL.pD mixed (lookC_ok (l := []) trivial) [0, 3, 4, 17, 18, 19, 20, 21, 22] 0 3 3 (.nf (X := fun K => wK K .normal (z49p2S l)) (fun K => by kernel_rfl) (⟨_, .refl _, (z49p2ok l _ h)⟩))
noncomputable def ref12_Current (l : (List GFact)) : Option ((List GFact)) := ref12_Current_p3 l
theorem z49run (l : (List GFact)) (y_ : (List GFact)) (h : ref12_Current l = some y_) : EvL Try.prog 32 (items (bodyOf Try.f49)) (retK Try.prog [.tmp 2] (OutOk (ref12_Current_out y_))) (z49p3S l) :=
  z49p3ok l _ (W_iff.2 ⟨y_, h, z49Rok y_⟩)
noncomputable def ref12_Current_C : Con
  | [(.c (.sl k1 n2 e3))] => some ([LstOk eGFact dGFact 14 k1 n2 e3, (ref12_Current (lst dGFact n2 e3)).isSome = true], (ref12_Current_out ((ref12_Current (lst dGFact n2 e3)).getD ([] : List GFact))))
  | _ => none
theorem ref12_Current_ok : Meets Try.prog 49 ref12_Current_C := by
  refine meets_fun (fn := Try.f49) (c := bodyOf Try.f49) (by kernel_rfl) (by kernel_rfl) (by kernel_rfl) (rs := [.tmp 2]) (by kernel_rfl) (nt := 32) (by kernel_rfl) fun vs p out h hp => ?_
  unfold ref12_Current_C at h
  split at h
  · next k1 n2 e3 =>
    cases h
    obtain ⟨g0, hp⟩ := allq hp
    obtain ⟨g, hp⟩ := allq hp
    obtain ⟨x, hx⟩ := Option.isSome_iff_exists.1 g
    rw [hx]
    exact ⟨[(.c (.sl 14 ((lst dGFact n2 e3)).length (lsEl eGFact zGFact (lst dGFact n2 e3))))], (VLes.cons (VLe.slk g0.1 (RowIs.of_ok g0)) VLes.nil), rfl, z49run (lst dGFact n2 e3) x hx⟩
  · cases h

noncomputable def z92i0 : List Code := items (bodyOf Try.f92)
noncomputable def z92i1 : List Code := items (inside (inside (nthI z92i0 4)))
def z92R (x_1 : (Int × Bool)) : St := { tm := [sv 4 (i64 x_1.1), sv 5 (bl x_1.2)], hp := [], nx := 0 }
def ref12_least_out (x_1 : (Int × Bool)) : Out := .data (.tup [(i64 x_1.1), (bl x_1.2)])
theorem z92Rok (x_1 : (Int × Bool)) : retK Try.prog [.tmp 4, .tmp 5] (OutOk (ref12_least_out x_1)) .ret (z92R x_1) :=
  retK.intro (v := (.tup [(i64 x_1.1), (bl x_1.2)])) (by kernel_rfl) (VLe.tup (VLes.cons (VLe.rfl' _) (VLes.cons (VLe.rfl' _) (VLes.nil))))
def z92l1S (kind : Int) (c : (List GFact)) (s : (Int × Bool × Int)) : St := match s with | (day, ok, i_1) => { tm := [sv 1 (i64 kind), sv 6 (.row 0 14 0 c.length), sv 7 (i64 day), sv 8 (bl ok), sv 9 (i64 i_1)], hp := [(0, some (.row 27 14 c.length (lsEl eGFact zGFact c)))], nx := 1 }
def z92l1C0 (kind : Int) (c : (List GFact)) (s : Int × Bool) : St := match s with | (day_1, ok_1) => { tm := [sv 7 (i64 day_1), sv 8 (bl ok_1)], hp := [], nx := 0 }
def z92l1E (kind : Int) (c : (List GFact)) (r : ((Int × Bool))) (K : KT) : Prop := match r with | s => K (.exit 0) (z92l1C0 kind c s)
def z92p0S (kind : Int) (c : (List GFact)) (day : Int) (ok : Bool) (i_1 : Int) : St := { tm := [sv 1 (i64 kind), sv 6 (.row 0 14 0 c.length), sv 7 (i64 day), sv 8 (bl ok), sv 9 (i64 i_1)], hp := [(0, some (.row 27 14 c.length (lsEl eGFact zGFact c)))], nx := 1 }
noncomputable def ref12_least_p0 (kind : Int) (c : (List GFact)) (day : Int) (ok : Bool) (i_1 : Int) : Option ((Int × Bool × Int) ⊕ ((Int × Bool))) := (bif (decide (i_1 < ((c.length : Nat) : Int))) then gd ((0 : Int) ≤ i_1 ∧ i_1 < ((c.length : Nat) : Int)) (gd (((!(!ok)) && (((c.getD (0 + (Int.toNat i_1)) zGFact).Kind == kind) && true)) = true → (0 : Int) ≤ i_1) (gd (((!(!ok)) && (((c.getD (0 + (Int.toNat i_1)) zGFact).Kind == kind) && true)) = true → i_1 < ((c.length : Nat) : Int)) ((bif (bif ((c.getD (0 + (Int.toNat i_1)) zGFact).Kind == kind) then (bif (!ok) then true else (decide (((c.getD (0 + (Int.toNat i_1)) zGFact).Span).From < day))) else false) then gd ((0 : Int) ≤ i_1 ∧ i_1 < ((c.length : Nat) : Int)) ((some (Sum.inl (((c.getD (0 + (Int.toNat i_1)) zGFact).Span).From, true, (w64 (i_1 + (1 : Int))))))) else (some (Sum.inl (day, ok, (w64 (i_1 + (1 : Int)))))))))) else (some (Sum.inr (day, ok))))
theorem z92p0ok (kind : Int) (c : (List GFact)) (day : Int) (ok : Bool) (i_1 : Int) (K : KT) (h : W (ref12_least_p0 kind c day ok i_1) (nE (z92l1S kind c) (z92l1E kind c) K)) : EvL Try.prog 47 (List.drop 0 z92i1) K (z92p0S kind c day ok i_1) :=
  EvL.pE mixed (lookC_ok (l := []) trivial) [1, 6, 7, 8, 9, 26, 27, 28, 29, 30, 31, 32, 33, 34, 35, 36, 37] 0 4 (.nf (X := fun K => (bif (decide (i_1 < ((c.length : Nat) : Int))) then ((0 : Int) ≤ i_1) ∧ (i_1 < ((c.length : Nat) : Int)) ∧ (((!(!ok)) && (((c.getD (0 + (Int.toNat i_1)) zGFact).Kind == kind) && true)) = true → (0 : Int) ≤ i_1) ∧ (((!(!ok)) && (((c.getD (0 + (Int.toNat i_1)) zGFact).Kind == kind) && true)) = true → i_1 < ((c.length : Nat) : Int)) ∧ ((bif (bif ((c.getD (0 + (Int.toNat i_1)) zGFact).Kind == kind) then (bif (!ok) then true else (decide (((c.getD (0 + (Int.toNat i_1)) zGFact).Span).From < day))) else false) then ((0 : Int) ≤ i_1) ∧ (i_1 < ((c.length : Nat) : Int)) ∧ (wK K .normal ({ tm := [sv 1 (i64 kind), sv 6 (.row 0 14 0 c.length), sv 7 (i64 ((c.getD (0 + (Int.toNat i_1)) zGFact).Span).From), sv 8 (bl true), sv 9 (i64 (w64 (i_1 + (1 : Int)))), sv 26 (.c .unk), sv 27 (.c .unk), sv 28 (.c .unk), sv 29 (.c .unk), sv 30 (.c .unk), sv 31 (.c .unk), sv 32 (.c .unk), sv 33 (.c .unk), sv 34 (.c .unk), sv 35 (.c .unk), sv 36 (.c .unk), sv 37 (.c .unk)], hp := [(0, some (.row 27 14 c.length (lsEl eGFact zGFact c)))], nx := 1 })) else wK K .normal ({ tm := [sv 1 (i64 kind), sv 6 (.row 0 14 0 c.length), sv 7 (i64 day), sv 8 (bl ok), sv 9 (i64 (w64 (i_1 + (1 : Int)))), sv 26 (.c .unk), sv 27 (.c .unk), sv 28 (.c .unk), sv 29 (.c .unk), sv 30 (.c .unk), sv 31 (.c .unk), sv 32 (.c .unk), sv 33 (.c .unk), sv 34 (.c .unk), sv 35 (.c .unk), sv 36 (.c .unk), sv 37 (.c .unk)], hp := [(0, some (.row 27 14 c.length (lsEl eGFact zGFact c)))], nx := 1 }))) else wK K (.exit 0) ({ tm := [sv 1 (i64 kind), sv 6 (.row 0 14 0 c.length), sv 7 (i64 day), sv 8 (bl ok), sv 9 (i64 i_1)], hp := [(0, some (.row 27 14 c.length (lsEl eGFact zGFact c)))], nx := 1 }))) (fun K => by kernel_rfl) (W_bif h (fun _ h => (W_gd2 h fun hp0 h => (W_gd h fun hp1 h => (W_gd h fun hp2 h => (W_bif h (fun _ h => (W_gd2 h fun hp3 h => ⟨(z92l1S kind c (((c.getD (0 + (Int.toNat i_1)) zGFact).Span).From, true, (w64 (i_1 + (1 : Int))))), (.of (.q rfl (.q rfl (.q rfl (.q rfl (.q rfl .nil))))) (.same rfl .nil) rfl), h⟩)) (fun _ h => ⟨(z92l1S kind c (day, ok, (w64 (i_1 + (1 : Int))))), (.of (.q rfl (.q rfl (.q rfl (.q rfl (.q rfl .nil))))) (.same rfl .nil) rfl), h⟩)))))) (fun _ h => ⟨(z92l1C0 kind c (day, ok)), (.cn [7, 8]), h⟩)))
noncomputable def ref12_least_l1 (kind : Int) (c : (List GFact)) (s : (Int × Bool × Int)) : Option ((Int × Bool × Int) ⊕ ((Int × Bool))) := match s with | (day, ok, i_1) => ref12_least_p0 kind c day ok i_1
theorem z92l1ok (kind : Int) (c : (List GFact)) (s : (Int × Bool × Int)) : Pp Try.prog 47 (List.drop 0 z92i1) (z92l1S kind c s) (ref12_least_l1 kind c s) (nextE (z92l1S kind c) (z92l1E kind c)) := fun K h => match s, h with | (day, ok, i_1), h => (z92p0ok kind c day ok i_1 _ h)
theorem z92l1Ethen (kind : Int) (c : (List GFact)) : ∀ (r : ((Int × Bool))) (J : St → Prop) (K : KT), z92l1E kind c r K → z92l1E kind c r (thenK J K)
  | s, _, _, h => h
def z92p1S (day_2 : Int) (ok_2 : Bool) : St := { tm := [sv 7 (i64 day_2), sv 8 (bl ok_2)], hp := [], nx := 0 }
noncomputable def ref12_least_p1 (day_2 : Int) (ok_2 : Bool) : Option ((Int × Bool)) := (some (day_2, ok_2))
theorem z92p1ok (day_2 : Int) (ok_2 : Bool) (K : KT) (h : W (ref12_least_p1 day_2 ok_2) (rE z92R K)) : EvL Try.prog 47 (List.drop 5 z92i0) K (z92p1S day_2 ok_2) :=
  EvL.pE mixed (lookC_ok (l := []) trivial) [4, 5] 5 2 (.nf (X := fun K => wK K .ret (z92R (day_2, ok_2))) (fun K => by kernel_rfl) (⟨_, .refl _, h⟩))
def z92p2S (kind : Int) (c : (List GFact)) : St := { tm := [sv 1 (i64 kind), sv 6 (.row 0 14 0 c.length), sv 7 (i64 (0 : Int)), sv 8 (bl false), sv 9 (i64 (0 : Int))], hp := [(0, some (.row 27 14 c.length (lsEl eGFact zGFact c)))], nx := 1 }
noncomputable def ref12_least_p2_g (kind : Int) (c : (List GFact)) (r : ((Int × Bool))) : Option ((Int × Bool)) := match r with | (day_1, ok_1) => (ref12_least_p1 day_1 ok_1)
noncomputable def ref12_least_p2 (kind : Int) (c : (List GFact)) : Option ((Int × Bool)) := (fixL (ref12_least_l1 kind c) ((0 : Int), false, (0 : Int))).bind (ref12_least_p2_g kind c)
theorem z92p2at : List.drop 4 z92i0 = .block 0 (.loop (inside (inside (nthI z92i0 4)))) :: List.drop 5 z92i0 := by kernel_rfl
theorem z92p2k (kind : Int) (c : (List GFact)) (K : KT) : ∀ r : ((Int × Bool)), W (ref12_least_p2_g kind c r) (rE z92R K) → z92l1E kind c r (wK (blockK 0 (thenK (EvL Try.prog 47 (List.drop 5 z92i0) K) K)))
  | (day_1, ok_1), h => ⟨(z92p1S day_1 ok_1), (.refl _), (z92p1ok day_1 ok_1 _ h)⟩
theorem z92p2ok (kind : Int) (c : (List GFact)) (K : KT) (h : W (ref12_least_p2 kind c) (rE z92R K)) : EvL Try.prog 47 (List.drop 4 z92i0) K (z92p2S kind c) :=
  EvL.at_ z92p2at (EvL.cons_loop (EvOk.weak (EvOk.ent (.refl _) (EvOk.loopF (x := inside (inside (nthI z92i0 4))) (f := ref12_least_l1 kind c) (emb := z92l1S kind c) (E := z92l1E kind c) (z92l1ok kind c) (z92l1Ethen kind c) (W_loop h (z92p2k kind c K))))))
def z92p3S (l : (List GFact)) (kind : Int) : St := { tm := [sv 0 (.c (.sl 14 l.length (lsEl eGFact zGFact l))), sv 1 (i64 kind)], hp := [], nx := 0 }
noncomputable def ref12_least_p3 (l : (List GFact)) (kind : Int) : Option ((Int × Bool)) := (ref12_Current l).bind fun r_1 => ((ref12_least_p2 kind r_1))
theorem z92p3nf (l : (List GFact)) (kind : Int) (K : KT) (L1_ : List GFact) (hL1_ : lst dGFact l.length (lsEl eGFact zGFact l) = L1_) :
    ev Try.prog (lookC [(49, .pure ref12_Current_C)]) 47 (ofItems ((List.drop 0 z92i0).take 4)) (cN [1, 6, 7, 8, 9, 26, 27, 28, 29, 30, 31, 32, 33, 34, 35, 36, 37] K) (z92p3S l kind) =
    ((LstOk eGFact dGFact 14 14 l.length (lsEl eGFact zGFact l)) ∧ ((ref12_Current L1_).isSome = true) ∧ (wK K .normal (z92p2S kind ((ref12_Current L1_).getD ([] : List GFact))))) := by subst hL1_; kernel_rfl
theorem z92p3ok (l : (List GFact)) (kind : Int) (K : KT) (h : W (ref12_least_p3 l kind) (rE z92R K)) : EvL Try.prog 47 (List.drop 0 z92i0) K (z92p3S l kind) :=
  EvL.pD mixed (lookC_ok (l := [(49, .pure ref12_Current_C)]) ⟨ref12_Current_ok, trivial⟩) [1, 6, 7, 8, 9, 26, 27, 28, 29, 30, 31, 32, 33, 34, 35, 36, 37] 0 4 4 (.of (z92p3nf l kind _ _ (RowIs.lst dGFact_eGFact (RowIs.ls eGFact zGFact l))) (⟨RowIs.ok dGFact_eGFact (RowIs.ls eGFact zGFact l), (W_bind ([] : List GFact) h fun hp0 h => ⟨_, .refl _, (z92p2ok kind ((ref12_Current l).getD ([] : List GFact)) _ h)⟩)⟩))
noncomputable def ref12_least (l : (List GFact)) (kind : Int) : Option ((Int × Bool)) := ref12_least_p3 l kind
theorem z92run (l : (List GFact)) (kind : Int) (y_ : (Int × Bool)) (h : ref12_least l kind = some y_) : EvL Try.prog 47 (items (bodyOf Try.f92)) (retK Try.prog [.tmp 4, .tmp 5] (OutOk (ref12_least_out y_))) (z92p3S l kind) :=
  z92p3ok l kind _ (W_iff.2 ⟨y_, h, z92Rok y_⟩)
noncomputable def ref12_least_C : Con
  | [(.c (.sl k1 n2 e3)), (.c (.lit (.int .i64 a4)))] => some ([LstOk eGFact dGFact 14 k1 n2 e3, (ref12_least (lst dGFact n2 e3) a4).isSome = true], (ref12_least_out ((ref12_least (lst dGFact n2 e3) a4).getD ((0 : Int), false))))
  | _ => none
theorem ref12_least_ok : Meets Try.prog 92 ref12_least_C := by
  refine meets_fun (fn := Try.f92) (c := bodyOf Try.f92) (by kernel_rfl) (by kernel_rfl) (by kernel_rfl) (rs := [.tmp 4, .tmp 5]) (by kernel_rfl) (nt := 47) (by kernel_rfl) fun vs p out h hp => ?_
  unfold ref12_least_C at h
  split at h
  · next k1 n2 e3 a4 =>
    cases h
    obtain ⟨g0, hp⟩ := allq hp
    obtain ⟨g, hp⟩ := allq hp
    obtain ⟨x, hx⟩ := Option.isSome_iff_exists.1 g
    rw [hx]
    exact ⟨[(.c (.sl 14 ((lst dGFact n2 e3)).length (lsEl eGFact zGFact (lst dGFact n2 e3)))), (i64 a4)], (VLes.cons (VLe.slk g0.1 (RowIs.of_ok g0)) (VLes.cons (VLe.rfl' _) VLes.nil)), rfl, z92run (lst dGFact n2 e3) a4 x hx⟩
  · cases h

noncomputable def z40i0 : List Code := items (bodyOf Try.f40)
def z40R (x_1 : (Int × Bool)) : St := { tm := [sv 2 (i64 x_1.1), sv 3 (bl x_1.2)], hp := [], nx := 0 }
def ref12_Birth_out (x_1 : (Int × Bool)) : Out := .data (.tup [(i64 x_1.1), (bl x_1.2)])
theorem z40Rok (x_1 : (Int × Bool)) : retK Try.prog [.tmp 2, .tmp 3] (OutOk (ref12_Birth_out x_1)) .ret (z40R x_1) :=
  retK.intro (v := (.tup [(i64 x_1.1), (bl x_1.2)])) (by kernel_rfl) (VLe.tup (VLes.cons (VLe.rfl' _) (VLes.cons (VLe.rfl' _) (VLes.nil))))
def z40p0S (l : (List GFact)) : St := { tm := [sv 0 (.c (.sl 14 l.length (lsEl eGFact zGFact l)))], hp := [], nx := 0 }
noncomputable def ref12_Birth_p0 (l : (List GFact)) : Option ((Int × Bool)) := (ref12_least l (11 : Int)).bind fun r_1 => ((some (r_1.1, r_1.2)))
theorem z40p0nf (l : (List GFact)) (K : KT) (L1_ : List GFact) (hL1_ : lst dGFact l.length (lsEl eGFact zGFact l) = L1_) :
    ev Try.prog (lookC [(92, .pure ref12_least_C)]) 8 (ofItems ((List.drop 0 z40i0).take 3)) (cN [2, 3] K) (z40p0S l) =
    ((LstOk eGFact dGFact 14 14 l.length (lsEl eGFact zGFact l)) ∧ ((ref12_least L1_ (11 : Int)).isSome = true) ∧ (wK K .ret (z40R (((ref12_least L1_ (11 : Int)).getD ((0 : Int), false)).1, ((ref12_least L1_ (11 : Int)).getD ((0 : Int), false)).2)))) := by subst hL1_; kernel_rfl
theorem z40p0ok (l : (List GFact)) (K : KT) (h : W (ref12_Birth_p0 l) (rE z40R K)) : EvL Try.prog 8 (List.drop 0 z40i0) K (z40p0S l) :=
  EvL.pE mixed (lookC_ok (l := [(92, .pure ref12_least_C)]) ⟨ref12_least_ok, trivial⟩) [2, 3] 0 3 (.of (z40p0nf l _ _ (RowIs.lst dGFact_eGFact (RowIs.ls eGFact zGFact l))) (⟨RowIs.ok dGFact_eGFact (RowIs.ls eGFact zGFact l), (W_bind ((0 : Int), false) h fun hp0 h => ⟨_, .refl _, h⟩)⟩))
noncomputable def ref12_Birth (l : (List GFact)) : Option ((Int × Bool)) := ref12_Birth_p0 l
theorem z40run (l : (List GFact)) (y_ : (Int × Bool)) (h : ref12_Birth l = some y_) : EvL Try.prog 8 (items (bodyOf Try.f40)) (retK Try.prog [.tmp 2, .tmp 3] (OutOk (ref12_Birth_out y_))) (z40p0S l) :=
  z40p0ok l _ (W_iff.2 ⟨y_, h, z40Rok y_⟩)
noncomputable def ref12_Birth_C : Con
  | [(.c (.sl k1 n2 e3))] => some ([LstOk eGFact dGFact 14 k1 n2 e3, (ref12_Birth (lst dGFact n2 e3)).isSome = true], (ref12_Birth_out ((ref12_Birth (lst dGFact n2 e3)).getD ((0 : Int), false))))
  | _ => none
theorem ref12_Birth_ok : Meets Try.prog 40 ref12_Birth_C := by
  refine meets_fun (fn := Try.f40) (c := bodyOf Try.f40) (by kernel_rfl) (by kernel_rfl) (by kernel_rfl) (rs := [.tmp 2, .tmp 3]) (by kernel_rfl) (nt := 8) (by kernel_rfl) fun vs p out h hp => ?_
  unfold ref12_Birth_C at h
  split at h
  · next k1 n2 e3 =>
    cases h
    obtain ⟨g0, hp⟩ := allq hp
    obtain ⟨g, hp⟩ := allq hp
    obtain ⟨x, hx⟩ := Option.isSome_iff_exists.1 g
    rw [hx]
    exact ⟨[(.c (.sl 14 ((lst dGFact n2 e3)).length (lsEl eGFact zGFact (lst dGFact n2 e3))))], (VLes.cons (VLe.slk g0.1 (RowIs.of_ok g0)) VLes.nil), rfl, z40run (lst dGFact n2 e3) x hx⟩
  · cases h

noncomputable def z41i0 : List Code := items (bodyOf Try.f41)
def z41R (x_1 : (Int × Bool)) : St := { tm := [sv 2 (i64 x_1.1), sv 3 (bl x_1.2)], hp := [], nx := 0 }
def career_Death_out (x_1 : (Int × Bool)) : Out := .data (.tup [(i64 x_1.1), (bl x_1.2)])
theorem z41Rok (x_1 : (Int × Bool)) : retK Try.prog [.tmp 2, .tmp 3] (OutOk (career_Death_out x_1)) .ret (z41R x_1) :=
  retK.intro (v := (.tup [(i64 x_1.1), (bl x_1.2)])) (by kernel_rfl) (VLe.tup (VLes.cons (VLe.rfl' _) (VLes.cons (VLe.rfl' _) (VLes.nil))))
def z41p0S (l : (List GFact)) : St := { tm := [sv 0 (.c (.sl 14 l.length (lsEl eGFact zGFact l)))], hp := [], nx := 0 }
noncomputable def career_Death_p0 (l : (List GFact)) : Option ((Int × Bool)) := (career_first l (12 : Int)).bind fun r_1 => ((some (r_1.1, r_1.2)))
theorem z41p0nf (l : (List GFact)) (K : KT) (L1_ : List GFact) (hL1_ : lst dGFact l.length (lsEl eGFact zGFact l) = L1_) :
    ev Try.prog (lookC [(91, .pure career_first_C)]) 8 (ofItems ((List.drop 0 z41i0).take 3)) (cN [2, 3] K) (z41p0S l) =
    ((LstOk eGFact dGFact 14 14 l.length (lsEl eGFact zGFact l)) ∧ ((career_first L1_ (12 : Int)).isSome = true) ∧ (wK K .ret (z41R (((career_first L1_ (12 : Int)).getD ((0 : Int), false)).1, ((career_first L1_ (12 : Int)).getD ((0 : Int), false)).2)))) := by subst hL1_; kernel_rfl
theorem z41p0ok (l : (List GFact)) (K : KT) (h : W (career_Death_p0 l) (rE z41R K)) : EvL Try.prog 8 (List.drop 0 z41i0) K (z41p0S l) :=
  EvL.pE mixed (lookC_ok (l := [(91, .pure career_first_C)]) ⟨career_first_ok, trivial⟩) [2, 3] 0 3 (.of (z41p0nf l _ _ (RowIs.lst dGFact_eGFact (RowIs.ls eGFact zGFact l))) (⟨RowIs.ok dGFact_eGFact (RowIs.ls eGFact zGFact l), (W_bind ((0 : Int), false) h fun hp0 h => ⟨_, .refl _, h⟩)⟩))
noncomputable def career_Death (l : (List GFact)) : Option ((Int × Bool)) := career_Death_p0 l
theorem z41run (l : (List GFact)) (y_ : (Int × Bool)) (h : career_Death l = some y_) : EvL Try.prog 8 (items (bodyOf Try.f41)) (retK Try.prog [.tmp 2, .tmp 3] (OutOk (career_Death_out y_))) (z41p0S l) :=
  z41p0ok l _ (W_iff.2 ⟨y_, h, z41Rok y_⟩)
noncomputable def career_Death_C : Con
  | [(.c (.sl k1 n2 e3))] => some ([LstOk eGFact dGFact 14 k1 n2 e3, (career_Death (lst dGFact n2 e3)).isSome = true], (career_Death_out ((career_Death (lst dGFact n2 e3)).getD ((0 : Int), false))))
  | _ => none
theorem career_Death_ok : Meets Try.prog 41 career_Death_C := by
  refine meets_fun (fn := Try.f41) (c := bodyOf Try.f41) (by kernel_rfl) (by kernel_rfl) (by kernel_rfl) (rs := [.tmp 2, .tmp 3]) (by kernel_rfl) (nt := 8) (by kernel_rfl) fun vs p out h hp => ?_
  unfold career_Death_C at h
  split at h
  · next k1 n2 e3 =>
    cases h
    obtain ⟨g0, hp⟩ := allq hp
    obtain ⟨g, hp⟩ := allq hp
    obtain ⟨x, hx⟩ := Option.isSome_iff_exists.1 g
    rw [hx]
    exact ⟨[(.c (.sl 14 ((lst dGFact n2 e3)).length (lsEl eGFact zGFact (lst dGFact n2 e3))))], (VLes.cons (VLe.slk g0.1 (RowIs.of_ok g0)) VLes.nil), rfl, z41run (lst dGFact n2 e3) x hx⟩
  · cases h

noncomputable def z42i0 : List Code := items (bodyOf Try.f42)
def z42R (x_1 : (Int × Bool)) : St := { tm := [sv 2 (i64 x_1.1), sv 3 (bl x_1.2)], hp := [], nx := 0 }
def ref12_Death_out (x_1 : (Int × Bool)) : Out := .data (.tup [(i64 x_1.1), (bl x_1.2)])
theorem z42Rok (x_1 : (Int × Bool)) : retK Try.prog [.tmp 2, .tmp 3] (OutOk (ref12_Death_out x_1)) .ret (z42R x_1) :=
  retK.intro (v := (.tup [(i64 x_1.1), (bl x_1.2)])) (by kernel_rfl) (VLe.tup (VLes.cons (VLe.rfl' _) (VLes.cons (VLe.rfl' _) (VLes.nil))))
def z42p0S (l : (List GFact)) : St := { tm := [sv 0 (.c (.sl 14 l.length (lsEl eGFact zGFact l)))], hp := [], nx := 0 }
noncomputable def ref12_Death_p0 (l : (List GFact)) : Option ((Int × Bool)) := (ref12_least l (12 : Int)).bind fun r_1 => ((some (r_1.1, r_1.2)))
theorem z42p0nf (l : (List GFact)) (K : KT) (L1_ : List GFact) (hL1_ : lst dGFact l.length (lsEl eGFact zGFact l) = L1_) :
    ev Try.prog (lookC [(92, .pure ref12_least_C)]) 8 (ofItems ((List.drop 0 z42i0).take 3)) (cN [2, 3] K) (z42p0S l) =
    ((LstOk eGFact dGFact 14 14 l.length (lsEl eGFact zGFact l)) ∧ ((ref12_least L1_ (12 : Int)).isSome = true) ∧ (wK K .ret (z42R (((ref12_least L1_ (12 : Int)).getD ((0 : Int), false)).1, ((ref12_least L1_ (12 : Int)).getD ((0 : Int), false)).2)))) := by subst hL1_; kernel_rfl
theorem z42p0ok (l : (List GFact)) (K : KT) (h : W (ref12_Death_p0 l) (rE z42R K)) : EvL Try.prog 8 (List.drop 0 z42i0) K (z42p0S l) :=
  EvL.pE mixed (lookC_ok (l := [(92, .pure ref12_least_C)]) ⟨ref12_least_ok, trivial⟩) [2, 3] 0 3 (.of (z42p0nf l _ _ (RowIs.lst dGFact_eGFact (RowIs.ls eGFact zGFact l))) (⟨RowIs.ok dGFact_eGFact (RowIs.ls eGFact zGFact l), (W_bind ((0 : Int), false) h fun hp0 h => ⟨_, .refl _, h⟩)⟩))
noncomputable def ref12_Death (l : (List GFact)) : Option ((Int × Bool)) := ref12_Death_p0 l
theorem z42run (l : (List GFact)) (y_ : (Int × Bool)) (h : ref12_Death l = some y_) : EvL Try.prog 8 (items (bodyOf Try.f42)) (retK Try.prog [.tmp 2, .tmp 3] (OutOk (ref12_Death_out y_))) (z42p0S l) :=
  z42p0ok l _ (W_iff.2 ⟨y_, h, z42Rok y_⟩)
noncomputable def ref12_Death_C : Con
  | [(.c (.sl k1 n2 e3))] => some ([LstOk eGFact dGFact 14 k1 n2 e3, (ref12_Death (lst dGFact n2 e3)).isSome = true], (ref12_Death_out ((ref12_Death (lst dGFact n2 e3)).getD ((0 : Int), false))))
  | _ => none
theorem ref12_Death_ok : Meets Try.prog 42 ref12_Death_C := by
  refine meets_fun (fn := Try.f42) (c := bodyOf Try.f42) (by kernel_rfl) (by kernel_rfl) (by kernel_rfl) (rs := [.tmp 2, .tmp 3]) (by kernel_rfl) (nt := 8) (by kernel_rfl) fun vs p out h hp => ?_
  unfold ref12_Death_C at h
  split at h
  · next k1 n2 e3 =>
    cases h
    obtain ⟨g0, hp⟩ := allq hp
    obtain ⟨g, hp⟩ := allq hp
    obtain ⟨x, hx⟩ := Option.isSome_iff_exists.1 g
    rw [hx]
    exact ⟨[(.c (.sl 14 ((lst dGFact n2 e3)).length (lsEl eGFact zGFact (lst dGFact n2 e3))))], (VLes.cons (VLe.slk g0.1 (RowIs.of_ok g0)) VLes.nil), rfl, z42run (lst dGFact n2 e3) x hx⟩
  · cases h

noncomputable def z43i0 : List Code := items (bodyOf Try.f43)
def z43R (x_1 : GSpan) : St := { tm := [sv 2 (.ptr 0 2 0 0)], hp := [(0, some (.box [(i64 x_1.From), (i64 x_1.To)]))], nx := 1 }
def career_Life_out (x_1 : GSpan) : Out := .data (.agg [(i64 x_1.From), (i64 x_1.To)])
theorem z43Rok (x_1 : GSpan) : retK Try.prog [.cell 2 25] (OutOk (career_Life_out x_1)) .ret (z43R x_1) :=
  retK.intro (v := (.agg [(i64 x_1.From), (i64 x_1.To)])) (by kernel_rfl) ((VLe.rfl' _))
def z43p0S (birth death : Int) : St := { tm := [sv 2 (.ptr 0 2 0 0), sv 3 (i64 birth), sv 5 (i64 death)], hp := [(0, some (.box [(i64 (0 : Int)), (i64 (0 : Int))]))], nx := 1 }
noncomputable def career_Life_p0 (birth death : Int) : Option (GSpan) := (bif (decide (death < birth)) then (some (GSpan.mk (0 : Int) (0 : Int))) else (some (GSpan.mk birth (w64 (death + (1 : Int))))))
theorem z43p0ok (birth death : Int) (K : KT) (h : W (career_Life_p0 birth death) (rE z43R K)) : EvL Try.prog 27 (List.drop 5 z43i0) K (z43p0S birth death) :=
  EvL.pE mixed (lookC_ok (l := []) trivial) [2] 5 4 (.nf (X := fun K => (bif (decide (death < birth)) then wK K .ret (z43R (GSpan.mk (0 : Int) (0 : Int))) else wK K .ret (z43R (GSpan.mk birth (w64 (death + (1 : Int))))))) (fun K => by kernel_rfl) (W_bif h (fun _ h => ⟨_, .refl _, h⟩) (fun _ h => ⟨_, .refl _, h⟩)))
def z43p1S (l : (List GFact)) : St := { tm := [sv 0 (.c (.sl 14 l.length (lsEl eGFact zGFact l)))], hp := [], nx := 0 }
noncomputable def career_Life_p1 (l : (List GFact)) : Option (GSpan) := (career_Birth l).bind fun r_1 => ((career_Death l).bind fun r_2 => ((bif (!r_2.2) then (career_Life_p0 r_1.1 (73048 : Int)) else (career_Life_p0 r_1.1 r_2.1))))
theorem z43p1nf (l : (List GFact)) (K : KT) (L1_ : List GFact) (hL1_ : lst dGFact l.length (lsEl eGFact zGFact l) = L1_) (L2_ : List GFact) (hL2_ : lst dGFact l.length (lsEl eGFact zGFact l) = L2_) :
    ev Try.prog (lookC [(39, .pure career_Birth_C), (41, .pure career_Death_C)]) 27 (ofItems ((List.drop 0 z43i0).take 5)) (cN [2, 3, 5] K) (z43p1S l) =
    ((LstOk eGFact dGFact 14 14 l.length (lsEl eGFact zGFact l)) ∧ ((career_Birth L1_).isSome = true) ∧ ((LstOk eGFact dGFact 14 14 l.length (lsEl eGFact zGFact l)) ∧ ((career_Death L2_).isSome = true) ∧ ((bif (!((career_Death L2_).getD ((0 : Int), false)).2) then wK K .normal (z43p0S (((career_Birth L1_).getD ((0 : Int), false)).1) (73048 : Int)) else wK K .normal (z43p0S (((career_Birth L1_).getD ((0 : Int), false)).1) (((career_Death L2_).getD ((0 : Int), false)).1)))))) := by subst hL1_ hL2_; kernel_rfl
theorem z43p1ok (l : (List GFact)) (K : KT) (h : W (career_Life_p1 l) (rE z43R K)) : EvL Try.prog 27 (List.drop 0 z43i0) K (z43p1S l) :=
  EvL.pD mixed (lookC_ok (l := [(39, .pure career_Birth_C), (41, .pure career_Death_C)]) ⟨career_Birth_ok, career_Death_ok, trivial⟩) [2, 3, 5] 0 5 5 (.of (z43p1nf l _ _ (RowIs.lst dGFact_eGFact (RowIs.ls eGFact zGFact l)) _ (RowIs.lst dGFact_eGFact (RowIs.ls eGFact zGFact l))) (⟨RowIs.ok dGFact_eGFact (RowIs.ls eGFact zGFact l), (W_bind ((0 : Int), false) h fun hp0 h => ⟨RowIs.ok dGFact_eGFact (RowIs.ls eGFact zGFact l), (W_bind ((0 : Int), false) h fun hp1 h => (W_bif h (fun _ h => ⟨_, .refl _, (z43p0ok (((career_Birth l).getD ((0 : Int), false)).1) (73048 : Int) _ h)⟩) (fun _ h => ⟨_, .refl _, (z43p0ok (((career_Birth l).getD ((0 : Int), false)).1) (((career_Death l).getD ((0 : Int), false)).1) _ h)⟩)))⟩)⟩))
noncomputable def career_Life (l : (List GFact)) : Option (GSpan) := career_Life_p1 l
theorem z43run (l : (List GFact)) (y_ : GSpan) (h : career_Life l = some y_) : EvL Try.prog 27 (items (bodyOf Try.f43)) (retK Try.prog [.cell 2 25] (OutOk (career_Life_out y_))) (z43p1S l) :=
  z43p1ok l _ (W_iff.2 ⟨y_, h, z43Rok y_⟩)
noncomputable def career_Life_C : Con
  | [(.c (.sl k1 n2 e3))] => some ([LstOk eGFact dGFact 14 k1 n2 e3, (career_Life (lst dGFact n2 e3)).isSome = true], (career_Life_out ((career_Life (lst dGFact n2 e3)).getD zGSpan)))
  | _ => none
theorem career_Life_ok : Meets Try.prog 43 career_Life_C := by
  refine meets_fun (fn := Try.f43) (c := bodyOf Try.f43) (by kernel_rfl) (by kernel_rfl) (by kernel_rfl) (rs := [.cell 2 25]) (by kernel_rfl) (nt := 27) (by kernel_rfl) fun vs p out h hp => ?_
  unfold career_Life_C at h
  split at h
  · next k1 n2 e3 =>
    cases h
    obtain ⟨g0, hp⟩ := allq hp
    obtain ⟨g, hp⟩ := allq hp
    obtain ⟨x, hx⟩ := Option.isSome_iff_exists.1 g
    rw [hx]
    exact ⟨[(.c (.sl 14 ((lst dGFact n2 e3)).length (lsEl eGFact zGFact (lst dGFact n2 e3))))], (VLes.cons (VLe.slk g0.1 (RowIs.of_ok g0)) VLes.nil), rfl, z43run (lst dGFact n2 e3) x hx⟩
  · cases h

noncomputable def z44i0 : List Code := items (bodyOf Try.f44)
def z44R (x_1 : GSpan) : St := { tm := [sv 2 (.ptr 0 2 0 0)], hp := [(0, some (.box [(i64 x_1.From), (i64 x_1.To)]))], nx := 1 }
def ref12_Life_out (x_1 : GSpan) : Out := .data (.agg [(i64 x_1.From), (i64 x_1.To)])
theorem z44Rok (x_1 : GSpan) : retK Try.prog [.cell 2 25] (OutOk (ref12_Life_out x_1)) .ret (z44R x_1) :=
  retK.intro (v := (.agg [(i64 x_1.From), (i64 x_1.To)])) (by kernel_rfl) ((VLe.rfl' _))
def z44p0S (from_1 to_1 : Int) : St := { tm := [sv 2 (.ptr 0 2 0 0), sv 3 (i64 from_1), sv 5 (i64 to_1)], hp := [(0, some (.box [(i64 (0 : Int)), (i64 (0 : Int))]))], nx := 1 }
noncomputable def ref12_Life_p0 (from_1 to_1 : Int) : Option (GSpan) := (bif (decide (to_1 < from_1)) then (some (GSpan.mk (0 : Int) (0 : Int))) else (some (GSpan.mk from_1 (w64 (to_1 + (1 : Int))))))
theorem z44p0ok (from_1 to_1 : Int) (K : KT) (h : W (ref12_Life_p0 from_1 to_1) (rE z44R K)) : EvL Try.prog 27 (List.drop 5 z44i0) K (z44p0S from_1 to_1) :=
  EvL.pE mixed (lookC_ok (l := []) trivial) [2] 5 4 (.nf (X := fun K => (bif (decide (to_1 < from_1)) then wK K .ret (z44R (GSpan.mk (0 : Int) (0 : Int))) else wK K .ret (z44R (GSpan.mk from_1 (w64 (to_1 + (1 : Int))))))) (fun K => by kernel_rfl) (W_bif h (fun _ h => ⟨_, .refl _, h⟩) (fun _ h => ⟨_, .refl _, h⟩)))
def z44p1S (l : (List GFact)) : St := { tm := [sv 0 (.c (.sl 14 l.length (lsEl eGFact zGFact l)))], hp := [], nx := 0 }
noncomputable def ref12_Life_p1 (l : (List GFact)) : Option (GSpan) := (ref12_Birth l).bind fun r_1 => ((ref12_Death l).bind fun r_2 => ((bif (!r_2.2) then (ref12_Life_p0 r_1.1 (73048 : Int)) else (ref12_Life_p0 r_1.1 r_2.1))))
theorem z44p1nf (l : (List GFact)) (K : KT) (L1_ : List GFact) (hL1_ : lst dGFact l.length (lsEl eGFact zGFact l) = L1_) (L2_ : List GFact) (hL2_ : lst dGFact l.length (lsEl eGFact zGFact l) = L2_) :
    ev Try.prog (lookC [(40, .pure ref12_Birth_C), (42, .pure ref12_Death_C)]) 27 (ofItems ((List.drop 0 z44i0).take 5)) (cN [2, 3, 5] K) (z44p1S l) =
    ((LstOk eGFact dGFact 14 14 l.length (lsEl eGFact zGFact l)) ∧ ((ref12_Birth L1_).isSome = true) ∧ ((LstOk eGFact dGFact 14 14 l.length (lsEl eGFact zGFact l)) ∧ ((ref12_Death L2_).isSome = true) ∧ ((bif (!((ref12_Death L2_).getD ((0 : Int), false)).2) then wK K .normal (z44p0S (((ref12_Birth L1_).getD ((0 : Int), false)).1) (73048 : Int)) else wK K .normal (z44p0S (((ref12_Birth L1_).getD ((0 : Int), false)).1) (((ref12_Death L2_).getD ((0 : Int), false)).1)))))) := by subst hL1_ hL2_; kernel_rfl
theorem z44p1ok (l : (List GFact)) (K : KT) (h : W (ref12_Life_p1 l) (rE z44R K)) : EvL Try.prog 27 (List.drop 0 z44i0) K (z44p1S l) :=
  EvL.pD mixed (lookC_ok (l := [(40, .pure ref12_Birth_C), (42, .pure ref12_Death_C)]) ⟨ref12_Birth_ok, ref12_Death_ok, trivial⟩) [2, 3, 5] 0 5 5 (.of (z44p1nf l _ _ (RowIs.lst dGFact_eGFact (RowIs.ls eGFact zGFact l)) _ (RowIs.lst dGFact_eGFact (RowIs.ls eGFact zGFact l))) (⟨RowIs.ok dGFact_eGFact (RowIs.ls eGFact zGFact l), (W_bind ((0 : Int), false) h fun hp0 h => ⟨RowIs.ok dGFact_eGFact (RowIs.ls eGFact zGFact l), (W_bind ((0 : Int), false) h fun hp1 h => (W_bif h (fun _ h => ⟨_, .refl _, (z44p0ok (((ref12_Birth l).getD ((0 : Int), false)).1) (73048 : Int) _ h)⟩) (fun _ h => ⟨_, .refl _, (z44p0ok (((ref12_Birth l).getD ((0 : Int), false)).1) (((ref12_Death l).getD ((0 : Int), false)).1) _ h)⟩)))⟩)⟩))
noncomputable def ref12_Life (l : (List GFact)) : Option (GSpan) := ref12_Life_p1 l
theorem z44run (l : (List GFact)) (y_ : GSpan) (h : ref12_Life l = some y_) : EvL Try.prog 27 (items (bodyOf Try.f44)) (retK Try.prog [.cell 2 25] (OutOk (ref12_Life_out y_))) (z44p1S l) :=
  z44p1ok l _ (W_iff.2 ⟨y_, h, z44Rok y_⟩)
noncomputable def ref12_Life_C : Con
  | [(.c (.sl k1 n2 e3))] => some ([LstOk eGFact dGFact 14 k1 n2 e3, (ref12_Life (lst dGFact n2 e3)).isSome = true], (ref12_Life_out ((ref12_Life (lst dGFact n2 e3)).getD zGSpan)))
  | _ => none
theorem ref12_Life_ok : Meets Try.prog 44 ref12_Life_C := by
  refine meets_fun (fn := Try.f44) (c := bodyOf Try.f44) (by kernel_rfl) (by kernel_rfl) (by kernel_rfl) (rs := [.cell 2 25]) (by kernel_rfl) (nt := 27) (by kernel_rfl) fun vs p out h hp => ?_
  unfold ref12_Life_C at h
  split at h
  · next k1 n2 e3 =>
    cases h
    obtain ⟨g0, hp⟩ := allq hp
    obtain ⟨g, hp⟩ := allq hp
    obtain ⟨x, hx⟩ := Option.isSome_iff_exists.1 g
    rw [hx]
    exact ⟨[(.c (.sl 14 ((lst dGFact n2 e3)).length (lsEl eGFact zGFact (lst dGFact n2 e3))))], (VLes.cons (VLe.slk g0.1 (RowIs.of_ok g0)) VLes.nil), rfl, z44run (lst dGFact n2 e3) x hx⟩
  · cases h

noncomputable def z11i0 : List Code := items (bodyOf Try.f11)
def z11R (x_1 : Bool) : St := { tm := [sv 4 (bl x_1)], hp := [], nx := 0 }
def law13_CareerLife_out (x_1 : Bool) : Out := .data (bl x_1)
theorem z11Rok (x_1 : Bool) : retK Try.prog [.tmp 4] (OutOk (law13_CareerLife_out x_1)) .ret (z11R x_1) :=
  retK.intro (v := (bl x_1)) (by kernel_rfl) ((VLe.rfl' _))
def z11p0S (l : (List GPensionhand_Fact)) (near : Int) : St := { tm := [sv 0 (.c (.sl 13 l.length (lsEl eGPensionhand_Fact zGPensionhand_Fact l))), sv 1 (i64 near)], hp := [], nx := 0 }
noncomputable def law13_CareerLife_p0 (l : (List GPensionhand_Fact)) (near : Int) : Option (Bool) := (law13_facts l near).bind fun r_1 => ((career_Birth r_1).bind fun r_2 => ((ref12_Birth r_1).bind fun r_3 => ((career_Death r_1).bind fun r_4 => ((ref12_Death r_1).bind fun r_5 => ((law13_awake).bind fun r_6 => (gd (((bif (bif (bif (bif r_6 then (r_2.1 == r_3.1) else false) then (r_2.2 == r_3.2) else false) then (r_4.1 == r_5.1) else false) then (r_4.2 == r_5.2) else false) && true) = true → (career_Life r_1).isSome = true) (gd (((bif (bif (bif (bif r_6 then (r_2.1 == r_3.1) else false) then (r_2.2 == r_3.2) else false) then (r_4.1 == r_5.1) else false) then (r_4.2 == r_5.2) else false) && true) = true → (ref12_Life r_1).isSome = true) ((some (bif (bif (bif (bif (bif r_6 then (r_2.1 == r_3.1) else false) then (r_2.2 == r_3.2) else false) then (r_4.1 == r_5.1) else false) then (r_4.2 == r_5.2) else false) then ((((career_Life r_1).getD zGSpan).From == ((ref12_Life r_1).getD zGSpan).From) && ((((career_Life r_1).getD zGSpan).To == ((ref12_Life r_1).getD zGSpan).To) && true)) else false))))))))))
theorem z11p0nf (l : (List GPensionhand_Fact)) (near : Int) (K : KT) (L1_ : List GPensionhand_Fact) (hL1_ : lst dGPensionhand_Fact l.length (lsEl eGPensionhand_Fact zGPensionhand_Fact l) = L1_) (L2_ : List GFact) (hL2_ : lst dGFact ((((law13_facts L1_ near).getD ([] : List GFact))).length) (fun i => (lsEl eGFact zGFact ((law13_facts L1_ near).getD ([] : List GFact))) (0 + i)) = L2_) (L3_ : List GFact) (hL3_ : lst dGFact ((((law13_facts L1_ near).getD ([] : List GFact))).length) (fun i => (lsEl eGFact zGFact ((law13_facts L1_ near).getD ([] : List GFact))) (0 + i)) = L3_) (L4_ : List GFact) (hL4_ : lst dGFact ((((law13_facts L1_ near).getD ([] : List GFact))).length) (fun i => (lsEl eGFact zGFact ((law13_facts L1_ near).getD ([] : List GFact))) (0 + i)) = L4_) (L5_ : List GFact) (hL5_ : lst dGFact ((((law13_facts L1_ near).getD ([] : List GFact))).length) (fun i => (lsEl eGFact zGFact ((law13_facts L1_ near).getD ([] : List GFact))) (0 + i)) = L5_) (L6_ : List GFact) (hL6_ : lst dGFact ((((law13_facts L1_ near).getD ([] : List GFact))).length) (fun i => (lsEl eGFact zGFact ((law13_facts L1_ near).getD ([] : List GFact))) (0 + i)) = L6_) (L7_ : List GFact) (hL7_ : lst dGFact ((((law13_facts L1_ near).getD ([] : List GFact))).length) (fun i => (lsEl eGFact zGFact ((law13_facts L1_ near).getD ([] : List GFact))) (0 + i)) = L7_) :
    ev Try.prog (lookC [(27, .pure law13_facts_C), (30, .pure law13_awake_C), (39, .pure career_Birth_C), (40, .pure ref12_Birth_C), (41, .pure career_Death_C), (42, .pure ref12_Death_C), (43, .pure career_Life_C), (44, .pure ref12_Life_C)]) 65 (ofItems ((List.drop 0 z11i0).take 8)) (cN [4] K) (z11p0S l near) =
    ((LstOk eGPensionhand_Fact dGPensionhand_Fact 13 13 l.length (lsEl eGPensionhand_Fact zGPensionhand_Fact l)) ∧ ((law13_facts L1_ near).isSome = true) ∧ ((LstOk eGFact dGFact 14 14 ((((law13_facts L1_ near).getD ([] : List GFact))).length) (fun i => (lsEl eGFact zGFact ((law13_facts L1_ near).getD ([] : List GFact))) (0 + i))) ∧ ((career_Birth L2_).isSome = true) ∧ ((LstOk eGFact dGFact 14 14 ((((law13_facts L1_ near).getD ([] : List GFact))).length) (fun i => (lsEl eGFact zGFact ((law13_facts L1_ near).getD ([] : List GFact))) (0 + i))) ∧ ((ref12_Birth L3_).isSome = true) ∧ ((LstOk eGFact dGFact 14 14 ((((law13_facts L1_ near).getD ([] : List GFact))).length) (fun i => (lsEl eGFact zGFact ((law13_facts L1_ near).getD ([] : List GFact))) (0 + i))) ∧ ((career_Death L4_).isSome = true) ∧ ((LstOk eGFact dGFact 14 14 ((((law13_facts L1_ near).getD ([] : List GFact))).length) (fun i => (lsEl eGFact zGFact ((law13_facts L1_ near).getD ([] : List GFact))) (0 + i))) ∧ ((ref12_Death L5_).isSome = true) ∧ (((law13_awake).isSome = true) ∧ (((bif (bif (bif (bif ((law13_awake).getD false) then (((career_Birth L2_).getD ((0 : Int), false)).1 == ((ref12_Birth L3_).getD ((0 : Int), false)).1) else false) then (((career_Birth L2_).getD ((0 : Int), false)).2 == ((ref12_Birth L3_).getD ((0 : Int), false)).2) else false) then (((career_Death L4_).getD ((0 : Int), false)).1 == ((ref12_Death L5_).getD ((0 : Int), false)).1) else false) then (((career_Death L4_).getD ((0 : Int), false)).2 == ((ref12_Death L5_).getD ((0 : Int), false)).2) else false) && true) = true → LstOk eGFact dGFact 14 14 ((((law13_facts L1_ near).getD ([] : List GFact))).length) (fun i => (lsEl eGFact zGFact ((law13_facts L1_ near).getD ([] : List GFact))) (0 + i))) ∧ (((bif (bif (bif (bif ((law13_awake).getD false) then (((career_Birth L2_).getD ((0 : Int), false)).1 == ((ref12_Birth L3_).getD ((0 : Int), false)).1) else false) then (((career_Birth L2_).getD ((0 : Int), false)).2 == ((ref12_Birth L3_).getD ((0 : Int), false)).2) else false) then (((career_Death L4_).getD ((0 : Int), false)).1 == ((ref12_Death L5_).getD ((0 : Int), false)).1) else false) then (((career_Death L4_).getD ((0 : Int), false)).2 == ((ref12_Death L5_).getD ((0 : Int), false)).2) else false) && true) = true → (career_Life L6_).isSome = true) ∧ (((bif (bif (bif (bif ((law13_awake).getD false) then (((career_Birth L2_).getD ((0 : Int), false)).1 == ((ref12_Birth L3_).getD ((0 : Int), false)).1) else false) then (((career_Birth L2_).getD ((0 : Int), false)).2 == ((ref12_Birth L3_).getD ((0 : Int), false)).2) else false) then (((career_Death L4_).getD ((0 : Int), false)).1 == ((ref12_Death L5_).getD ((0 : Int), false)).1) else false) then (((career_Death L4_).getD ((0 : Int), false)).2 == ((ref12_Death L5_).getD ((0 : Int), false)).2) else false) && true) = true → LstOk eGFact dGFact 14 14 ((((law13_facts L1_ near).getD ([] : List GFact))).length) (fun i => (lsEl eGFact zGFact ((law13_facts L1_ near).getD ([] : List GFact))) (0 + i))) ∧ (((bif (bif (bif (bif ((law13_awake).getD false) then (((career_Birth L2_).getD ((0 : Int), false)).1 == ((ref12_Birth L3_).getD ((0 : Int), false)).1) else false) then (((career_Birth L2_).getD ((0 : Int), false)).2 == ((ref12_Birth L3_).getD ((0 : Int), false)).2) else false) then (((career_Death L4_).getD ((0 : Int), false)).1 == ((ref12_Death L5_).getD ((0 : Int), false)).1) else false) then (((career_Death L4_).getD ((0 : Int), false)).2 == ((ref12_Death L5_).getD ((0 : Int), false)).2) else false) && true) = true → (ref12_Life L7_).isSome = true) ∧ (wK K .ret (z11R (bif (bif (bif (bif (bif ((law13_awake).getD false) then (((career_Birth L2_).getD ((0 : Int), false)).1 == ((ref12_Birth L3_).getD ((0 : Int), false)).1) else false) then (((career_Birth L2_).getD ((0 : Int), false)).2 == ((ref12_Birth L3_).getD ((0 : Int), false)).2) else false) then (((career_Death L4_).getD ((0 : Int), false)).1 == ((ref12_Death L5_).getD ((0 : Int), false)).1) else false) then (((career_Death L4_).getD ((0 : Int), false)).2 == ((ref12_Death L5_).getD ((0 : Int), false)).2) else false) then ((((career_Life L6_).getD zGSpan).From == ((ref12_Life L7_).getD zGSpan).From) && ((((career_Life L6_).getD zGSpan).To == ((ref12_Life L7_).getD zGSpan).To) && true)) else false))))))))) := by subst hL1_ hL2_ hL3_ hL4_ hL5_ hL6_ hL7_; kernel_rfl
theorem z11p0ok (l : (List GPensionhand_Fact)) (near : Int) (K : KT) (h : W (law13_CareerLife_p0 l near) (rE z11R K)) : EvL Try.prog 65 (List.drop 0 z11i0) K (z11p0S l near) :=
  EvL.pE mixed (lookC_ok (l := [(27, .pure law13_facts_C), (30, .pure law13_awake_C), (39, .pure career_Birth_C), (40, .pure ref12_Birth_C), (41, .pure career_Death_C), (42, .pure ref12_Death_C), (43, .pure career_Life_C), (44, .pure ref12_Life_C)]) ⟨law13_facts_ok, law13_awake_ok, career_Birth_ok, ref12_Birth_ok, career_Death_ok, ref12_Death_ok, career_Life_ok, ref12_Life_ok, trivial⟩) [4] 0 8 (.of (z11p0nf l near _ _ (RowIs.lst dGPensionhand_Fact_eGPensionhand_Fact (RowIs.ls eGPensionhand_Fact zGPensionhand_Fact l)) _ (RowIs.lst dGFact_eGFact (RowIs.zero (RowIs.ls eGFact zGFact ((law13_facts l near).getD ([] : List GFact))))) _ (RowIs.lst dGFact_eGFact (RowIs.zero (RowIs.ls eGFact zGFact ((law13_facts l near).getD ([] : List GFact))))) _ (RowIs.lst dGFact_eGFact (RowIs.zero (RowIs.ls eGFact zGFact ((law13_facts l near).getD ([] : List GFact))))) _ (RowIs.lst dGFact_eGFact (RowIs.zero (RowIs.ls eGFact zGFact ((law13_facts l near).getD ([] : List GFact))))) _ (RowIs.lst dGFact_eGFact (RowIs.zero (RowIs.ls eGFact zGFact ((law13_facts l near).getD ([] : List GFact))))) _ (RowIs.lst dGFact_eGFact (RowIs.zero (RowIs.ls eGFact zGFact ((law13_facts l near).getD ([] : List GFact)))))) (⟨RowIs.ok dGPensionhand_Fact_eGPensionhand_Fact (RowIs.ls eGPensionhand_Fact zGPensionhand_Fact l), (W_bind ([] : List GFact) h fun hp0 h => ⟨RowIs.ok dGFact_eGFact (RowIs.zero (RowIs.ls eGFact zGFact ((law13_facts l near).getD ([] : List GFact)))), (W_bind ((0 : Int), false) h fun hp1 h => ⟨RowIs.ok dGFact_eGFact (RowIs.zero (RowIs.ls eGFact zGFact ((law13_facts l near).getD ([] : List GFact)))), (W_bind ((0 : Int), false) h fun hp2 h => ⟨RowIs.ok dGFact_eGFact (RowIs.zero (RowIs.ls eGFact zGFact ((law13_facts l near).getD ([] : List GFact)))), (W_bind ((0 : Int), false) h fun hp3 h => ⟨RowIs.ok dGFact_eGFact (RowIs.zero (RowIs.ls eGFact zGFact ((law13_facts l near).getD ([] : List GFact)))), (W_bind ((0 : Int), false) h fun hp4 h => (W_bind false h fun hp5 h => ⟨(fun _ => RowIs.ok dGFact_eGFact (RowIs.zero (RowIs.ls eGFact zGFact ((law13_facts l near).getD ([] : List GFact))))), (W_gd h fun hp6 h => ⟨(fun _ => RowIs.ok dGFact_eGFact (RowIs.zero (RowIs.ls eGFact zGFact ((law13_facts l near).getD ([] : List GFact))))), (W_gd h fun hp7 h => ⟨_, .refl _, h⟩)⟩)⟩))⟩)⟩)⟩)⟩)⟩))
noncomputable def law13_CareerLife (l : (List GPensionhand_Fact)) (near : Int) : Option (Bool) := law13_CareerLife_p0 l near
theorem z11run (l : (List GPensionhand_Fact)) (near : Int) (y_ : Bool) (h : law13_CareerLife l near = some y_) : EvL Try.prog 65 (items (bodyOf Try.f11)) (retK Try.prog [.tmp 4] (OutOk (law13_CareerLife_out y_))) (z11p0S l near) :=
  z11p0ok l near _ (W_iff.2 ⟨y_, h, z11Rok y_⟩)
noncomputable def law13_CareerLife_C : Con
  | [(.c (.sl k1 n2 e3)), (.c (.lit (.int .i64 a4)))] => some ([LstOk eGPensionhand_Fact dGPensionhand_Fact 13 k1 n2 e3, (law13_CareerLife (lst dGPensionhand_Fact n2 e3) a4).isSome = true], (law13_CareerLife_out ((law13_CareerLife (lst dGPensionhand_Fact n2 e3) a4).getD false)))
  | _ => none
theorem law13_CareerLife_ok : Meets Try.prog 11 law13_CareerLife_C := by
  refine meets_fun (fn := Try.f11) (c := bodyOf Try.f11) (by kernel_rfl) (by kernel_rfl) (by kernel_rfl) (rs := [.tmp 4]) (by kernel_rfl) (nt := 65) (by kernel_rfl) fun vs p out h hp => ?_
  unfold law13_CareerLife_C at h
  split at h
  · next k1 n2 e3 a4 =>
    cases h
    obtain ⟨g0, hp⟩ := allq hp
    obtain ⟨g, hp⟩ := allq hp
    obtain ⟨x, hx⟩ := Option.isSome_iff_exists.1 g
    rw [hx]
    exact ⟨[(.c (.sl 13 ((lst dGPensionhand_Fact n2 e3)).length (lsEl eGPensionhand_Fact zGPensionhand_Fact (lst dGPensionhand_Fact n2 e3)))), (i64 a4)], (VLes.cons (VLe.slk g0.1 (RowIs.of_ok g0)) (VLes.cons (VLe.rfl' _) VLes.nil)), rfl, z11run (lst dGPensionhand_Fact n2 e3) a4 x hx⟩
  · cases h

noncomputable def z45i0 : List Code := items (bodyOf Try.f45)
noncomputable def z45i1 : List Code := items (inside (inside (nthI z45i0 3)))
def z45R (x_1 : (List GFact)) : St := { tm := [sv 4 (.row 0 14 0 x_1.length)], hp := [(0, some (.row 27 14 x_1.length (lsEl eGFact zGFact x_1)))], nx := 1 }
def ref12_Of_out (x_1 : (List GFact)) : Out := .own true 27 14 (x_1).length (lsEl eGFact zGFact x_1)
theorem z45Rok (x_1 : (List GFact)) : retK Try.prog [.tmp 4] (OutOk (ref12_Of_out x_1)) .ret (z45R x_1) :=
  retK.intro (v := (.row 0 14 0 x_1.length)) (by kernel_rfl) (⟨_, _, _, rfl, rfl, rfl, fun _ _ => rfl, fun _ i hi d hd => scal_GFact _ d hd⟩)
def z45l1S (l : (List GFact)) (person : Int) (s : ((List GFact) × Int)) : St := match s with | (out_1, i_1) => { tm := [sv 0 (.c (.sl 14 l.length (lsEl eGFact zGFact l))), sv 1 (i64 person), sv 5 (.row 0 14 0 out_1.length), sv 6 (i64 i_1)], hp := [(0, some (.row 27 14 out_1.length (lsEl eGFact zGFact out_1)))], nx := 1 }
def z45l1C0 (l : (List GFact)) (person : Int) (s : (List GFact)) : St := match s with | out_2 => { tm := [sv 5 (.row 0 14 0 out_2.length)], hp := [(0, some (.row 27 14 out_2.length (lsEl eGFact zGFact out_2)))], nx := 1 }
def z45l1E (l : (List GFact)) (person : Int) (r : (((List GFact)))) (K : KT) : Prop := match r with | s => K (.exit 0) (z45l1C0 l person s)
def z45p0S (l : (List GFact)) (person : Int) (out_1 : (List GFact)) (i_1 : Int) : St := { tm := [sv 0 (.c (.sl 14 l.length (lsEl eGFact zGFact l))), sv 1 (i64 person), sv 5 (.row 0 14 0 out_1.length), sv 6 (i64 i_1)], hp := [(0, some (.row 27 14 out_1.length (lsEl eGFact zGFact out_1)))], nx := 1 }
noncomputable def ref12_Of_p0 (l : (List GFact)) (person : Int) (out_1 : (List GFact)) (i_1 : Int) : Option (((List GFact) × Int) ⊕ (((List GFact)))) := (bif (decide (i_1 < ((l.length : Nat) : Int))) then gd ((0 : Int) ≤ i_1 ∧ i_1 < ((l.length : Nat) : Int)) ((bif ((l.getD (Int.toNat i_1) zGFact).Person == person) then gd ((0 : Int) ≤ i_1 ∧ i_1 < ((l.length : Nat) : Int)) (gd (capB (out_1.length + 1) 112) ((some (Sum.inl ((out_1 ++ ([(l.getD (Int.toNat i_1) zGFact)] : List GFact)), (w64 (i_1 + (1 : Int)))))))) else (some (Sum.inl (out_1, (w64 (i_1 + (1 : Int)))))))) else (some (Sum.inr out_1)))
theorem z45p0ok (l : (List GFact)) (person : Int) (out_1 : (List GFact)) (i_1 : Int) (K : KT) (h : W (ref12_Of_p0 l person out_1 i_1) (nE (z45l1S l person) (z45l1E l person) K)) : EvL Try.prog 28 (List.drop 0 z45i1) K (z45p0S l person out_1 i_1) :=
  EvL.pE mixed (lookC_ok (l := []) trivial) [0, 1, 5, 6] 0 4 (.nf (X := fun K => (bif (decide (i_1 < ((l.length : Nat) : Int))) then ((0 : Int) ≤ i_1) ∧ (i_1 < ((l.length : Nat) : Int)) ∧ ((bif ((l.getD (Int.toNat i_1) zGFact).Person == person) then ((0 : Int) ≤ i_1) ∧ (i_1 < ((l.length : Nat) : Int)) ∧ (out_1.length = out_1.length) ∧ ((out_1.length + 1) * 112 ≤ 70368744177664) ∧ ((out_1.length + 1) ≤ 70368744177664) ∧ (wK K .normal ({ tm := [sv 0 (.c (.sl 14 l.length (lsEl eGFact zGFact l))), sv 1 (i64 person), sv 5 (.row 0 14 0 (out_1.length + 1)), sv 6 (i64 (w64 (i_1 + (1 : Int))))], hp := [(0, some (.row 27 14 (out_1.length + 1) (fun i => bif Nat.blt i out_1.length then (lsEl eGFact zGFact out_1) i else (fun i => (litE 14 (eGFact (l.getD (Int.toNat i_1) zGFact))) (0 + i)) (i - out_1.length))))], nx := 1 })) else wK K .normal (z45l1S l person (out_1, (w64 (i_1 + (1 : Int))))))) else wK K (.exit 0) ({ tm := [sv 0 (.c (.sl 14 l.length (lsEl eGFact zGFact l))), sv 1 (i64 person), sv 5 (.row 0 14 0 out_1.length), sv 6 (i64 i_1)], hp := [(0, some (.row 27 14 out_1.length (lsEl eGFact zGFact out_1)))], nx := 1 }))) (fun K => by kernel_rfl) (W_bif h (fun _ h => (W_gd2 h fun hp0 h => (W_bif h (fun _ h => (W_gd2 h fun hp1 h => ⟨rfl, (W_gd2 h fun hp2 h => ⟨(z45l1S l person ((out_1 ++ ([(l.getD (Int.toNat i_1) zGFact)] : List GFact)), (w64 (i_1 + (1 : Int))))), (.of (.q rfl (.q rfl (.cons rfl (.rown (len_app rfl rfl)) (.q rfl .nil)))) (.row rfl (RowIs.app (RowIs.ls eGFact zGFact out_1) (RowIs.zero (RowIs.l1 (enc := eGFact) (z := zGFact) 14 (l.getD (Int.toNat i_1) zGFact) rfl))) .nil rfl) rfl), h⟩)⟩)) (fun _ h => ⟨_, .refl _, h⟩)))) (fun _ h => ⟨(z45l1C0 l person out_1), (.of (.q rfl .nil) (.same rfl .nil) rfl), h⟩)))
noncomputable def ref12_Of_l1 (l : (List GFact)) (person : Int) (s : ((List GFact) × Int)) : Option (((List GFact) × Int) ⊕ (((List GFact)))) := match s with | (out_1, i_1) => ref12_Of_p0 l person out_1 i_1
theorem z45l1ok (l : (List GFact)) (person : Int) (s : ((List GFact) × Int)) : Pp Try.prog 28 (List.drop 0 z45i1) (z45l1S l person s) (ref12_Of_l1 l person s) (nextE (z45l1S l person) (z45l1E l person)) := fun K h => match s, h with | (out_1, i_1), h => (z45p0ok l person out_1 i_1 _ h)
theorem z45l1Ethen (l : (List GFact)) (person : Int) : ∀ (r : (((List GFact)))) (J : St → Prop) (K : KT), z45l1E l person r K → z45l1E l person r (thenK J K)
  | s, _, _, h => h
def z45p1S (out_3 : (List GFact)) : St := { tm := [sv 5 (.row 0 14 0 out_3.length)], hp := [(0, some (.row 27 14 out_3.length (lsEl eGFact zGFact out_3)))], nx := 1 }
noncomputable def ref12_Of_p1 (out_3 : (List GFact)) : Option ((List GFact)) := (some out_3)
theorem z45p1ok (out_3 : (List GFact)) (K : KT) (h : W (ref12_Of_p1 out_3) (rE z45R K)) : EvL Try.prog 28 (List.drop 4 z45i0) K (z45p1S out_3) :=
  EvL.pE mixed (lookC_ok (l := []) trivial) [4] 4 2 (.nf (X := fun K => wK K .ret (z45R out_3)) (fun K => by kernel_rfl) (⟨_, .refl _, h⟩))
def z45p2S (l : (List GFact)) (person : Int) : St := { tm := [sv 0 (.c (.sl 14 l.length (lsEl eGFact zGFact l))), sv 1 (i64 person), sv 5 (.c .nil), sv 6 (i64 (0 : Int))], hp := [], nx := 0 }
noncomputable def ref12_Of_p2_g (l : (List GFact)) (person : Int) (r : (((List GFact)))) : Option ((List GFact)) := match r with | out_2 => (ref12_Of_p1 out_2)
noncomputable def ref12_Of_p2 (l : (List GFact)) (person : Int) : Option ((List GFact)) := (fixL (ref12_Of_l1 l person) (([] : List GFact), (0 : Int))).bind (ref12_Of_p2_g l person)
theorem z45p2at : List.drop 3 z45i0 = .block 0 (.loop (inside (inside (nthI z45i0 3)))) :: List.drop 4 z45i0 := by kernel_rfl
theorem z45p2k (l : (List GFact)) (person : Int) (K : KT) : ∀ r : (((List GFact))), W (ref12_Of_p2_g l person r) (rE z45R K) → z45l1E l person r (wK (blockK 0 (thenK (EvL Try.prog 28 (List.drop 4 z45i0) K) K)))
  | out_2, h => ⟨(z45p1S out_2), (.refl _), (z45p1ok out_2 _ h)⟩
theorem z45p2ok (l : (List GFact)) (person : Int) (K : KT) (h : W (ref12_Of_p2 l person) (rE z45R K)) : EvL Try.prog 28 (List.drop 3 z45i0) K (z45p2S l person) :=
  EvL.at_ z45p2at (EvL.cons_loop (EvOk.weak (EvOk.ent (.trans (.nilrow 5 0 27 14 (lsEl eGFact zGFact []) (Nat.le_of_ble_eq_true rfl) rfl) (.cn [0, 1, 5, 6])) (EvOk.loopF (x := inside (inside (nthI z45i0 3))) (f := ref12_Of_l1 l person) (emb := z45l1S l person) (E := z45l1E l person) (z45l1ok l person) (z45l1Ethen l person) (W_loop h (z45p2k l person K))))))
def z45p3S (l : (List GFact)) (person : Int) : St := { tm := [sv 0 (.c (.sl 14 l.length (lsEl eGFact zGFact l))), sv 1 (i64 person)], hp := [], nx := 0 }
noncomputable def ref12_Of_p3 (l : (List GFact)) (person : Int) : Option ((List GFact)) := (ref12_Of_p2 l person)
theorem z45p3ok (l : (List GFact)) (person : Int) (K : KT) (h : W (ref12_Of_p3 l person) (rE z45R K)) : EvL Try.prog 28 (List.drop 0 z45i0) K (z45p3S l person) :=
  EvL.pD mixed (lookC_ok (l := []) trivial) [0, 1, 5, 6] 0 3 3 (.nf (X := fun K => wK K .normal (z45p2S l person)) (fun K => by kernel_rfl) (⟨_, .refl _, (z45p2ok l person _ h)⟩))
noncomputable def ref12_Of (l : (List GFact)) (person : Int) : Option ((List GFact)) := ref12_Of_p3 l person
theorem z45run (l : (List GFact)) (person : Int) (y_ : (List GFact)) (h : ref12_Of l person = some y_) : EvL Try.prog 28 (items (bodyOf Try.f45)) (retK Try.prog [.tmp 4] (OutOk (ref12_Of_out y_))) (z45p3S l person) :=
  z45p3ok l person _ (W_iff.2 ⟨y_, h, z45Rok y_⟩)
noncomputable def ref12_Of_C : Con
  | [(.c (.sl k1 n2 e3)), (.c (.lit (.int .i64 a4)))] => some ([LstOk eGFact dGFact 14 k1 n2 e3, (ref12_Of (lst dGFact n2 e3) a4).isSome = true], (ref12_Of_out ((ref12_Of (lst dGFact n2 e3) a4).getD ([] : List GFact))))
  | _ => none
theorem ref12_Of_ok : Meets Try.prog 45 ref12_Of_C := by
  refine meets_fun (fn := Try.f45) (c := bodyOf Try.f45) (by kernel_rfl) (by kernel_rfl) (by kernel_rfl) (rs := [.tmp 4]) (by kernel_rfl) (nt := 28) (by kernel_rfl) fun vs p out h hp => ?_
  unfold ref12_Of_C at h
  split at h
  · next k1 n2 e3 a4 =>
    cases h
    obtain ⟨g0, hp⟩ := allq hp
    obtain ⟨g, hp⟩ := allq hp
    obtain ⟨x, hx⟩ := Option.isSome_iff_exists.1 g
    rw [hx]
    exact ⟨[(.c (.sl 14 ((lst dGFact n2 e3)).length (lsEl eGFact zGFact (lst dGFact n2 e3)))), (i64 a4)], (VLes.cons (VLe.slk g0.1 (RowIs.of_ok g0)) (VLes.cons (VLe.rfl' _) VLes.nil)), rfl, z45run (lst dGFact n2 e3) a4 x hx⟩
  · cases h

end Go.Ax
