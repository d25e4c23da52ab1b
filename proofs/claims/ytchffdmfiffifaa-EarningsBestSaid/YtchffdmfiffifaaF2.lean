import Derived.Test.YtchffdmfiffifaaF1
import Derived.Test.YtchffdmfiffifaaRows
/- Types of the program, and functions of it: printed by a program, checked by the kernel. -/
set_option linter.all false
set_option maxRecDepth 100000
namespace Go.Ax
open Go.Proofs Go.Proofs.Ytchffdmfiffifaa
noncomputable def z77i0 : List Code := items (bodyOf Try.f77)
def z77R (x_1 : Bool) : St := { tm := [sv 2 (bl x_1)], hp := [], nx := 0 }
def fact_Valid_out (x_1 : Bool) : Out := .data (bl x_1)
theorem z77Rok (x_1 : Bool) : retK Try.prog [.tmp 2] (OutOk (fact_Valid_out x_1)) .ret (z77R x_1) :=
  retK.intro (v := (bl x_1)) (by kernel_rfl) ((VLe.rfl' _))
def z77p0S : St := { tm := [], hp := [], nx := 0 }
noncomputable def fact_Valid_p0 : Option (Bool) := (some true)
theorem z77p0ok (K : KT) (h : W (fact_Valid_p0) (rE z77R K)) : EvL Try.prog 116 (List.drop 6 z77i0) K (z77p0S) :=
  EvL.pE mixed (lookC_ok (l := []) trivial) [2] 6 2 (.nf (X := fun K => wK K .ret (z77R true)) (fun K => by kernel_rfl) (⟨_, .refl _, h⟩))
def z77p1S (f : GFact) : St := { tm := [sv 1 (.ptr 0 14 0 0), sv 89 (i64 f.Kind)], hp := [(0, some (.box [(i64 f.Issuer), (i64 f.Number), (i64 f.Version), (bl f.Withdrawn), (i64 f.Person), (i64 f.Kind), (i64 f.State), (i64 f.Span.From), (i64 f.Span.To), (i64 f.Seat), (i64 f.Share), (i64 f.Currency), (i64 f.Amount), (i64 f.Ref)]))], nx := 1 }
noncomputable def fact_Valid_p1 (f : GFact) : Option (Bool) := (bif (f.Kind == (4 : Int)) then (some (f.State != f.Seat)) else (bif (f.Kind == (11 : Int)) then (bif (f.Kind == (11 : Int)) then (some (f.Span.To == (w64 (f.Span.From + (1 : Int))))) else (bif (f.Kind == (10 : Int)) then (bif (f.Kind == (10 : Int)) then (some (f.Ref != f.Person)) else fact_Valid_p0) else (bif (f.Kind == (14 : Int)) then (some (f.Ref != f.Person)) else fact_Valid_p0))) else (bif (f.Kind == (12 : Int)) then (some (f.Span.To == (w64 (f.Span.From + (1 : Int))))) else (bif (f.Kind == (10 : Int)) then (bif (f.Kind == (10 : Int)) then (some (f.Ref != f.Person)) else fact_Valid_p0) else (bif (f.Kind == (14 : Int)) then (some (f.Ref != f.Person)) else fact_Valid_p0)))))
theorem z77p1ok (f : GFact) (K : KT) (h : W (fact_Valid_p1 f) (rE z77R K)) : EvL Try.prog 116 (List.drop 5 z77i0) K (z77p1S f) :=
  EvL.pD mixed (lookC_ok (l := []) trivial) [2] 5 1 6 (.nf (X := fun K => (bif (f.Kind == (4 : Int)) then wK K .ret (z77R (f.State != f.Seat)) else (bif (f.Kind == (11 : Int)) then (bif (f.Kind == (11 : Int)) then wK K .ret (z77R (f.Span.To == (w64 (f.Span.From + (1 : Int))))) else (bif (f.Kind == (10 : Int)) then (bif (f.Kind == (10 : Int)) then wK K .ret (z77R (f.Ref != f.Person)) else wK K .normal (z77p0S)) else (bif (f.Kind == (14 : Int)) then wK K .ret (z77R (f.Ref != f.Person)) else wK K .normal (z77p0S)))) else (bif (f.Kind == (12 : Int)) then wK K .ret (z77R (f.Span.To == (w64 (f.Span.From + (1 : Int))))) else (bif (f.Kind == (10 : Int)) then (bif (f.Kind == (10 : Int)) then wK K .ret (z77R (f.Ref != f.Person)) else wK K .normal (z77p0S)) else (bif (f.Kind == (14 : Int)) then wK K .ret (z77R (f.Ref != f.Person)) else wK K .normal (z77p0S))))))) (fun K => by kernel_rfl) (W_bif h (fun _ h => ⟨_, .refl _, h⟩) (fun _ h => (W_bif h (fun _ h => (W_bif h (fun _ h => ⟨_, .refl _, h⟩) (fun _ h => (W_bif h (fun _ h => (W_bif h (fun _ h => ⟨_, .refl _, h⟩) (fun _ h => ⟨_, .refl _, (z77p0ok _ h)⟩))) (fun _ h => (W_bif h (fun _ h => ⟨_, .refl _, h⟩) (fun _ h => ⟨_, .refl _, (z77p0ok _ h)⟩))))))) (fun _ h => (W_bif h (fun _ h => ⟨_, .refl _, h⟩) (fun _ h => (W_bif h (fun _ h => (W_bif h (fun _ h => ⟨_, .refl _, h⟩) (fun _ h => ⟨_, .refl _, (z77p0ok _ h)⟩))) (fun _ h => (W_bif h (fun _ h => ⟨_, .refl _, h⟩) (fun _ h => ⟨_, .refl _, (z77p0ok _ h)⟩)))))))))))
def z77p2S (f : GFact) (uses : ByteArray) : St := { tm := [sv 1 (.ptr 0 14 0 0), sv 3 (.ptr 1 1 0 0), sv 4 (.fn 123 [(.ptr 1 1 0 0)])], hp := [(0, some (.box [(i64 f.Issuer), (i64 f.Number), (i64 f.Version), (bl f.Withdrawn), (i64 f.Person), (i64 f.Kind), (i64 f.State), (i64 f.Span.From), (i64 f.Span.To), (i64 f.Seat), (i64 f.Share), (i64 f.Currency), (i64 f.Amount), (i64 f.Ref)])), (1, some (.box [(str uses)]))], nx := 2 }
noncomputable def fact_Valid_p2 (f : GFact) (uses : ByteArray) : Option (Bool) := gd (((!(uses.toList == (bstr []).toList)) && true) = true → (fact_within f.Issuer (0 : Int) (5 : Int)).isSome = true) (gd (((!(bif (uses.toList == (bstr []).toList) then true else (!((fact_within f.Issuer (0 : Int) (5 : Int)).getD false)))) && true) = true → (fact_within f.Number (1 : Int) (999 : Int)).isSome = true) (gd (((!(bif (bif (uses.toList == (bstr []).toList) then true else (!((fact_within f.Issuer (0 : Int) (5 : Int)).getD false))) then true else (!((fact_within f.Number (1 : Int) (999 : Int)).getD false)))) && true) = true → (fact_within f.Version (1 : Int) (99 : Int)).isSome = true) (gd (((!(bif (bif (bif (uses.toList == (bstr []).toList) then true else (!((fact_within f.Issuer (0 : Int) (5 : Int)).getD false))) then true else (!((fact_within f.Number (1 : Int) (999 : Int)).getD false))) then true else (!((fact_within f.Version (1 : Int) (99 : Int)).getD false)))) && true) = true → (fact_within f.Person (1 : Int) (99 : Int)).isSome = true) ((bif (bif (bif (bif (bif (uses.toList == (bstr []).toList) then true else (!((fact_within f.Issuer (0 : Int) (5 : Int)).getD false))) then true else (!((fact_within f.Number (1 : Int) (999 : Int)).getD false))) then true else (!((fact_within f.Version (1 : Int) (99 : Int)).getD false))) then true else (!((fact_within f.Person (1 : Int) (99 : Int)).getD false))) then (some false) else (fact_Valid_1 (bstr [83]) uses).bind fun r_2 => ((fact_field r_2 f.State (0 : Int) (5 : Int)).bind fun r_3 => (gd (((!(!r_3)) && true) = true → (fact_Valid_1 (bstr [84]) uses).isSome = true) (gd (((!(!r_3)) && true) = true → (fact_field ((fact_Valid_1 (bstr [84]) uses).getD false) f.Seat (0 : Int) (5 : Int)).isSome = true) (gd (((!(bif (!r_3) then true else (!((fact_field ((fact_Valid_1 (bstr [84]) uses).getD false) f.Seat (0 : Int) (5 : Int)).getD false)))) && true) = true → (fact_validSpan f.Span).isSome = true) ((bif (bif (bif (!r_3) then true else (!((fact_field ((fact_Valid_1 (bstr [84]) uses).getD false) f.Seat (0 : Int) (5 : Int)).getD false))) then true else (!((fact_validSpan f.Span).getD false))) then (some false) else (fact_Valid_1 (bstr [72]) uses).bind fun r_4 => ((fact_field r_4 f.Share (1 : Int) (100 : Int)).bind fun r_5 => (gd (((!(!r_5)) && true) = true → (fact_Valid_1 (bstr [67]) uses).isSome = true) (gd (((!(!r_5)) && true) = true → (fact_field ((fact_Valid_1 (bstr [67]) uses).getD false) f.Currency (1 : Int) (999 : Int)).isSome = true) (gd (((!(bif (!r_5) then true else (!((fact_field ((fact_Valid_1 (bstr [67]) uses).getD false) f.Currency (1 : Int) (999 : Int)).getD false)))) && true) = true → (fact_Valid_1 (bstr [65]) uses).isSome = true) (gd (((!(bif (!r_5) then true else (!((fact_field ((fact_Valid_1 (bstr [67]) uses).getD false) f.Currency (1 : Int) (999 : Int)).getD false)))) && true) = true → (fact_field ((fact_Valid_1 (bstr [65]) uses).getD false) f.Amount (0 : Int) (1000000000 : Int)).isSome = true) (gd (((!(bif (bif (!r_5) then true else (!((fact_field ((fact_Valid_1 (bstr [67]) uses).getD false) f.Currency (1 : Int) (999 : Int)).getD false))) then true else (!((fact_field ((fact_Valid_1 (bstr [65]) uses).getD false) f.Amount (0 : Int) (1000000000 : Int)).getD false)))) && true) = true → (fact_Valid_1 (bstr [82]) uses).isSome = true) (gd (((!(bif (bif (!r_5) then true else (!((fact_field ((fact_Valid_1 (bstr [67]) uses).getD false) f.Currency (1 : Int) (999 : Int)).getD false))) then true else (!((fact_field ((fact_Valid_1 (bstr [65]) uses).getD false) f.Amount (0 : Int) (1000000000 : Int)).getD false)))) && true) = true → (fact_field ((fact_Valid_1 (bstr [82]) uses).getD false) f.Ref (1 : Int) (99 : Int)).isSome = true) ((bif (bif (bif (bif (!r_5) then true else (!((fact_field ((fact_Valid_1 (bstr [67]) uses).getD false) f.Currency (1 : Int) (999 : Int)).getD false))) then true else (!((fact_field ((fact_Valid_1 (bstr [65]) uses).getD false) f.Amount (0 : Int) (1000000000 : Int)).getD false))) then true else (!((fact_field ((fact_Valid_1 (bstr [82]) uses).getD false) f.Ref (1 : Int) (99 : Int)).getD false))) then (some false) else (fact_Valid_p1 f)))))))))))))))))))))
theorem z77p2ok (f : GFact) (uses : ByteArray) (K : KT) (h : W (fact_Valid_p2 f uses) (rE z77R K)) : EvL Try.prog 116 (List.drop 3 z77i0) K (z77p2S f uses) :=
  EvL.pD mixed (lookC_ok (l := [(123, .pure fact_Valid_1_C), (125, .pure fact_within_C), (126, .pure fact_field_C), (127, .pure fact_validSpan_C)]) ⟨fact_Valid_1_ok, fact_within_ok, fact_field_ok, fact_validSpan_ok, trivial⟩) [1, 2, 89] 3 2 5 (.nf (X := fun K => (((!(uses.toList == (bstr []).toList)) && true) = true → (fact_within f.Issuer (0 : Int) (5 : Int)).isSome = true) ∧ (((!(bif (uses.toList == (bstr []).toList) then true else (!((fact_within f.Issuer (0 : Int) (5 : Int)).getD false)))) && true) = true → (fact_within f.Number (1 : Int) (999 : Int)).isSome = true) ∧ (((!(bif (bif (uses.toList == (bstr []).toList) then true else (!((fact_within f.Issuer (0 : Int) (5 : Int)).getD false))) then true else (!((fact_within f.Number (1 : Int) (999 : Int)).getD false)))) && true) = true → (fact_within f.Version (1 : Int) (99 : Int)).isSome = true) ∧ (((!(bif (bif (bif (uses.toList == (bstr []).toList) then true else (!((fact_within f.Issuer (0 : Int) (5 : Int)).getD false))) then true else (!((fact_within f.Number (1 : Int) (999 : Int)).getD false))) then true else (!((fact_within f.Version (1 : Int) (99 : Int)).getD false)))) && true) = true → (fact_within f.Person (1 : Int) (99 : Int)).isSome = true) ∧ ((bif (bif (bif (bif (bif (uses.toList == (bstr []).toList) then true else (!((fact_within f.Issuer (0 : Int) (5 : Int)).getD false))) then true else (!((fact_within f.Number (1 : Int) (999 : Int)).getD false))) then true else (!((fact_within f.Version (1 : Int) (99 : Int)).getD false))) then true else (!((fact_within f.Person (1 : Int) (99 : Int)).getD false))) then wK K .ret ({ tm := [sv 1 (.ptr 0 14 0 0), sv 2 (bl false)], hp := [(0, some (.box [(i64 f.Issuer), (i64 f.Number), (i64 f.Version), (bl f.Withdrawn), (i64 f.Person), (i64 f.Kind), (i64 f.State), (i64 f.Span.From), (i64 f.Span.To), (i64 f.Seat), (i64 f.Share), (i64 f.Currency), (i64 f.Amount), (i64 f.Ref)]))], nx := 1 }) else ((fact_Valid_1 (bstr [83]) uses).isSome = true) ∧ ((fact_field ((fact_Valid_1 (bstr [83]) uses).getD false) f.State (0 : Int) (5 : Int)).isSome = true) ∧ (((!(!((fact_field ((fact_Valid_1 (bstr [83]) uses).getD false) f.State (0 : Int) (5 : Int)).getD false))) && true) = true → (fact_Valid_1 (bstr [84]) uses).isSome = true) ∧ (((!(!((fact_field ((fact_Valid_1 (bstr [83]) uses).getD false) f.State (0 : Int) (5 : Int)).getD false))) && true) = true → (fact_field ((fact_Valid_1 (bstr [84]) uses).getD false) f.Seat (0 : Int) (5 : Int)).isSome = true) ∧ (((!(bif (!((fact_field ((fact_Valid_1 (bstr [83]) uses).getD false) f.State (0 : Int) (5 : Int)).getD false)) then true else (!((fact_field ((fact_Valid_1 (bstr [84]) uses).getD false) f.Seat (0 : Int) (5 : Int)).getD false)))) && true) = true → (fact_validSpan f.Span).isSome = true) ∧ ((bif (bif (bif (!((fact_field ((fact_Valid_1 (bstr [83]) uses).getD false) f.State (0 : Int) (5 : Int)).getD false)) then true else (!((fact_field ((fact_Valid_1 (bstr [84]) uses).getD false) f.Seat (0 : Int) (5 : Int)).getD false))) then true else (!((fact_validSpan f.Span).getD false))) then wK K .ret ({ tm := [sv 1 (.ptr 0 14 0 0), sv 2 (bl false)], hp := [(0, some (.box [(i64 f.Issuer), (i64 f.Number), (i64 f.Version), (bl f.Withdrawn), (i64 f.Person), (i64 f.Kind), (i64 f.State), (i64 f.Span.From), (i64 f.Span.To), (i64 f.Seat), (i64 f.Share), (i64 f.Currency), (i64 f.Amount), (i64 f.Ref)]))], nx := 1 }) else ((fact_Valid_1 (bstr [72]) uses).isSome = true) ∧ ((fact_field ((fact_Valid_1 (bstr [72]) uses).getD false) f.Share (1 : Int) (100 : Int)).isSome = true) ∧ (((!(!((fact_field ((fact_Valid_1 (bstr [72]) uses).getD false) f.Share (1 : Int) (100 : Int)).getD false))) && true) = true → (fact_Valid_1 (bstr [67]) uses).isSome = true) ∧ (((!(!((fact_field ((fact_Valid_1 (bstr [72]) uses).getD false) f.Share (1 : Int) (100 : Int)).getD false))) && true) = true → (fact_field ((fact_Valid_1 (bstr [67]) uses).getD false) f.Currency (1 : Int) (999 : Int)).isSome = true) ∧ (((!(bif (!((fact_field ((fact_Valid_1 (bstr [72]) uses).getD false) f.Share (1 : Int) (100 : Int)).getD false)) then true else (!((fact_field ((fact_Valid_1 (bstr [67]) uses).getD false) f.Currency (1 : Int) (999 : Int)).getD false)))) && true) = true → (fact_Valid_1 (bstr [65]) uses).isSome = true) ∧ (((!(bif (!((fact_field ((fact_Valid_1 (bstr [72]) uses).getD false) f.Share (1 : Int) (100 : Int)).getD false)) then true else (!((fact_field ((fact_Valid_1 (bstr [67]) uses).getD false) f.Currency (1 : Int) (999 : Int)).getD false)))) && true) = true → (fact_field ((fact_Valid_1 (bstr [65]) uses).getD false) f.Amount (0 : Int) (1000000000 : Int)).isSome = true) ∧ (((!(bif (bif (!((fact_field ((fact_Valid_1 (bstr [72]) uses).getD false) f.Share (1 : Int) (100 : Int)).getD false)) then true else (!((fact_field ((fact_Valid_1 (bstr [67]) uses).getD false) f.Currency (1 : Int) (999 : Int)).getD false))) then true else (!((fact_field ((fact_Valid_1 (bstr [65]) uses).getD false) f.Amount (0 : Int) (1000000000 : Int)).getD false)))) && true) = true → (fact_Valid_1 (bstr [82]) uses).isSome = true) ∧ (((!(bif (bif (!((fact_field ((fact_Valid_1 (bstr [72]) uses).getD false) f.Share (1 : Int) (100 : Int)).getD false)) then true else (!((fact_field ((fact_Valid_1 (bstr [67]) uses).getD false) f.Currency (1 : Int) (999 : Int)).getD false))) then true else (!((fact_field ((fact_Valid_1 (bstr [65]) uses).getD false) f.Amount (0 : Int) (1000000000 : Int)).getD false)))) && true) = true → (fact_field ((fact_Valid_1 (bstr [82]) uses).getD false) f.Ref (1 : Int) (99 : Int)).isSome = true) ∧ ((bif (bif (bif (bif (!((fact_field ((fact_Valid_1 (bstr [72]) uses).getD false) f.Share (1 : Int) (100 : Int)).getD false)) then true else (!((fact_field ((fact_Valid_1 (bstr [67]) uses).getD false) f.Currency (1 : Int) (999 : Int)).getD false))) then true else (!((fact_field ((fact_Valid_1 (bstr [65]) uses).getD false) f.Amount (0 : Int) (1000000000 : Int)).getD false))) then true else (!((fact_field ((fact_Valid_1 (bstr [82]) uses).getD false) f.Ref (1 : Int) (99 : Int)).getD false))) then wK K .ret ({ tm := [sv 1 (.ptr 0 14 0 0), sv 2 (bl false)], hp := [(0, some (.box [(i64 f.Issuer), (i64 f.Number), (i64 f.Version), (bl f.Withdrawn), (i64 f.Person), (i64 f.Kind), (i64 f.State), (i64 f.Span.From), (i64 f.Span.To), (i64 f.Seat), (i64 f.Share), (i64 f.Currency), (i64 f.Amount), (i64 f.Ref)]))], nx := 1 }) else wK K .normal (z77p1S f)))))))) (fun K => by kernel_rfl) (W_gd h fun hp0 h => (W_gd h fun hp1 h => (W_gd h fun hp2 h => (W_gd h fun hp3 h => (W_bif h (fun _ h => ⟨(z77R false), (.cn [2]), h⟩) (fun _ h => (W_bind false h fun hp4 h => (W_bind false h fun hp5 h => (W_gd h fun hp6 h => (W_gd h fun hp7 h => (W_gd h fun hp8 h => (W_bif h (fun _ h => ⟨(z77R false), (.cn [2]), h⟩) (fun _ h => (W_bind false h fun hp9 h => (W_bind false h fun hp10 h => (W_gd h fun hp11 h => (W_gd h fun hp12 h => (W_gd h fun hp13 h => (W_gd h fun hp14 h => (W_gd h fun hp15 h => (W_gd h fun hp16 h => (W_bif h (fun _ h => ⟨(z77R false), (.cn [2]), h⟩) (fun _ h => ⟨_, .refl _, (z77p1ok f _ h)⟩))))))))))))))))))))))))
def z77p3S (f : GFact) : St := { tm := [sv 0 (.ag (eGFact f))], hp := [], nx := 0 }
noncomputable def fact_Valid_p3 (f : GFact) : Option (Bool) := (fact_Uses f.Kind).bind fun r_1 => ((fact_Valid_p2 f r_1))
theorem z77p3ok (f : GFact) (K : KT) (h : W (fact_Valid_p3 f) (rE z77R K)) : EvL Try.prog 116 (List.drop 0 z77i0) K (z77p3S f) :=
  EvL.pD mixed (lookC_ok (l := [(122, .pure fact_Uses_C)]) ⟨fact_Uses_ok, trivial⟩) [1, 3, 4, 13, 14, 15, 16, 19, 20, 21, 22, 25, 26, 27, 28, 31, 32, 33, 34, 44, 45, 46, 47, 48, 49, 52, 53, 54, 55, 65, 66, 67, 68, 69, 70, 73, 74, 75, 76, 77, 78, 81, 82, 83, 84, 85, 86] 0 3 3 (.nf (X := fun K => ((fact_Uses f.Kind).isSome = true) ∧ (wK K .normal (z77p2S f ((fact_Uses f.Kind).getD (bstr []))))) (fun K => by kernel_rfl) (W_bind (bstr []) h fun hp0 h => ⟨_, .refl _, (z77p2ok f ((fact_Uses f.Kind).getD (bstr [])) _ h)⟩))
noncomputable def fact_Valid (f : GFact) : Option (Bool) := fact_Valid_p3 f
theorem z77run (f : GFact) (y_ : Bool) (h : fact_Valid f = some y_) : EvL Try.prog 116 (items (bodyOf Try.f77)) (retK Try.prog [.tmp 2] (OutOk (fact_Valid_out y_))) (z77p3S f) :=
  z77p3ok f _ (W_iff.2 ⟨y_, h, z77Rok y_⟩)
noncomputable def fact_Valid_C : Con
  | [(.agg [(.c (.lit (.int .i64 a1))), (.c (.lit (.int .i64 a2))), (.c (.lit (.int .i64 a3))), (.c (.lit (.bool a4))), (.c (.lit (.int .i64 a5))), (.c (.lit (.int .i64 a6))), (.c (.lit (.int .i64 a7))), (.c (.lit (.int .i64 a8))), (.c (.lit (.int .i64 a9))), (.c (.lit (.int .i64 a10))), (.c (.lit (.int .i64 a11))), (.c (.lit (.int .i64 a12))), (.c (.lit (.int .i64 a13))), (.c (.lit (.int .i64 a14)))])] => some ([(fact_Valid (GFact.mk a1 a2 a3 a4 a5 a6 a7 (GSpan.mk a8 a9) a10 a11 a12 a13 a14)).isSome = true], (fact_Valid_out ((fact_Valid (GFact.mk a1 a2 a3 a4 a5 a6 a7 (GSpan.mk a8 a9) a10 a11 a12 a13 a14)).getD false)))
  | _ => none
theorem fact_Valid_ok : Meets Try.prog 77 fact_Valid_C := by
  refine meets_fun (fn := Try.f77) (c := bodyOf Try.f77) (by kernel_rfl) (by kernel_rfl) (by kernel_rfl) (rs := [.tmp 2]) (by kernel_rfl) (nt := 116) (by kernel_rfl) fun vs p out h hp => ?_
  unfold fact_Valid_C at h
  split at h
  · next a1 a2 a3 a4 a5 a6 a7 a8 a9 a10 a11 a12 a13 a14 =>
    cases h
    obtain ⟨g, hp⟩ := allq hp
    obtain ⟨x, hx⟩ := Option.isSome_iff_exists.1 g
    rw [hx]
    exact ⟨[(.agg [(i64 (GFact.mk a1 a2 a3 a4 a5 a6 a7 (GSpan.mk a8 a9) a10 a11 a12 a13 a14).Issuer), (i64 (GFact.mk a1 a2 a3 a4 a5 a6 a7 (GSpan.mk a8 a9) a10 a11 a12 a13 a14).Number), (i64 (GFact.mk a1 a2 a3 a4 a5 a6 a7 (GSpan.mk a8 a9) a10 a11 a12 a13 a14).Version), (bl (GFact.mk a1 a2 a3 a4 a5 a6 a7 (GSpan.mk a8 a9) a10 a11 a12 a13 a14).Withdrawn), (i64 (GFact.mk a1 a2 a3 a4 a5 a6 a7 (GSpan.mk a8 a9) a10 a11 a12 a13 a14).Person), (i64 (GFact.mk a1 a2 a3 a4 a5 a6 a7 (GSpan.mk a8 a9) a10 a11 a12 a13 a14).Kind), (i64 (GFact.mk a1 a2 a3 a4 a5 a6 a7 (GSpan.mk a8 a9) a10 a11 a12 a13 a14).State), (i64 ((GFact.mk a1 a2 a3 a4 a5 a6 a7 (GSpan.mk a8 a9) a10 a11 a12 a13 a14).Span).From), (i64 ((GFact.mk a1 a2 a3 a4 a5 a6 a7 (GSpan.mk a8 a9) a10 a11 a12 a13 a14).Span).To), (i64 (GFact.mk a1 a2 a3 a4 a5 a6 a7 (GSpan.mk a8 a9) a10 a11 a12 a13 a14).Seat), (i64 (GFact.mk a1 a2 a3 a4 a5 a6 a7 (GSpan.mk a8 a9) a10 a11 a12 a13 a14).Share), (i64 (GFact.mk a1 a2 a3 a4 a5 a6 a7 (GSpan.mk a8 a9) a10 a11 a12 a13 a14).Currency), (i64 (GFact.mk a1 a2 a3 a4 a5 a6 a7 (GSpan.mk a8 a9) a10 a11 a12 a13 a14).Amount), (i64 (GFact.mk a1 a2 a3 a4 a5 a6 a7 (GSpan.mk a8 a9) a10 a11 a12 a13 a14).Ref)])], (VLes.cons (VLe.rfl' _) VLes.nil), rfl, z77run (GFact.mk a1 a2 a3 a4 a5 a6 a7 (GSpan.mk a8 a9) a10 a11 a12 a13 a14) x hx⟩
  · cases h

noncomputable def z24i0 : List Code := items (bodyOf Try.f24)
def z24R (x_1 : Int) : St := { tm := [sv 4 (i64 x_1)], hp := [], nx := 0 }
def earnings_Part_out (x_1 : Int) : Out := .data (i64 x_1)
theorem z24Rok (x_1 : Int) : retK Try.prog [.tmp 4] (OutOk (earnings_Part_out x_1)) .ret (z24R x_1) :=
  retK.intro (v := (i64 x_1)) (by kernel_rfl) ((VLe.rfl' _))
def z24p0S (f : GFact) (days : Int) : St := { tm := [sv 0 (.ag (eGFact f)), sv 1 (i64 days)], hp := [], nx := 0 }
noncomputable def earnings_Part_p0 (f : GFact) (days : Int) : Option (Int) := (fact_Valid f).bind fun r_1 => ((bif (bif (bif (!r_1) then true else (decide (days < (0 : Int)))) then true else (decide ((w64 (f.Span.To - f.Span.From)) < days))) then (some (0 : Int)) else gd ((w64 (f.Span.To - f.Span.From)) ≠ (0 : Int)) ((some (w64 (Int.tdiv (w64 (f.Amount * days)) (w64 (f.Span.To - f.Span.From))))))))
theorem z24p0ok (f : GFact) (days : Int) (K : KT) (h : W (earnings_Part_p0 f days) (rE z24R K)) : EvL Try.prog 35 (List.drop 0 z24i0) K (z24p0S f days) :=
  EvL.pE mixed (lookC_ok (l := [(77, .pure fact_Valid_C)]) ⟨fact_Valid_ok, trivial⟩) [4] 0 5 (.nf (X := fun K => ((fact_Valid f).isSome = true) ∧ ((bif (bif (bif (!((fact_Valid f).getD false)) then true else (decide (days < (0 : Int)))) then true else (decide ((w64 (f.Span.To - f.Span.From)) < days))) then wK K .ret (z24R (0 : Int)) else ((w64 (f.Span.To - f.Span.From)) ≠ (0 : Int)) ∧ (wK K .ret (z24R (w64 (Int.tdiv (w64 (f.Amount * days)) (w64 (f.Span.To - f.Span.From))))))))) (fun K => by kernel_rfl) (W_bind false h fun hp0 h => (W_bif h (fun _ h => ⟨_, .refl _, h⟩) (fun _ h => (W_gd h fun hp1 h => ⟨_, .refl _, h⟩)))))
noncomputable def earnings_Part (f : GFact) (days : Int) : Option (Int) := earnings_Part_p0 f days
theorem z24run (f : GFact) (days : Int) (y_ : Int) (h : earnings_Part f days = some y_) : EvL Try.prog 35 (items (bodyOf Try.f24)) (retK Try.prog [.tmp 4] (OutOk (earnings_Part_out y_))) (z24p0S f days) :=
  z24p0ok f days _ (W_iff.2 ⟨y_, h, z24Rok y_⟩)
noncomputable def earnings_Part_C : Con
  | [(.agg [(.c (.lit (.int .i64 a1))), (.c (.lit (.int .i64 a2))), (.c (.lit (.int .i64 a3))), (.c (.lit (.bool a4))), (.c (.lit (.int .i64 a5))), (.c (.lit (.int .i64 a6))), (.c (.lit (.int .i64 a7))), (.c (.lit (.int .i64 a8))), (.c (.lit (.int .i64 a9))), (.c (.lit (.int .i64 a10))), (.c (.lit (.int .i64 a11))), (.c (.lit (.int .i64 a12))), (.c (.lit (.int .i64 a13))), (.c (.lit (.int .i64 a14)))]), (.c (.lit (.int .i64 a15)))] => some ([(earnings_Part (GFact.mk a1 a2 a3 a4 a5 a6 a7 (GSpan.mk a8 a9) a10 a11 a12 a13 a14) a15).isSome = true], (earnings_Part_out ((earnings_Part (GFact.mk a1 a2 a3 a4 a5 a6 a7 (GSpan.mk a8 a9) a10 a11 a12 a13 a14) a15).getD (0 : Int))))
  | _ => none
theorem earnings_Part_ok : Meets Try.prog 24 earnings_Part_C := by
  refine meets_fun (fn := Try.f24) (c := bodyOf Try.f24) (by kernel_rfl) (by kernel_rfl) (by kernel_rfl) (rs := [.tmp 4]) (by kernel_rfl) (nt := 35) (by kernel_rfl) fun vs p out h hp => ?_
  unfold earnings_Part_C at h
  split at h
  · next a1 a2 a3 a4 a5 a6 a7 a8 a9 a10 a11 a12 a13 a14 a15 =>
    cases h
    obtain ⟨g, hp⟩ := allq hp
    obtain ⟨x, hx⟩ := Option.isSome_iff_exists.1 g
    rw [hx]
    exact ⟨[(.agg [(i64 (GFact.mk a1 a2 a3 a4 a5 a6 a7 (GSpan.mk a8 a9) a10 a11 a12 a13 a14).Issuer), (i64 (GFact.mk a1 a2 a3 a4 a5 a6 a7 (GSpan.mk a8 a9) a10 a11 a12 a13 a14).Number), (i64 (GFact.mk a1 a2 a3 a4 a5 a6 a7 (GSpan.mk a8 a9) a10 a11 a12 a13 a14).Version), (bl (GFact.mk a1 a2 a3 a4 a5 a6 a7 (GSpan.mk a8 a9) a10 a11 a12 a13 a14).Withdrawn), (i64 (GFact.mk a1 a2 a3 a4 a5 a6 a7 (GSpan.mk a8 a9) a10 a11 a12 a13 a14).Person), (i64 (GFact.mk a1 a2 a3 a4 a5 a6 a7 (GSpan.mk a8 a9) a10 a11 a12 a13 a14).Kind), (i64 (GFact.mk a1 a2 a3 a4 a5 a6 a7 (GSpan.mk a8 a9) a10 a11 a12 a13 a14).State), (i64 ((GFact.mk a1 a2 a3 a4 a5 a6 a7 (GSpan.mk a8 a9) a10 a11 a12 a13 a14).Span).From), (i64 ((GFact.mk a1 a2 a3 a4 a5 a6 a7 (GSpan.mk a8 a9) a10 a11 a12 a13 a14).Span).To), (i64 (GFact.mk a1 a2 a3 a4 a5 a6 a7 (GSpan.mk a8 a9) a10 a11 a12 a13 a14).Seat), (i64 (GFact.mk a1 a2 a3 a4 a5 a6 a7 (GSpan.mk a8 a9) a10 a11 a12 a13 a14).Share), (i64 (GFact.mk a1 a2 a3 a4 a5 a6 a7 (GSpan.mk a8 a9) a10 a11 a12 a13 a14).Currency), (i64 (GFact.mk a1 a2 a3 a4 a5 a6 a7 (GSpan.mk a8 a9) a10 a11 a12 a13 a14).Amount), (i64 (GFact.mk a1 a2 a3 a4 a5 a6 a7 (GSpan.mk a8 a9) a10 a11 a12 a13 a14).Ref)]), (i64 a15)], (VLes.cons (VLe.rfl' _) (VLes.cons (VLe.rfl' _) VLes.nil)), rfl, z24run (GFact.mk a1 a2 a3 a4 a5 a6 a7 (GSpan.mk a8 a9) a10 a11 a12 a13 a14) a15 x hx⟩
  · cases h

noncomputable def z25i0 : List Code := items (bodyOf Try.f25)
def z25R (x_1 : Bool) : St := { tm := [sv 0 (bl x_1)], hp := [], nx := 0 }
def law19_awake_out (x_1 : Bool) : Out := .data (bl x_1)
theorem z25Rok (x_1 : Bool) : retK Try.prog [.tmp 0] (OutOk (law19_awake_out x_1)) .ret (z25R x_1) :=
  retK.intro (v := (bl x_1)) (by kernel_rfl) ((VLe.rfl' _))
def z25p0S : St := { tm := [], hp := [], nx := 0 }
noncomputable def law19_awake_p0 : Option (Bool) := (earnings_Part (GFact.mk (0 : Int) (1 : Int) (1 : Int) false (1 : Int) (1 : Int) (0 : Int) (GSpan.mk (36159 : Int) (36524 : Int)) (0 : Int) (100 : Int) (1 : Int) (36500 : Int) (0 : Int)) (100 : Int)).bind fun r_1 => ((some (r_1 == (10000 : Int))))
theorem z25p0ok (K : KT) (h : W (law19_awake_p0) (rE z25R K)) : EvL Try.prog 7 (List.drop 0 z25i0) K (z25p0S) :=
  EvL.pE mixed (lookC_ok (l := [(24, .pure earnings_Part_C)]) ⟨earnings_Part_ok, trivial⟩) [0] 0 4 (.nf (X := fun K => ((earnings_Part (GFact.mk (0 : Int) (1 : Int) (1 : Int) false (1 : Int) (1 : Int) (0 : Int) (GSpan.mk (36159 : Int) (36524 : Int)) (0 : Int) (100 : Int) (1 : Int) (36500 : Int) (0 : Int)) (100 : Int)).isSome = true) ∧ (wK K .ret (z25R (((earnings_Part (GFact.mk (0 : Int) (1 : Int) (1 : Int) false (1 : Int) (1 : Int) (0 : Int) (GSpan.mk (36159 : Int) (36524 : Int)) (0 : Int) (100 : Int) (1 : Int) (36500 : Int) (0 : Int)) (100 : Int)).getD (0 : Int)) == (10000 : Int))))) (fun K => by kernel_rfl) (W_bind (0 : Int) h fun hp0 h => ⟨_, .refl _, h⟩))
noncomputable def law19_awake : Option (Bool) := law19_awake_p0
theorem z25run (y_ : Bool) (h : law19_awake = some y_) : EvL Try.prog 7 (items (bodyOf Try.f25)) (retK Try.prog [.tmp 0] (OutOk (law19_awake_out y_))) (z25p0S) :=
  z25p0ok _ (W_iff.2 ⟨y_, h, z25Rok y_⟩)
noncomputable def law19_awake_C : Con
  | [] => some ([(law19_awake).isSome = true], (law19_awake_out ((law19_awake).getD false)))
  | _ => none
theorem law19_awake_ok : Meets Try.prog 25 law19_awake_C := by
  refine meets_fun (fn := Try.f25) (c := bodyOf Try.f25) (by kernel_rfl) (by kernel_rfl) (by kernel_rfl) (rs := [.tmp 0]) (by kernel_rfl) (nt := 7) (by kernel_rfl) fun vs p out h hp => ?_
  unfold law19_awake_C at h
  split at h
  ·
    cases h
    obtain ⟨g, hp⟩ := allq hp
    obtain ⟨x, hx⟩ := Option.isSome_iff_exists.1 g
    rw [hx]
    exact ⟨[], VLes.nil, rfl, z25run x hx⟩
  · cases h

noncomputable def z168i0 : List Code := items (bodyOf Try.f168)
noncomputable def z168i1 : List Code := items (inside (inside (nthI z168i0 3)))
def z168R (x_1 : Bool) : St := { tm := [sv 4 (bl x_1)], hp := [], nx := 0 }
def ref12_uses_out (x_1 : Bool) : Out := .data (bl x_1)
theorem z168Rok (x_1 : Bool) : retK Try.prog [.tmp 4] (OutOk (ref12_uses_out x_1)) .ret (z168R x_1) :=
  retK.intro (v := (bl x_1)) (by kernel_rfl) ((VLe.rfl' _))
def z168l1S (c : Int) (s_1 : ByteArray) (s : (Int)) : St := match s with | i_1 => { tm := [sv 1 (.c (.lit (.int .u8 c))), sv 5 (str s_1), sv 6 (i64 i_1)], hp := [], nx := 0 }
def z168l1C0 (c : Int) (s_1 : ByteArray) (s : Unit) : St := match s with | () => { tm := [sv 4 (bl true)], hp := [], nx := 0 }
def z168l1C1 (c : Int) (s_1 : ByteArray) (s : Unit) : St := match s with | () => { tm := [], hp := [], nx := 0 }
def z168l1E (c : Int) (s_1 : ByteArray) (r : ((Unit) ⊕ (Unit))) (K : KT) : Prop := match r with | (.inl s) => K .ret (z168l1C0 c s_1 s) | (.inr s) => K (.exit 0) (z168l1C1 c s_1 s)
def z168p0S (c : Int) (s_1 : ByteArray) (i_1 : Int) : St := { tm := [sv 1 (.c (.lit (.int .u8 c))), sv 5 (str s_1), sv 6 (i64 i_1)], hp := [], nx := 0 }
noncomputable def ref12_uses_p0 (c : Int) (s_1 : ByteArray) (i_1 : Int) : Option ((Int) ⊕ ((Unit) ⊕ (Unit))) := (bif (decide (i_1 < ((s_1.size : Nat) : Int))) then gd ((0 : Int) ≤ i_1 ∧ i_1 < ((s_1.size : Nat) : Int)) ((bif (((s_1.data.getD (Int.toNat i_1) 0).toNat : Int) == c) then (some (Sum.inr (Sum.inl ()))) else (some (Sum.inl (w64 (i_1 + (1 : Int))))))) else (some (Sum.inr (Sum.inr ()))))
theorem z168p0ok (c : Int) (s_1 : ByteArray) (i_1 : Int) (K : KT) (h : W (ref12_uses_p0 c s_1 i_1) (nE (z168l1S c s_1) (z168l1E c s_1) K)) : EvL Try.prog 20 (List.drop 0 z168i1) K (z168p0S c s_1 i_1) :=
  EvL.pE mixed (lookC_ok (l := []) trivial) [1, 4, 5, 6] 0 4 (.nf (X := fun K => (bif (decide (i_1 < ((s_1.size : Nat) : Int))) then ((0 : Int) ≤ i_1) ∧ (i_1 < ((s_1.size : Nat) : Int)) ∧ ((bif (((s_1.data.getD (Int.toNat i_1) 0).toNat : Int) == c) then wK K .ret ({ tm := [sv 1 (.c (.lit (.int .u8 c))), sv 4 (bl true), sv 5 (str s_1), sv 6 (i64 i_1)], hp := [], nx := 0 }) else wK K .normal (z168l1S c s_1 (w64 (i_1 + (1 : Int)))))) else wK K (.exit 0) ({ tm := [sv 1 (.c (.lit (.int .u8 c))), sv 5 (str s_1), sv 6 (i64 i_1)], hp := [], nx := 0 }))) (fun K => by kernel_rfl) (W_bif h (fun _ h => (W_gd2 h fun hp0 h => (W_bif h (fun _ h => ⟨(z168l1C0 c s_1 ()), (.of (.q rfl .nil) .nil rfl), h⟩) (fun _ h => ⟨_, .refl _, h⟩)))) (fun _ h => ⟨(z168l1C1 c s_1 ()), (.of .nil .nil rfl), h⟩)))
noncomputable def ref12_uses_l1 (c : Int) (s_1 : ByteArray) (s : (Int)) : Option ((Int) ⊕ ((Unit) ⊕ (Unit))) := match s with | i_1 => ref12_uses_p0 c s_1 i_1
theorem z168l1ok (c : Int) (s_1 : ByteArray) (s : (Int)) : Pp Try.prog 20 (List.drop 0 z168i1) (z168l1S c s_1 s) (ref12_uses_l1 c s_1 s) (nextE (z168l1S c s_1) (z168l1E c s_1)) := fun K h => match s, h with | i_1, h => (z168p0ok c s_1 i_1 _ h)
theorem z168l1Ethen (c : Int) (s_1 : ByteArray) : ∀ (r : ((Unit) ⊕ (Unit))) (J : St → Prop) (K : KT), z168l1E c s_1 r K → z168l1E c s_1 r (thenK J K)
  | (.inl s), _, _, h => h
  | (.inr s), _, _, h => h
def z168p1S : St := { tm := [], hp := [], nx := 0 }
noncomputable def ref12_uses_p1 : Option (Bool) := (some false)
theorem z168p1ok (K : KT) (h : W (ref12_uses_p1) (rE z168R K)) : EvL Try.prog 20 (List.drop 4 z168i0) K (z168p1S) :=
  EvL.pE mixed (lookC_ok (l := []) trivial) [4] 4 2 (.nf (X := fun K => wK K .ret (z168R false)) (fun K => by kernel_rfl) (⟨_, .refl _, h⟩))
def z168p2S (c : Int) (s_1 : ByteArray) : St := { tm := [sv 1 (.c (.lit (.int .u8 c))), sv 5 (str s_1), sv 6 (i64 (0 : Int))], hp := [], nx := 0 }
noncomputable def ref12_uses_p2_g (c : Int) (s_1 : ByteArray) (r : ((Unit) ⊕ (Unit))) : Option (Bool) := match r with | (.inl ()) => (some true) | (.inr ()) => ref12_uses_p1
noncomputable def ref12_uses_p2 (c : Int) (s_1 : ByteArray) : Option (Bool) := (fixL (ref12_uses_l1 c s_1) (0 : Int)).bind (ref12_uses_p2_g c s_1)
theorem z168p2at : List.drop 3 z168i0 = .block 0 (.loop (inside (inside (nthI z168i0 3)))) :: List.drop 4 z168i0 := by kernel_rfl
theorem z168p2k (c : Int) (s_1 : ByteArray) (K : KT) : ∀ r : ((Unit) ⊕ (Unit)), W (ref12_uses_p2_g c s_1 r) (rE z168R K) → z168l1E c s_1 r (wK (blockK 0 (thenK (EvL Try.prog 20 (List.drop 4 z168i0) K) K)))
  | (.inl ()), h => ⟨(z168R true), (.refl _), h⟩
  | (.inr ()), h => ⟨(z168p1S), (.refl _), (z168p1ok _ h)⟩
theorem z168p2ok (c : Int) (s_1 : ByteArray) (K : KT) (h : W (ref12_uses_p2 c s_1) (rE z168R K)) : EvL Try.prog 20 (List.drop 3 z168i0) K (z168p2S c s_1) :=
  EvL.at_ z168p2at (EvL.cons_loop (EvOk.weak (EvOk.ent (.refl _) (EvOk.loopF (x := inside (inside (nthI z168i0 3))) (f := ref12_uses_l1 c s_1) (emb := z168l1S c s_1) (E := z168l1E c s_1) (z168l1ok c s_1) (z168l1Ethen c s_1) (W_loop h (z168p2k c s_1 K))))))
def z168p3S (kind c : Int) : St := { tm := [sv 0 (i64 kind), sv 1 (.c (.lit (.int .u8 c)))], hp := [], nx := 0 }
noncomputable def ref12_uses_p3 (kind c : Int) : Option (Bool) := (ref12_Uses kind).bind fun r_1 => ((ref12_uses_p2 c r_1))
theorem z168p3ok (kind c : Int) (K : KT) (h : W (ref12_uses_p3 kind c) (rE z168R K)) : EvL Try.prog 20 (List.drop 0 z168i0) K (z168p3S kind c) :=
  EvL.pD mixed (lookC_ok (l := [(76, .pure ref12_Uses_C)]) ⟨ref12_Uses_ok, trivial⟩) [1, 5, 6] 0 3 3 (.nf (X := fun K => ((ref12_Uses kind).isSome = true) ∧ (wK K .normal (z168p2S c ((ref12_Uses kind).getD (bstr []))))) (fun K => by kernel_rfl) (W_bind (bstr []) h fun hp0 h => ⟨_, .refl _, (z168p2ok c ((ref12_Uses kind).getD (bstr [])) _ h)⟩))
noncomputable def ref12_uses (kind c : Int) : Option (Bool) := ref12_uses_p3 kind c
theorem z168run (kind c : Int) (y_ : Bool) (h : ref12_uses kind c = some y_) : EvL Try.prog 20 (items (bodyOf Try.f168)) (retK Try.prog [.tmp 4] (OutOk (ref12_uses_out y_))) (z168p3S kind c) :=
  z168p3ok kind c _ (W_iff.2 ⟨y_, h, z168Rok y_⟩)
noncomputable def ref12_uses_C : Con
  | [(.c (.lit (.int .i64 a1))), (.c (.lit (.int .u8 a2)))] => some ([(ref12_uses a1 a2).isSome = true], (ref12_uses_out ((ref12_uses a1 a2).getD false)))
  | _ => none
theorem ref12_uses_ok : Meets Try.prog 168 ref12_uses_C := by
  refine meets_fun (fn := Try.f168) (c := bodyOf Try.f168) (by kernel_rfl) (by kernel_rfl) (by kernel_rfl) (rs := [.tmp 4]) (by kernel_rfl) (nt := 20) (by kernel_rfl) fun vs p out h hp => ?_
  unfold ref12_uses_C at h
  split at h
  · next a1 a2 =>
    cases h
    obtain ⟨g, hp⟩ := allq hp
    obtain ⟨x, hx⟩ := Option.isSome_iff_exists.1 g
    rw [hx]
    exact ⟨[(i64 a1), (.c (.lit (.int .u8 a2)))], (VLes.cons (VLe.rfl' _) (VLes.cons (VLe.rfl' _) VLes.nil)), rfl, z168run a1 a2 x hx⟩
  · cases h

noncomputable def z128i0 : List Code := items (bodyOf Try.f128)
def z128R (x_1 : Bool) : St := { tm := [sv 10 (bl x_1)], hp := [], nx := 0 }
def ref12_field_out (x_1 : Bool) : Out := .data (bl x_1)
theorem z128Rok (x_1 : Bool) : retK Try.prog [.tmp 10] (OutOk (ref12_field_out x_1)) .ret (z128R x_1) :=
  retK.intro (v := (bl x_1)) (by kernel_rfl) ((VLe.rfl' _))
def z128p0S (kind c n least most : Int) : St := { tm := [sv 0 (i64 kind), sv 1 (.c (.lit (.int .u8 c))), sv 2 (i64 n), sv 3 (i64 least), sv 4 (i64 most)], hp := [], nx := 0 }
noncomputable def ref12_field_p0 (kind c n least most : Int) : Option (Bool) := (ref12_uses kind c).bind fun r_1 => ((bif r_1 then (some (bif (decide (least ≤ n)) then (decide (n ≤ most)) else false)) else (some (n == (0 : Int)))))
theorem z128p0ok (kind c n least most : Int) (K : KT) (h : W (ref12_field_p0 kind c n least most) (rE z128R K)) : EvL Try.prog 24 (List.drop 0 z128i0) K (z128p0S kind c n least most) :=
  EvL.pE mixed (lookC_ok (l := [(168, .pure ref12_uses_C)]) ⟨ref12_uses_ok, trivial⟩) [10] 0 5 (.nf (X := fun K => ((ref12_uses kind c).isSome = true) ∧ ((bif ((ref12_uses kind c).getD false) then wK K .ret (z128R (bif (decide (least ≤ n)) then (decide (n ≤ most)) else false)) else wK K .ret (z128R (n == (0 : Int)))))) (fun K => by kernel_rfl) (W_bind false h fun hp0 h => (W_bif h (fun _ h => ⟨_, .refl _, h⟩) (fun _ h => ⟨_, .refl _, h⟩))))
noncomputable def ref12_field (kind c n least most : Int) : Option (Bool) := ref12_field_p0 kind c n least most
theorem z128run (kind c n least most : Int) (y_ : Bool) (h : ref12_field kind c n least most = some y_) : EvL Try.prog 24 (items (bodyOf Try.f128)) (retK Try.prog [.tmp 10] (OutOk (ref12_field_out y_))) (z128p0S kind c n least most) :=
  z128p0ok kind c n least most _ (W_iff.2 ⟨y_, h, z128Rok y_⟩)
noncomputable def ref12_field_C : Con
  | [(.c (.lit (.int .i64 a1))), (.c (.lit (.int .u8 a2))), (.c (.lit (.int .i64 a3))), (.c (.lit (.int .i64 a4))), (.c (.lit (.int .i64 a5)))] => some ([(ref12_field a1 a2 a3 a4 a5).isSome = true], (ref12_field_out ((ref12_field a1 a2 a3 a4 a5).getD false)))
  | _ => none
theorem ref12_field_ok : Meets Try.prog 128 ref12_field_C := by
  refine meets_fun (fn := Try.f128) (c := bodyOf Try.f128) (by kernel_rfl) (by kernel_rfl) (by kernel_rfl) (rs := [.tmp 10]) (by kernel_rfl) (nt := 24) (by kernel_rfl) fun vs p out h hp => ?_
  unfold ref12_field_C at h
  split at h
  · next a1 a2 a3 a4 a5 =>
    cases h
    obtain ⟨g, hp⟩ := allq hp
    obtain ⟨x, hx⟩ := Option.isSome_iff_exists.1 g
    rw [hx]
    exact ⟨[(i64 a1), (.c (.lit (.int .u8 a2))), (i64 a3), (i64 a4), (i64 a5)], (VLes.cons (VLe.rfl' _) (VLes.cons (VLe.rfl' _) (VLes.cons (VLe.rfl' _) (VLes.cons (VLe.rfl' _) (VLes.cons (VLe.rfl' _) VLes.nil))))), rfl, z128run a1 a2 a3 a4 a5 x hx⟩
  · cases h

noncomputable def z78i0 : List Code := items (bodyOf Try.f78)
def z78R (x_1 : Bool) : St := { tm := [sv 2 (bl x_1)], hp := [], nx := 0 }
def ref12_Valid_out (x_1 : Bool) : Out := .data (bl x_1)
theorem z78Rok (x_1 : Bool) : retK Try.prog [.tmp 2] (OutOk (ref12_Valid_out x_1)) .ret (z78R x_1) :=
  retK.intro (v := (bl x_1)) (by kernel_rfl) ((VLe.rfl' _))
def z78p0S (f : GFact) : St := { tm := [sv 1 (.ptr 0 14 0 0), sv 3 (i64 f.Kind)], hp := [(0, some (.box [(i64 f.Issuer), (i64 f.Number), (i64 f.Version), (bl f.Withdrawn), (i64 f.Person), (i64 f.Kind), (i64 f.State), (i64 f.Span.From), (i64 f.Span.To), (i64 f.Seat), (i64 f.Share), (i64 f.Currency), (i64 f.Amount), (i64 f.Ref)]))], nx := 1 }
noncomputable def ref12_Valid_p0 (f : GFact) : Option (Bool) := (bif (bif (bif (bif (bif (f.Kind == (11 : Int)) then true else (f.Kind == (12 : Int))) then ((w64 (f.Span.To - f.Span.From)) != (1 : Int)) else false) then true else (bif (f.Kind == (4 : Int)) then (f.Seat == f.State) else false)) then true else (bif (bif (f.Kind == (10 : Int)) then true else (f.Kind == (14 : Int))) then (f.Ref == f.Person) else false)) then (some false) else (ref12_field f.Kind (83 : Int) f.State (0 : Int) (5 : Int)).bind fun r_1 => (gd ((r_1 && true) = true → (ref12_field f.Kind (84 : Int) f.Seat (0 : Int) (5 : Int)).isSome = true) (gd (((bif r_1 then ((ref12_field f.Kind (84 : Int) f.Seat (0 : Int) (5 : Int)).getD false) else false) && true) = true → (ref12_field f.Kind (72 : Int) f.Share (1 : Int) (100 : Int)).isSome = true) (gd (((bif (bif r_1 then ((ref12_field f.Kind (84 : Int) f.Seat (0 : Int) (5 : Int)).getD false) else false) then ((ref12_field f.Kind (72 : Int) f.Share (1 : Int) (100 : Int)).getD false) else false) && true) = true → (ref12_field f.Kind (67 : Int) f.Currency (1 : Int) (999 : Int)).isSome = true) (gd (((bif (bif (bif r_1 then ((ref12_field f.Kind (84 : Int) f.Seat (0 : Int) (5 : Int)).getD false) else false) then ((ref12_field f.Kind (72 : Int) f.Share (1 : Int) (100 : Int)).getD false) else false) then ((ref12_field f.Kind (67 : Int) f.Currency (1 : Int) (999 : Int)).getD false) else false) && true) = true → (ref12_field f.Kind (65 : Int) f.Amount (0 : Int) (1000000000 : Int)).isSome = true) (gd (((bif (bif (bif (bif r_1 then ((ref12_field f.Kind (84 : Int) f.Seat (0 : Int) (5 : Int)).getD false) else false) then ((ref12_field f.Kind (72 : Int) f.Share (1 : Int) (100 : Int)).getD false) else false) then ((ref12_field f.Kind (67 : Int) f.Currency (1 : Int) (999 : Int)).getD false) else false) then ((ref12_field f.Kind (65 : Int) f.Amount (0 : Int) (1000000000 : Int)).getD false) else false) && true) = true → (ref12_field f.Kind (82 : Int) f.Ref (1 : Int) (99 : Int)).isSome = true) ((some (bif (bif (bif (bif (bif r_1 then ((ref12_field f.Kind (84 : Int) f.Seat (0 : Int) (5 : Int)).getD false) else false) then ((ref12_field f.Kind (72 : Int) f.Share (1 : Int) (100 : Int)).getD false) else false) then ((ref12_field f.Kind (67 : Int) f.Currency (1 : Int) (999 : Int)).getD false) else false) then ((ref12_field f.Kind (65 : Int) f.Amount (0 : Int) (1000000000 : Int)).getD false) else false) then ((ref12_field f.Kind (82 : Int) f.Ref (1 : Int) (99 : Int)).getD false) else false)))))))))
theorem z78p0ok (f : GFact) (K : KT) (h : W (ref12_Valid_p0 f) (rE z78R K)) : EvL Try.prog 144 (List.drop 6 z78i0) K (z78p0S f) :=
  EvL.pE mixed (lookC_ok (l := [(128, .pure ref12_field_C)]) ⟨ref12_field_ok, trivial⟩) [2] 6 4 (.nf (X := fun K => (bif (bif (bif (bif (bif (f.Kind == (11 : Int)) then true else (f.Kind == (12 : Int))) then ((w64 (f.Span.To - f.Span.From)) != (1 : Int)) else false) then true else (bif (f.Kind == (4 : Int)) then (f.Seat == f.State) else false)) then true else (bif (bif (f.Kind == (10 : Int)) then true else (f.Kind == (14 : Int))) then (f.Ref == f.Person) else false)) then wK K .ret (z78R false) else ((ref12_field f.Kind (83 : Int) f.State (0 : Int) (5 : Int)).isSome = true) ∧ ((((ref12_field f.Kind (83 : Int) f.State (0 : Int) (5 : Int)).getD false) && true) = true → (ref12_field f.Kind (84 : Int) f.Seat (0 : Int) (5 : Int)).isSome = true) ∧ (((bif ((ref12_field f.Kind (83 : Int) f.State (0 : Int) (5 : Int)).getD false) then ((ref12_field f.Kind (84 : Int) f.Seat (0 : Int) (5 : Int)).getD false) else false) && true) = true → (ref12_field f.Kind (72 : Int) f.Share (1 : Int) (100 : Int)).isSome = true) ∧ (((bif (bif ((ref12_field f.Kind (83 : Int) f.State (0 : Int) (5 : Int)).getD false) then ((ref12_field f.Kind (84 : Int) f.Seat (0 : Int) (5 : Int)).getD false) else false) then ((ref12_field f.Kind (72 : Int) f.Share (1 : Int) (100 : Int)).getD false) else false) && true) = true → (ref12_field f.Kind (67 : Int) f.Currency (1 : Int) (999 : Int)).isSome = true) ∧ (((bif (bif (bif ((ref12_field f.Kind (83 : Int) f.State (0 : Int) (5 : Int)).getD false) then ((ref12_field f.Kind (84 : Int) f.Seat (0 : Int) (5 : Int)).getD false) else false) then ((ref12_field f.Kind (72 : Int) f.Share (1 : Int) (100 : Int)).getD false) else false) then ((ref12_field f.Kind (67 : Int) f.Currency (1 : Int) (999 : Int)).getD false) else false) && true) = true → (ref12_field f.Kind (65 : Int) f.Amount (0 : Int) (1000000000 : Int)).isSome = true) ∧ (((bif (bif (bif (bif ((ref12_field f.Kind (83 : Int) f.State (0 : Int) (5 : Int)).getD false) then ((ref12_field f.Kind (84 : Int) f.Seat (0 : Int) (5 : Int)).getD false) else false) then ((ref12_field f.Kind (72 : Int) f.Share (1 : Int) (100 : Int)).getD false) else false) then ((ref12_field f.Kind (67 : Int) f.Currency (1 : Int) (999 : Int)).getD false) else false) then ((ref12_field f.Kind (65 : Int) f.Amount (0 : Int) (1000000000 : Int)).getD false) else false) && true) = true → (ref12_field f.Kind (82 : Int) f.Ref (1 : Int) (99 : Int)).isSome = true) ∧ (wK K .ret (z78R (bif (bif (bif (bif (bif ((ref12_field f.Kind (83 : Int) f.State (0 : Int) (5 : Int)).getD false) then ((ref12_field f.Kind (84 : Int) f.Seat (0 : Int) (5 : Int)).getD false) else false) then ((ref12_field f.Kind (72 : Int) f.Share (1 : Int) (100 : Int)).getD false) else false) then ((ref12_field f.Kind (67 : Int) f.Currency (1 : Int) (999 : Int)).getD false) else false) then ((ref12_field f.Kind (65 : Int) f.Amount (0 : Int) (1000000000 : Int)).getD false) else false) then ((ref12_field f.Kind (82 : Int) f.Ref (1 : Int) (99 : Int)).getD false) else false))))) (fun K => by kernel_rfl) (W_bif h (fun _ h => ⟨_, .refl _, h⟩) (fun _ h => (W_bind false h fun hp0 h => (W_gd h fun hp1 h => (W_gd h fun hp2 h => (W_gd h fun hp3 h => (W_gd h fun hp4 h => (W_gd h fun hp5 h => ⟨_, .refl _, h⟩)))))))))
def z78p1S (f : GFact) : St := { tm := [sv 0 (.ag (eGFact f))], hp := [], nx := 0 }
noncomputable def ref12_Valid_p1 (f : GFact) : Option (Bool) := gd (((!(bif (bif (bif (bif (bif (bif (bif (decide (f.Issuer < (0 : Int))) then true else (decide ((6 : Int) ≤ f.Issuer))) then true else (decide (f.Number < (1 : Int)))) then true else (decide ((999 : Int) < f.Number))) then true else (decide (f.Version < (1 : Int)))) then true else (decide ((99 : Int) < f.Version))) then true else (decide (f.Person < (1 : Int)))) then true else (decide ((99 : Int) < f.Person)))) && true) = true → (ref12_Uses f.Kind).isSome = true) ((bif (bif (bif (bif (bif (bif (bif (bif (bif (decide (f.Issuer < (0 : Int))) then true else (decide ((6 : Int) ≤ f.Issuer))) then true else (decide (f.Number < (1 : Int)))) then true else (decide ((999 : Int) < f.Number))) then true else (decide (f.Version < (1 : Int)))) then true else (decide ((99 : Int) < f.Version))) then true else (decide (f.Person < (1 : Int)))) then true else (decide ((99 : Int) < f.Person))) then true else (((ref12_Uses f.Kind).getD (bstr [])).toList == (bstr []).toList)) then (some false) else (bif (bif (bif (decide (f.Span.From < (0 : Int))) then true else (decide (f.Span.To ≤ f.Span.From))) then true else (decide ((73049 : Int) < f.Span.To))) then (some false) else (ref12_Valid_p0 f))))
theorem z78p1ok (f : GFact) (K : KT) (h : W (ref12_Valid_p1 f) (rE z78R K)) : EvL Try.prog 144 (List.drop 0 z78i0) K (z78p1S f) :=
  EvL.pD mixed (lookC_ok (l := [(76, .pure ref12_Uses_C)]) ⟨ref12_Uses_ok, trivial⟩) [1, 2, 3, 71, 72, 75, 76, 77, 78, 79, 80, 81, 82, 85, 86, 87, 88, 89, 90, 91, 92, 93, 96, 97, 98, 99, 100, 101, 102, 103, 104, 105, 106, 107, 108, 115, 116, 117, 118, 121, 122, 123, 124, 127, 128, 129, 130, 133, 134, 135, 136, 139, 140, 141, 142] 0 6 6 (.nf (X := fun K => (((!(bif (bif (bif (bif (bif (bif (bif (decide (f.Issuer < (0 : Int))) then true else (decide ((6 : Int) ≤ f.Issuer))) then true else (decide (f.Number < (1 : Int)))) then true else (decide ((999 : Int) < f.Number))) then true else (decide (f.Version < (1 : Int)))) then true else (decide ((99 : Int) < f.Version))) then true else (decide (f.Person < (1 : Int)))) then true else (decide ((99 : Int) < f.Person)))) && true) = true → (ref12_Uses f.Kind).isSome = true) ∧ ((bif (bif (bif (bif (bif (bif (bif (bif (bif (decide (f.Issuer < (0 : Int))) then true else (decide ((6 : Int) ≤ f.Issuer))) then true else (decide (f.Number < (1 : Int)))) then true else (decide ((999 : Int) < f.Number))) then true else (decide (f.Version < (1 : Int)))) then true else (decide ((99 : Int) < f.Version))) then true else (decide (f.Person < (1 : Int)))) then true else (decide ((99 : Int) < f.Person))) then true else (((ref12_Uses f.Kind).getD (bstr [])).toList == (bstr []).toList)) then wK K .ret ({ tm := [sv 1 (.ptr 0 14 0 0), sv 2 (bl false), sv 3 (i64 f.Kind)], hp := [(0, some (.box [(i64 f.Issuer), (i64 f.Number), (i64 f.Version), (bl f.Withdrawn), (i64 f.Person), (i64 f.Kind), (i64 f.State), (i64 f.Span.From), (i64 f.Span.To), (i64 f.Seat), (i64 f.Share), (i64 f.Currency), (i64 f.Amount), (i64 f.Ref)]))], nx := 1 }) else (bif (bif (bif (decide (f.Span.From < (0 : Int))) then true else (decide (f.Span.To ≤ f.Span.From))) then true else (decide ((73049 : Int) < f.Span.To))) then wK K .ret ({ tm := [sv 1 (.ptr 0 14 0 0), sv 2 (bl false), sv 3 (i64 f.Kind)], hp := [(0, some (.box [(i64 f.Issuer), (i64 f.Number), (i64 f.Version), (bl f.Withdrawn), (i64 f.Person), (i64 f.Kind), (i64 f.State), (i64 f.Span.From), (i64 f.Span.To), (i64 f.Seat), (i64 f.Share), (i64 f.Currency), (i64 f.Amount), (i64 f.Ref)]))], nx := 1 }) else wK K .normal ({ tm := [sv 1 (.ptr 0 14 0 0), sv 2 (bl false), sv 3 (i64 f.Kind)], hp := [(0, some (.box [(i64 f.Issuer), (i64 f.Number), (i64 f.Version), (bl f.Withdrawn), (i64 f.Person), (i64 f.Kind), (i64 f.State), (i64 f.Span.From), (i64 f.Span.To), (i64 f.Seat), (i64 f.Share), (i64 f.Currency), (i64 f.Amount), (i64 f.Ref)]))], nx := 1 }))))) (fun K => by kernel_rfl) (W_gd h fun hp0 h => (W_bif h (fun _ h => ⟨(z78R false), (.cn [2]), h⟩) (fun _ h => (W_bif h (fun _ h => ⟨(z78R false), (.cn [2]), h⟩) (fun _ h => ⟨(z78p0S f), (.of (.q rfl (.q rfl .nil)) (.same rfl .nil) rfl), (z78p0ok f _ h)⟩))))))
noncomputable def ref12_Valid (f : GFact) : Option (Bool) := ref12_Valid_p1 f
theorem z78run (f : GFact) (y_ : Bool) (h : ref12_Valid f = some y_) : EvL Try.prog 144 (items (bodyOf Try.f78)) (retK Try.prog [.tmp 2] (OutOk (ref12_Valid_out y_))) (z78p1S f) :=
  z78p1ok f _ (W_iff.2 ⟨y_, h, z78Rok y_⟩)
noncomputable def ref12_Valid_C : Con
  | [(.agg [(.c (.lit (.int .i64 a1))), (.c (.lit (.int .i64 a2))), (.c (.lit (.int .i64 a3))), (.c (.lit (.bool a4))), (.c (.lit (.int .i64 a5))), (.c (.lit (.int .i64 a6))), (.c (.lit (.int .i64 a7))), (.c (.lit (.int .i64 a8))), (.c (.lit (.int .i64 a9))), (.c (.lit (.int .i64 a10))), (.c (.lit (.int .i64 a11))), (.c (.lit (.int .i64 a12))), (.c (.lit (.int .i64 a13))), (.c (.lit (.int .i64 a14)))])] => some ([(ref12_Valid (GFact.mk a1 a2 a3 a4 a5 a6 a7 (GSpan.mk a8 a9) a10 a11 a12 a13 a14)).isSome = true], (ref12_Valid_out ((ref12_Valid (GFact.mk a1 a2 a3 a4 a5 a6 a7 (GSpan.mk a8 a9) a10 a11 a12 a13 a14)).getD false)))
  | _ => none
theorem ref12_Valid_ok : Meets Try.prog 78 ref12_Valid_C := by
  refine meets_fun (fn := Try.f78) (c := bodyOf Try.f78) (by kernel_rfl) (by kernel_rfl) (by kernel_rfl) (rs := [.tmp 2]) (by kernel_rfl) (nt := 144) (by kernel_rfl) fun vs p out h hp => ?_
  unfold ref12_Valid_C at h
  split at h
  · next a1 a2 a3 a4 a5 a6 a7 a8 a9 a10 a11 a12 a13 a14 =>
    cases h
    obtain ⟨g, hp⟩ := allq hp
    obtain ⟨x, hx⟩ := Option.isSome_iff_exists.1 g
    rw [hx]
    exact ⟨[(.agg [(i64 (GFact.mk a1 a2 a3 a4 a5 a6 a7 (GSpan.mk a8 a9) a10 a11 a12 a13 a14).Issuer), (i64 (GFact.mk a1 a2 a3 a4 a5 a6 a7 (GSpan.mk a8 a9) a10 a11 a12 a13 a14).Number), (i64 (GFact.mk a1 a2 a3 a4 a5 a6 a7 (GSpan.mk a8 a9) a10 a11 a12 a13 a14).Version), (bl (GFact.mk a1 a2 a3 a4 a5 a6 a7 (GSpan.mk a8 a9) a10 a11 a12 a13 a14).Withdrawn), (i64 (GFact.mk a1 a2 a3 a4 a5 a6 a7 (GSpan.mk a8 a9) a10 a11 a12 a13 a14).Person), (i64 (GFact.mk a1 a2 a3 a4 a5 a6 a7 (GSpan.mk a8 a9) a10 a11 a12 a13 a14).Kind), (i64 (GFact.mk a1 a2 a3 a4 a5 a6 a7 (GSpan.mk a8 a9) a10 a11 a12 a13 a14).State), (i64 ((GFact.mk a1 a2 a3 a4 a5 a6 a7 (GSpan.mk a8 a9) a10 a11 a12 a13 a14).Span).From), (i64 ((GFact.mk a1 a2 a3 a4 a5 a6 a7 (GSpan.mk a8 a9) a10 a11 a12 a13 a14).Span).To), (i64 (GFact.mk a1 a2 a3 a4 a5 a6 a7 (GSpan.mk a8 a9) a10 a11 a12 a13 a14).Seat), (i64 (GFact.mk a1 a2 a3 a4 a5 a6 a7 (GSpan.mk a8 a9) a10 a11 a12 a13 a14).Share), (i64 (GFact.mk a1 a2 a3 a4 a5 a6 a7 (GSpan.mk a8 a9) a10 a11 a12 a13 a14).Currency), (i64 (GFact.mk a1 a2 a3 a4 a5 a6 a7 (GSpan.mk a8 a9) a10 a11 a12 a13 a14).Amount), (i64 (GFact.mk a1 a2 a3 a4 a5 a6 a7 (GSpan.mk a8 a9) a10 a11 a12 a13 a14).Ref)])], (VLes.cons (VLe.rfl' _) VLes.nil), rfl, z78run (GFact.mk a1 a2 a3 a4 a5 a6 a7 (GSpan.mk a8 a9) a10 a11 a12 a13 a14) x hx⟩
  · cases h

noncomputable def z26i0 : List Code := items (bodyOf Try.f26)
def z26R (x_1 : Int) : St := { tm := [sv 4 (i64 x_1)], hp := [], nx := 0 }
def ref16_Part_out (x_1 : Int) : Out := .data (i64 x_1)
theorem z26Rok (x_1 : Int) : retK Try.prog [.tmp 4] (OutOk (ref16_Part_out x_1)) .ret (z26R x_1) :=
  retK.intro (v := (i64 x_1)) (by kernel_rfl) ((VLe.rfl' _))
def z26p0S (f : GFact) (days : Int) : St := { tm := [sv 0 (.ag (eGFact f)), sv 1 (i64 days)], hp := [], nx := 0 }
noncomputable def ref16_Part_p0 (f : GFact) (days : Int) : Option (Int) := (ref12_Valid f).bind fun r_1 => ((bif (bif (bif (!r_1) then true else (decide (days < (0 : Int)))) then true else (decide ((w64 (f.Span.To - f.Span.From)) < days))) then (some (0 : Int)) else gd ((w64 (f.Span.To - f.Span.From)) ≠ (0 : Int)) ((some (w64 (Int.tdiv (w64 (f.Amount * days)) (w64 (f.Span.To - f.Span.From))))))))
theorem z26p0ok (f : GFact) (days : Int) (K : KT) (h : W (ref16_Part_p0 f days) (rE z26R K)) : EvL Try.prog 35 (List.drop 0 z26i0) K (z26p0S f days) :=
  EvL.pE mixed (lookC_ok (l := [(78, .pure ref12_Valid_C)]) ⟨ref12_Valid_ok, trivial⟩) [4] 0 5 (.nf (X := fun K => ((ref12_Valid f).isSome = true) ∧ ((bif (bif (bif (!((ref12_Valid f).getD false)) then true else (decide (days < (0 : Int)))) then true else (decide ((w64 (f.Span.To - f.Span.From)) < days))) then wK K .ret (z26R (0 : Int)) else ((w64 (f.Span.To - f.Span.From)) ≠ (0 : Int)) ∧ (wK K .ret (z26R (w64 (Int.tdiv (w64 (f.Amount * days)) (w64 (f.Span.To - f.Span.From))))))))) (fun K => by kernel_rfl) (W_bind false h fun hp0 h => (W_bif h (fun _ h => ⟨_, .refl _, h⟩) (fun _ h => (W_gd h fun hp1 h => ⟨_, .refl _, h⟩)))))
noncomputable def ref16_Part (f : GFact) (days : Int) : Option (Int) := ref16_Part_p0 f days
theorem z26run (f : GFact) (days : Int) (y_ : Int) (h : ref16_Part f days = some y_) : EvL Try.prog 35 (items (bodyOf Try.f26)) (retK Try.prog [.tmp 4] (OutOk (ref16_Part_out y_))) (z26p0S f days) :=
  z26p0ok f days _ (W_iff.2 ⟨y_, h, z26Rok y_⟩)
noncomputable def ref16_Part_C : Con
  | [(.agg [(.c (.lit (.int .i64 a1))), (.c (.lit (.int .i64 a2))), (.c (.lit (.int .i64 a3))), (.c (.lit (.bool a4))), (.c (.lit (.int .i64 a5))), (.c (.lit (.int .i64 a6))), (.c (.lit (.int .i64 a7))), (.c (.lit (.int .i64 a8))), (.c (.lit (.int .i64 a9))), (.c (.lit (.int .i64 a10))), (.c (.lit (.int .i64 a11))), (.c (.lit (.int .i64 a12))), (.c (.lit (.int .i64 a13))), (.c (.lit (.int .i64 a14)))]), (.c (.lit (.int .i64 a15)))] => some ([(ref16_Part (GFact.mk a1 a2 a3 a4 a5 a6 a7 (GSpan.mk a8 a9) a10 a11 a12 a13 a14) a15).isSome = true], (ref16_Part_out ((ref16_Part (GFact.mk a1 a2 a3 a4 a5 a6 a7 (GSpan.mk a8 a9) a10 a11 a12 a13 a14) a15).getD (0 : Int))))
  | _ => none
theorem ref16_Part_ok : Meets Try.prog 26 ref16_Part_C := by
  refine meets_fun (fn := Try.f26) (c := bodyOf Try.f26) (by kernel_rfl) (by kernel_rfl) (by kernel_rfl) (rs := [.tmp 4]) (by kernel_rfl) (nt := 35) (by kernel_rfl) fun vs p out h hp => ?_
  unfold ref16_Part_C at h
  split at h
  · next a1 a2 a3 a4 a5 a6 a7 a8 a9 a10 a11 a12 a13 a14 a15 =>
    cases h
    obtain ⟨g, hp⟩ := allq hp
    obtain ⟨x, hx⟩ := Option.isSome_iff_exists.1 g
    rw [hx]
    exact ⟨[(.agg [(i64 (GFact.mk a1 a2 a3 a4 a5 a6 a7 (GSpan.mk a8 a9) a10 a11 a12 a13 a14).Issuer), (i64 (GFact.mk a1 a2 a3 a4 a5 a6 a7 (GSpan.mk a8 a9) a10 a11 a12 a13 a14).Number), (i64 (GFact.mk a1 a2 a3 a4 a5 a6 a7 (GSpan.mk a8 a9) a10 a11 a12 a13 a14).Version), (bl (GFact.mk a1 a2 a3 a4 a5 a6 a7 (GSpan.mk a8 a9) a10 a11 a12 a13 a14).Withdrawn), (i64 (GFact.mk a1 a2 a3 a4 a5 a6 a7 (GSpan.mk a8 a9) a10 a11 a12 a13 a14).Person), (i64 (GFact.mk a1 a2 a3 a4 a5 a6 a7 (GSpan.mk a8 a9) a10 a11 a12 a13 a14).Kind), (i64 (GFact.mk a1 a2 a3 a4 a5 a6 a7 (GSpan.mk a8 a9) a10 a11 a12 a13 a14).State), (i64 ((GFact.mk a1 a2 a3 a4 a5 a6 a7 (GSpan.mk a8 a9) a10 a11 a12 a13 a14).Span).From), (i64 ((GFact.mk a1 a2 a3 a4 a5 a6 a7 (GSpan.mk a8 a9) a10 a11 a12 a13 a14).Span).To), (i64 (GFact.mk a1 a2 a3 a4 a5 a6 a7 (GSpan.mk a8 a9) a10 a11 a12 a13 a14).Seat), (i64 (GFact.mk a1 a2 a3 a4 a5 a6 a7 (GSpan.mk a8 a9) a10 a11 a12 a13 a14).Share), (i64 (GFact.mk a1 a2 a3 a4 a5 a6 a7 (GSpan.mk a8 a9) a10 a11 a12 a13 a14).Currency), (i64 (GFact.mk a1 a2 a3 a4 a5 a6 a7 (GSpan.mk a8 a9) a10 a11 a12 a13 a14).Amount), (i64 (GFact.mk a1 a2 a3 a4 a5 a6 a7 (GSpan.mk a8 a9) a10 a11 a12 a13 a14).Ref)]), (i64 a15)], (VLes.cons (VLe.rfl' _) (VLes.cons (VLe.rfl' _) VLes.nil)), rfl, z26run (GFact.mk a1 a2 a3 a4 a5 a6 a7 (GSpan.mk a8 a9) a10 a11 a12 a13 a14) a15 x hx⟩
  · cases h

noncomputable def z3i0 : List Code := items (bodyOf Try.f3)
def z3R (x_1 : Bool) : St := { tm := [sv 6 (bl x_1)], hp := [], nx := 0 }
def law19_EarningsParts_out (x_1 : Bool) : Out := .data (bl x_1)
theorem z3Rok (x_1 : Bool) : retK Try.prog [.tmp 6] (OutOk (law19_EarningsParts_out x_1)) .ret (z3R x_1) :=
  retK.intro (v := (bl x_1)) (by kernel_rfl) ((VLe.rfl' _))
def z3p0S (days_1 : Int) (f : GFact) : St := { tm := [sv 1 (i64 days_1), sv 7 (.ptr 0 14 0 0)], hp := [(0, some (.box [(i64 f.Issuer), (i64 f.Number), (i64 f.Version), (bl f.Withdrawn), (i64 f.Person), (i64 f.Kind), (i64 f.State), (i64 f.Span.From), (i64 f.Span.To), (i64 f.Seat), (i64 f.Share), (i64 f.Currency), (i64 f.Amount), (i64 f.Ref)]))], nx := 1 }
noncomputable def law19_EarningsParts_p0 (days_1 : Int) (f : GFact) : Option (Bool) := (earnings_Part f days_1).bind fun r_4 => ((law19_awake).bind fun r_5 => (gd ((r_5 && true) = true → (ref16_Part f days_1).isSome = true) ((some (bif (bif (bif r_5 then (r_4 == ((ref16_Part f days_1).getD (0 : Int))) else false) then (decide ((0 : Int) ≤ r_4)) else false) then (decide (r_4 ≤ f.Amount)) else false)))))
theorem z3p0ok (days_1 : Int) (f : GFact) (K : KT) (h : W (law19_EarningsParts_p0 days_1 f) (rE z3R K)) : EvL Try.prog 45 (List.drop 4 z3i0) K (z3p0S days_1 f) :=
  EvL.pE mixed (lookC_ok (l := [(24, .pure earnings_Part_C), (25, .pure law19_awake_C), (26, .pure ref16_Part_C)]) ⟨earnings_Part_ok, law19_awake_ok, ref16_Part_ok, trivial⟩) [6] 4 3 (.nf (X := fun K => ((earnings_Part f days_1).isSome = true) ∧ (((law19_awake).isSome = true) ∧ ((((law19_awake).getD false) && true) = true → (ref16_Part f days_1).isSome = true) ∧ (wK K .ret (z3R (bif (bif (bif ((law19_awake).getD false) then (((earnings_Part f days_1).getD (0 : Int)) == ((ref16_Part f days_1).getD (0 : Int))) else false) then (decide ((0 : Int) ≤ ((earnings_Part f days_1).getD (0 : Int)))) else false) then (decide (((earnings_Part f days_1).getD (0 : Int)) ≤ f.Amount)) else false))))) (fun K => by kernel_rfl) (W_bind (0 : Int) h fun hp0 h => (W_bind false h fun hp1 h => (W_gd h fun hp2 h => ⟨_, .refl _, h⟩))))
def z3p1S (r_1 : GPensionhand_Fact) (days : Int) (raw : Bool) : St := { tm := [sv 0 (.ag (eGPensionhand_Fact r_1)), sv 1 (i64 days), sv 2 (bl raw)], hp := [], nx := 0 }
noncomputable def law19_EarningsParts_p1 (r_1 : GPensionhand_Fact) (days : Int) (raw : Bool) : Option (Bool) := (hand_Make r_1).bind fun r_2 => ((bif (!raw) then (made_Pick days (w64 ((w64 (r_2.Span.To - r_2.Span.From)) + (3 : Int)))).bind fun r_3 => ((law19_EarningsParts_p0 (w64 (r_3 - (1 : Int))) r_2)) else (law19_EarningsParts_p0 days r_2)))
theorem z3p1ok (r_1 : GPensionhand_Fact) (days : Int) (raw : Bool) (K : KT) (h : W (law19_EarningsParts_p1 r_1 days raw) (rE z3R K)) : EvL Try.prog 45 (List.drop 0 z3i0) K (z3p1S r_1 days raw) :=
  EvL.pD mixed (lookC_ok (l := [(22, .pure hand_Make_C), (23, .pure made_Pick_C)]) ⟨hand_Make_ok, made_Pick_ok, trivial⟩) [1, 7, 29, 30, 31, 32, 33, 36, 37, 40, 41, 42, 43] 0 4 4 (.nf (X := fun K => ((hand_Make r_1).isSome = true) ∧ ((bif (!raw) then ((made_Pick days (w64 ((w64 ((((hand_Make r_1).getD zGFact).Span).To - (((hand_Make r_1).getD zGFact).Span).From)) + (3 : Int)))).isSome = true) ∧ (wK K .normal (z3p0S (w64 (((made_Pick days (w64 ((w64 ((((hand_Make r_1).getD zGFact).Span).To - (((hand_Make r_1).getD zGFact).Span).From)) + (3 : Int)))).getD (0 : Int)) - (1 : Int))) ((hand_Make r_1).getD zGFact))) else wK K .normal (z3p0S days ((hand_Make r_1).getD zGFact))))) (fun K => by kernel_rfl) (W_bind zGFact h fun hp0 h => (W_bif h (fun _ h => (W_bind (0 : Int) h fun hp1 h => ⟨_, .refl _, (z3p0ok (w64 (((made_Pick days (w64 ((w64 ((((hand_Make r_1).getD zGFact).Span).To - (((hand_Make r_1).getD zGFact).Span).From)) + (3 : Int)))).getD (0 : Int)) - (1 : Int))) ((hand_Make r_1).getD zGFact) _ h)⟩)) (fun _ h => ⟨_, .refl _, (z3p0ok days ((hand_Make r_1).getD zGFact) _ h)⟩))))
noncomputable def law19_EarningsParts (r_1 : GPensionhand_Fact) (days : Int) (raw : Bool) : Option (Bool) := law19_EarningsParts_p1 r_1 days raw
theorem z3run (r_1 : GPensionhand_Fact) (days : Int) (raw : Bool) (y_ : Bool) (h : law19_EarningsParts r_1 days raw = some y_) : EvL Try.prog 45 (items (bodyOf Try.f3)) (retK Try.prog [.tmp 6] (OutOk (law19_EarningsParts_out y_))) (z3p1S r_1 days raw) :=
  z3p1ok r_1 days raw _ (W_iff.2 ⟨y_, h, z3Rok y_⟩)
noncomputable def law19_EarningsParts_C : Con
  | [(.agg [(.c (.lit (.int .i64 a1))), (.c (.lit (.int .i64 a2))), (.c (.lit (.int .i64 a3))), (.c (.lit (.bool a4))), (.c (.lit (.int .i64 a5))), (.c (.lit (.int .i64 a6))), (.c (.lit (.int .i64 a7))), (.c (.lit (.int .i64 a8))), (.c (.lit (.int .i64 a9))), (.c (.lit (.int .i64 a10))), (.c (.lit (.int .i64 a11))), (.c (.lit (.int .i64 a12))), (.c (.lit (.int .i64 a13)))]), (.c (.lit (.int .i64 a14))), (.c (.lit (.bool a15)))] => some ([(law19_EarningsParts (GPensionhand_Fact.mk a1 a2 a3 a4 a5 a6 a7 a8 a9 a10 a11 a12 a13) a14 a15).isSome = true], (law19_EarningsParts_out ((law19_EarningsParts (GPensionhand_Fact.mk a1 a2 a3 a4 a5 a6 a7 a8 a9 a10 a11 a12 a13) a14 a15).getD false)))
  | _ => none
theorem law19_EarningsParts_ok : Meets Try.prog 3 law19_EarningsParts_C := by
  refine meets_fun (fn := Try.f3) (c := bodyOf Try.f3) (by kernel_rfl) (by kernel_rfl) (by kernel_rfl) (rs := [.tmp 6]) (by kernel_rfl) (nt := 45) (by kernel_rfl) fun vs p out h hp => ?_
  unfold law19_EarningsParts_C at h
  split at h
  · next a1 a2 a3 a4 a5 a6 a7 a8 a9 a10 a11 a12 a13 a14 a15 =>
    cases h
    obtain ⟨g, hp⟩ := allq hp
    obtain ⟨x, hx⟩ := Option.isSome_iff_exists.1 g
    rw [hx]
    exact ⟨[(.agg [(i64 (GPensionhand_Fact.mk a1 a2 a3 a4 a5 a6 a7 a8 a9 a10 a11 a12 a13).Issuer), (i64 (GPensionhand_Fact.mk a1 a2 a3 a4 a5 a6 a7 a8 a9 a10 a11 a12 a13).Number), (i64 (GPensionhand_Fact.mk a1 a2 a3 a4 a5 a6 a7 a8 a9 a10 a11 a12 a13).Version), (bl (GPensionhand_Fact.mk a1 a2 a3 a4 a5 a6 a7 a8 a9 a10 a11 a12 a13).Withdrawn), (i64 (GPensionhand_Fact.mk a1 a2 a3 a4 a5 a6 a7 a8 a9 a10 a11 a12 a13).Person), (i64 (GPensionhand_Fact.mk a1 a2 a3 a4 a5 a6 a7 a8 a9 a10 a11 a12 a13).Kind), (i64 (GPensionhand_Fact.mk a1 a2 a3 a4 a5 a6 a7 a8 a9 a10 a11 a12 a13).State), (i64 (GPensionhand_Fact.mk a1 a2 a3 a4 a5 a6 a7 a8 a9 a10 a11 a12 a13).Seat), (i64 (GPensionhand_Fact.mk a1 a2 a3 a4 a5 a6 a7 a8 a9 a10 a11 a12 a13).From), (i64 (GPensionhand_Fact.mk a1 a2 a3 a4 a5 a6 a7 a8 a9 a10 a11 a12 a13).Length), (i64 (GPensionhand_Fact.mk a1 a2 a3 a4 a5 a6 a7 a8 a9 a10 a11 a12 a13).Share), (i64 (GPensionhand_Fact.mk a1 a2 a3 a4 a5 a6 a7 a8 a9 a10 a11 a12 a13).Amount), (i64 (GPensionhand_Fact.mk a1 a2 a3 a4 a5 a6 a7 a8 a9 a10 a11 a12 a13).Ref)]), (i64 a14), (bl a15)], (VLes.cons (VLe.rfl' _) (VLes.cons (VLe.rfl' _) (VLes.cons (VLe.rfl' _) VLes.nil))), rfl, z3run (GPensionhand_Fact.mk a1 a2 a3 a4 a5 a6 a7 a8 a9 a10 a11 a12 a13) a14 a15 x hx⟩
  · cases h

noncomputable def z4i0 : List Code := items (bodyOf Try.f4)
def z4R (x_1 : Bool) : St := { tm := [sv 4 (bl x_1)], hp := [], nx := 0 }
def law19_EarningsSplit_out (x_1 : Bool) : Out := .data (bl x_1)
theorem z4Rok (x_1 : Bool) : retK Try.prog [.tmp 4] (OutOk (law19_EarningsSplit_out x_1)) .ret (z4R x_1) :=
  retK.intro (v := (bl x_1)) (by kernel_rfl) ((VLe.rfl' _))
def z4p0S (r_1 : GPensionhand_Fact) (cut : Int) : St := { tm := [sv 0 (.ag (eGPensionhand_Fact r_1)), sv 1 (i64 cut)], hp := [], nx := 0 }
noncomputable def law19_EarningsSplit_p0 (r_1 : GPensionhand_Fact) (cut : Int) : Option (Bool) := (hand_Make r_1).bind fun r_2 => ((made_Pick cut (w64 ((w64 (r_2.Span.To - r_2.Span.From)) + (1 : Int)))).bind fun r_3 => ((earnings_Part r_2 r_3).bind fun r_4 => ((earnings_Part r_2 (w64 ((w64 (r_2.Span.To - r_2.Span.From)) - r_3))).bind fun r_5 => ((earnings_Part r_2 (w64 (r_2.Span.To - r_2.Span.From))).bind fun r_6 => ((law19_awake).bind fun r_7 => ((some (bif (bif (bif r_7 then (r_6 == r_2.Amount) else false) then (decide ((w64 (r_4 + r_5)) ≤ r_6)) else false) then (decide ((w64 ((w64 (r_6 - r_4)) - r_5)) ≤ (1 : Int))) else false))))))))
theorem z4p0ok (r_1 : GPensionhand_Fact) (cut : Int) (K : KT) (h : W (law19_EarningsSplit_p0 r_1 cut) (rE z4R K)) : EvL Try.prog 57 (List.drop 0 z4i0) K (z4p0S r_1 cut) :=
  EvL.pE mixed (lookC_ok (l := [(22, .pure hand_Make_C), (23, .pure made_Pick_C), (24, .pure earnings_Part_C), (25, .pure law19_awake_C)]) ⟨hand_Make_ok, made_Pick_ok, earnings_Part_ok, law19_awake_ok, trivial⟩) [4] 0 8 (.nf (X := fun K => ((hand_Make r_1).isSome = true) ∧ (((made_Pick cut (w64 ((w64 ((((hand_Make r_1).getD zGFact).Span).To - (((hand_Make r_1).getD zGFact).Span).From)) + (1 : Int)))).isSome = true) ∧ (((earnings_Part ((hand_Make r_1).getD zGFact) ((made_Pick cut (w64 ((w64 ((((hand_Make r_1).getD zGFact).Span).To - (((hand_Make r_1).getD zGFact).Span).From)) + (1 : Int)))).getD (0 : Int))).isSome = true) ∧ ((earnings_Part ((hand_Make r_1).getD zGFact) (w64 ((w64 ((((hand_Make r_1).getD zGFact).Span).To - (((hand_Make r_1).getD zGFact).Span).From)) - ((made_Pick cut (w64 ((w64 ((((hand_Make r_1).getD zGFact).Span).To - (((hand_Make r_1).getD zGFact).Span).From)) + (1 : Int)))).getD (0 : Int))))).isSome = true) ∧ (((earnings_Part ((hand_Make r_1).getD zGFact) (w64 ((((hand_Make r_1).getD zGFact).Span).To - (((hand_Make r_1).getD zGFact).Span).From))).isSome = true) ∧ (((law19_awake).isSome = true) ∧ (wK K .ret (z4R (bif (bif (bif ((law19_awake).getD false) then (((earnings_Part ((hand_Make r_1).getD zGFact) (w64 ((((hand_Make r_1).getD zGFact).Span).To - (((hand_Make r_1).getD zGFact).Span).From))).getD (0 : Int)) == ((hand_Make r_1).getD zGFact).Amount) else false) then (decide ((w64 (((earnings_Part ((hand_Make r_1).getD zGFact) ((made_Pick cut (w64 ((w64 ((((hand_Make r_1).getD zGFact).Span).To - (((hand_Make r_1).getD zGFact).Span).From)) + (1 : Int)))).getD (0 : Int))).getD (0 : Int)) + ((earnings_Part ((hand_Make r_1).getD zGFact) (w64 ((w64 ((((hand_Make r_1).getD zGFact).Span).To - (((hand_Make r_1).getD zGFact).Span).From)) - ((made_Pick cut (w64 ((w64 ((((hand_Make r_1).getD zGFact).Span).To - (((hand_Make r_1).getD zGFact).Span).From)) + (1 : Int)))).getD (0 : Int))))).getD (0 : Int)))) ≤ ((earnings_Part ((hand_Make r_1).getD zGFact) (w64 ((((hand_Make r_1).getD zGFact).Span).To - (((hand_Make r_1).getD zGFact).Span).From))).getD (0 : Int)))) else false) then (decide ((w64 ((w64 (((earnings_Part ((hand_Make r_1).getD zGFact) (w64 ((((hand_Make r_1).getD zGFact).Span).To - (((hand_Make r_1).getD zGFact).Span).From))).getD (0 : Int)) - ((earnings_Part ((hand_Make r_1).getD zGFact) ((made_Pick cut (w64 ((w64 ((((hand_Make r_1).getD zGFact).Span).To - (((hand_Make r_1).getD zGFact).Span).From)) + (1 : Int)))).getD (0 : Int))).getD (0 : Int)))) - ((earnings_Part ((hand_Make r_1).getD zGFact) (w64 ((w64 ((((hand_Make r_1).getD zGFact).Span).To - (((hand_Make r_1).getD zGFact).Span).From)) - ((made_Pick cut (w64 ((w64 ((((hand_Make r_1).getD zGFact).Span).To - (((hand_Make r_1).getD zGFact).Span).From)) + (1 : Int)))).getD (0 : Int))))).getD (0 : Int)))) ≤ (1 : Int))) else false)))))))) (fun K => by kernel_rfl) (W_bind zGFact h fun hp0 h => (W_bind (0 : Int) h fun hp1 h => (W_bind (0 : Int) h fun hp2 h => (W_bind (0 : Int) h fun hp3 h => (W_bind (0 : Int) h fun hp4 h => (W_bind false h fun hp5 h => ⟨_, .refl _, h⟩)))))))
noncomputable def law19_EarningsSplit (r_1 : GPensionhand_Fact) (cut : Int) : Option (Bool) := law19_EarningsSplit_p0 r_1 cut
theorem z4run (r_1 : GPensionhand_Fact) (cut : Int) (y_ : Bool) (h : law19_EarningsSplit r_1 cut = some y_) : EvL Try.prog 57 (items (bodyOf Try.f4)) (retK Try.prog [.tmp 4] (OutOk (law19_EarningsSplit_out y_))) (z4p0S r_1 cut) :=
  z4p0ok r_1 cut _ (W_iff.2 ⟨y_, h, z4Rok y_⟩)
noncomputable def law19_EarningsSplit_C : Con
  | [(.agg [(.c (.lit (.int .i64 a1))), (.c (.lit (.int .i64 a2))), (.c (.lit (.int .i64 a3))), (.c (.lit (.bool a4))), (.c (.lit (.int .i64 a5))), (.c (.lit (.int .i64 a6))), (.c (.lit (.int .i64 a7))), (.c (.lit (.int .i64 a8))), (.c (.lit (.int .i64 a9))), (.c (.lit (.int .i64 a10))), (.c (.lit (.int .i64 a11))), (.c (.lit (.int .i64 a12))), (.c (.lit (.int .i64 a13)))]), (.c (.lit (.int .i64 a14)))] => some ([(law19_EarningsSplit (GPensionhand_Fact.mk a1 a2 a3 a4 a5 a6 a7 a8 a9 a10 a11 a12 a13) a14).isSome = true], (law19_EarningsSplit_out ((law19_EarningsSplit (GPensionhand_Fact.mk a1 a2 a3 a4 a5 a6 a7 a8 a9 a10 a11 a12 a13) a14).getD false)))
  | _ => none
theorem law19_EarningsSplit_ok : Meets Try.prog 4 law19_EarningsSplit_C := by
  refine meets_fun (fn := Try.f4) (c := bodyOf Try.f4) (by kernel_rfl) (by kernel_rfl) (by kernel_rfl) (rs := [.tmp 4]) (by kernel_rfl) (nt := 57) (by kernel_rfl) fun vs p out h hp => ?_
  unfold law19_EarningsSplit_C at h
  split at h
  · next a1 a2 a3 a4 a5 a6 a7 a8 a9 a10 a11 a12 a13 a14 =>
    cases h
    obtain ⟨g, hp⟩ := allq hp
    obtain ⟨x, hx⟩ := Option.isSome_iff_exists.1 g
    rw [hx]
    exact ⟨[(.agg [(i64 (GPensionhand_Fact.mk a1 a2 a3 a4 a5 a6 a7 a8 a9 a10 a11 a12 a13).Issuer), (i64 (GPensionhand_Fact.mk a1 a2 a3 a4 a5 a6 a7 a8 a9 a10 a11 a12 a13).Number), (i64 (GPensionhand_Fact.mk a1 a2 a3 a4 a5 a6 a7 a8 a9 a10 a11 a12 a13).Version), (bl (GPensionhand_Fact.mk a1 a2 a3 a4 a5 a6 a7 a8 a9 a10 a11 a12 a13).Withdrawn), (i64 (GPensionhand_Fact.mk a1 a2 a3 a4 a5 a6 a7 a8 a9 a10 a11 a12 a13).Person), (i64 (GPensionhand_Fact.mk a1 a2 a3 a4 a5 a6 a7 a8 a9 a10 a11 a12 a13).Kind), (i64 (GPensionhand_Fact.mk a1 a2 a3 a4 a5 a6 a7 a8 a9 a10 a11 a12 a13).State), (i64 (GPensionhand_Fact.mk a1 a2 a3 a4 a5 a6 a7 a8 a9 a10 a11 a12 a13).Seat), (i64 (GPensionhand_Fact.mk a1 a2 a3 a4 a5 a6 a7 a8 a9 a10 a11 a12 a13).From), (i64 (GPensionhand_Fact.mk a1 a2 a3 a4 a5 a6 a7 a8 a9 a10 a11 a12 a13).Length), (i64 (GPensionhand_Fact.mk a1 a2 a3 a4 a5 a6 a7 a8 a9 a10 a11 a12 a13).Share), (i64 (GPensionhand_Fact.mk a1 a2 a3 a4 a5 a6 a7 a8 a9 a10 a11 a12 a13).Amount), (i64 (GPensionhand_Fact.mk a1 a2 a3 a4 a5 a6 a7 a8 a9 a10 a11 a12 a13).Ref)]), (i64 a14)], (VLes.cons (VLe.rfl' _) (VLes.cons (VLe.rfl' _) VLes.nil)), rfl, z4run (GPensionhand_Fact.mk a1 a2 a3 a4 a5 a6 a7 a8 a9 a10 a11 a12 a13) a14 x hx⟩
  · cases h

noncomputable def z132i0 : List Code := items (bodyOf Try.f132)
def z132R (x_2 : Int) : St := { tm := [sv 2 (.c (.lit (.int .u64 x_2)))], hp := [], nx := 0 }
def rational_size_out (x_2 : Int) : Out := .data (.c (.lit (.int .u64 x_2)))
theorem z132Rok (x_2 : Int) : retK Try.prog [.tmp 2] (OutOk (rational_size_out x_2)) .ret (z132R x_2) :=
  retK.intro (v := (.c (.lit (.int .u64 x_2)))) (by kernel_rfl) ((VLe.rfl' _))
def z132p0S (x_1 : Int) : St := { tm := [sv 0 (i64 x_1)], hp := [], nx := 0 }
noncomputable def rational_size_p0 (x_1 : Int) : Option (Int) := (bif (decide (x_1 < (0 : Int))) then (some (IntKind.u64.wrap ((0 : Int) - (IntKind.u64.wrap x_1)))) else (some (IntKind.u64.wrap x_1)))
theorem z132p0ok (x_1 : Int) (K : KT) (h : W (rational_size_p0 x_1) (rE z132R K)) : EvL Try.prog 10 (List.drop 0 z132i0) K (z132p0S x_1) :=
  EvL.pE mixed (lookC_ok (l := []) trivial) [2] 0 5 (.nf (X := fun K => (bif (decide (x_1 < (0 : Int))) then wK K .ret (z132R (IntKind.u64.wrap ((0 : Int) - (IntKind.u64.wrap x_1)))) else wK K .ret (z132R (IntKind.u64.wrap x_1)))) (fun K => by kernel_rfl) (W_bif h (fun _ h => ⟨_, .refl _, h⟩) (fun _ h => ⟨_, .refl _, h⟩)))
noncomputable def rational_size (x_1 : Int) : Option (Int) := rational_size_p0 x_1
theorem z132run (x_1 : Int) (y_ : Int) (h : rational_size x_1 = some y_) : EvL Try.prog 10 (items (bodyOf Try.f132)) (retK Try.prog [.tmp 2] (OutOk (rational_size_out y_))) (z132p0S x_1) :=
  z132p0ok x_1 _ (W_iff.2 ⟨y_, h, z132Rok y_⟩)
noncomputable def rational_size_C : Con
  | [(.c (.lit (.int .i64 a1)))] => some ([(rational_size a1).isSome = true], (rational_size_out ((rational_size a1).getD (0 : Int))))
  | _ => none
theorem rational_size_ok : Meets Try.prog 132 rational_size_C := by
  refine meets_fun (fn := Try.f132) (c := bodyOf Try.f132) (by kernel_rfl) (by kernel_rfl) (by kernel_rfl) (rs := [.tmp 2]) (by kernel_rfl) (nt := 10) (by kernel_rfl) fun vs p out h hp => ?_
  unfold rational_size_C at h
  split at h
  · next a1 =>
    cases h
    obtain ⟨g, hp⟩ := allq hp
    obtain ⟨x, hx⟩ := Option.isSome_iff_exists.1 g
    rw [hx]
    exact ⟨[(i64 a1)], (VLes.cons (VLe.rfl' _) VLes.nil), rfl, z132run a1 x hx⟩
  · cases h

noncomputable def z133i0 : List Code := items (bodyOf Try.f133)
noncomputable def z133i1 : List Code := items (inside (inside (nthI z133i0 1)))
def z133R (x_1 : Int) : St := { tm := [sv 4 (.c (.lit (.int .u64 x_1)))], hp := [], nx := 0 }
def rational_gcd_out (x_1 : Int) : Out := .data (.c (.lit (.int .u64 x_1)))
theorem z133Rok (x_1 : Int) : retK Try.prog [.tmp 4] (OutOk (rational_gcd_out x_1)) .ret (z133R x_1) :=
  retK.intro (v := (.c (.lit (.int .u64 x_1)))) (by kernel_rfl) ((VLe.rfl' _))
def z133l1S (a b : Int) (s : (Int × Int)) : St := match s with | (a_1, b_1) => { tm := [sv 0 (.c (.lit (.int .u64 a_1))), sv 1 (.c (.lit (.int .u64 b_1)))], hp := [], nx := 0 }
def z133l1C0 (a b : Int) (s : Int) : St := match s with | a_2 => { tm := [sv 0 (.c (.lit (.int .u64 a_2)))], hp := [], nx := 0 }
def z133l1E (a b : Int) (r : ((Int))) (K : KT) : Prop := match r with | s => K (.exit 0) (z133l1C0 a b s)
def z133p0S (a_1 b_1 : Int) : St := { tm := [sv 0 (.c (.lit (.int .u64 a_1))), sv 1 (.c (.lit (.int .u64 b_1)))], hp := [], nx := 0 }
noncomputable def rational_gcd_p0 (a_1 b_1 : Int) : Option ((Int × Int) ⊕ ((Int))) := (bif (b_1 != (0 : Int)) then gd (b_1 ≠ (0 : Int)) ((some (Sum.inl (b_1, (Int.tmod a_1 b_1))))) else (some (Sum.inr a_1)))
theorem z133p0ok (a_1 b_1 a b : Int) (K : KT) (h : W (rational_gcd_p0 a_1 b_1) (nE (z133l1S a b) (z133l1E a b) K)) : EvL Try.prog 12 (List.drop 0 z133i1) K (z133p0S a_1 b_1) :=
  EvL.pE mixed (lookC_ok (l := []) trivial) [0, 1] 0 3 (.nf (X := fun K => (bif (b_1 != (0 : Int)) then (b_1 ≠ (0 : Int)) ∧ (wK K .normal (z133l1S a b (b_1, (Int.tmod a_1 b_1)))) else wK K (.exit 0) ({ tm := [sv 0 (.c (.lit (.int .u64 a_1))), sv 1 (.c (.lit (.int .u64 b_1)))], hp := [], nx := 0 }))) (fun K => by kernel_rfl) (W_bif h (fun _ h => (W_gd h fun hp0 h => ⟨_, .refl _, h⟩)) (fun _ h => ⟨(z133l1C0 a b a_1), (.of (.q rfl .nil) .nil rfl), h⟩)))
noncomputable def rational_gcd_l1 (a b : Int) (s : (Int × Int)) : Option ((Int × Int) ⊕ ((Int))) := match s with | (a_1, b_1) => rational_gcd_p0 a_1 b_1
theorem z133l1ok (a b : Int) (s : (Int × Int)) : Pp Try.prog 12 (List.drop 0 z133i1) (z133l1S a b s) (rational_gcd_l1 a b s) (nextE (z133l1S a b) (z133l1E a b)) := fun K h => match s, h with | (a_1, b_1), h => (z133p0ok a_1 b_1 a b _ h)
theorem z133l1Ethen (a b : Int) : ∀ (r : ((Int))) (J : St → Prop) (K : KT), z133l1E a b r K → z133l1E a b r (thenK J K)
  | s, _, _, h => h
def z133p1S (a_3 : Int) : St := { tm := [sv 0 (.c (.lit (.int .u64 a_3)))], hp := [], nx := 0 }
noncomputable def rational_gcd_p1 (a_3 : Int) : Option (Int) := (some a_3)
theorem z133p1ok (a_3 : Int) (K : KT) (h : W (rational_gcd_p1 a_3) (rE z133R K)) : EvL Try.prog 12 (List.drop 2 z133i0) K (z133p1S a_3) :=
  EvL.pE mixed (lookC_ok (l := []) trivial) [4] 2 2 (.nf (X := fun K => wK K .ret (z133R a_3)) (fun K => by kernel_rfl) (⟨_, .refl _, h⟩))
def z133p2S (a b : Int) : St := { tm := [sv 0 (.c (.lit (.int .u64 a))), sv 1 (.c (.lit (.int .u64 b)))], hp := [], nx := 0 }
noncomputable def rational_gcd_p2_g (a b : Int) (r : ((Int))) : Option (Int) := match r with | a_2 => (rational_gcd_p1 a_2)
noncomputable def rational_gcd_p2 (a b : Int) : Option (Int) := (fixL (rational_gcd_l1 a b) (a, b)).bind (rational_gcd_p2_g a b)
theorem z133p2at : List.drop 1 z133i0 = .block 0 (.loop (inside (inside (nthI z133i0 1)))) :: List.drop 2 z133i0 := by kernel_rfl
theorem z133p2k (a b : Int) (K : KT) : ∀ r : ((Int)), W (rational_gcd_p2_g a b r) (rE z133R K) → z133l1E a b r (wK (blockK 0 (thenK (EvL Try.prog 12 (List.drop 2 z133i0) K) K)))
  | a_2, h => ⟨(z133p1S a_2), (.refl _), (z133p1ok a_2 _ h)⟩
theorem z133p2ok (a b : Int) (K : KT) (h : W (rational_gcd_p2 a b) (rE z133R K)) : EvL Try.prog 12 (List.drop 1 z133i0) K (z133p2S a b) :=
  EvL.at_ z133p2at (EvL.cons_loop (EvOk.weak (EvOk.ent (.refl _) (EvOk.loopF (x := inside (inside (nthI z133i0 1))) (f := rational_gcd_l1 a b) (emb := z133l1S a b) (E := z133l1E a b) (z133l1ok a b) (z133l1Ethen a b) (W_loop h (z133p2k a b K))))))
def z133p3S (a b : Int) : St := { tm := [sv 0 (.c (.lit (.int .u64 a))), sv 1 (.c (.lit (.int .u64 b)))], hp := [], nx := 0 }
noncomputable def rational_gcd_p3 (a b : Int) : Option (Int) := (rational_gcd_p2 a b)
theorem z133p3ok (a b : Int) (K : KT) (h : W (rational_gcd_p3 a b) (rE z133R K)) : EvL Try.prog 12 (List.drop 0 z133i0) K (z133p3S a b) :=
  EvL.pD mixed (lookC_ok (l := []) trivial) [0, 1] 0 1 1 (.nf (X := fun K => wK K .normal (z133p2S a b)) (fun K => by kernel_rfl) (⟨_, .refl _, (z133p2ok a b _ h)⟩))
noncomputable def rational_gcd (a b : Int) : Option (Int) := rational_gcd_p3 a b
theorem z133run (a b : Int) (y_ : Int) (h : rational_gcd a b = some y_) : EvL Try.prog 12 (items (bodyOf Try.f133)) (retK Try.prog [.tmp 4] (OutOk (rational_gcd_out y_))) (z133p3S a b) :=
  z133p3ok a b _ (W_iff.2 ⟨y_, h, z133Rok y_⟩)
noncomputable def rational_gcd_C : Con
  | [(.c (.lit (.int .u64 a1))), (.c (.lit (.int .u64 a2)))] => some ([(rational_gcd a1 a2).isSome = true], (rational_gcd_out ((rational_gcd a1 a2).getD (0 : Int))))
  | _ => none
theorem rational_gcd_ok : Meets Try.prog 133 rational_gcd_C := by
  refine meets_fun (fn := Try.f133) (c := bodyOf Try.f133) (by kernel_rfl) (by kernel_rfl) (by kernel_rfl) (rs := [.tmp 4]) (by kernel_rfl) (nt := 12) (by kernel_rfl) fun vs p out h hp => ?_
  unfold rational_gcd_C at h
  split at h
  · next a1 a2 =>
    cases h
    obtain ⟨g, hp⟩ := allq hp
    obtain ⟨x, hx⟩ := Option.isSome_iff_exists.1 g
    rw [hx]
    exact ⟨[(.c (.lit (.int .u64 a1))), (.c (.lit (.int .u64 a2)))], (VLes.cons (VLe.rfl' _) (VLes.cons (VLe.rfl' _) VLes.nil)), rfl, z133run a1 a2 x hx⟩
  · cases h

noncomputable def z134i0 : List Code := items (bodyOf Try.f134)
def z134R (x_1 : (GFraction × Int)) : St := { tm := [sv 6 (.ptr 0 2 0 0), sv 7 (i64 x_1.2)], hp := [(0, some (.box [(i64 x_1.1.Num), (i64 x_1.1.Den)]))], nx := 1 }
def rational_within_out (x_1 : (GFraction × Int)) : Out := .data (.tup [(.agg [(i64 x_1.1.Num), (i64 x_1.1.Den)]), (i64 x_1.2)])
theorem z134Rok (x_1 : (GFraction × Int)) : retK Try.prog [.cell 6 43, .tmp 7] (OutOk (rational_within_out x_1)) .ret (z134R x_1) :=
  retK.intro (v := (.tup [(.agg [(i64 x_1.1.Num), (i64 x_1.1.Den)]), (i64 x_1.2)])) (by kernel_rfl) (VLe.tup (VLes.cons (VLe.rfl' _) (VLes.cons (VLe.rfl' _) (VLes.nil))))
def z134p0S (negative : Bool) (num den : GRational_wide) : St := { tm := [sv 0 (bl negative), sv 1 (.ag (eGRational_wide num)), sv 2 (.ag (eGRational_wide den))], hp := [], nx := 0 }
noncomputable def rational_within_p0 (negative : Bool) (num den : GRational_wide) : Option ((GFraction × Int)) := (bif (bif (bif (bif (num.hi != (0 : Int)) then true else (decide ((1000000000000000 : Int) < num.lo))) then true else (den.hi != (0 : Int))) then true else (decide ((1000000000 : Int) < den.lo))) then (some ((GFraction.mk (0 : Int) (0 : Int)), (2 : Int))) else (bif negative then (some ((GFraction.mk (w64 ((0 : Int) - (w64 num.lo))) (w64 den.lo)), (0 : Int))) else (some ((GFraction.mk (w64 num.lo) (w64 den.lo)), (0 : Int)))))
theorem z134p0ok (negative : Bool) (num den : GRational_wide) (K : KT) (h : W (rational_within_p0 negative num den) (rE z134R K)) : EvL Try.prog 41 (List.drop 0 z134i0) K (z134p0S negative num den) :=
  EvL.pE mixed (lookC_ok (l := []) trivial) [6, 7] 0 8 (.nf (X := fun K => (bif (bif (bif (bif (num.hi != (0 : Int)) then true else (decide ((1000000000000000 : Int) < num.lo))) then true else (den.hi != (0 : Int))) then true else (decide ((1000000000 : Int) < den.lo))) then wK K .ret (z134R ((GFraction.mk (0 : Int) (0 : Int)), (2 : Int))) else (bif negative then wK K .ret (z134R ((GFraction.mk (w64 ((0 : Int) - (w64 num.lo))) (w64 den.lo)), (0 : Int))) else wK K .ret (z134R ((GFraction.mk (w64 num.lo) (w64 den.lo)), (0 : Int)))))) (fun K => by kernel_rfl) (W_bif h (fun _ h => ⟨_, .refl _, h⟩) (fun _ h => (W_bif h (fun _ h => ⟨_, .refl _, h⟩) (fun _ h => ⟨_, .refl _, h⟩)))))
noncomputable def rational_within (negative : Bool) (num den : GRational_wide) : Option ((GFraction × Int)) := rational_within_p0 negative num den
theorem z134run (negative : Bool) (num den : GRational_wide) (y_ : (GFraction × Int)) (h : rational_within negative num den = some y_) : EvL Try.prog 41 (items (bodyOf Try.f134)) (retK Try.prog [.cell 6 43, .tmp 7] (OutOk (rational_within_out y_))) (z134p0S negative num den) :=
  z134p0ok negative num den _ (W_iff.2 ⟨y_, h, z134Rok y_⟩)
noncomputable def rational_within_C : Con
  | [(.c (.lit (.bool a1))), (.agg [(.c (.lit (.int .u64 a2))), (.c (.lit (.int .u64 a3)))]), (.agg [(.c (.lit (.int .u64 a4))), (.c (.lit (.int .u64 a5)))])] => some ([(rational_within a1 (GRational_wide.mk a2 a3) (GRational_wide.mk a4 a5)).isSome = true], (rational_within_out ((rational_within a1 (GRational_wide.mk a2 a3) (GRational_wide.mk a4 a5)).getD (zGFraction, (0 : Int)))))
  | _ => none
theorem rational_within_ok : Meets Try.prog 134 rational_within_C := by
  refine meets_fun (fn := Try.f134) (c := bodyOf Try.f134) (by kernel_rfl) (by kernel_rfl) (by kernel_rfl) (rs := [.cell 6 43, .tmp 7]) (by kernel_rfl) (nt := 41) (by kernel_rfl) fun vs p out h hp => ?_
  unfold rational_within_C at h
  split at h
  · next a1 a2 a3 a4 a5 =>
    cases h
    obtain ⟨g, hp⟩ := allq hp
    obtain ⟨x, hx⟩ := Option.isSome_iff_exists.1 g
    rw [hx]
    exact ⟨[(bl a1), (.agg [(.c (.lit (.int .u64 (GRational_wide.mk a2 a3).hi))), (.c (.lit (.int .u64 (GRational_wide.mk a2 a3).lo)))]), (.agg [(.c (.lit (.int .u64 (GRational_wide.mk a4 a5).hi))), (.c (.lit (.int .u64 (GRational_wide.mk a4 a5).lo)))])], (VLes.cons (VLe.rfl' _) (VLes.cons (VLe.rfl' _) (VLes.cons (VLe.rfl' _) VLes.nil))), rfl, z134run a1 (GRational_wide.mk a2 a3) (GRational_wide.mk a4 a5) x hx⟩
  · cases h

noncomputable def z83i0 : List Code := items (bodyOf Try.f83)
def z83R (x_1 : (GFraction × Int)) : St := { tm := [sv 4 (.ptr 0 2 0 0), sv 5 (i64 x_1.2)], hp := [(0, some (.box [(i64 x_1.1.Num), (i64 x_1.1.Den)]))], nx := 1 }
def rational_Make_out (x_1 : (GFraction × Int)) : Out := .data (.tup [(.agg [(i64 x_1.1.Num), (i64 x_1.1.Den)]), (i64 x_1.2)])
theorem z83Rok (x_1 : (GFraction × Int)) : retK Try.prog [.cell 4 43, .tmp 5] (OutOk (rational_Make_out x_1)) .ret (z83R x_1) :=
  retK.intro (v := (.tup [(.agg [(i64 x_1.1.Num), (i64 x_1.1.Den)]), (i64 x_1.2)])) (by kernel_rfl) (VLe.tup (VLes.cons (VLe.rfl' _) (VLes.cons (VLe.rfl' _) (VLes.nil))))
def z83p0S (num den : Int) : St := { tm := [sv 0 (i64 num), sv 1 (i64 den)], hp := [], nx := 0 }
noncomputable def rational_Make_p0 (num den : Int) : Option ((GFraction × Int)) := (bif (den == (0 : Int)) then (some ((GFraction.mk (0 : Int) (0 : Int)), (3 : Int))) else (rational_size num).bind fun r_1 => ((rational_size den).bind fun r_2 => ((rational_gcd r_1 r_2).bind fun r_3 => (gd (r_3 ≠ (0 : Int)) (gd (r_3 ≠ (0 : Int)) ((rational_within (bif (!((decide (num < (0 : Int))) == (decide (den < (0 : Int))))) then (num != (0 : Int)) else false) (GRational_wide.mk (0 : Int) (IntKind.u64.wrap (Int.tdiv r_1 r_3))) (GRational_wide.mk (0 : Int) (IntKind.u64.wrap (Int.tdiv r_2 r_3)))).bind fun r_4 => ((some (r_4.1, r_4.2)))))))))
theorem z83p0ok (num den : Int) (K : KT) (h : W (rational_Make_p0 num den) (rE z83R K)) : EvL Try.prog 39 (List.drop 0 z83i0) K (z83p0S num den) :=
  EvL.pE mixed (lookC_ok (l := [(132, .pure rational_size_C), (133, .pure rational_gcd_C), (134, .pure rational_within_C)]) ⟨rational_size_ok, rational_gcd_ok, rational_within_ok, trivial⟩) [4, 5] 0 7 (.nf (X := fun K => (bif (den == (0 : Int)) then wK K .ret (z83R ((GFraction.mk (0 : Int) (0 : Int)), (3 : Int))) else ((rational_size num).isSome = true) ∧ ((rational_size den).isSome = true) ∧ (((rational_gcd ((rational_size num).getD (0 : Int)) ((rational_size den).getD (0 : Int))).isSome = true) ∧ ((((rational_gcd ((rational_size num).getD (0 : Int)) ((rational_size den).getD (0 : Int))).getD (0 : Int)) ≠ (0 : Int)) ∧ (((rational_gcd ((rational_size num).getD (0 : Int)) ((rational_size den).getD (0 : Int))).getD (0 : Int)) ≠ (0 : Int)) ∧ ((rational_within (bif (!((decide (num < (0 : Int))) == (decide (den < (0 : Int))))) then (num != (0 : Int)) else false) (GRational_wide.mk (0 : Int) (IntKind.u64.wrap (Int.tdiv ((rational_size num).getD (0 : Int)) ((rational_gcd ((rational_size num).getD (0 : Int)) ((rational_size den).getD (0 : Int))).getD (0 : Int))))) (GRational_wide.mk (0 : Int) (IntKind.u64.wrap (Int.tdiv ((rational_size den).getD (0 : Int)) ((rational_gcd ((rational_size num).getD (0 : Int)) ((rational_size den).getD (0 : Int))).getD (0 : Int)))))).isSome = true) ∧ (wK K .ret (z83R (((rational_within (bif (!((decide (num < (0 : Int))) == (decide (den < (0 : Int))))) then (num != (0 : Int)) else false) (GRational_wide.mk (0 : Int) (IntKind.u64.wrap (Int.tdiv ((rational_size num).getD (0 : Int)) ((rational_gcd ((rational_size num).getD (0 : Int)) ((rational_size den).getD (0 : Int))).getD (0 : Int))))) (GRational_wide.mk (0 : Int) (IntKind.u64.wrap (Int.tdiv ((rational_size den).getD (0 : Int)) ((rational_gcd ((rational_size num).getD (0 : Int)) ((rational_size den).getD (0 : Int))).getD (0 : Int)))))).getD (zGFraction, (0 : Int))).1, ((rational_within (bif (!((decide (num < (0 : Int))) == (decide (den < (0 : Int))))) then (num != (0 : Int)) else false) (GRational_wide.mk (0 : Int) (IntKind.u64.wrap (Int.tdiv ((rational_size num).getD (0 : Int)) ((rational_gcd ((rational_size num).getD (0 : Int)) ((rational_size den).getD (0 : Int))).getD (0 : Int))))) (GRational_wide.mk (0 : Int) (IntKind.u64.wrap (Int.tdiv ((rational_size den).getD (0 : Int)) ((rational_gcd ((rational_size num).getD (0 : Int)) ((rational_size den).getD (0 : Int))).getD (0 : Int)))))).getD (zGFraction, (0 : Int))).2))))))) (fun K => by kernel_rfl) (W_bif h (fun _ h => ⟨_, .refl _, h⟩) (fun _ h => (W_bind (0 : Int) h fun hp0 h => (W_bind (0 : Int) h fun hp1 h => (W_bind (0 : Int) h fun hp2 h => (W_gd h fun hp3 h => (W_gd h fun hp4 h => (W_bind (zGFraction, (0 : Int)) h fun hp5 h => ⟨_, .refl _, h⟩)))))))))
noncomputable def rational_Make (num den : Int) : Option ((GFraction × Int)) := rational_Make_p0 num den
theorem z83run (num den : Int) (y_ : (GFraction × Int)) (h : rational_Make num den = some y_) : EvL Try.prog 39 (items (bodyOf Try.f83)) (retK Try.prog [.cell 4 43, .tmp 5] (OutOk (rational_Make_out y_))) (z83p0S num den) :=
  z83p0ok num den _ (W_iff.2 ⟨y_, h, z83Rok y_⟩)
noncomputable def rational_Make_C : Con
  | [(.c (.lit (.int .i64 a1))), (.c (.lit (.int .i64 a2)))] => some ([(rational_Make a1 a2).isSome = true], (rational_Make_out ((rational_Make a1 a2).getD (zGFraction, (0 : Int)))))
  | _ => none
theorem rational_Make_ok : Meets Try.prog 83 rational_Make_C := by
  refine meets_fun (fn := Try.f83) (c := bodyOf Try.f83) (by kernel_rfl) (by kernel_rfl) (by kernel_rfl) (rs := [.cell 4 43, .tmp 5]) (by kernel_rfl) (nt := 39) (by kernel_rfl) fun vs p out h hp => ?_
  unfold rational_Make_C at h
  split at h
  · next a1 a2 =>
    cases h
    obtain ⟨g, hp⟩ := allq hp
    obtain ⟨x, hx⟩ := Option.isSome_iff_exists.1 g
    rw [hx]
    exact ⟨[(i64 a1), (i64 a2)], (VLes.cons (VLe.rfl' _) (VLes.cons (VLe.rfl' _) VLes.nil)), rfl, z83run a1 a2 x hx⟩
  · cases h

noncomputable def z31i0 : List Code := items (bodyOf Try.f31)
noncomputable def z31i1 : List Code := items (inside (inside (nthI z31i0 5)))
def z31R (x_1 : (GFraction × Int)) : St := { tm := [sv 2 (.ptr 0 2 0 0), sv 3 (i64 x_1.2)], hp := [(0, some (.box [(i64 x_1.1.Num), (i64 x_1.1.Den)]))], nx := 1 }
def earnings_Base_out (x_1 : (GFraction × Int)) : Out := .data (.tup [(.agg [(i64 x_1.1.Num), (i64 x_1.1.Den)]), (i64 x_1.2)])
theorem z31Rok (x_1 : (GFraction × Int)) : retK Try.prog [.cell 2 43, .tmp 3] (OutOk (earnings_Base_out x_1)) .ret (z31R x_1) :=
  retK.intro (v := (.tup [(.agg [(i64 x_1.1.Num), (i64 x_1.1.Den)]), (i64 x_1.2)])) (by kernel_rfl) (VLe.tup (VLes.cons (VLe.rfl' _) (VLes.cons (VLe.rfl' _) (VLes.nil))))
def z31l1S (years : (List Int)) (s : (Int × Int)) : St := match s with | (sum, t13) => { tm := [sv 0 (.c (.sl 1 years.length (lsEl eI64 (0 : Int) years))), sv 2 (.ptr 0 2 0 0), sv 4 (i64 sum), sv 11 (.c (.sl 1 years.length (lsEl eI64 (0 : Int) years))), sv 12 (i64 ((years.length : Nat) : Int)), sv 13 (i64 t13)], hp := [(0, some (.box [(i64 (0 : Int)), (i64 (0 : Int))]))], nx := 1 }
def z31l1C0 (years : (List Int)) (s : Unit) : St := match s with | () => { tm := [sv 2 (.ptr 0 2 0 0), sv 3 (i64 (1 : Int))], hp := [(0, some (.box [(i64 (0 : Int)), (i64 (0 : Int))]))], nx := 1 }
def z31l1C1 (years : (List Int)) (s : Int) : St := match s with | sum_1 => { tm := [sv 0 (.c (.sl 1 years.length (lsEl eI64 (0 : Int) years))), sv 2 (.ptr 0 2 0 0), sv 4 (i64 sum_1)], hp := [(0, some (.box [(i64 (0 : Int)), (i64 (0 : Int))]))], nx := 1 }
def z31l1E (years : (List Int)) (r : ((Unit) ⊕ (Int))) (K : KT) : Prop := match r with | (.inl s) => K .ret (z31l1C0 years s) | (.inr s) => K (.exit 0) (z31l1C1 years s)
def z31p0S (years : (List Int)) (sum t13 : Int) : St := { tm := [sv 0 (.c (.sl 1 years.length (lsEl eI64 (0 : Int) years))), sv 2 (.ptr 0 2 0 0), sv 4 (i64 sum), sv 11 (.c (.sl 1 years.length (lsEl eI64 (0 : Int) years))), sv 12 (i64 ((years.length : Nat) : Int)), sv 13 (i64 t13)], hp := [(0, some (.box [(i64 (0 : Int)), (i64 (0 : Int))]))], nx := 1 }
noncomputable def earnings_Base_p0 (years : (List Int)) (sum t13 : Int) : Option ((Int × Int) ⊕ ((Unit) ⊕ (Int))) := (bif (decide (t13 < ((years.length : Nat) : Int))) then gd ((0 : Int) ≤ t13 ∧ t13 < ((years.length : Nat) : Int)) ((bif (bif (decide ((years.getD (Int.toNat t13) (0 : Int)) < (0 : Int))) then true else (decide ((1000000000000 : Int) < (years.getD (Int.toNat t13) (0 : Int))))) then (some (Sum.inr (Sum.inl ()))) else (some (Sum.inl ((w64 (sum + (years.getD (Int.toNat t13) (0 : Int)))), (w64 (t13 + (1 : Int)))))))) else (some (Sum.inr (Sum.inr sum))))
theorem z31p0ok (years : (List Int)) (sum t13 : Int) (K : KT) (h : W (earnings_Base_p0 years sum t13) (nE (z31l1S years) (z31l1E years) K)) : EvL Try.prog 38 (List.drop 0 z31i1) K (z31p0S years sum t13) :=
  EvL.pE mixed (lookC_ok (l := []) trivial) [0, 2, 3, 4, 11, 12, 13, 20, 21] 0 4 (.nf (X := fun K => (bif (decide (t13 < ((years.length : Nat) : Int))) then ((0 : Int) ≤ t13) ∧ (t13 < ((years.length : Nat) : Int)) ∧ ((bif (bif (decide ((years.getD (Int.toNat t13) (0 : Int)) < (0 : Int))) then true else (decide ((1000000000000 : Int) < (years.getD (Int.toNat t13) (0 : Int))))) then wK K .ret ({ tm := [sv 0 (.c (.sl 1 years.length (lsEl eI64 (0 : Int) years))), sv 2 (.ptr 0 2 0 0), sv 3 (i64 (1 : Int)), sv 4 (i64 sum), sv 11 (.c (.sl 1 years.length (lsEl eI64 (0 : Int) years))), sv 12 (i64 ((years.length : Nat) : Int)), sv 13 (i64 t13), sv 20 (.c .unk), sv 21 (.c .unk)], hp := [(0, some (.box [(i64 (0 : Int)), (i64 (0 : Int))]))], nx := 1 }) else wK K .normal ({ tm := [sv 0 (.c (.sl 1 years.length (lsEl eI64 (0 : Int) years))), sv 2 (.ptr 0 2 0 0), sv 4 (i64 (w64 (sum + (years.getD (Int.toNat t13) (0 : Int))))), sv 11 (.c (.sl 1 years.length (lsEl eI64 (0 : Int) years))), sv 12 (i64 ((years.length : Nat) : Int)), sv 13 (i64 (w64 (t13 + (1 : Int)))), sv 20 (.c .unk), sv 21 (.c .unk)], hp := [(0, some (.box [(i64 (0 : Int)), (i64 (0 : Int))]))], nx := 1 }))) else wK K (.exit 0) ({ tm := [sv 0 (.c (.sl 1 years.length (lsEl eI64 (0 : Int) years))), sv 2 (.ptr 0 2 0 0), sv 4 (i64 sum), sv 11 (.c (.sl 1 years.length (lsEl eI64 (0 : Int) years))), sv 12 (i64 ((years.length : Nat) : Int)), sv 13 (i64 t13)], hp := [(0, some (.box [(i64 (0 : Int)), (i64 (0 : Int))]))], nx := 1 }))) (fun K => by kernel_rfl) (W_bif h (fun _ h => (W_gd2 h fun hp0 h => (W_bif h (fun _ h => ⟨(z31l1C0 years ()), (.of (.q rfl (.q rfl .nil)) (.same rfl .nil) rfl), h⟩) (fun _ h => ⟨(z31l1S years ((w64 (sum + (years.getD (Int.toNat t13) (0 : Int)))), (w64 (t13 + (1 : Int))))), (.of (.q rfl (.q rfl (.q rfl (.q rfl (.q rfl (.q rfl .nil)))))) (.same rfl .nil) rfl), h⟩)))) (fun _ h => ⟨(z31l1C1 years sum), (.of (.q rfl (.q rfl (.q rfl .nil))) (.same rfl .nil) rfl), h⟩)))
noncomputable def earnings_Base_l1 (years : (List Int)) (s : (Int × Int)) : Option ((Int × Int) ⊕ ((Unit) ⊕ (Int))) := match s with | (sum, t13) => earnings_Base_p0 years sum t13
theorem z31l1ok (years : (List Int)) (s : (Int × Int)) : Pp Try.prog 38 (List.drop 0 z31i1) (z31l1S years s) (earnings_Base_l1 years s) (nextE (z31l1S years) (z31l1E years)) := fun K h => match s, h with | (sum, t13), h => (z31p0ok years sum t13 _ h)
theorem z31l1Ethen (years : (List Int)) : ∀ (r : ((Unit) ⊕ (Int))) (J : St → Prop) (K : KT), z31l1E years r K → z31l1E years r (thenK J K)
  | (.inl s), _, _, h => h
  | (.inr s), _, _, h => h
def z31p1S (years : (List Int)) (sum_2 : Int) : St := { tm := [sv 0 (.c (.sl 1 years.length (lsEl eI64 (0 : Int) years))), sv 2 (.ptr 0 2 0 0), sv 4 (i64 sum_2)], hp := [(0, some (.box [(i64 (0 : Int)), (i64 (0 : Int))]))], nx := 1 }
noncomputable def earnings_Base_p1 (years : (List Int)) (sum_2 : Int) : Option ((GFraction × Int)) := (bif (((years.length : Nat) : Int) == (0 : Int)) then (some ((GFraction.mk (0 : Int) (1 : Int)), (0 : Int))) else (rational_Make sum_2 ((years.length : Nat) : Int)).bind fun r_1 => ((some (r_1.1, r_1.2))))
theorem z31p1ok (years : (List Int)) (sum_2 : Int) (K : KT) (h : W (earnings_Base_p1 years sum_2) (rE z31R K)) : EvL Try.prog 38 (List.drop 6 z31i0) K (z31p1S years sum_2) :=
  EvL.pE mixed (lookC_ok (l := [(83, .pure rational_Make_C)]) ⟨rational_Make_ok, trivial⟩) [2, 3] 6 4 (.nf (X := fun K => (bif (((years.length : Nat) : Int) == (0 : Int)) then wK K .ret (z31R ((GFraction.mk (0 : Int) (1 : Int)), (0 : Int))) else ((rational_Make sum_2 ((years.length : Nat) : Int)).isSome = true) ∧ (wK K .ret (z31R (((rational_Make sum_2 ((years.length : Nat) : Int)).getD (zGFraction, (0 : Int))).1, ((rational_Make sum_2 ((years.length : Nat) : Int)).getD (zGFraction, (0 : Int))).2))))) (fun K => by kernel_rfl) (W_bif h (fun _ h => ⟨_, .refl _, h⟩) (fun _ h => (W_bind (zGFraction, (0 : Int)) h fun hp0 h => ⟨_, .refl _, h⟩))))
def z31p2S (years : (List Int)) : St := { tm := [sv 0 (.c (.sl 1 years.length (lsEl eI64 (0 : Int) years))), sv 2 (.ptr 0 2 0 0), sv 4 (i64 (0 : Int)), sv 11 (.c (.sl 1 years.length (lsEl eI64 (0 : Int) years))), sv 12 (i64 ((years.length : Nat) : Int)), sv 13 (i64 (0 : Int))], hp := [(0, some (.box [(i64 (0 : Int)), (i64 (0 : Int))]))], nx := 1 }
noncomputable def earnings_Base_p2_g (years : (List Int)) (r : ((Unit) ⊕ (Int))) : Option ((GFraction × Int)) := match r with | (.inl ()) => (some ((GFraction.mk (0 : Int) (0 : Int)), (1 : Int))) | (.inr sum_1) => (earnings_Base_p1 years sum_1)
noncomputable def earnings_Base_p2 (years : (List Int)) : Option ((GFraction × Int)) := (fixL (earnings_Base_l1 years) ((0 : Int), (0 : Int))).bind (earnings_Base_p2_g years)
theorem z31p2at : List.drop 5 z31i0 = .block 0 (.loop (inside (inside (nthI z31i0 5)))) :: List.drop 6 z31i0 := by kernel_rfl
theorem z31p2k (years : (List Int)) (K : KT) : ∀ r : ((Unit) ⊕ (Int)), W (earnings_Base_p2_g years r) (rE z31R K) → z31l1E years r (wK (blockK 0 (thenK (EvL Try.prog 38 (List.drop 6 z31i0) K) K)))
  | (.inl ()), h => ⟨(z31R ((GFraction.mk (0 : Int) (0 : Int)), (1 : Int))), (.refl _), h⟩
  | (.inr sum_1), h => ⟨(z31p1S years sum_1), (.refl _), (z31p1ok years sum_1 _ h)⟩
theorem z31p2ok (years : (List Int)) (K : KT) (h : W (earnings_Base_p2 years) (rE z31R K)) : EvL Try.prog 38 (List.drop 5 z31i0) K (z31p2S years) :=
  EvL.at_ z31p2at (EvL.cons_loop (EvOk.weak (EvOk.ent (.refl _) (EvOk.loopF (x := inside (inside (nthI z31i0 5))) (f := earnings_Base_l1 years) (emb := z31l1S years) (E := z31l1E years) (z31l1ok years) (z31l1Ethen years) (W_loop h (z31p2k years K))))))
def z31p3S (years : (List Int)) : St := { tm := [sv 0 (.c (.sl 1 years.length (lsEl eI64 (0 : Int) years)))], hp := [], nx := 0 }
noncomputable def earnings_Base_p3 (years : (List Int)) : Option ((GFraction × Int)) := (bif (decide ((200 : Int) < ((years.length : Nat) : Int))) then (some ((GFraction.mk (0 : Int) (0 : Int)), (1 : Int))) else (earnings_Base_p2 years))
theorem z31p3ok (years : (List Int)) (K : KT) (h : W (earnings_Base_p3 years) (rE z31R K)) : EvL Try.prog 38 (List.drop 0 z31i0) K (z31p3S years) :=
  EvL.pD mixed (lookC_ok (l := []) trivial) [0, 2, 3, 4, 11, 12, 13, 20, 21] 0 5 5 (.nf (X := fun K => (bif (decide ((200 : Int) < ((years.length : Nat) : Int))) then wK K .ret ({ tm := [sv 0 (.c (.sl 1 years.length (lsEl eI64 (0 : Int) years))), sv 2 (.ptr 0 2 0 0), sv 3 (i64 (1 : Int))], hp := [(0, some (.box [(i64 (0 : Int)), (i64 (0 : Int))]))], nx := 1 }) else wK K .normal ({ tm := [sv 0 (.c (.sl 1 years.length (lsEl eI64 (0 : Int) years))), sv 2 (.ptr 0 2 0 0), sv 3 (i64 (0 : Int)), sv 4 (i64 (0 : Int)), sv 11 (.c (.sl 1 years.length (lsEl eI64 (0 : Int) years))), sv 12 (i64 ((years.length : Nat) : Int)), sv 13 (i64 (0 : Int))], hp := [(0, some (.box [(i64 (0 : Int)), (i64 (0 : Int))]))], nx := 1 }))) (fun K => by kernel_rfl) (W_bif h (fun _ h => ⟨(z31R ((GFraction.mk (0 : Int) (0 : Int)), (1 : Int))), (.of (.q rfl (.q rfl .nil)) (.same rfl .nil) rfl), h⟩) (fun _ h => ⟨(z31p2S years), (.of (.q rfl (.q rfl (.q rfl (.q rfl (.q rfl (.q rfl .nil)))))) (.same rfl .nil) rfl), (z31p2ok years _ h)⟩)))
noncomputable def earnings_Base (years : (List Int)) : Option ((GFraction × Int)) := earnings_Base_p3 years
theorem z31run (years : (List Int)) (y_ : (GFraction × Int)) (h : earnings_Base years = some y_) : EvL Try.prog 38 (items (bodyOf Try.f31)) (retK Try.prog [.cell 2 43, .tmp 3] (OutOk (earnings_Base_out y_))) (z31p3S years) :=
  z31p3ok years _ (W_iff.2 ⟨y_, h, z31Rok y_⟩)
noncomputable def earnings_Base_C : Con
  | [(.c (.sl k1 n2 e3))] => some ([LstOk eI64 dI64 1 k1 n2 e3, (earnings_Base (lst dI64 n2 e3)).isSome = true], (earnings_Base_out ((earnings_Base (lst dI64 n2 e3)).getD (zGFraction, (0 : Int)))))
  | _ => none
theorem earnings_Base_ok : Meets Try.prog 31 earnings_Base_C := by
  refine meets_fun (fn := Try.f31) (c := bodyOf Try.f31) (by kernel_rfl) (by kernel_rfl) (by kernel_rfl) (rs := [.cell 2 43, .tmp 3]) (by kernel_rfl) (nt := 38) (by kernel_rfl) fun vs p out h hp => ?_
  unfold earnings_Base_C at h
  split at h
  · next k1 n2 e3 =>
    cases h
    obtain ⟨g0, hp⟩ := allq hp
    obtain ⟨g, hp⟩ := allq hp
    obtain ⟨x, hx⟩ := Option.isSome_iff_exists.1 g
    rw [hx]
    exact ⟨[(.c (.sl 1 ((lst dI64 n2 e3)).length (lsEl eI64 (0 : Int) (lst dI64 n2 e3))))], (VLes.cons (VLe.slk g0.1 (RowIs.of_ok g0)) VLes.nil), rfl, z31run (lst dI64 n2 e3) x hx⟩
  · cases h

noncomputable def z107i0 : List Code := items (bodyOf Try.f107)
def z107R (x_1 : Int) : St := { tm := [sv 2 (.c (.lit (.int .u64 x_1)))], hp := [], nx := 0 }
def ref1_size_out (x_1 : Int) : Out := .data (.c (.lit (.int .u64 x_1)))
theorem z107Rok (x_1 : Int) : retK Try.prog [.tmp 2] (OutOk (ref1_size_out x_1)) .ret (z107R x_1) :=
  retK.intro (v := (.c (.lit (.int .u64 x_1)))) (by kernel_rfl) ((VLe.rfl' _))
def z107p0S (n : Int) : St := { tm := [sv 0 (i64 n)], hp := [], nx := 0 }
noncomputable def ref1_size_p0 (n : Int) : Option (Int) := (bif (decide (n < (0 : Int))) then (some (IntKind.u64.wrap ((IntKind.u64.wrap (w64 ((0 : Int) - (w64 (n + (1 : Int)))))) + (1 : Int)))) else (some (IntKind.u64.wrap n)))
theorem z107p0ok (n : Int) (K : KT) (h : W (ref1_size_p0 n) (rE z107R K)) : EvL Try.prog 12 (List.drop 0 z107i0) K (z107p0S n) :=
  EvL.pE mixed (lookC_ok (l := []) trivial) [2] 0 5 (.nf (X := fun K => (bif (decide (n < (0 : Int))) then wK K .ret (z107R (IntKind.u64.wrap ((IntKind.u64.wrap (w64 ((0 : Int) - (w64 (n + (1 : Int)))))) + (1 : Int)))) else wK K .ret (z107R (IntKind.u64.wrap n)))) (fun K => by kernel_rfl) (W_bif h (fun _ h => ⟨_, .refl _, h⟩) (fun _ h => ⟨_, .refl _, h⟩)))
noncomputable def ref1_size (n : Int) : Option (Int) := ref1_size_p0 n
theorem z107run (n : Int) (y_ : Int) (h : ref1_size n = some y_) : EvL Try.prog 12 (items (bodyOf Try.f107)) (retK Try.prog [.tmp 2] (OutOk (ref1_size_out y_))) (z107p0S n) :=
  z107p0ok n _ (W_iff.2 ⟨y_, h, z107Rok y_⟩)
noncomputable def ref1_size_C : Con
  | [(.c (.lit (.int .i64 a1)))] => some ([(ref1_size a1).isSome = true], (ref1_size_out ((ref1_size a1).getD (0 : Int))))
  | _ => none
theorem ref1_size_ok : Meets Try.prog 107 ref1_size_C := by
  refine meets_fun (fn := Try.f107) (c := bodyOf Try.f107) (by kernel_rfl) (by kernel_rfl) (by kernel_rfl) (rs := [.tmp 2]) (by kernel_rfl) (nt := 12) (by kernel_rfl) fun vs p out h hp => ?_
  unfold ref1_size_C at h
  split at h
  · next a1 =>
    cases h
    obtain ⟨g, hp⟩ := allq hp
    obtain ⟨x, hx⟩ := Option.isSome_iff_exists.1 g
    rw [hx]
    exact ⟨[(i64 a1)], (VLes.cons (VLe.rfl' _) VLes.nil), rfl, z107run a1 x hx⟩
  · cases h

noncomputable def z198i0 : List Code := items (bodyOf Try.f198)
def z198R (x_5 : Int) : St := { tm := [sv 2 (i64 x_5)], hp := [], nx := 0 }
def math_bits_Len64_out (x_5 : Int) : Out := .data (i64 x_5)
theorem z198Rok (x_5 : Int) : retK Try.prog [.tmp 2] (OutOk (math_bits_Len64_out x_5)) .ret (z198R x_5) :=
  retK.intro (v := (i64 x_5)) (by kernel_rfl) ((VLe.rfl' _))
def z198p0S (x_4 n_2 : Int) : St := { tm := [sv 0 (.c (.lit (.int .u64 x_4))), sv 2 (i64 n_2)], hp := [], nx := 0 }
noncomputable def math_bits_Len64_p0 (x_4 n_2 : Int) : Option (Int) := gd ((0 : Int) ≤ (IntKind.u8.wrap x_4) ∧ (IntKind.u8.wrap x_4) < (((bstr [0, 1, 2, 2, 3, 3, 3, 3, 4, 4, 4, 4, 4, 4, 4, 4, 5, 5, 5, 5, 5, 5, 5, 5, 5, 5, 5, 5, 5, 5, 5, 5, 6, 6, 6, 6, 6, 6, 6, 6, 6, 6, 6, 6, 6, 6, 6, 6, 6, 6, 6, 6, 6, 6, 6, 6, 6, 6, 6, 6, 6, 6, 6, 6, 7, 7, 7, 7, 7, 7, 7, 7, 7, 7, 7, 7, 7, 7, 7, 7, 7, 7, 7, 7, 7, 7, 7, 7, 7, 7, 7, 7, 7, 7, 7, 7, 7, 7, 7, 7, 7, 7, 7, 7, 7, 7, 7, 7, 7, 7, 7, 7, 7, 7, 7, 7, 7, 7, 7, 7, 7, 7, 7, 7, 7, 7, 7, 7, 8, 8, 8, 8, 8, 8, 8, 8, 8, 8, 8, 8, 8, 8, 8, 8, 8, 8, 8, 8, 8, 8, 8, 8, 8, 8, 8, 8, 8, 8, 8, 8, 8, 8, 8, 8, 8, 8, 8, 8, 8, 8, 8, 8, 8, 8, 8, 8, 8, 8, 8, 8, 8, 8, 8, 8, 8, 8, 8, 8, 8, 8, 8, 8, 8, 8, 8, 8, 8, 8, 8, 8, 8, 8, 8, 8, 8, 8, 8, 8, 8, 8, 8, 8, 8, 8, 8, 8, 8, 8, 8, 8, 8, 8, 8, 8, 8, 8, 8, 8, 8, 8, 8, 8, 8, 8, 8, 8, 8, 8, 8, 8, 8, 8, 8, 8, 8, 8, 8, 8, 8, 8, 8, 8, 8, 8, 8, 8]).size : Nat) : Int)) ((some (w64 (n_2 + (w64 (((bstr [0, 1, 2, 2, 3, 3, 3, 3, 4, 4, 4, 4, 4, 4, 4, 4, 5, 5, 5, 5, 5, 5, 5, 5, 5, 5, 5, 5, 5, 5, 5, 5, 6, 6, 6, 6, 6, 6, 6, 6, 6, 6, 6, 6, 6, 6, 6, 6, 6, 6, 6, 6, 6, 6, 6, 6, 6, 6, 6, 6, 6, 6, 6, 6, 7, 7, 7, 7, 7, 7, 7, 7, 7, 7, 7, 7, 7, 7, 7, 7, 7, 7, 7, 7, 7, 7, 7, 7, 7, 7, 7, 7, 7, 7, 7, 7, 7, 7, 7, 7, 7, 7, 7, 7, 7, 7, 7, 7, 7, 7, 7, 7, 7, 7, 7, 7, 7, 7, 7, 7, 7, 7, 7, 7, 7, 7, 7, 7, 8, 8, 8, 8, 8, 8, 8, 8, 8, 8, 8, 8, 8, 8, 8, 8, 8, 8, 8, 8, 8, 8, 8, 8, 8, 8, 8, 8, 8, 8, 8, 8, 8, 8, 8, 8, 8, 8, 8, 8, 8, 8, 8, 8, 8, 8, 8, 8, 8, 8, 8, 8, 8, 8, 8, 8, 8, 8, 8, 8, 8, 8, 8, 8, 8, 8, 8, 8, 8, 8, 8, 8, 8, 8, 8, 8, 8, 8, 8, 8, 8, 8, 8, 8, 8, 8, 8, 8, 8, 8, 8, 8, 8, 8, 8, 8, 8, 8, 8, 8, 8, 8, 8, 8, 8, 8, 8, 8, 8, 8, 8, 8, 8, 8, 8, 8, 8, 8, 8, 8, 8, 8, 8, 8, 8, 8, 8, 8]).data.getD (Int.toNat (IntKind.u8.wrap x_4)) 0).toNat : Int))))))
theorem z198p0ok (x_4 n_2 : Int) (K : KT) (h : W (math_bits_Len64_p0 x_4 n_2) (rE z198R K)) : EvL Try.prog 25 (List.drop 7 z198i0) K (z198p0S x_4 n_2) :=
  EvL.pE mixed (lookC_ok (l := []) trivial) [2] 7 2 (.nf (X := fun K => ((0 : Int) ≤ (IntKind.u8.wrap x_4)) ∧ ((IntKind.u8.wrap x_4) < (((bstr [0, 1, 2, 2, 3, 3, 3, 3, 4, 4, 4, 4, 4, 4, 4, 4, 5, 5, 5, 5, 5, 5, 5, 5, 5, 5, 5, 5, 5, 5, 5, 5, 6, 6, 6, 6, 6, 6, 6, 6, 6, 6, 6, 6, 6, 6, 6, 6, 6, 6, 6, 6, 6, 6, 6, 6, 6, 6, 6, 6, 6, 6, 6, 6, 7, 7, 7, 7, 7, 7, 7, 7, 7, 7, 7, 7, 7, 7, 7, 7, 7, 7, 7, 7, 7, 7, 7, 7, 7, 7, 7, 7, 7, 7, 7, 7, 7, 7, 7, 7, 7, 7, 7, 7, 7, 7, 7, 7, 7, 7, 7, 7, 7, 7, 7, 7, 7, 7, 7, 7, 7, 7, 7, 7, 7, 7, 7, 7, 8, 8, 8, 8, 8, 8, 8, 8, 8, 8, 8, 8, 8, 8, 8, 8, 8, 8, 8, 8, 8, 8, 8, 8, 8, 8, 8, 8, 8, 8, 8, 8, 8, 8, 8, 8, 8, 8, 8, 8, 8, 8, 8, 8, 8, 8, 8, 8, 8, 8, 8, 8, 8, 8, 8, 8, 8, 8, 8, 8, 8, 8, 8, 8, 8, 8, 8, 8, 8, 8, 8, 8, 8, 8, 8, 8, 8, 8, 8, 8, 8, 8, 8, 8, 8, 8, 8, 8, 8, 8, 8, 8, 8, 8, 8, 8, 8, 8, 8, 8, 8, 8, 8, 8, 8, 8, 8, 8, 8, 8, 8, 8, 8, 8, 8, 8, 8, 8, 8, 8, 8, 8, 8, 8, 8, 8, 8, 8]).size : Nat) : Int)) ∧ (wK K .ret (z198R (w64 (n_2 + (w64 (((bstr [0, 1, 2, 2, 3, 3, 3, 3, 4, 4, 4, 4, 4, 4, 4, 4, 5, 5, 5, 5, 5, 5, 5, 5, 5, 5, 5, 5, 5, 5, 5, 5, 6, 6, 6, 6, 6, 6, 6, 6, 6, 6, 6, 6, 6, 6, 6, 6, 6, 6, 6, 6, 6, 6, 6, 6, 6, 6, 6, 6, 6, 6, 6, 6, 7, 7, 7, 7, 7, 7, 7, 7, 7, 7, 7, 7, 7, 7, 7, 7, 7, 7, 7, 7, 7, 7, 7, 7, 7, 7, 7, 7, 7, 7, 7, 7, 7, 7, 7, 7, 7, 7, 7, 7, 7, 7, 7, 7, 7, 7, 7, 7, 7, 7, 7, 7, 7, 7, 7, 7, 7, 7, 7, 7, 7, 7, 7, 7, 8, 8, 8, 8, 8, 8, 8, 8, 8, 8, 8, 8, 8, 8, 8, 8, 8, 8, 8, 8, 8, 8, 8, 8, 8, 8, 8, 8, 8, 8, 8, 8, 8, 8, 8, 8, 8, 8, 8, 8, 8, 8, 8, 8, 8, 8, 8, 8, 8, 8, 8, 8, 8, 8, 8, 8, 8, 8, 8, 8, 8, 8, 8, 8, 8, 8, 8, 8, 8, 8, 8, 8, 8, 8, 8, 8, 8, 8, 8, 8, 8, 8, 8, 8, 8, 8, 8, 8, 8, 8, 8, 8, 8, 8, 8, 8, 8, 8, 8, 8, 8, 8, 8, 8, 8, 8, 8, 8, 8, 8, 8, 8, 8, 8, 8, 8, 8, 8, 8, 8, 8, 8, 8, 8, 8, 8, 8, 8]).data.getD (Int.toNat (IntKind.u8.wrap x_4)) 0).toNat : Int))))))) (fun K => by kernel_rfl) (W_gd2 h fun hp0 h => ⟨_, .refl _, h⟩))
def z198p1S (x_3 n_1 : Int) : St := { tm := [sv 0 (.c (.lit (.int .u64 x_3))), sv 2 (i64 n_1)], hp := [], nx := 0 }
noncomputable def math_bits_Len64_p1 (x_3 n_1 : Int) : Option (Int) := (bif (decide ((256 : Int) ≤ x_3)) then (math_bits_Len64_p0 (Int.fdiv x_3 (2 ^ min (Int.toNat (8 : Int)) 64)) (w64 (n_1 + (8 : Int)))) else (math_bits_Len64_p0 x_3 n_1))
theorem z198p1ok (x_3 n_1 : Int) (K : KT) (h : W (math_bits_Len64_p1 x_3 n_1) (rE z198R K)) : EvL Try.prog 25 (List.drop 5 z198i0) K (z198p1S x_3 n_1) :=
  EvL.pD mixed (lookC_ok (l := []) trivial) [0, 2] 5 2 7 (.nf (X := fun K => (bif (decide ((256 : Int) ≤ x_3)) then ((0 : Int) ≤ (8 : Int)) ∧ (wK K .normal (z198p0S (Int.fdiv x_3 (2 ^ min (Int.toNat (8 : Int)) 64)) (w64 (n_1 + (8 : Int))))) else wK K .normal (z198p0S x_3 n_1))) (fun K => by kernel_rfl) (W_bif h (fun _ h => ⟨(by decide), ⟨_, .refl _, (z198p0ok (Int.fdiv x_3 (2 ^ min (Int.toNat (8 : Int)) 64)) (w64 (n_1 + (8 : Int))) _ h)⟩⟩) (fun _ h => ⟨_, .refl _, (z198p0ok x_3 n_1 _ h)⟩)))
def z198p2S (x_2 n : Int) : St := { tm := [sv 0 (.c (.lit (.int .u64 x_2))), sv 2 (i64 n)], hp := [], nx := 0 }
noncomputable def math_bits_Len64_p2 (x_2 n : Int) : Option (Int) := (bif (decide ((65536 : Int) ≤ x_2)) then (math_bits_Len64_p1 (Int.fdiv x_2 (2 ^ min (Int.toNat (16 : Int)) 64)) (w64 (n + (16 : Int)))) else (math_bits_Len64_p1 x_2 n))
theorem z198p2ok (x_2 n : Int) (K : KT) (h : W (math_bits_Len64_p2 x_2 n) (rE z198R K)) : EvL Try.prog 25 (List.drop 3 z198i0) K (z198p2S x_2 n) :=
  EvL.pD mixed (lookC_ok (l := []) trivial) [0, 2] 3 2 5 (.nf (X := fun K => (bif (decide ((65536 : Int) ≤ x_2)) then ((0 : Int) ≤ (16 : Int)) ∧ (wK K .normal (z198p1S (Int.fdiv x_2 (2 ^ min (Int.toNat (16 : Int)) 64)) (w64 (n + (16 : Int))))) else wK K .normal (z198p1S x_2 n))) (fun K => by kernel_rfl) (W_bif h (fun _ h => ⟨(by decide), ⟨_, .refl _, (z198p1ok (Int.fdiv x_2 (2 ^ min (Int.toNat (16 : Int)) 64)) (w64 (n + (16 : Int))) _ h)⟩⟩) (fun _ h => ⟨_, .refl _, (z198p1ok x_2 n _ h)⟩)))
def z198p3S (x_1 : Int) : St := { tm := [sv 0 (.c (.lit (.int .u64 x_1)))], hp := [], nx := 0 }
noncomputable def math_bits_Len64_p3 (x_1 : Int) : Option (Int) := (bif (decide ((4294967296 : Int) ≤ x_1)) then (math_bits_Len64_p2 (Int.fdiv x_1 (2 ^ min (Int.toNat (32 : Int)) 64)) (32 : Int)) else (math_bits_Len64_p2 x_1 (0 : Int)))
theorem z198p3ok (x_1 : Int) (K : KT) (h : W (math_bits_Len64_p3 x_1) (rE z198R K)) : EvL Try.prog 25 (List.drop 0 z198i0) K (z198p3S x_1) :=
  EvL.pD mixed (lookC_ok (l := []) trivial) [0, 2] 0 3 3 (.nf (X := fun K => (bif (decide ((4294967296 : Int) ≤ x_1)) then ((0 : Int) ≤ (32 : Int)) ∧ (wK K .normal (z198p2S (Int.fdiv x_1 (2 ^ min (Int.toNat (32 : Int)) 64)) (32 : Int))) else wK K .normal (z198p2S x_1 (0 : Int)))) (fun K => by kernel_rfl) (W_bif h (fun _ h => ⟨(by decide), ⟨_, .refl _, (z198p2ok (Int.fdiv x_1 (2 ^ min (Int.toNat (32 : Int)) 64)) (32 : Int) _ h)⟩⟩) (fun _ h => ⟨_, .refl _, (z198p2ok x_1 (0 : Int) _ h)⟩)))
noncomputable def math_bits_Len64 (x_1 : Int) : Option (Int) := math_bits_Len64_p3 x_1
theorem z198run (x_1 : Int) (y_ : Int) (h : math_bits_Len64 x_1 = some y_) : EvL Try.prog 25 (items (bodyOf Try.f198)) (retK Try.prog [.tmp 2] (OutOk (math_bits_Len64_out y_))) (z198p3S x_1) :=
  z198p3ok x_1 _ (W_iff.2 ⟨y_, h, z198Rok y_⟩)
noncomputable def math_bits_Len64_C : Con
  | [(.c (.lit (.int .u64 a1)))] => some ([(math_bits_Len64 a1).isSome = true], (math_bits_Len64_out ((math_bits_Len64 a1).getD (0 : Int))))
  | _ => none
theorem math_bits_Len64_ok : Meets Try.prog 198 math_bits_Len64_C := by
  refine meets_fun (fn := Try.f198) (c := bodyOf Try.f198) (by kernel_rfl) (by kernel_rfl) (by kernel_rfl) (rs := [.tmp 2]) (by kernel_rfl) (nt := 25) (by kernel_rfl) fun vs p out h hp => ?_
  unfold math_bits_Len64_C at h
  split at h
  · next a1 =>
    cases h
    obtain ⟨g, hp⟩ := allq hp
    obtain ⟨x, hx⟩ := Option.isSome_iff_exists.1 g
    rw [hx]
    exact ⟨[(.c (.lit (.int .u64 a1)))], (VLes.cons (VLe.rfl' _) VLes.nil), rfl, z198run a1 x hx⟩
  · cases h

noncomputable def z181i0 : List Code := items (bodyOf Try.f181)
def z181R (x_2 : Int) : St := { tm := [sv 2 (i64 x_2)], hp := [], nx := 0 }
def math_bits_LeadingZeros64_out (x_2 : Int) : Out := .data (i64 x_2)
theorem z181Rok (x_2 : Int) : retK Try.prog [.tmp 2] (OutOk (math_bits_LeadingZeros64_out x_2)) .ret (z181R x_2) :=
  retK.intro (v := (i64 x_2)) (by kernel_rfl) ((VLe.rfl' _))
def z181p0S (x_1 : Int) : St := { tm := [sv 0 (.c (.lit (.int .u64 x_1)))], hp := [], nx := 0 }
noncomputable def math_bits_LeadingZeros64_p0 (x_1 : Int) : Option (Int) := (math_bits_Len64 x_1).bind fun r_1 => ((some (w64 ((64 : Int) - r_1))))
theorem z181p0ok (x_1 : Int) (K : KT) (h : W (math_bits_LeadingZeros64_p0 x_1) (rE z181R K)) : EvL Try.prog 6 (List.drop 0 z181i0) K (z181p0S x_1) :=
  EvL.pE mixed (lookC_ok (l := [(198, .pure math_bits_Len64_C)]) ⟨math_bits_Len64_ok, trivial⟩) [2] 0 3 (.nf (X := fun K => ((math_bits_Len64 x_1).isSome = true) ∧ (wK K .ret (z181R (w64 ((64 : Int) - ((math_bits_Len64 x_1).getD (0 : Int))))))) (fun K => by kernel_rfl) (W_bind (0 : Int) h fun hp0 h => ⟨_, .refl _, h⟩))
noncomputable def math_bits_LeadingZeros64 (x_1 : Int) : Option (Int) := math_bits_LeadingZeros64_p0 x_1
theorem z181run (x_1 : Int) (y_ : Int) (h : math_bits_LeadingZeros64 x_1 = some y_) : EvL Try.prog 6 (items (bodyOf Try.f181)) (retK Try.prog [.tmp 2] (OutOk (math_bits_LeadingZeros64_out y_))) (z181p0S x_1) :=
  z181p0ok x_1 _ (W_iff.2 ⟨y_, h, z181Rok y_⟩)
noncomputable def math_bits_LeadingZeros64_C : Con
  | [(.c (.lit (.int .u64 a1)))] => some ([(math_bits_LeadingZeros64 a1).isSome = true], (math_bits_LeadingZeros64_out ((math_bits_LeadingZeros64 a1).getD (0 : Int))))
  | _ => none
theorem math_bits_LeadingZeros64_ok : Meets Try.prog 181 math_bits_LeadingZeros64_C := by
  refine meets_fun (fn := Try.f181) (c := bodyOf Try.f181) (by kernel_rfl) (by kernel_rfl) (by kernel_rfl) (rs := [.tmp 2]) (by kernel_rfl) (nt := 6) (by kernel_rfl) fun vs p out h hp => ?_
  unfold math_bits_LeadingZeros64_C at h
  split at h
  · next a1 =>
    cases h
    obtain ⟨g, hp⟩ := allq hp
    obtain ⟨x, hx⟩ := Option.isSome_iff_exists.1 g
    rw [hx]
    exact ⟨[(.c (.lit (.int .u64 a1)))], (VLes.cons (VLe.rfl' _) VLes.nil), rfl, z181run a1 x hx⟩
  · cases h

end Go.Ax
