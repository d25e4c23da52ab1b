import Derived.Test.YtchffdmfiffifaaF1
import Derived.Test.YtchffdmfiffifaaRows
/- Types of the program, and functions of it: printed by a program, checked by the kernel. -/
set_option maxRecDepth 100000
namespace Go.Ax
open Go.Proofs Go.Proofs.Ytchffdmfiffifaa
noncomputable def internal_stringslite_IndexByte_i0 : List Code := items (bodyOf Try.f238)
def internal_stringslite_IndexByte_R (x_1 : Int) : St := { tm := [sv 4 (i64 x_1)], hp := [], nx := 0 }
def internal_stringslite_IndexByte_out (x_1 : Int) : Out := .data (i64 x_1)
theorem internal_stringslite_IndexByte_Rok (x_1 : Int) : retK Try.prog [.tmp 4] (OutOk (internal_stringslite_IndexByte_out x_1)) .ret (internal_stringslite_IndexByte_R x_1) :=
  retK.intro (v := (i64 x_1)) (by kernel_rfl) ((VLe.rfl' _))
def internal_stringslite_IndexByte_p0_S (s_1 : ByteArray) (c : Int) : St := { tm := [sv 0 (str s_1), sv 1 (.c (.lit (.int .u8 c)))], hp := [], nx := 0 }
noncomputable def internal_stringslite_IndexByte_p0 (s_1 : ByteArray) (c : Int) : Option (Int) := (bytealg_IndexByteString s_1 c).bind fun r_1 => ((some r_1))
theorem internal_stringslite_IndexByte_p0_nf (s_1 : ByteArray) (c : Int) (K : Exit → St → Prop) :
    ev Try.prog (lookC [(251, bytealg_IndexByteString_C)]) 8 (ofItems ((List.drop 0 internal_stringslite_IndexByte_i0).take 3)) (cN [4] K) (internal_stringslite_IndexByte_p0_S s_1 c) =
    (((bytealg_IndexByteString s_1 c).isSome = true) ∧ (wK K .ret ({ tm := [sv 4 (i64 ((bytealg_IndexByteString s_1 c).getD (0 : Int)))], hp := [], nx := 0 }))) := by kernel_rfl
theorem internal_stringslite_IndexByte_p0_ok (s_1 : ByteArray) (c : Int) (K : Exit → St → Prop) (h : W (internal_stringslite_IndexByte_p0 s_1 c) (fun x => (fun x K => K .ret (internal_stringslite_IndexByte_R x)) x K)) : EvL Try.prog 8 (List.drop 0 internal_stringslite_IndexByte_i0) K (internal_stringslite_IndexByte_p0_S s_1 c) :=
  EvL.pieceE mixed (lookC_ok (l := [(251, bytealg_IndexByteString_C)]) ⟨bytealg_IndexByteString_ok, trivial⟩) [4] 0 3 (by kernel_rfl) (EvP.of (internal_stringslite_IndexByte_p0_nf s_1 c _) ((W_bind (0 : Int) h fun hp0 h => ⟨(internal_stringslite_IndexByte_R ((bytealg_IndexByteString s_1 c).getD (0 : Int))), (Ent.refl _), h⟩)))
noncomputable def internal_stringslite_IndexByte (s_1 : ByteArray) (c : Int) : Option (Int) := internal_stringslite_IndexByte_p0 s_1 c
theorem internal_stringslite_IndexByte_run (s_1 : ByteArray) (c : Int) (y_ : Int) (h : internal_stringslite_IndexByte s_1 c = some y_) : EvL Try.prog 8 (items (bodyOf Try.f238)) (retK Try.prog [.tmp 4] (OutOk (internal_stringslite_IndexByte_out y_))) (internal_stringslite_IndexByte_p0_S s_1 c) :=
  internal_stringslite_IndexByte_p0_ok s_1 c _ (W_iff.2 ⟨y_, h, internal_stringslite_IndexByte_Rok y_⟩)
noncomputable def internal_stringslite_IndexByte_C : Con
  | [(.c (.lit (.string a1))), (.c (.lit (.int .u8 a2)))] => some ([(internal_stringslite_IndexByte a1 a2).isSome = true], (internal_stringslite_IndexByte_out ((internal_stringslite_IndexByte a1 a2).getD (0 : Int))))
  | _ => none
theorem internal_stringslite_IndexByte_ok : Meets Try.prog 238 internal_stringslite_IndexByte_C := by
  refine meets_fun (fn := Try.f238) (c := bodyOf Try.f238) (by kernel_rfl) (by kernel_rfl) (by kernel_rfl) (rs := [.tmp 4]) (by kernel_rfl) (nt := 8) (by kernel_rfl) fun vs p out h hp => ?_
  unfold internal_stringslite_IndexByte_C at h
  split at h
  · next a1 a2 =>
    cases h
    obtain ⟨g, hp⟩ := allq hp
    obtain ⟨x, hx⟩ := Option.isSome_iff_exists.1 g
    rw [hx]
    exact ⟨[(str a1), (.c (.lit (.int .u8 a2)))], (VLes.cons (VLe.rfl' _) (VLes.cons (VLe.rfl' _) VLes.nil)), rfl, internal_stringslite_IndexByte_run a1 a2 x hx⟩
  · cases h

noncomputable def internal_stringslite_Index_i0 : List Code := items (bodyOf Try.f206)
def internal_stringslite_Index_R (x_1 : Int) : St := { tm := [sv 4 (i64 x_1)], hp := [], nx := 0 }
def internal_stringslite_Index_out (x_1 : Int) : Out := .data (i64 x_1)
theorem internal_stringslite_Index_Rok (x_1 : Int) : retK Try.prog [.tmp 4] (OutOk (internal_stringslite_Index_out x_1)) .ret (internal_stringslite_Index_R x_1) :=
  retK.intro (v := (i64 x_1)) (by kernel_rfl) ((VLe.rfl' _))
def internal_stringslite_Index_p0_S (s_1 : ByteArray) (substr : ByteArray) : St := { tm := [sv 0 (str s_1), sv 1 (str substr)], hp := [], nx := 0 }
noncomputable def internal_stringslite_Index_p0 (s_1 : ByteArray) (substr : ByteArray) : Option (Int) := (bif (bif (((substr.size : Nat) : Int) == (0 : Int)) then true else (substr.toList == s_1.toList)) then (some (0 : Int)) else (bif (((substr.size : Nat) : Int) == (1 : Int)) then gd ((0 : Int) ≤ (0 : Int) ∧ (0 : Int) < ((substr.size : Nat) : Int)) ((internal_stringslite_IndexByte s_1 ((substr.data.getD 0 0).toNat : Int)).bind fun r_1 => ((some r_1))) else (bif (decide (((s_1.size : Nat) : Int) ≤ ((substr.size : Nat) : Int))) then (some (-1 : Int)) else none)))
theorem internal_stringslite_Index_p0_nf (s_1 : ByteArray) (substr : ByteArray) (K : Exit → St → Prop) :
    ev Try.prog (lookC [(238, internal_stringslite_IndexByte_C)]) 143 (ofItems ((List.drop 0 internal_stringslite_Index_i0).take 3)) (cN [0, 1, 4, 5, 85, 86, 87, 88, 89, 90, 91, 92, 103, 104, 105, 106, 122, 123, 124, 125, 126, 129, 130, 131] K) (internal_stringslite_Index_p0_S s_1 substr) =
    ((bif (bif (((substr.size : Nat) : Int) == (0 : Int)) then true else (substr.toList == s_1.toList)) then wK K .ret ({ tm := [sv 0 (str s_1), sv 1 (str substr), sv 4 (i64 (0 : Int)), sv 5 (i64 ((substr.size : Nat) : Int))], hp := [], nx := 0 }) else (bif (((substr.size : Nat) : Int) == (1 : Int)) then ((0 : Int) ≤ (0 : Int)) ∧ ((0 : Int) < ((substr.size : Nat) : Int)) ∧ ((internal_stringslite_IndexByte s_1 ((substr.data.getD 0 0).toNat : Int)).isSome = true) ∧ (wK K .ret ({ tm := [sv 0 (str s_1), sv 1 (str substr), sv 4 (i64 ((internal_stringslite_IndexByte s_1 ((substr.data.getD 0 0).toNat : Int)).getD (0 : Int))), sv 5 (i64 ((substr.size : Nat) : Int))], hp := [], nx := 0 })) else (bif (decide (((s_1.size : Nat) : Int) ≤ ((substr.size : Nat) : Int))) then wK K .ret ({ tm := [sv 0 (str s_1), sv 1 (str substr), sv 4 (i64 (-1 : Int)), sv 5 (i64 ((substr.size : Nat) : Int))], hp := [], nx := 0 }) else False)))) := by kernel_rfl
theorem internal_stringslite_Index_p0_ok (s_1 : ByteArray) (substr : ByteArray) (K : Exit → St → Prop) (h : W (internal_stringslite_Index_p0 s_1 substr) (fun x => (fun x K => K .ret (internal_stringslite_Index_R x)) x K)) : EvL Try.prog 143 (List.drop 0 internal_stringslite_Index_i0) K (internal_stringslite_Index_p0_S s_1 substr) :=
  EvL.pieceD mixed (lookC_ok (l := [(238, internal_stringslite_IndexByte_C)]) ⟨internal_stringslite_IndexByte_ok, trivial⟩) [0, 1, 4, 5, 85, 86, 87, 88, 89, 90, 91, 92, 103, 104, 105, 106, 122, 123, 124, 125, 126, 129, 130, 131] 0 3 3 rfl (EvP.of (internal_stringslite_Index_p0_nf s_1 substr _) ((W_bif h (fun _ h => ⟨(internal_stringslite_Index_R (0 : Int)), (Ent.trans (Ent.canonN [4] (by kernel_rfl)) (Ent.of_eq (σ' := { tm := [sv 4 (i64 (0 : Int))], hp := [], nx := 0 }) (by kernel_rfl))), h⟩) (fun _ h => (W_bif h (fun _ h => (W_gd2 h fun hp0 h => (W_bind (0 : Int) h fun hp1 h => ⟨(internal_stringslite_Index_R ((internal_stringslite_IndexByte s_1 ((substr.data.getD 0 0).toNat : Int)).getD (0 : Int))), (Ent.trans (Ent.canonN [4] (by kernel_rfl)) (Ent.of_eq (σ' := { tm := [sv 4 (i64 ((internal_stringslite_IndexByte s_1 ((substr.data.getD 0 0).toNat : Int)).getD (0 : Int)))], hp := [], nx := 0 }) (by kernel_rfl))), h⟩))) (fun _ h => (W_bif h (fun _ h => ⟨(internal_stringslite_Index_R (-1 : Int)), (Ent.trans (Ent.canonN [4] (by kernel_rfl)) (Ent.of_eq (σ' := { tm := [sv 4 (i64 (-1 : Int))], hp := [], nx := 0 }) (by kernel_rfl))), h⟩) (fun _ h => h))))))))
noncomputable def internal_stringslite_Index (s_1 : ByteArray) (substr : ByteArray) : Option (Int) := internal_stringslite_Index_p0 s_1 substr
theorem internal_stringslite_Index_run (s_1 : ByteArray) (substr : ByteArray) (y_ : Int) (h : internal_stringslite_Index s_1 substr = some y_) : EvL Try.prog 143 (items (bodyOf Try.f206)) (retK Try.prog [.tmp 4] (OutOk (internal_stringslite_Index_out y_))) (internal_stringslite_Index_p0_S s_1 substr) :=
  internal_stringslite_Index_p0_ok s_1 substr _ (W_iff.2 ⟨y_, h, internal_stringslite_Index_Rok y_⟩)
noncomputable def internal_stringslite_Index_C : Con
  | [(.c (.lit (.string a1))), (.c (.lit (.string a2)))] => some ([(internal_stringslite_Index a1 a2).isSome = true], (internal_stringslite_Index_out ((internal_stringslite_Index a1 a2).getD (0 : Int))))
  | _ => none
theorem internal_stringslite_Index_ok : Meets Try.prog 206 internal_stringslite_Index_C := by
  refine meets_fun (fn := Try.f206) (c := bodyOf Try.f206) (by kernel_rfl) (by kernel_rfl) (by kernel_rfl) (rs := [.tmp 4]) (by kernel_rfl) (nt := 143) (by kernel_rfl) fun vs p out h hp => ?_
  unfold internal_stringslite_Index_C at h
  split at h
  · next a1 a2 =>
    cases h
    obtain ⟨g, hp⟩ := allq hp
    obtain ⟨x, hx⟩ := Option.isSome_iff_exists.1 g
    rw [hx]
    exact ⟨[(str a1), (str a2)], (VLes.cons (VLe.rfl' _) (VLes.cons (VLe.rfl' _) VLes.nil)), rfl, internal_stringslite_Index_run a1 a2 x hx⟩
  · cases h

noncomputable def strings_Index_i0 : List Code := items (bodyOf Try.f167)
def strings_Index_R (x_1 : Int) : St := { tm := [sv 4 (i64 x_1)], hp := [], nx := 0 }
def strings_Index_out (x_1 : Int) : Out := .data (i64 x_1)
theorem strings_Index_Rok (x_1 : Int) : retK Try.prog [.tmp 4] (OutOk (strings_Index_out x_1)) .ret (strings_Index_R x_1) :=
  retK.intro (v := (i64 x_1)) (by kernel_rfl) ((VLe.rfl' _))
def strings_Index_p0_S (s_1 : ByteArray) (substr : ByteArray) : St := { tm := [sv 0 (str s_1), sv 1 (str substr)], hp := [], nx := 0 }
noncomputable def strings_Index_p0 (s_1 : ByteArray) (substr : ByteArray) : Option (Int) := (internal_stringslite_Index s_1 substr).bind fun r_1 => ((some r_1))
theorem strings_Index_p0_nf (s_1 : ByteArray) (substr : ByteArray) (K : Exit → St → Prop) :
    ev Try.prog (lookC [(206, internal_stringslite_Index_C)]) 8 (ofItems ((List.drop 0 strings_Index_i0).take 3)) (cN [4] K) (strings_Index_p0_S s_1 substr) =
    (((internal_stringslite_Index s_1 substr).isSome = true) ∧ (wK K .ret ({ tm := [sv 4 (i64 ((internal_stringslite_Index s_1 substr).getD (0 : Int)))], hp := [], nx := 0 }))) := by kernel_rfl
theorem strings_Index_p0_ok (s_1 : ByteArray) (substr : ByteArray) (K : Exit → St → Prop) (h : W (strings_Index_p0 s_1 substr) (fun x => (fun x K => K .ret (strings_Index_R x)) x K)) : EvL Try.prog 8 (List.drop 0 strings_Index_i0) K (strings_Index_p0_S s_1 substr) :=
  EvL.pieceE mixed (lookC_ok (l := [(206, internal_stringslite_Index_C)]) ⟨internal_stringslite_Index_ok, trivial⟩) [4] 0 3 (by kernel_rfl) (EvP.of (strings_Index_p0_nf s_1 substr _) ((W_bind (0 : Int) h fun hp0 h => ⟨(strings_Index_R ((internal_stringslite_Index s_1 substr).getD (0 : Int))), (Ent.refl _), h⟩)))
noncomputable def strings_Index (s_1 : ByteArray) (substr : ByteArray) : Option (Int) := strings_Index_p0 s_1 substr
theorem strings_Index_run (s_1 : ByteArray) (substr : ByteArray) (y_ : Int) (h : strings_Index s_1 substr = some y_) : EvL Try.prog 8 (items (bodyOf Try.f167)) (retK Try.prog [.tmp 4] (OutOk (strings_Index_out y_))) (strings_Index_p0_S s_1 substr) :=
  strings_Index_p0_ok s_1 substr _ (W_iff.2 ⟨y_, h, strings_Index_Rok y_⟩)
noncomputable def strings_Index_C : Con
  | [(.c (.lit (.string a1))), (.c (.lit (.string a2)))] => some ([(strings_Index a1 a2).isSome = true], (strings_Index_out ((strings_Index a1 a2).getD (0 : Int))))
  | _ => none
theorem strings_Index_ok : Meets Try.prog 167 strings_Index_C := by
  refine meets_fun (fn := Try.f167) (c := bodyOf Try.f167) (by kernel_rfl) (by kernel_rfl) (by kernel_rfl) (rs := [.tmp 4]) (by kernel_rfl) (nt := 8) (by kernel_rfl) fun vs p out h hp => ?_
  unfold strings_Index_C at h
  split at h
  · next a1 a2 =>
    cases h
    obtain ⟨g, hp⟩ := allq hp
    obtain ⟨x, hx⟩ := Option.isSome_iff_exists.1 g
    rw [hx]
    exact ⟨[(str a1), (str a2)], (VLes.cons (VLe.rfl' _) (VLes.cons (VLe.rfl' _) VLes.nil)), rfl, strings_Index_run a1 a2 x hx⟩
  · cases h

noncomputable def strings_Contains_i0 : List Code := items (bodyOf Try.f124)
def strings_Contains_R (x_1 : Bool) : St := { tm := [sv 4 (bl x_1)], hp := [], nx := 0 }
def strings_Contains_out (x_1 : Bool) : Out := .data (bl x_1)
theorem strings_Contains_Rok (x_1 : Bool) : retK Try.prog [.tmp 4] (OutOk (strings_Contains_out x_1)) .ret (strings_Contains_R x_1) :=
  retK.intro (v := (bl x_1)) (by kernel_rfl) ((VLe.rfl' _))
def strings_Contains_p0_S (s_1 : ByteArray) (substr : ByteArray) : St := { tm := [sv 0 (str s_1), sv 1 (str substr)], hp := [], nx := 0 }
noncomputable def strings_Contains_p0 (s_1 : ByteArray) (substr : ByteArray) : Option (Bool) := (strings_Index s_1 substr).bind fun r_1 => ((some (decide ((0 : Int) ≤ r_1))))
theorem strings_Contains_p0_nf (s_1 : ByteArray) (substr : ByteArray) (K : Exit → St → Prop) :
    ev Try.prog (lookC [(167, strings_Index_C)]) 9 (ofItems ((List.drop 0 strings_Contains_i0).take 3)) (cN [4] K) (strings_Contains_p0_S s_1 substr) =
    (((strings_Index s_1 substr).isSome = true) ∧ (wK K .ret ({ tm := [sv 4 (bl (decide ((0 : Int) ≤ ((strings_Index s_1 substr).getD (0 : Int)))))], hp := [], nx := 0 }))) := by kernel_rfl
theorem strings_Contains_p0_ok (s_1 : ByteArray) (substr : ByteArray) (K : Exit → St → Prop) (h : W (strings_Contains_p0 s_1 substr) (fun x => (fun x K => K .ret (strings_Contains_R x)) x K)) : EvL Try.prog 9 (List.drop 0 strings_Contains_i0) K (strings_Contains_p0_S s_1 substr) :=
  EvL.pieceE mixed (lookC_ok (l := [(167, strings_Index_C)]) ⟨strings_Index_ok, trivial⟩) [4] 0 3 (by kernel_rfl) (EvP.of (strings_Contains_p0_nf s_1 substr _) ((W_bind (0 : Int) h fun hp0 h => ⟨(strings_Contains_R (decide ((0 : Int) ≤ ((strings_Index s_1 substr).getD (0 : Int))))), (Ent.refl _), h⟩)))
noncomputable def strings_Contains (s_1 : ByteArray) (substr : ByteArray) : Option (Bool) := strings_Contains_p0 s_1 substr
theorem strings_Contains_run (s_1 : ByteArray) (substr : ByteArray) (y_ : Bool) (h : strings_Contains s_1 substr = some y_) : EvL Try.prog 9 (items (bodyOf Try.f124)) (retK Try.prog [.tmp 4] (OutOk (strings_Contains_out y_))) (strings_Contains_p0_S s_1 substr) :=
  strings_Contains_p0_ok s_1 substr _ (W_iff.2 ⟨y_, h, strings_Contains_Rok y_⟩)
noncomputable def strings_Contains_C : Con
  | [(.c (.lit (.string a1))), (.c (.lit (.string a2)))] => some ([(strings_Contains a1 a2).isSome = true], (strings_Contains_out ((strings_Contains a1 a2).getD false)))
  | _ => none
theorem strings_Contains_ok : Meets Try.prog 124 strings_Contains_C := by
  refine meets_fun (fn := Try.f124) (c := bodyOf Try.f124) (by kernel_rfl) (by kernel_rfl) (by kernel_rfl) (rs := [.tmp 4]) (by kernel_rfl) (nt := 9) (by kernel_rfl) fun vs p out h hp => ?_
  unfold strings_Contains_C at h
  split at h
  · next a1 a2 =>
    cases h
    obtain ⟨g, hp⟩ := allq hp
    obtain ⟨x, hx⟩ := Option.isSome_iff_exists.1 g
    rw [hx]
    exact ⟨[(str a1), (str a2)], (VLes.cons (VLe.rfl' _) (VLes.cons (VLe.rfl' _) VLes.nil)), rfl, strings_Contains_run a1 a2 x hx⟩
  · cases h

noncomputable def fact_Valid_1_i0 : List Code := items (bodyOf Try.f123)
def fact_Valid_1_R (x_1 : Bool) : St := { tm := [sv 3 (bl x_1)], hp := [], nx := 0 }
def fact_Valid_1_out (x_1 : Bool) : Out := .data (bl x_1)
theorem fact_Valid_1_Rok (x_1 : Bool) : retK Try.prog [.tmp 3] (OutOk (fact_Valid_1_out x_1)) .ret (fact_Valid_1_R x_1) :=
  retK.intro (v := (bl x_1)) (by kernel_rfl) ((VLe.rfl' _))
def fact_Valid_1_p0_S (letter : ByteArray) (t1 : ByteArray) : St := { tm := [sv 0 (str letter), sv 1 (.dptr 1 [(ds t1)] 0)], hp := [], nx := 0 }
noncomputable def fact_Valid_1_p0 (letter : ByteArray) (t1 : ByteArray) : Option (Bool) := (strings_Contains t1 letter).bind fun r_1 => ((some r_1))
theorem fact_Valid_1_p0_nf (letter : ByteArray) (t1 : ByteArray) (K : Exit → St → Prop) :
    ev Try.prog (lookC [(124, strings_Contains_C)]) 7 (ofItems ((List.drop 0 fact_Valid_1_i0).take 3)) (cN [3] K) (fact_Valid_1_p0_S letter t1) =
    (((strings_Contains t1 letter).isSome = true) ∧ (wK K .ret ({ tm := [sv 3 (bl ((strings_Contains t1 letter).getD false))], hp := [], nx := 0 }))) := by kernel_rfl
theorem fact_Valid_1_p0_ok (letter : ByteArray) (t1 : ByteArray) (K : Exit → St → Prop) (h : W (fact_Valid_1_p0 letter t1) (fun x => (fun x K => K .ret (fact_Valid_1_R x)) x K)) : EvL Try.prog 7 (List.drop 0 fact_Valid_1_i0) K (fact_Valid_1_p0_S letter t1) :=
  EvL.pieceE mixed (lookC_ok (l := [(124, strings_Contains_C)]) ⟨strings_Contains_ok, trivial⟩) [3] 0 3 (by kernel_rfl) (EvP.of (fact_Valid_1_p0_nf letter t1 _) ((W_bind false h fun hp0 h => ⟨(fact_Valid_1_R ((strings_Contains t1 letter).getD false)), (Ent.refl _), h⟩)))
noncomputable def fact_Valid_1 (letter : ByteArray) (t1 : ByteArray) : Option (Bool) := fact_Valid_1_p0 letter t1
theorem fact_Valid_1_run (letter : ByteArray) (t1 : ByteArray) (y_ : Bool) (h : fact_Valid_1 letter t1 = some y_) : EvL Try.prog 7 (items (bodyOf Try.f123)) (retK Try.prog [.tmp 3] (OutOk (fact_Valid_1_out y_))) (fact_Valid_1_p0_S letter t1) :=
  fact_Valid_1_p0_ok letter t1 _ (W_iff.2 ⟨y_, h, fact_Valid_1_Rok y_⟩)
noncomputable def fact_Valid_1_C : Con
  | [(.c (.lit (.string a1))), (.dptr 1 [(.lit (.string a2))] 0)] => some ([(fact_Valid_1 a1 a2).isSome = true], (fact_Valid_1_out ((fact_Valid_1 a1 a2).getD false)))
  | _ => none
theorem fact_Valid_1_ok : Meets Try.prog 123 fact_Valid_1_C := by
  refine meets_fun (fn := Try.f123) (c := bodyOf Try.f123) (by kernel_rfl) (by kernel_rfl) (by kernel_rfl) (rs := [.tmp 3]) (by kernel_rfl) (nt := 7) (by kernel_rfl) fun vs p out h hp => ?_
  unfold fact_Valid_1_C at h
  split at h
  · next a1 a2 =>
    cases h
    obtain ⟨g, hp⟩ := allq hp
    obtain ⟨x, hx⟩ := Option.isSome_iff_exists.1 g
    rw [hx]
    exact ⟨[(str a1), (.dptr 1 [(ds a2)] 0)], (VLes.cons (VLe.rfl' _) (VLes.cons (VLe.rfl' _) VLes.nil)), rfl, fact_Valid_1_run a1 a2 x hx⟩
  · cases h

noncomputable def fact_field_i0 : List Code := items (bodyOf Try.f126)
def fact_field_R (x_2 : Bool) : St := { tm := [sv 8 (bl x_2)], hp := [], nx := 0 }
def fact_field_out (x_2 : Bool) : Out := .data (bl x_2)
theorem fact_field_Rok (x_2 : Bool) : retK Try.prog [.tmp 8] (OutOk (fact_field_out x_2)) .ret (fact_field_R x_2) :=
  retK.intro (v := (bl x_2)) (by kernel_rfl) ((VLe.rfl' _))
def fact_field_p0_S (used : Bool) (x_1 : Int) (low : Int) (high : Int) : St := { tm := [sv 0 (bl used), sv 1 (i64 x_1), sv 2 (i64 low), sv 3 (i64 high)], hp := [], nx := 0 }
noncomputable def fact_field_p0 (used : Bool) (x_1 : Int) (low : Int) (high : Int) : Option (Bool) := gd ((used && true) = true → (fact_within x_1 low high).isSome = true) ((some (bif (bif used then ((fact_within x_1 low high).getD false) else false) then true else (bif (!used) then (x_1 == (0 : Int)) else false))))
theorem fact_field_p0_nf (used : Bool) (x_1 : Int) (low : Int) (high : Int) (K : Exit → St → Prop) :
    ev Try.prog (lookC [(125, fact_within_C)]) 24 (ofItems ((List.drop 0 fact_field_i0).take 3)) (cN [8] K) (fact_field_p0_S used x_1 low high) =
    (((used && true) = true → (fact_within x_1 low high).isSome = true) ∧ (wK K .ret ({ tm := [sv 8 (bl (bif (bif used then ((fact_within x_1 low high).getD false) else false) then true else (bif (!used) then (x_1 == (0 : Int)) else false)))], hp := [], nx := 0 }))) := by kernel_rfl
theorem fact_field_p0_ok (used : Bool) (x_1 : Int) (low : Int) (high : Int) (K : Exit → St → Prop) (h : W (fact_field_p0 used x_1 low high) (fun x => (fun x K => K .ret (fact_field_R x)) x K)) : EvL Try.prog 24 (List.drop 0 fact_field_i0) K (fact_field_p0_S used x_1 low high) :=
  EvL.pieceE mixed (lookC_ok (l := [(125, fact_within_C)]) ⟨fact_within_ok, trivial⟩) [8] 0 3 (by kernel_rfl) (EvP.of (fact_field_p0_nf used x_1 low high _) ((W_gd h fun hp0 h => ⟨(fact_field_R (bif (bif used then ((fact_within x_1 low high).getD false) else false) then true else (bif (!used) then (x_1 == (0 : Int)) else false))), (Ent.refl _), h⟩)))
noncomputable def fact_field (used : Bool) (x_1 : Int) (low : Int) (high : Int) : Option (Bool) := fact_field_p0 used x_1 low high
theorem fact_field_run (used : Bool) (x_1 : Int) (low : Int) (high : Int) (y_ : Bool) (h : fact_field used x_1 low high = some y_) : EvL Try.prog 24 (items (bodyOf Try.f126)) (retK Try.prog [.tmp 8] (OutOk (fact_field_out y_))) (fact_field_p0_S used x_1 low high) :=
  fact_field_p0_ok used x_1 low high _ (W_iff.2 ⟨y_, h, fact_field_Rok y_⟩)
noncomputable def fact_field_C : Con
  | [(.c (.lit (.bool a1))), (.c (.lit (.int .i64 a2))), (.c (.lit (.int .i64 a3))), (.c (.lit (.int .i64 a4)))] => some ([(fact_field a1 a2 a3 a4).isSome = true], (fact_field_out ((fact_field a1 a2 a3 a4).getD false)))
  | _ => none
theorem fact_field_ok : Meets Try.prog 126 fact_field_C := by
  refine meets_fun (fn := Try.f126) (c := bodyOf Try.f126) (by kernel_rfl) (by kernel_rfl) (by kernel_rfl) (rs := [.tmp 8]) (by kernel_rfl) (nt := 24) (by kernel_rfl) fun vs p out h hp => ?_
  unfold fact_field_C at h
  split at h
  · next a1 a2 a3 a4 =>
    cases h
    obtain ⟨g, hp⟩ := allq hp
    obtain ⟨x, hx⟩ := Option.isSome_iff_exists.1 g
    rw [hx]
    exact ⟨[(bl a1), (i64 a2), (i64 a3), (i64 a4)], (VLes.cons (VLe.rfl' _) (VLes.cons (VLe.rfl' _) (VLes.cons (VLe.rfl' _) (VLes.cons (VLe.rfl' _) VLes.nil)))), rfl, fact_field_run a1 a2 a3 a4 x hx⟩
  · cases h

noncomputable def fact_validSpan_i0 : List Code := items (bodyOf Try.f127)
def fact_validSpan_R (x_1 : Bool) : St := { tm := [sv 2 (bl x_1)], hp := [], nx := 0 }
def fact_validSpan_out (x_1 : Bool) : Out := .data (bl x_1)
theorem fact_validSpan_Rok (x_1 : Bool) : retK Try.prog [.tmp 2] (OutOk (fact_validSpan_out x_1)) .ret (fact_validSpan_R x_1) :=
  retK.intro (v := (bl x_1)) (by kernel_rfl) ((VLe.rfl' _))
def fact_validSpan_p0_S (s_1 : GSpan) : St := { tm := [sv 0 (.agg [(i64 s_1.From), (i64 s_1.To)])], hp := [], nx := 0 }
noncomputable def fact_validSpan_p0 (s_1 : GSpan) : Option (Bool) := (some (bif (bif (decide ((0 : Int) ≤ s_1.From)) then (decide (s_1.From < s_1.To)) else false) then (decide (s_1.To ≤ (73049 : Int))) else false))
theorem fact_validSpan_p0_nf (s_1 : GSpan) (K : Exit → St → Prop) :
    ev Try.prog (lookC []) 18 (ofItems ((List.drop 0 fact_validSpan_i0).take 3)) (cN [2] K) (fact_validSpan_p0_S s_1) =
    (wK K .ret ({ tm := [sv 2 (bl (bif (bif (decide ((0 : Int) ≤ s_1.From)) then (decide (s_1.From < s_1.To)) else false) then (decide (s_1.To ≤ (73049 : Int))) else false))], hp := [], nx := 0 })) := by kernel_rfl
theorem fact_validSpan_p0_ok (s_1 : GSpan) (K : Exit → St → Prop) (h : W (fact_validSpan_p0 s_1) (fun x => (fun x K => K .ret (fact_validSpan_R x)) x K)) : EvL Try.prog 18 (List.drop 0 fact_validSpan_i0) K (fact_validSpan_p0_S s_1) :=
  EvL.pieceE mixed (lookC_ok (l := []) trivial) [2] 0 3 (by kernel_rfl) (EvP.of (fact_validSpan_p0_nf s_1 _) (⟨(fact_validSpan_R (bif (bif (decide ((0 : Int) ≤ s_1.From)) then (decide (s_1.From < s_1.To)) else false) then (decide (s_1.To ≤ (73049 : Int))) else false)), (Ent.refl _), h⟩))
noncomputable def fact_validSpan (s_1 : GSpan) : Option (Bool) := fact_validSpan_p0 s_1
theorem fact_validSpan_run (s_1 : GSpan) (y_ : Bool) (h : fact_validSpan s_1 = some y_) : EvL Try.prog 18 (items (bodyOf Try.f127)) (retK Try.prog [.tmp 2] (OutOk (fact_validSpan_out y_))) (fact_validSpan_p0_S s_1) :=
  fact_validSpan_p0_ok s_1 _ (W_iff.2 ⟨y_, h, fact_validSpan_Rok y_⟩)
noncomputable def fact_validSpan_C : Con
  | [(.agg [(.c (.lit (.int .i64 a1))), (.c (.lit (.int .i64 a2)))])] => some ([(fact_validSpan (GSpan.mk a1 a2)).isSome = true], (fact_validSpan_out ((fact_validSpan (GSpan.mk a1 a2)).getD false)))
  | _ => none
theorem fact_validSpan_ok : Meets Try.prog 127 fact_validSpan_C := by
  refine meets_fun (fn := Try.f127) (c := bodyOf Try.f127) (by kernel_rfl) (by kernel_rfl) (by kernel_rfl) (rs := [.tmp 2]) (by kernel_rfl) (nt := 18) (by kernel_rfl) fun vs p out h hp => ?_
  unfold fact_validSpan_C at h
  split at h
  · next a1 a2 =>
    cases h
    obtain ⟨g, hp⟩ := allq hp
    obtain ⟨x, hx⟩ := Option.isSome_iff_exists.1 g
    rw [hx]
    exact ⟨[(.agg [(i64 (GSpan.mk a1 a2).From), (i64 (GSpan.mk a1 a2).To)])], (VLes.cons (VLe.rfl' _) VLes.nil), rfl, fact_validSpan_run (GSpan.mk a1 a2) x hx⟩
  · cases h

noncomputable def fact_Valid_i0 : List Code := items (bodyOf Try.f77)
def fact_Valid_R (x_1 : Bool) : St := { tm := [sv 2 (bl x_1)], hp := [], nx := 0 }
def fact_Valid_out (x_1 : Bool) : Out := .data (bl x_1)
theorem fact_Valid_Rok (x_1 : Bool) : retK Try.prog [.tmp 2] (OutOk (fact_Valid_out x_1)) .ret (fact_Valid_R x_1) :=
  retK.intro (v := (bl x_1)) (by kernel_rfl) ((VLe.rfl' _))
def fact_Valid_p0_S : St := { tm := [], hp := [], nx := 0 }
noncomputable def fact_Valid_p0 : Option (Bool) := (some true)
theorem fact_Valid_p0_nf (K : Exit → St → Prop) :
    ev Try.prog (lookC []) 116 (ofItems ((List.drop 6 fact_Valid_i0).take 2)) (cN [2] K) (fact_Valid_p0_S) =
    (wK K .ret ({ tm := [sv 2 (bl true)], hp := [], nx := 0 })) := by kernel_rfl
theorem fact_Valid_p0_ok (K : Exit → St → Prop) (h : W (fact_Valid_p0) (fun x => (fun x K => K .ret (fact_Valid_R x)) x K)) : EvL Try.prog 116 (List.drop 6 fact_Valid_i0) K (fact_Valid_p0_S) :=
  EvL.pieceE mixed (lookC_ok (l := []) trivial) [2] 6 2 (by kernel_rfl) (EvP.of (fact_Valid_p0_nf _) (⟨(fact_Valid_R true), (Ent.refl _), h⟩))
def fact_Valid_p1_S (f : GFact) : St := { tm := [sv 1 (.ptr 0 14 0 0), sv 89 (i64 f.Kind)], hp := [(0, some (.box [(i64 f.Issuer), (i64 f.Number), (i64 f.Version), (bl f.Withdrawn), (i64 f.Person), (i64 f.Kind), (i64 f.State), (i64 f.Span.From), (i64 f.Span.To), (i64 f.Seat), (i64 f.Share), (i64 f.Currency), (i64 f.Amount), (i64 f.Ref)]))], nx := 1 }
noncomputable def fact_Valid_p1 (f : GFact) : Option (Bool) := (bif (f.Kind == (4 : Int)) then (some (f.State != f.Seat)) else (bif (f.Kind == (11 : Int)) then (bif (f.Kind == (11 : Int)) then (some (f.Span.To == (w64 (f.Span.From + (1 : Int))))) else (bif (f.Kind == (10 : Int)) then (bif (f.Kind == (10 : Int)) then (some (f.Ref != f.Person)) else fact_Valid_p0) else (bif (f.Kind == (14 : Int)) then (some (f.Ref != f.Person)) else fact_Valid_p0))) else (bif (f.Kind == (12 : Int)) then (some (f.Span.To == (w64 (f.Span.From + (1 : Int))))) else (bif (f.Kind == (10 : Int)) then (bif (f.Kind == (10 : Int)) then (some (f.Ref != f.Person)) else fact_Valid_p0) else (bif (f.Kind == (14 : Int)) then (some (f.Ref != f.Person)) else fact_Valid_p0)))))
theorem fact_Valid_p1_nf (f : GFact) (K : Exit → St → Prop) :
    ev Try.prog (lookC []) 116 (ofItems ((List.drop 5 fact_Valid_i0).take 1)) (cN [2] K) (fact_Valid_p1_S f) =
    ((bif (f.Kind == (4 : Int)) then wK K .ret ({ tm := [sv 2 (bl (f.State != f.Seat))], hp := [], nx := 0 }) else (bif (f.Kind == (11 : Int)) then (bif (f.Kind == (11 : Int)) then wK K .ret ({ tm := [sv 2 (bl (f.Span.To == (w64 (f.Span.From + (1 : Int)))))], hp := [], nx := 0 }) else (bif (f.Kind == (10 : Int)) then (bif (f.Kind == (10 : Int)) then wK K .ret ({ tm := [sv 2 (bl (f.Ref != f.Person))], hp := [], nx := 0 }) else wK K .normal ({ tm := [], hp := [], nx := 0 })) else (bif (f.Kind == (14 : Int)) then wK K .ret ({ tm := [sv 2 (bl (f.Ref != f.Person))], hp := [], nx := 0 }) else wK K .normal ({ tm := [], hp := [], nx := 0 })))) else (bif (f.Kind == (12 : Int)) then wK K .ret ({ tm := [sv 2 (bl (f.Span.To == (w64 (f.Span.From + (1 : Int)))))], hp := [], nx := 0 }) else (bif (f.Kind == (10 : Int)) then (bif (f.Kind == (10 : Int)) then wK K .ret ({ tm := [sv 2 (bl (f.Ref != f.Person))], hp := [], nx := 0 }) else wK K .normal ({ tm := [], hp := [], nx := 0 })) else (bif (f.Kind == (14 : Int)) then wK K .ret ({ tm := [sv 2 (bl (f.Ref != f.Person))], hp := [], nx := 0 }) else wK K .normal ({ tm := [], hp := [], nx := 0 }))))))) := by kernel_rfl
theorem fact_Valid_p1_ok (f : GFact) (K : Exit → St → Prop) (h : W (fact_Valid_p1 f) (fun x => (fun x K => K .ret (fact_Valid_R x)) x K)) : EvL Try.prog 116 (List.drop 5 fact_Valid_i0) K (fact_Valid_p1_S f) :=
  EvL.pieceD mixed (lookC_ok (l := []) trivial) [2] 5 1 6 rfl (EvP.of (fact_Valid_p1_nf f _) ((W_bif h (fun _ h => ⟨(fact_Valid_R (f.State != f.Seat)), (Ent.refl _), h⟩) (fun _ h => (W_bif h (fun _ h => (W_bif h (fun _ h => ⟨(fact_Valid_R (f.Span.To == (w64 (f.Span.From + (1 : Int))))), (Ent.refl _), h⟩) (fun _ h => (W_bif h (fun _ h => (W_bif h (fun _ h => ⟨(fact_Valid_R (f.Ref != f.Person)), (Ent.refl _), h⟩) (fun _ h => ⟨(fact_Valid_p0_S), (Ent.refl _), (fact_Valid_p0_ok _ h)⟩))) (fun _ h => (W_bif h (fun _ h => ⟨(fact_Valid_R (f.Ref != f.Person)), (Ent.refl _), h⟩) (fun _ h => ⟨(fact_Valid_p0_S), (Ent.refl _), (fact_Valid_p0_ok _ h)⟩))))))) (fun _ h => (W_bif h (fun _ h => ⟨(fact_Valid_R (f.Span.To == (w64 (f.Span.From + (1 : Int))))), (Ent.refl _), h⟩) (fun _ h => (W_bif h (fun _ h => (W_bif h (fun _ h => ⟨(fact_Valid_R (f.Ref != f.Person)), (Ent.refl _), h⟩) (fun _ h => ⟨(fact_Valid_p0_S), (Ent.refl _), (fact_Valid_p0_ok _ h)⟩))) (fun _ h => (W_bif h (fun _ h => ⟨(fact_Valid_R (f.Ref != f.Person)), (Ent.refl _), h⟩) (fun _ h => ⟨(fact_Valid_p0_S), (Ent.refl _), (fact_Valid_p0_ok _ h)⟩))))))))))))
def fact_Valid_p2_S (f : GFact) (uses : ByteArray) : St := { tm := [sv 1 (.ptr 0 14 0 0), sv 3 (.ptr 1 1 0 0), sv 4 (.fn 123 [(.ptr 1 1 0 0)])], hp := [(0, some (.box [(i64 f.Issuer), (i64 f.Number), (i64 f.Version), (bl f.Withdrawn), (i64 f.Person), (i64 f.Kind), (i64 f.State), (i64 f.Span.From), (i64 f.Span.To), (i64 f.Seat), (i64 f.Share), (i64 f.Currency), (i64 f.Amount), (i64 f.Ref)])), (1, some (.box [(str uses)]))], nx := 2 }
noncomputable def fact_Valid_p2 (f : GFact) (uses : ByteArray) : Option (Bool) := gd (((!(uses.toList == (bstr []).toList)) && true) = true → (fact_within f.Issuer (0 : Int) (5 : Int)).isSome = true) (gd (((!(bif (uses.toList == (bstr []).toList) then true else (!((fact_within f.Issuer (0 : Int) (5 : Int)).getD false)))) && true) = true → (fact_within f.Number (1 : Int) (999 : Int)).isSome = true) (gd (((!(bif (bif (uses.toList == (bstr []).toList) then true else (!((fact_within f.Issuer (0 : Int) (5 : Int)).getD false))) then true else (!((fact_within f.Number (1 : Int) (999 : Int)).getD false)))) && true) = true → (fact_within f.Version (1 : Int) (99 : Int)).isSome = true) (gd (((!(bif (bif (bif (uses.toList == (bstr []).toList) then true else (!((fact_within f.Issuer (0 : Int) (5 : Int)).getD false))) then true else (!((fact_within f.Number (1 : Int) (999 : Int)).getD false))) then true else (!((fact_within f.Version (1 : Int) (99 : Int)).getD false)))) && true) = true → (fact_within f.Person (1 : Int) (99 : Int)).isSome = true) ((bif (bif (bif (bif (bif (uses.toList == (bstr []).toList) then true else (!((fact_within f.Issuer (0 : Int) (5 : Int)).getD false))) then true else (!((fact_within f.Number (1 : Int) (999 : Int)).getD false))) then true else (!((fact_within f.Version (1 : Int) (99 : Int)).getD false))) then true else (!((fact_within f.Person (1 : Int) (99 : Int)).getD false))) then (some false) else (fact_Valid_1 (bstr [83]) uses).bind fun r_2 => ((fact_field r_2 f.State (0 : Int) (5 : Int)).bind fun r_3 => (gd (((!(!r_3)) && true) = true → (fact_Valid_1 (bstr [84]) uses).isSome = true) (gd (((!(!r_3)) && true) = true → (fact_field ((fact_Valid_1 (bstr [84]) uses).getD false) f.Seat (0 : Int) (5 : Int)).isSome = true) (gd (((!(bif (!r_3) then true else (!((fact_field ((fact_Valid_1 (bstr [84]) uses).getD false) f.Seat (0 : Int) (5 : Int)).getD false)))) && true) = true → (fact_validSpan f.Span).isSome = true) ((bif (bif (bif (!r_3) then true else (!((fact_field ((fact_Valid_1 (bstr [84]) uses).getD false) f.Seat (0 : Int) (5 : Int)).getD false))) then true else (!((fact_validSpan f.Span).getD false))) then (some false) else (fact_Valid_1 (bstr [72]) uses).bind fun r_4 => ((fact_field r_4 f.Share (1 : Int) (100 : Int)).bind fun r_5 => (gd (((!(!r_5)) && true) = true → (fact_Valid_1 (bstr [67]) uses).isSome = true) (gd (((!(!r_5)) && true) = true → (fact_field ((fact_Valid_1 (bstr [67]) uses).getD false) f.Currency (1 : Int) (999 : Int)).isSome = true) (gd (((!(bif (!r_5) then true else (!((fact_field ((fact_Valid_1 (bstr [67]) uses).getD false) f.Currency (1 : Int) (999 : Int)).getD false)))) && true) = true → (fact_Valid_1 (bstr [65]) uses).isSome = true) (gd (((!(bif (!r_5) then true else (!((fact_field ((fact_Valid_1 (bstr [67]) uses).getD false) f.Currency (1 : Int) (999 : Int)).getD false)))) && true) = true → (fact_field ((fact_Valid_1 (bstr [65]) uses).getD false) f.Amount (0 : Int) (1000000000 : Int)).isSome = true) (gd (((!(bif (bif (!r_5) then true else (!((fact_field ((fact_Valid_1 (bstr [67]) uses).getD false) f.Currency (1 : Int) (999 : Int)).getD false))) then true else (!((fact_field ((fact_Valid_1 (bstr [65]) uses).getD false) f.Amount (0 : Int) (1000000000 : Int)).getD false)))) && true) = true → (fact_Valid_1 (bstr [82]) uses).isSome = true) (gd (((!(bif (bif (!r_5) then true else (!((fact_field ((fact_Valid_1 (bstr [67]) uses).getD false) f.Currency (1 : Int) (999 : Int)).getD false))) then true else (!((fact_field ((fact_Valid_1 (bstr [65]) uses).getD false) f.Amount (0 : Int) (1000000000 : Int)).getD false)))) && true) = true → (fact_field ((fact_Valid_1 (bstr [82]) uses).getD false) f.Ref (1 : Int) (99 : Int)).isSome = true) ((bif (bif (bif (bif (!r_5) then true else (!((fact_field ((fact_Valid_1 (bstr [67]) uses).getD false) f.Currency (1 : Int) (999 : Int)).getD false))) then true else (!((fact_field ((fact_Valid_1 (bstr [65]) uses).getD false) f.Amount (0 : Int) (1000000000 : Int)).getD false))) then true else (!((fact_field ((fact_Valid_1 (bstr [82]) uses).getD false) f.Ref (1 : Int) (99 : Int)).getD false))) then (some false) else (fact_Valid_p1 f)))))))))))))))))))))
theorem fact_Valid_p2_nf (f : GFact) (uses : ByteArray) (K : Exit → St → Prop) :
    ev Try.prog (lookC [(123, fact_Valid_1_C), (125, fact_within_C), (126, fact_field_C), (127, fact_validSpan_C)]) 116 (ofItems ((List.drop 3 fact_Valid_i0).take 2)) (cN [1, 2, 89] K) (fact_Valid_p2_S f uses) =
    ((((!(uses.toList == (bstr []).toList)) && true) = true → (fact_within f.Issuer (0 : Int) (5 : Int)).isSome = true) ∧ (((!(bif (uses.toList == (bstr []).toList) then true else (!((fact_within f.Issuer (0 : Int) (5 : Int)).getD false)))) && true) = true → (fact_within f.Number (1 : Int) (999 : Int)).isSome = true) ∧ (((!(bif (bif (uses.toList == (bstr []).toList) then true else (!((fact_within f.Issuer (0 : Int) (5 : Int)).getD false))) then true else (!((fact_within f.Number (1 : Int) (999 : Int)).getD false)))) && true) = true → (fact_within f.Version (1 : Int) (99 : Int)).isSome = true) ∧ (((!(bif (bif (bif (uses.toList == (bstr []).toList) then true else (!((fact_within f.Issuer (0 : Int) (5 : Int)).getD false))) then true else (!((fact_within f.Number (1 : Int) (999 : Int)).getD false))) then true else (!((fact_within f.Version (1 : Int) (99 : Int)).getD false)))) && true) = true → (fact_within f.Person (1 : Int) (99 : Int)).isSome = true) ∧ ((bif (bif (bif (bif (bif (uses.toList == (bstr []).toList) then true else (!((fact_within f.Issuer (0 : Int) (5 : Int)).getD false))) then true else (!((fact_within f.Number (1 : Int) (999 : Int)).getD false))) then true else (!((fact_within f.Version (1 : Int) (99 : Int)).getD false))) then true else (!((fact_within f.Person (1 : Int) (99 : Int)).getD false))) then wK K .ret ({ tm := [sv 1 (.ptr 0 14 0 0), sv 2 (bl false)], hp := [(0, some (.box [(i64 f.Issuer), (i64 f.Number), (i64 f.Version), (bl f.Withdrawn), (i64 f.Person), (i64 f.Kind), (i64 f.State), (i64 f.Span.From), (i64 f.Span.To), (i64 f.Seat), (i64 f.Share), (i64 f.Currency), (i64 f.Amount), (i64 f.Ref)]))], nx := 1 }) else ((fact_Valid_1 (bstr [83]) uses).isSome = true) ∧ ((fact_field ((fact_Valid_1 (bstr [83]) uses).getD false) f.State (0 : Int) (5 : Int)).isSome = true) ∧ (((!(!((fact_field ((fact_Valid_1 (bstr [83]) uses).getD false) f.State (0 : Int) (5 : Int)).getD false))) && true) = true → (fact_Valid_1 (bstr [84]) uses).isSome = true) ∧ (((!(!((fact_field ((fact_Valid_1 (bstr [83]) uses).getD false) f.State (0 : Int) (5 : Int)).getD false))) && true) = true → (fact_field ((fact_Valid_1 (bstr [84]) uses).getD false) f.Seat (0 : Int) (5 : Int)).isSome = true) ∧ (((!(bif (!((fact_field ((fact_Valid_1 (bstr [83]) uses).getD false) f.State (0 : Int) (5 : Int)).getD false)) then true else (!((fact_field ((fact_Valid_1 (bstr [84]) uses).getD false) f.Seat (0 : Int) (5 : Int)).getD false)))) && true) = true → (fact_validSpan f.Span).isSome = true) ∧ ((bif (bif (bif (!((fact_field ((fact_Valid_1 (bstr [83]) uses).getD false) f.State (0 : Int) (5 : Int)).getD false)) then true else (!((fact_field ((fact_Valid_1 (bstr [84]) uses).getD false) f.Seat (0 : Int) (5 : Int)).getD false))) then true else (!((fact_validSpan f.Span).getD false))) then wK K .ret ({ tm := [sv 1 (.ptr 0 14 0 0), sv 2 (bl false)], hp := [(0, some (.box [(i64 f.Issuer), (i64 f.Number), (i64 f.Version), (bl f.Withdrawn), (i64 f.Person), (i64 f.Kind), (i64 f.State), (i64 f.Span.From), (i64 f.Span.To), (i64 f.Seat), (i64 f.Share), (i64 f.Currency), (i64 f.Amount), (i64 f.Ref)]))], nx := 1 }) else ((fact_Valid_1 (bstr [72]) uses).isSome = true) ∧ ((fact_field ((fact_Valid_1 (bstr [72]) uses).getD false) f.Share (1 : Int) (100 : Int)).isSome = true) ∧ (((!(!((fact_field ((fact_Valid_1 (bstr [72]) uses).getD false) f.Share (1 : Int) (100 : Int)).getD false))) && true) = true → (fact_Valid_1 (bstr [67]) uses).isSome = true) ∧ (((!(!((fact_field ((fact_Valid_1 (bstr [72]) uses).getD false) f.Share (1 : Int) (100 : Int)).getD false))) && true) = true → (fact_field ((fact_Valid_1 (bstr [67]) uses).getD false) f.Currency (1 : Int) (999 : Int)).isSome = true) ∧ (((!(bif (!((fact_field ((fact_Valid_1 (bstr [72]) uses).getD false) f.Share (1 : Int) (100 : Int)).getD false)) then true else (!((fact_field ((fact_Valid_1 (bstr [67]) uses).getD false) f.Currency (1 : Int) (999 : Int)).getD false)))) && true) = true → (fact_Valid_1 (bstr [65]) uses).isSome = true) ∧ (((!(bif (!((fact_field ((fact_Valid_1 (bstr [72]) uses).getD false) f.Share (1 : Int) (100 : Int)).getD false)) then true else (!((fact_field ((fact_Valid_1 (bstr [67]) uses).getD false) f.Currency (1 : Int) (999 : Int)).getD false)))) && true) = true → (fact_field ((fact_Valid_1 (bstr [65]) uses).getD false) f.Amount (0 : Int) (1000000000 : Int)).isSome = true) ∧ (((!(bif (bif (!((fact_field ((fact_Valid_1 (bstr [72]) uses).getD false) f.Share (1 : Int) (100 : Int)).getD false)) then true else (!((fact_field ((fact_Valid_1 (bstr [67]) uses).getD false) f.Currency (1 : Int) (999 : Int)).getD false))) then true else (!((fact_field ((fact_Valid_1 (bstr [65]) uses).getD false) f.Amount (0 : Int) (1000000000 : Int)).getD false)))) && true) = true → (fact_Valid_1 (bstr [82]) uses).isSome = true) ∧ (((!(bif (bif (!((fact_field ((fact_Valid_1 (bstr [72]) uses).getD false) f.Share (1 : Int) (100 : Int)).getD false)) then true else (!((fact_field ((fact_Valid_1 (bstr [67]) uses).getD false) f.Currency (1 : Int) (999 : Int)).getD false))) then true else (!((fact_field ((fact_Valid_1 (bstr [65]) uses).getD false) f.Amount (0 : Int) (1000000000 : Int)).getD false)))) && true) = true → (fact_field ((fact_Valid_1 (bstr [82]) uses).getD false) f.Ref (1 : Int) (99 : Int)).isSome = true) ∧ ((bif (bif (bif (bif (!((fact_field ((fact_Valid_1 (bstr [72]) uses).getD false) f.Share (1 : Int) (100 : Int)).getD false)) then true else (!((fact_field ((fact_Valid_1 (bstr [67]) uses).getD false) f.Currency (1 : Int) (999 : Int)).getD false))) then true else (!((fact_field ((fact_Valid_1 (bstr [65]) uses).getD false) f.Amount (0 : Int) (1000000000 : Int)).getD false))) then true else (!((fact_field ((fact_Valid_1 (bstr [82]) uses).getD false) f.Ref (1 : Int) (99 : Int)).getD false))) then wK K .ret ({ tm := [sv 1 (.ptr 0 14 0 0), sv 2 (bl false)], hp := [(0, some (.box [(i64 f.Issuer), (i64 f.Number), (i64 f.Version), (bl f.Withdrawn), (i64 f.Person), (i64 f.Kind), (i64 f.State), (i64 f.Span.From), (i64 f.Span.To), (i64 f.Seat), (i64 f.Share), (i64 f.Currency), (i64 f.Amount), (i64 f.Ref)]))], nx := 1 }) else wK K .normal ({ tm := [sv 1 (.ptr 0 14 0 0), sv 89 (i64 f.Kind)], hp := [(0, some (.box [(i64 f.Issuer), (i64 f.Number), (i64 f.Version), (bl f.Withdrawn), (i64 f.Person), (i64 f.Kind), (i64 f.State), (i64 f.Span.From), (i64 f.Span.To), (i64 f.Seat), (i64 f.Share), (i64 f.Currency), (i64 f.Amount), (i64 f.Ref)]))], nx := 1 })))))))) := by kernel_rfl
theorem fact_Valid_p2_ok (f : GFact) (uses : ByteArray) (K : Exit → St → Prop) (h : W (fact_Valid_p2 f uses) (fun x => (fun x K => K .ret (fact_Valid_R x)) x K)) : EvL Try.prog 116 (List.drop 3 fact_Valid_i0) K (fact_Valid_p2_S f uses) :=
  EvL.pieceD mixed (lookC_ok (l := [(123, fact_Valid_1_C), (125, fact_within_C), (126, fact_field_C), (127, fact_validSpan_C)]) ⟨fact_Valid_1_ok, fact_within_ok, fact_field_ok, fact_validSpan_ok, trivial⟩) [1, 2, 89] 3 2 5 rfl (EvP.of (fact_Valid_p2_nf f uses _) ((W_gd h fun hp0 h => (W_gd h fun hp1 h => (W_gd h fun hp2 h => (W_gd h fun hp3 h => (W_bif h (fun _ h => ⟨(fact_Valid_R false), (Ent.trans (Ent.canonN [2] (by kernel_rfl)) (Ent.of_eq (σ' := { tm := [sv 2 (bl false)], hp := [], nx := 0 }) (by kernel_rfl))), h⟩) (fun _ h => (W_bind false h fun hp4 h => (W_bind false h fun hp5 h => (W_gd h fun hp6 h => (W_gd h fun hp7 h => (W_gd h fun hp8 h => (W_bif h (fun _ h => ⟨(fact_Valid_R false), (Ent.trans (Ent.canonN [2] (by kernel_rfl)) (Ent.of_eq (σ' := { tm := [sv 2 (bl false)], hp := [], nx := 0 }) (by kernel_rfl))), h⟩) (fun _ h => (W_bind false h fun hp9 h => (W_bind false h fun hp10 h => (W_gd h fun hp11 h => (W_gd h fun hp12 h => (W_gd h fun hp13 h => (W_gd h fun hp14 h => (W_gd h fun hp15 h => (W_gd h fun hp16 h => (W_bif h (fun _ h => ⟨(fact_Valid_R false), (Ent.trans (Ent.canonN [2] (by kernel_rfl)) (Ent.of_eq (σ' := { tm := [sv 2 (bl false)], hp := [], nx := 0 }) (by kernel_rfl))), h⟩) (fun _ h => ⟨(fact_Valid_p1_S f), (Ent.refl _), (fact_Valid_p1_ok f _ h)⟩)))))))))))))))))))))))))
def fact_Valid_p3_S (f : GFact) : St := { tm := [sv 0 (.agg [(i64 f.Issuer), (i64 f.Number), (i64 f.Version), (bl f.Withdrawn), (i64 f.Person), (i64 f.Kind), (i64 f.State), (i64 f.Span.From), (i64 f.Span.To), (i64 f.Seat), (i64 f.Share), (i64 f.Currency), (i64 f.Amount), (i64 f.Ref)])], hp := [], nx := 0 }
noncomputable def fact_Valid_p3 (f : GFact) : Option (Bool) := (fact_Uses f.Kind).bind fun r_1 => ((fact_Valid_p2 f r_1))
theorem fact_Valid_p3_nf (f : GFact) (K : Exit → St → Prop) :
    ev Try.prog (lookC [(122, fact_Uses_C)]) 116 (ofItems ((List.drop 0 fact_Valid_i0).take 3)) (cN [1, 3, 4, 13, 14, 15, 16, 19, 20, 21, 22, 25, 26, 27, 28, 31, 32, 33, 34, 44, 45, 46, 47, 48, 49, 52, 53, 54, 55, 65, 66, 67, 68, 69, 70, 73, 74, 75, 76, 77, 78, 81, 82, 83, 84, 85, 86] K) (fact_Valid_p3_S f) =
    (((fact_Uses f.Kind).isSome = true) ∧ (wK K .normal ({ tm := [sv 1 (.ptr 0 14 0 0), sv 3 (.ptr 1 1 0 0), sv 4 (.fn 123 [(.ptr 1 1 0 0)])], hp := [(0, some (.box [(i64 f.Issuer), (i64 f.Number), (i64 f.Version), (bl f.Withdrawn), (i64 f.Person), (i64 f.Kind), (i64 f.State), (i64 f.Span.From), (i64 f.Span.To), (i64 f.Seat), (i64 f.Share), (i64 f.Currency), (i64 f.Amount), (i64 f.Ref)])), (1, some (.box [(str ((fact_Uses f.Kind).getD (bstr [])))]))], nx := 2 }))) := by kernel_rfl
theorem fact_Valid_p3_ok (f : GFact) (K : Exit → St → Prop) (h : W (fact_Valid_p3 f) (fun x => (fun x K => K .ret (fact_Valid_R x)) x K)) : EvL Try.prog 116 (List.drop 0 fact_Valid_i0) K (fact_Valid_p3_S f) :=
  EvL.pieceD mixed (lookC_ok (l := [(122, fact_Uses_C)]) ⟨fact_Uses_ok, trivial⟩) [1, 3, 4, 13, 14, 15, 16, 19, 20, 21, 22, 25, 26, 27, 28, 31, 32, 33, 34, 44, 45, 46, 47, 48, 49, 52, 53, 54, 55, 65, 66, 67, 68, 69, 70, 73, 74, 75, 76, 77, 78, 81, 82, 83, 84, 85, 86] 0 3 3 rfl (EvP.of (fact_Valid_p3_nf f _) ((W_bind (bstr []) h fun hp0 h => ⟨(fact_Valid_p2_S f ((fact_Uses f.Kind).getD (bstr []))), (Ent.refl _), (fact_Valid_p2_ok f ((fact_Uses f.Kind).getD (bstr [])) _ h)⟩)))
noncomputable def fact_Valid (f : GFact) : Option (Bool) := fact_Valid_p3 f
theorem fact_Valid_run (f : GFact) (y_ : Bool) (h : fact_Valid f = some y_) : EvL Try.prog 116 (items (bodyOf Try.f77)) (retK Try.prog [.tmp 2] (OutOk (fact_Valid_out y_))) (fact_Valid_p3_S f) :=
  fact_Valid_p3_ok f _ (W_iff.2 ⟨y_, h, fact_Valid_Rok y_⟩)
noncomputable def fact_Valid_C : Con
  | [(.agg [(.c (.lit (.int .i64 a1))), (.c (.lit (.int .i64 a2))), (.c (.lit (.int .i64 a3))), (.c (.lit (.bool a4))), (.c (.lit (.int .i64 a5))), (.c (.lit (.int .i64 a6))), (.c (.lit (.int .i64 a7))), (.c (.lit (.int .i64 a8))), (.c (.lit (.int .i64 a9))), (.c (.lit (.int .i64 a10))), (.c (.lit (.int .i64 a11))), (.c (.lit (.int .i64 a12))), (.c (.lit (.int .i64 a13))), (.c (.lit (.int .i64 a14)))])] => some ([(fact_Valid (GFact.mk a1 a2 a3 a4 a5 a6 a7 (GSpan.mk a8 a9) a10 a11 a12 a13 a14)).isSome = true], (fact_Valid_out ((fact_Valid (GFact.mk a1 a2 a3 a4 a5 a6 a7 (GSpan.mk a8 a9) a10 a11 a12 a13 a14)).getD false)))
  | _ => none
theorem fact_Valid_ok : Meets Try.prog 77 fact_Valid_C := by
  refine meets_fun (fn := Try.f77) (c := bodyOf Try.f77) (by kernel_rfl) (by kernel_rfl) (by kernel_rfl) (rs := [.tmp 2]) (by kernel_rfl) (nt := 116) (by kernel_rfl) fun vs p out h hp => ?_
  unfold fact_Valid_C at h
  split at h
  · next a1 a2 a3 a4 a5 a6 a7 a8 a9 a10 a11 a12 a13 a14 =>
    cases h
    obtain ⟨g, hp⟩ := allq hp
    obtain ⟨x, hx⟩ := Option.isSome_iff_exists.1 g
    rw [hx]
    exact ⟨[(.agg [(i64 (GFact.mk a1 a2 a3 a4 a5 a6 a7 (GSpan.mk a8 a9) a10 a11 a12 a13 a14).Issuer), (i64 (GFact.mk a1 a2 a3 a4 a5 a6 a7 (GSpan.mk a8 a9) a10 a11 a12 a13 a14).Number), (i64 (GFact.mk a1 a2 a3 a4 a5 a6 a7 (GSpan.mk a8 a9) a10 a11 a12 a13 a14).Version), (bl (GFact.mk a1 a2 a3 a4 a5 a6 a7 (GSpan.mk a8 a9) a10 a11 a12 a13 a14).Withdrawn), (i64 (GFact.mk a1 a2 a3 a4 a5 a6 a7 (GSpan.mk a8 a9) a10 a11 a12 a13 a14).Person), (i64 (GFact.mk a1 a2 a3 a4 a5 a6 a7 (GSpan.mk a8 a9) a10 a11 a12 a13 a14).Kind), (i64 (GFact.mk a1 a2 a3 a4 a5 a6 a7 (GSpan.mk a8 a9) a10 a11 a12 a13 a14).State), (i64 ((GFact.mk a1 a2 a3 a4 a5 a6 a7 (GSpan.mk a8 a9) a10 a11 a12 a13 a14).Span).From), (i64 ((GFact.mk a1 a2 a3 a4 a5 a6 a7 (GSpan.mk a8 a9) a10 a11 a12 a13 a14).Span).To), (i64 (GFact.mk a1 a2 a3 a4 a5 a6 a7 (GSpan.mk a8 a9) a10 a11 a12 a13 a14).Seat), (i64 (GFact.mk a1 a2 a3 a4 a5 a6 a7 (GSpan.mk a8 a9) a10 a11 a12 a13 a14).Share), (i64 (GFact.mk a1 a2 a3 a4 a5 a6 a7 (GSpan.mk a8 a9) a10 a11 a12 a13 a14).Currency), (i64 (GFact.mk a1 a2 a3 a4 a5 a6 a7 (GSpan.mk a8 a9) a10 a11 a12 a13 a14).Amount), (i64 (GFact.mk a1 a2 a3 a4 a5 a6 a7 (GSpan.mk a8 a9) a10 a11 a12 a13 a14).Ref)])], (VLes.cons (VLe.rfl' _) VLes.nil), rfl, fact_Valid_run (GFact.mk a1 a2 a3 a4 a5 a6 a7 (GSpan.mk a8 a9) a10 a11 a12 a13 a14) x hx⟩
  · cases h

noncomputable def earnings_Part_i0 : List Code := items (bodyOf Try.f24)
def earnings_Part_R (x_1 : Int) : St := { tm := [sv 4 (i64 x_1)], hp := [], nx := 0 }
def earnings_Part_out (x_1 : Int) : Out := .data (i64 x_1)
theorem earnings_Part_Rok (x_1 : Int) : retK Try.prog [.tmp 4] (OutOk (earnings_Part_out x_1)) .ret (earnings_Part_R x_1) :=
  retK.intro (v := (i64 x_1)) (by kernel_rfl) ((VLe.rfl' _))
def earnings_Part_p0_S (f : GFact) (days : Int) : St := { tm := [sv 0 (.agg [(i64 f.Issuer), (i64 f.Number), (i64 f.Version), (bl f.Withdrawn), (i64 f.Person), (i64 f.Kind), (i64 f.State), (i64 f.Span.From), (i64 f.Span.To), (i64 f.Seat), (i64 f.Share), (i64 f.Currency), (i64 f.Amount), (i64 f.Ref)]), sv 1 (i64 days)], hp := [], nx := 0 }
noncomputable def earnings_Part_p0 (f : GFact) (days : Int) : Option (Int) := (fact_Valid f).bind fun r_1 => ((bif (bif (bif (!r_1) then true else (decide (days < (0 : Int)))) then true else (decide ((w64 (f.Span.To - f.Span.From)) < days))) then (some (0 : Int)) else gd ((w64 (f.Span.To - f.Span.From)) ≠ (0 : Int)) ((some (w64 (Int.tdiv (w64 (f.Amount * days)) (w64 (f.Span.To - f.Span.From))))))))
theorem earnings_Part_p0_nf (f : GFact) (days : Int) (K : Exit → St → Prop) :
    ev Try.prog (lookC [(77, fact_Valid_C)]) 35 (ofItems ((List.drop 0 earnings_Part_i0).take 5)) (cN [4] K) (earnings_Part_p0_S f days) =
    (((fact_Valid f).isSome = true) ∧ ((bif (bif (bif (!((fact_Valid f).getD false)) then true else (decide (days < (0 : Int)))) then true else (decide ((w64 (f.Span.To - f.Span.From)) < days))) then wK K .ret ({ tm := [sv 4 (i64 (0 : Int))], hp := [], nx := 0 }) else ((w64 (f.Span.To - f.Span.From)) ≠ (0 : Int)) ∧ (wK K .ret ({ tm := [sv 4 (i64 (w64 (Int.tdiv (w64 (f.Amount * days)) (w64 (f.Span.To - f.Span.From)))))], hp := [], nx := 0 }))))) := by kernel_rfl
theorem earnings_Part_p0_ok (f : GFact) (days : Int) (K : Exit → St → Prop) (h : W (earnings_Part_p0 f days) (fun x => (fun x K => K .ret (earnings_Part_R x)) x K)) : EvL Try.prog 35 (List.drop 0 earnings_Part_i0) K (earnings_Part_p0_S f days) :=
  EvL.pieceE mixed (lookC_ok (l := [(77, fact_Valid_C)]) ⟨fact_Valid_ok, trivial⟩) [4] 0 5 (by kernel_rfl) (EvP.of (earnings_Part_p0_nf f days _) ((W_bind false h fun hp0 h => (W_bif h (fun _ h => ⟨(earnings_Part_R (0 : Int)), (Ent.refl _), h⟩) (fun _ h => (W_gd h fun hp1 h => ⟨(earnings_Part_R (w64 (Int.tdiv (w64 (f.Amount * days)) (w64 (f.Span.To - f.Span.From))))), (Ent.refl _), h⟩))))))
noncomputable def earnings_Part (f : GFact) (days : Int) : Option (Int) := earnings_Part_p0 f days
theorem earnings_Part_run (f : GFact) (days : Int) (y_ : Int) (h : earnings_Part f days = some y_) : EvL Try.prog 35 (items (bodyOf Try.f24)) (retK Try.prog [.tmp 4] (OutOk (earnings_Part_out y_))) (earnings_Part_p0_S f days) :=
  earnings_Part_p0_ok f days _ (W_iff.2 ⟨y_, h, earnings_Part_Rok y_⟩)
noncomputable def earnings_Part_C : Con
  | [(.agg [(.c (.lit (.int .i64 a1))), (.c (.lit (.int .i64 a2))), (.c (.lit (.int .i64 a3))), (.c (.lit (.bool a4))), (.c (.lit (.int .i64 a5))), (.c (.lit (.int .i64 a6))), (.c (.lit (.int .i64 a7))), (.c (.lit (.int .i64 a8))), (.c (.lit (.int .i64 a9))), (.c (.lit (.int .i64 a10))), (.c (.lit (.int .i64 a11))), (.c (.lit (.int .i64 a12))), (.c (.lit (.int .i64 a13))), (.c (.lit (.int .i64 a14)))]), (.c (.lit (.int .i64 a15)))] => some ([(earnings_Part (GFact.mk a1 a2 a3 a4 a5 a6 a7 (GSpan.mk a8 a9) a10 a11 a12 a13 a14) a15).isSome = true], (earnings_Part_out ((earnings_Part (GFact.mk a1 a2 a3 a4 a5 a6 a7 (GSpan.mk a8 a9) a10 a11 a12 a13 a14) a15).getD (0 : Int))))
  | _ => none
theorem earnings_Part_ok : Meets Try.prog 24 earnings_Part_C := by
  refine meets_fun (fn := Try.f24) (c := bodyOf Try.f24) (by kernel_rfl) (by kernel_rfl) (by kernel_rfl) (rs := [.tmp 4]) (by kernel_rfl) (nt := 35) (by kernel_rfl) fun vs p out h hp => ?_
  unfold earnings_Part_C at h
  split at h
  · next a1 a2 a3 a4 a5 a6 a7 a8 a9 a10 a11 a12 a13 a14 a15 =>
    cases h
    obtain ⟨g, hp⟩ := allq hp
    obtain ⟨x, hx⟩ := Option.isSome_iff_exists.1 g
    rw [hx]
    exact ⟨[(.agg [(i64 (GFact.mk a1 a2 a3 a4 a5 a6 a7 (GSpan.mk a8 a9) a10 a11 a12 a13 a14).Issuer), (i64 (GFact.mk a1 a2 a3 a4 a5 a6 a7 (GSpan.mk a8 a9) a10 a11 a12 a13 a14).Number), (i64 (GFact.mk a1 a2 a3 a4 a5 a6 a7 (GSpan.mk a8 a9) a10 a11 a12 a13 a14).Version), (bl (GFact.mk a1 a2 a3 a4 a5 a6 a7 (GSpan.mk a8 a9) a10 a11 a12 a13 a14).Withdrawn), (i64 (GFact.mk a1 a2 a3 a4 a5 a6 a7 (GSpan.mk a8 a9) a10 a11 a12 a13 a14).Person), (i64 (GFact.mk a1 a2 a3 a4 a5 a6 a7 (GSpan.mk a8 a9) a10 a11 a12 a13 a14).Kind), (i64 (GFact.mk a1 a2 a3 a4 a5 a6 a7 (GSpan.mk a8 a9) a10 a11 a12 a13 a14).State), (i64 ((GFact.mk a1 a2 a3 a4 a5 a6 a7 (GSpan.mk a8 a9) a10 a11 a12 a13 a14).Span).From), (i64 ((GFact.mk a1 a2 a3 a4 a5 a6 a7 (GSpan.mk a8 a9) a10 a11 a12 a13 a14).Span).To), (i64 (GFact.mk a1 a2 a3 a4 a5 a6 a7 (GSpan.mk a8 a9) a10 a11 a12 a13 a14).Seat), (i64 (GFact.mk a1 a2 a3 a4 a5 a6 a7 (GSpan.mk a8 a9) a10 a11 a12 a13 a14).Share), (i64 (GFact.mk a1 a2 a3 a4 a5 a6 a7 (GSpan.mk a8 a9) a10 a11 a12 a13 a14).Currency), (i64 (GFact.mk a1 a2 a3 a4 a5 a6 a7 (GSpan.mk a8 a9) a10 a11 a12 a13 a14).Amount), (i64 (GFact.mk a1 a2 a3 a4 a5 a6 a7 (GSpan.mk a8 a9) a10 a11 a12 a13 a14).Ref)]), (i64 a15)], (VLes.cons (VLe.rfl' _) (VLes.cons (VLe.rfl' _) VLes.nil)), rfl, earnings_Part_run (GFact.mk a1 a2 a3 a4 a5 a6 a7 (GSpan.mk a8 a9) a10 a11 a12 a13 a14) a15 x hx⟩
  · cases h

noncomputable def law19_awake_i0 : List Code := items (bodyOf Try.f25)
def law19_awake_R (x_1 : Bool) : St := { tm := [sv 0 (bl x_1)], hp := [], nx := 0 }
def law19_awake_out (x_1 : Bool) : Out := .data (bl x_1)
theorem law19_awake_Rok (x_1 : Bool) : retK Try.prog [.tmp 0] (OutOk (law19_awake_out x_1)) .ret (law19_awake_R x_1) :=
  retK.intro (v := (bl x_1)) (by kernel_rfl) ((VLe.rfl' _))
def law19_awake_p0_S : St := { tm := [], hp := [], nx := 0 }
noncomputable def law19_awake_p0 : Option (Bool) := (earnings_Part (GFact.mk (0 : Int) (1 : Int) (1 : Int) false (1 : Int) (1 : Int) (0 : Int) (GSpan.mk (36159 : Int) (36524 : Int)) (0 : Int) (100 : Int) (1 : Int) (36500 : Int) (0 : Int)) (100 : Int)).bind fun r_1 => ((some (r_1 == (10000 : Int))))
theorem law19_awake_p0_nf (K : Exit → St → Prop) :
    ev Try.prog (lookC [(24, earnings_Part_C)]) 7 (ofItems ((List.drop 0 law19_awake_i0).take 4)) (cN [0] K) (law19_awake_p0_S) =
    (((earnings_Part (GFact.mk (0 : Int) (1 : Int) (1 : Int) false (1 : Int) (1 : Int) (0 : Int) (GSpan.mk (36159 : Int) (36524 : Int)) (0 : Int) (100 : Int) (1 : Int) (36500 : Int) (0 : Int)) (100 : Int)).isSome = true) ∧ (wK K .ret ({ tm := [sv 0 (bl (((earnings_Part (GFact.mk (0 : Int) (1 : Int) (1 : Int) false (1 : Int) (1 : Int) (0 : Int) (GSpan.mk (36159 : Int) (36524 : Int)) (0 : Int) (100 : Int) (1 : Int) (36500 : Int) (0 : Int)) (100 : Int)).getD (0 : Int)) == (10000 : Int)))], hp := [], nx := 0 }))) := by kernel_rfl
theorem law19_awake_p0_ok (K : Exit → St → Prop) (h : W (law19_awake_p0) (fun x => (fun x K => K .ret (law19_awake_R x)) x K)) : EvL Try.prog 7 (List.drop 0 law19_awake_i0) K (law19_awake_p0_S) :=
  EvL.pieceE mixed (lookC_ok (l := [(24, earnings_Part_C)]) ⟨earnings_Part_ok, trivial⟩) [0] 0 4 (by kernel_rfl) (EvP.of (law19_awake_p0_nf _) ((W_bind (0 : Int) h fun hp0 h => ⟨(law19_awake_R (((earnings_Part (GFact.mk (0 : Int) (1 : Int) (1 : Int) false (1 : Int) (1 : Int) (0 : Int) (GSpan.mk (36159 : Int) (36524 : Int)) (0 : Int) (100 : Int) (1 : Int) (36500 : Int) (0 : Int)) (100 : Int)).getD (0 : Int)) == (10000 : Int))), (Ent.refl _), h⟩)))
noncomputable def law19_awake : Option (Bool) := law19_awake_p0
theorem law19_awake_run (y_ : Bool) (h : law19_awake = some y_) : EvL Try.prog 7 (items (bodyOf Try.f25)) (retK Try.prog [.tmp 0] (OutOk (law19_awake_out y_))) (law19_awake_p0_S) :=
  law19_awake_p0_ok _ (W_iff.2 ⟨y_, h, law19_awake_Rok y_⟩)
noncomputable def law19_awake_C : Con
  | [] => some ([(law19_awake).isSome = true], (law19_awake_out ((law19_awake).getD false)))
  | _ => none
theorem law19_awake_ok : Meets Try.prog 25 law19_awake_C := by
  refine meets_fun (fn := Try.f25) (c := bodyOf Try.f25) (by kernel_rfl) (by kernel_rfl) (by kernel_rfl) (rs := [.tmp 0]) (by kernel_rfl) (nt := 7) (by kernel_rfl) fun vs p out h hp => ?_
  unfold law19_awake_C at h
  split at h
  ·
    cases h
    obtain ⟨g, hp⟩ := allq hp
    obtain ⟨x, hx⟩ := Option.isSome_iff_exists.1 g
    rw [hx]
    exact ⟨[], VLes.nil, rfl, law19_awake_run x hx⟩
  · cases h

noncomputable def ref12_uses_i0 : List Code := items (bodyOf Try.f168)
noncomputable def ref12_uses_i1 : List Code := items (inside (inside (nthI ref12_uses_i0 3)))
def ref12_uses_R (x_1 : Bool) : St := { tm := [sv 4 (bl x_1)], hp := [], nx := 0 }
def ref12_uses_out (x_1 : Bool) : Out := .data (bl x_1)
theorem ref12_uses_Rok (x_1 : Bool) : retK Try.prog [.tmp 4] (OutOk (ref12_uses_out x_1)) .ret (ref12_uses_R x_1) :=
  retK.intro (v := (bl x_1)) (by kernel_rfl) ((VLe.rfl' _))
def ref12_uses_l1_S (c : Int) (s_1 : ByteArray) (s : (Int)) : St := match s with | i_1 => { tm := [sv 1 (.c (.lit (.int .u8 c))), sv 5 (str s_1), sv 6 (i64 i_1)], hp := [], nx := 0 }
def ref12_uses_l1_C0 (c : Int) (s_1 : ByteArray) (s : Unit) : St := match s with | () => { tm := [sv 4 (bl true)], hp := [], nx := 0 }
def ref12_uses_l1_C1 (c : Int) (s_1 : ByteArray) (s : Unit) : St := match s with | () => { tm := [], hp := [], nx := 0 }
def ref12_uses_l1_E (c : Int) (s_1 : ByteArray) (r : ((Unit) ⊕ (Unit))) (K : Exit → St → Prop) : Prop := match r with | (.inl s) => K .ret (ref12_uses_l1_C0 c s_1 s) | (.inr s) => K (.exit 0) (ref12_uses_l1_C1 c s_1 s)
def ref12_uses_p0_S (c : Int) (s_1 : ByteArray) (i_1 : Int) : St := { tm := [sv 1 (.c (.lit (.int .u8 c))), sv 5 (str s_1), sv 6 (i64 i_1)], hp := [], nx := 0 }
noncomputable def ref12_uses_p0 (c : Int) (s_1 : ByteArray) (i_1 : Int) : Option ((Int) ⊕ ((Unit) ⊕ (Unit))) := (bif (decide (i_1 < ((s_1.size : Nat) : Int))) then gd ((0 : Int) ≤ i_1 ∧ i_1 < ((s_1.size : Nat) : Int)) ((bif (((s_1.data.getD (Int.toNat i_1) 0).toNat : Int) == c) then (some (Sum.inr (Sum.inl ()))) else (some (Sum.inl (w64 (i_1 + (1 : Int))))))) else (some (Sum.inr (Sum.inr ()))))
theorem ref12_uses_p0_nf (c : Int) (s_1 : ByteArray) (i_1 : Int) (K : Exit → St → Prop) :
    ev Try.prog (lookC []) 20 (ofItems ((List.drop 0 ref12_uses_i1).take 4)) (cN [1, 4, 5, 6] K) (ref12_uses_p0_S c s_1 i_1) =
    ((bif (decide (i_1 < ((s_1.size : Nat) : Int))) then ((0 : Int) ≤ i_1) ∧ (i_1 < ((s_1.size : Nat) : Int)) ∧ ((bif (((s_1.data.getD (Int.toNat i_1) 0).toNat : Int) == c) then wK K .ret ({ tm := [sv 1 (.c (.lit (.int .u8 c))), sv 4 (bl true), sv 5 (str s_1), sv 6 (i64 i_1)], hp := [], nx := 0 }) else wK K .normal ({ tm := [sv 1 (.c (.lit (.int .u8 c))), sv 5 (str s_1), sv 6 (i64 (w64 (i_1 + (1 : Int))))], hp := [], nx := 0 }))) else wK K (.exit 0) ({ tm := [sv 1 (.c (.lit (.int .u8 c))), sv 5 (str s_1), sv 6 (i64 i_1)], hp := [], nx := 0 }))) := by kernel_rfl
theorem ref12_uses_p0_ok (c : Int) (s_1 : ByteArray) (i_1 : Int) (K : Exit → St → Prop) (h : W (ref12_uses_p0 c s_1 i_1) (fun x => (nextE (ref12_uses_l1_S c s_1) (ref12_uses_l1_E c s_1)) x K)) : EvL Try.prog 20 (List.drop 0 ref12_uses_i1) K (ref12_uses_p0_S c s_1 i_1) :=
  EvL.pieceE mixed (lookC_ok (l := []) trivial) [1, 4, 5, 6] 0 4 (by kernel_rfl) (EvP.of (ref12_uses_p0_nf c s_1 i_1 _) ((W_bif h (fun _ h => (W_gd2 h fun hp0 h => (W_bif h (fun _ h => ⟨(ref12_uses_l1_C0 c s_1 ()), (Ent.trans (Ent.canonN [4] (by kernel_rfl)) (Ent.of_eq (σ' := { tm := [sv 4 (bl true)], hp := [], nx := 0 }) (by kernel_rfl))), h⟩) (fun _ h => ⟨(ref12_uses_l1_S c s_1 (w64 (i_1 + (1 : Int)))), (Ent.refl _), h⟩)))) (fun _ h => ⟨(ref12_uses_l1_C1 c s_1 ()), (Ent.trans (Ent.canonN [] (by kernel_rfl)) (Ent.of_eq (σ' := { tm := [], hp := [], nx := 0 }) (by kernel_rfl))), h⟩))))
noncomputable def ref12_uses_l1 (c : Int) (s_1 : ByteArray) (s : (Int)) : Option ((Int) ⊕ ((Unit) ⊕ (Unit))) := match s with | i_1 => ref12_uses_p0 c s_1 i_1
theorem ref12_uses_l1_ok (c : Int) (s_1 : ByteArray) (s : (Int)) : Pp Try.prog 20 (List.drop 0 ref12_uses_i1) (ref12_uses_l1_S c s_1 s) (ref12_uses_l1 c s_1 s) (nextE (ref12_uses_l1_S c s_1) (ref12_uses_l1_E c s_1)) := fun K h => match s, h with | i_1, h => (ref12_uses_p0_ok c s_1 i_1 _ h)
theorem ref12_uses_l1_E_then (c : Int) (s_1 : ByteArray) : ∀ (r : ((Unit) ⊕ (Unit))) (J : St → Prop) (K : Exit → St → Prop), ref12_uses_l1_E c s_1 r K → ref12_uses_l1_E c s_1 r (thenK J K)
  | (.inl s), _, _, h => h
  | (.inr s), _, _, h => h
def ref12_uses_p1_S : St := { tm := [], hp := [], nx := 0 }
noncomputable def ref12_uses_p1 : Option (Bool) := (some false)
theorem ref12_uses_p1_nf (K : Exit → St → Prop) :
    ev Try.prog (lookC []) 20 (ofItems ((List.drop 4 ref12_uses_i0).take 2)) (cN [4] K) (ref12_uses_p1_S) =
    (wK K .ret ({ tm := [sv 4 (bl false)], hp := [], nx := 0 })) := by kernel_rfl
theorem ref12_uses_p1_ok (K : Exit → St → Prop) (h : W (ref12_uses_p1) (fun x => (fun x K => K .ret (ref12_uses_R x)) x K)) : EvL Try.prog 20 (List.drop 4 ref12_uses_i0) K (ref12_uses_p1_S) :=
  EvL.pieceE mixed (lookC_ok (l := []) trivial) [4] 4 2 (by kernel_rfl) (EvP.of (ref12_uses_p1_nf _) (⟨(ref12_uses_R false), (Ent.refl _), h⟩))
def ref12_uses_p2_S (c : Int) (s_1 : ByteArray) : St := { tm := [sv 1 (.c (.lit (.int .u8 c))), sv 5 (str s_1), sv 6 (i64 (0 : Int))], hp := [], nx := 0 }
noncomputable def ref12_uses_p2_g (c : Int) (s_1 : ByteArray) (r : ((Unit) ⊕ (Unit))) : Option (Bool) := match r with | (.inl ()) => (some true) | (.inr ()) => ref12_uses_p1
noncomputable def ref12_uses_p2 (c : Int) (s_1 : ByteArray) : Option (Bool) := (fixL (ref12_uses_l1 c s_1) (0 : Int)).bind (ref12_uses_p2_g c s_1)
theorem ref12_uses_p2_at : List.drop 3 ref12_uses_i0 = .block 0 (.loop (inside (inside (nthI ref12_uses_i0 3)))) :: List.drop 4 ref12_uses_i0 := by kernel_rfl
theorem ref12_uses_p2_k (c : Int) (s_1 : ByteArray) (K : Exit → St → Prop) : ∀ r : ((Unit) ⊕ (Unit)), W (ref12_uses_p2_g c s_1 r) (fun x => (fun x K => K .ret (ref12_uses_R x)) x K) → ref12_uses_l1_E c s_1 r (wK (blockK 0 (thenK (EvL Try.prog 20 (List.drop 4 ref12_uses_i0) K) K)))
  | (.inl ()), h => ⟨(ref12_uses_R true), (Ent.refl _), h⟩
  | (.inr ()), h => ⟨(ref12_uses_p1_S), (Ent.refl _), (ref12_uses_p1_ok _ h)⟩
theorem ref12_uses_p2_ok (c : Int) (s_1 : ByteArray) (K : Exit → St → Prop) (h : W (ref12_uses_p2 c s_1) (fun x => (fun x K => K .ret (ref12_uses_R x)) x K)) : EvL Try.prog 20 (List.drop 3 ref12_uses_i0) K (ref12_uses_p2_S c s_1) :=
  EvL.at_ ref12_uses_p2_at (EvL.cons_loop (EvOk.weak (EvOk.ent (Ent.refl _) (EvOk.loopF (x := inside (inside (nthI ref12_uses_i0 3))) (f := ref12_uses_l1 c s_1) (emb := ref12_uses_l1_S c s_1) (E := ref12_uses_l1_E c s_1) (ref12_uses_l1_ok c s_1) (ref12_uses_l1_E_then c s_1) (W_loop h (ref12_uses_p2_k c s_1 K))))))
def ref12_uses_p3_S (kind : Int) (c : Int) : St := { tm := [sv 0 (i64 kind), sv 1 (.c (.lit (.int .u8 c)))], hp := [], nx := 0 }
noncomputable def ref12_uses_p3 (kind : Int) (c : Int) : Option (Bool) := (ref12_Uses kind).bind fun r_1 => ((ref12_uses_p2 c r_1))
theorem ref12_uses_p3_nf (kind : Int) (c : Int) (K : Exit → St → Prop) :
    ev Try.prog (lookC [(76, ref12_Uses_C)]) 20 (ofItems ((List.drop 0 ref12_uses_i0).take 3)) (cN [1, 5, 6] K) (ref12_uses_p3_S kind c) =
    (((ref12_Uses kind).isSome = true) ∧ (wK K .normal ({ tm := [sv 1 (.c (.lit (.int .u8 c))), sv 5 (str ((ref12_Uses kind).getD (bstr []))), sv 6 (i64 (0 : Int))], hp := [], nx := 0 }))) := by kernel_rfl
theorem ref12_uses_p3_ok (kind : Int) (c : Int) (K : Exit → St → Prop) (h : W (ref12_uses_p3 kind c) (fun x => (fun x K => K .ret (ref12_uses_R x)) x K)) : EvL Try.prog 20 (List.drop 0 ref12_uses_i0) K (ref12_uses_p3_S kind c) :=
  EvL.pieceD mixed (lookC_ok (l := [(76, ref12_Uses_C)]) ⟨ref12_Uses_ok, trivial⟩) [1, 5, 6] 0 3 3 rfl (EvP.of (ref12_uses_p3_nf kind c _) ((W_bind (bstr []) h fun hp0 h => ⟨(ref12_uses_p2_S c ((ref12_Uses kind).getD (bstr []))), (Ent.refl _), (ref12_uses_p2_ok c ((ref12_Uses kind).getD (bstr [])) _ h)⟩)))
noncomputable def ref12_uses (kind : Int) (c : Int) : Option (Bool) := ref12_uses_p3 kind c
theorem ref12_uses_run (kind : Int) (c : Int) (y_ : Bool) (h : ref12_uses kind c = some y_) : EvL Try.prog 20 (items (bodyOf Try.f168)) (retK Try.prog [.tmp 4] (OutOk (ref12_uses_out y_))) (ref12_uses_p3_S kind c) :=
  ref12_uses_p3_ok kind c _ (W_iff.2 ⟨y_, h, ref12_uses_Rok y_⟩)
noncomputable def ref12_uses_C : Con
  | [(.c (.lit (.int .i64 a1))), (.c (.lit (.int .u8 a2)))] => some ([(ref12_uses a1 a2).isSome = true], (ref12_uses_out ((ref12_uses a1 a2).getD false)))
  | _ => none
theorem ref12_uses_ok : Meets Try.prog 168 ref12_uses_C := by
  refine meets_fun (fn := Try.f168) (c := bodyOf Try.f168) (by kernel_rfl) (by kernel_rfl) (by kernel_rfl) (rs := [.tmp 4]) (by kernel_rfl) (nt := 20) (by kernel_rfl) fun vs p out h hp => ?_
  unfold ref12_uses_C at h
  split at h
  · next a1 a2 =>
    cases h
    obtain ⟨g, hp⟩ := allq hp
    obtain ⟨x, hx⟩ := Option.isSome_iff_exists.1 g
    rw [hx]
    exact ⟨[(i64 a1), (.c (.lit (.int .u8 a2)))], (VLes.cons (VLe.rfl' _) (VLes.cons (VLe.rfl' _) VLes.nil)), rfl, ref12_uses_run a1 a2 x hx⟩
  · cases h

noncomputable def ref12_field_i0 : List Code := items (bodyOf Try.f128)
def ref12_field_R (x_1 : Bool) : St := { tm := [sv 10 (bl x_1)], hp := [], nx := 0 }
def ref12_field_out (x_1 : Bool) : Out := .data (bl x_1)
theorem ref12_field_Rok (x_1 : Bool) : retK Try.prog [.tmp 10] (OutOk (ref12_field_out x_1)) .ret (ref12_field_R x_1) :=
  retK.intro (v := (bl x_1)) (by kernel_rfl) ((VLe.rfl' _))
def ref12_field_p0_S (kind : Int) (c : Int) (n : Int) (least : Int) (most : Int) : St := { tm := [sv 0 (i64 kind), sv 1 (.c (.lit (.int .u8 c))), sv 2 (i64 n), sv 3 (i64 least), sv 4 (i64 most)], hp := [], nx := 0 }
noncomputable def ref12_field_p0 (kind : Int) (c : Int) (n : Int) (least : Int) (most : Int) : Option (Bool) := (ref12_uses kind c).bind fun r_1 => ((bif r_1 then (some (bif (decide (least ≤ n)) then (decide (n ≤ most)) else false)) else (some (n == (0 : Int)))))
theorem ref12_field_p0_nf (kind : Int) (c : Int) (n : Int) (least : Int) (most : Int) (K : Exit → St → Prop) :
    ev Try.prog (lookC [(168, ref12_uses_C)]) 24 (ofItems ((List.drop 0 ref12_field_i0).take 5)) (cN [10] K) (ref12_field_p0_S kind c n least most) =
    (((ref12_uses kind c).isSome = true) ∧ ((bif ((ref12_uses kind c).getD false) then wK K .ret ({ tm := [sv 10 (bl (bif (decide (least ≤ n)) then (decide (n ≤ most)) else false))], hp := [], nx := 0 }) else wK K .ret ({ tm := [sv 10 (bl (n == (0 : Int)))], hp := [], nx := 0 })))) := by kernel_rfl
theorem ref12_field_p0_ok (kind : Int) (c : Int) (n : Int) (least : Int) (most : Int) (K : Exit → St → Prop) (h : W (ref12_field_p0 kind c n least most) (fun x => (fun x K => K .ret (ref12_field_R x)) x K)) : EvL Try.prog 24 (List.drop 0 ref12_field_i0) K (ref12_field_p0_S kind c n least most) :=
  EvL.pieceE mixed (lookC_ok (l := [(168, ref12_uses_C)]) ⟨ref12_uses_ok, trivial⟩) [10] 0 5 (by kernel_rfl) (EvP.of (ref12_field_p0_nf kind c n least most _) ((W_bind false h fun hp0 h => (W_bif h (fun _ h => ⟨(ref12_field_R (bif (decide (least ≤ n)) then (decide (n ≤ most)) else false)), (Ent.refl _), h⟩) (fun _ h => ⟨(ref12_field_R (n == (0 : Int))), (Ent.refl _), h⟩)))))
noncomputable def ref12_field (kind : Int) (c : Int) (n : Int) (least : Int) (most : Int) : Option (Bool) := ref12_field_p0 kind c n least most
theorem ref12_field_run (kind : Int) (c : Int) (n : Int) (least : Int) (most : Int) (y_ : Bool) (h : ref12_field kind c n least most = some y_) : EvL Try.prog 24 (items (bodyOf Try.f128)) (retK Try.prog [.tmp 10] (OutOk (ref12_field_out y_))) (ref12_field_p0_S kind c n least most) :=
  ref12_field_p0_ok kind c n least most _ (W_iff.2 ⟨y_, h, ref12_field_Rok y_⟩)
noncomputable def ref12_field_C : Con
  | [(.c (.lit (.int .i64 a1))), (.c (.lit (.int .u8 a2))), (.c (.lit (.int .i64 a3))), (.c (.lit (.int .i64 a4))), (.c (.lit (.int .i64 a5)))] => some ([(ref12_field a1 a2 a3 a4 a5).isSome = true], (ref12_field_out ((ref12_field a1 a2 a3 a4 a5).getD false)))
  | _ => none
theorem ref12_field_ok : Meets Try.prog 128 ref12_field_C := by
  refine meets_fun (fn := Try.f128) (c := bodyOf Try.f128) (by kernel_rfl) (by kernel_rfl) (by kernel_rfl) (rs := [.tmp 10]) (by kernel_rfl) (nt := 24) (by kernel_rfl) fun vs p out h hp => ?_
  unfold ref12_field_C at h
  split at h
  · next a1 a2 a3 a4 a5 =>
    cases h
    obtain ⟨g, hp⟩ := allq hp
    obtain ⟨x, hx⟩ := Option.isSome_iff_exists.1 g
    rw [hx]
    exact ⟨[(i64 a1), (.c (.lit (.int .u8 a2))), (i64 a3), (i64 a4), (i64 a5)], (VLes.cons (VLe.rfl' _) (VLes.cons (VLe.rfl' _) (VLes.cons (VLe.rfl' _) (VLes.cons (VLe.rfl' _) (VLes.cons (VLe.rfl' _) VLes.nil))))), rfl, ref12_field_run a1 a2 a3 a4 a5 x hx⟩
  · cases h

noncomputable def ref12_Valid_i0 : List Code := items (bodyOf Try.f78)
def ref12_Valid_R (x_1 : Bool) : St := { tm := [sv 2 (bl x_1)], hp := [], nx := 0 }
def ref12_Valid_out (x_1 : Bool) : Out := .data (bl x_1)
theorem ref12_Valid_Rok (x_1 : Bool) : retK Try.prog [.tmp 2] (OutOk (ref12_Valid_out x_1)) .ret (ref12_Valid_R x_1) :=
  retK.intro (v := (bl x_1)) (by kernel_rfl) ((VLe.rfl' _))
def ref12_Valid_p0_S (f : GFact) : St := { tm := [sv 1 (.ptr 0 14 0 0), sv 3 (i64 f.Kind)], hp := [(0, some (.box [(i64 f.Issuer), (i64 f.Number), (i64 f.Version), (bl f.Withdrawn), (i64 f.Person), (i64 f.Kind), (i64 f.State), (i64 f.Span.From), (i64 f.Span.To), (i64 f.Seat), (i64 f.Share), (i64 f.Currency), (i64 f.Amount), (i64 f.Ref)]))], nx := 1 }
noncomputable def ref12_Valid_p0 (f : GFact) : Option (Bool) := (bif (bif (bif (bif (bif (f.Kind == (11 : Int)) then true else (f.Kind == (12 : Int))) then ((w64 (f.Span.To - f.Span.From)) != (1 : Int)) else false) then true else (bif (f.Kind == (4 : Int)) then (f.Seat == f.State) else false)) then true else (bif (bif (f.Kind == (10 : Int)) then true else (f.Kind == (14 : Int))) then (f.Ref == f.Person) else false)) then (some false) else (ref12_field f.Kind (83 : Int) f.State (0 : Int) (5 : Int)).bind fun r_1 => (gd ((r_1 && true) = true → (ref12_field f.Kind (84 : Int) f.Seat (0 : Int) (5 : Int)).isSome = true) (gd (((bif r_1 then ((ref12_field f.Kind (84 : Int) f.Seat (0 : Int) (5 : Int)).getD false) else false) && true) = true → (ref12_field f.Kind (72 : Int) f.Share (1 : Int) (100 : Int)).isSome = true) (gd (((bif (bif r_1 then ((ref12_field f.Kind (84 : Int) f.Seat (0 : Int) (5 : Int)).getD false) else false) then ((ref12_field f.Kind (72 : Int) f.Share (1 : Int) (100 : Int)).getD false) else false) && true) = true → (ref12_field f.Kind (67 : Int) f.Currency (1 : Int) (999 : Int)).isSome = true) (gd (((bif (bif (bif r_1 then ((ref12_field f.Kind (84 : Int) f.Seat (0 : Int) (5 : Int)).getD false) else false) then ((ref12_field f.Kind (72 : Int) f.Share (1 : Int) (100 : Int)).getD false) else false) then ((ref12_field f.Kind (67 : Int) f.Currency (1 : Int) (999 : Int)).getD false) else false) && true) = true → (ref12_field f.Kind (65 : Int) f.Amount (0 : Int) (1000000000 : Int)).isSome = true) (gd (((bif (bif (bif (bif r_1 then ((ref12_field f.Kind (84 : Int) f.Seat (0 : Int) (5 : Int)).getD false) else false) then ((ref12_field f.Kind (72 : Int) f.Share (1 : Int) (100 : Int)).getD false) else false) then ((ref12_field f.Kind (67 : Int) f.Currency (1 : Int) (999 : Int)).getD false) else false) then ((ref12_field f.Kind (65 : Int) f.Amount (0 : Int) (1000000000 : Int)).getD false) else false) && true) = true → (ref12_field f.Kind (82 : Int) f.Ref (1 : Int) (99 : Int)).isSome = true) ((some (bif (bif (bif (bif (bif r_1 then ((ref12_field f.Kind (84 : Int) f.Seat (0 : Int) (5 : Int)).getD false) else false) then ((ref12_field f.Kind (72 : Int) f.Share (1 : Int) (100 : Int)).getD false) else false) then ((ref12_field f.Kind (67 : Int) f.Currency (1 : Int) (999 : Int)).getD false) else false) then ((ref12_field f.Kind (65 : Int) f.Amount (0 : Int) (1000000000 : Int)).getD false) else false) then ((ref12_field f.Kind (82 : Int) f.Ref (1 : Int) (99 : Int)).getD false) else false)))))))))
theorem ref12_Valid_p0_nf (f : GFact) (K : Exit → St → Prop) :
    ev Try.prog (lookC [(128, ref12_field_C)]) 144 (ofItems ((List.drop 6 ref12_Valid_i0).take 4)) (cN [2] K) (ref12_Valid_p0_S f) =
    ((bif (bif (bif (bif (bif (f.Kind == (11 : Int)) then true else (f.Kind == (12 : Int))) then ((w64 (f.Span.To - f.Span.From)) != (1 : Int)) else false) then true else (bif (f.Kind == (4 : Int)) then (f.Seat == f.State) else false)) then true else (bif (bif (f.Kind == (10 : Int)) then true else (f.Kind == (14 : Int))) then (f.Ref == f.Person) else false)) then wK K .ret ({ tm := [sv 2 (bl false)], hp := [], nx := 0 }) else ((ref12_field f.Kind (83 : Int) f.State (0 : Int) (5 : Int)).isSome = true) ∧ ((((ref12_field f.Kind (83 : Int) f.State (0 : Int) (5 : Int)).getD false) && true) = true → (ref12_field f.Kind (84 : Int) f.Seat (0 : Int) (5 : Int)).isSome = true) ∧ (((bif ((ref12_field f.Kind (83 : Int) f.State (0 : Int) (5 : Int)).getD false) then ((ref12_field f.Kind (84 : Int) f.Seat (0 : Int) (5 : Int)).getD false) else false) && true) = true → (ref12_field f.Kind (72 : Int) f.Share (1 : Int) (100 : Int)).isSome = true) ∧ (((bif (bif ((ref12_field f.Kind (83 : Int) f.State (0 : Int) (5 : Int)).getD false) then ((ref12_field f.Kind (84 : Int) f.Seat (0 : Int) (5 : Int)).getD false) else false) then ((ref12_field f.Kind (72 : Int) f.Share (1 : Int) (100 : Int)).getD false) else false) && true) = true → (ref12_field f.Kind (67 : Int) f.Currency (1 : Int) (999 : Int)).isSome = true) ∧ (((bif (bif (bif ((ref12_field f.Kind (83 : Int) f.State (0 : Int) (5 : Int)).getD false) then ((ref12_field f.Kind (84 : Int) f.Seat (0 : Int) (5 : Int)).getD false) else false) then ((ref12_field f.Kind (72 : Int) f.Share (1 : Int) (100 : Int)).getD false) else false) then ((ref12_field f.Kind (67 : Int) f.Currency (1 : Int) (999 : Int)).getD false) else false) && true) = true → (ref12_field f.Kind (65 : Int) f.Amount (0 : Int) (1000000000 : Int)).isSome = true) ∧ (((bif (bif (bif (bif ((ref12_field f.Kind (83 : Int) f.State (0 : Int) (5 : Int)).getD false) then ((ref12_field f.Kind (84 : Int) f.Seat (0 : Int) (5 : Int)).getD false) else false) then ((ref12_field f.Kind (72 : Int) f.Share (1 : Int) (100 : Int)).getD false) else false) then ((ref12_field f.Kind (67 : Int) f.Currency (1 : Int) (999 : Int)).getD false) else false) then ((ref12_field f.Kind (65 : Int) f.Amount (0 : Int) (1000000000 : Int)).getD false) else false) && true) = true → (ref12_field f.Kind (82 : Int) f.Ref (1 : Int) (99 : Int)).isSome = true) ∧ (wK K .ret ({ tm := [sv 2 (bl (bif (bif (bif (bif (bif ((ref12_field f.Kind (83 : Int) f.State (0 : Int) (5 : Int)).getD false) then ((ref12_field f.Kind (84 : Int) f.Seat (0 : Int) (5 : Int)).getD false) else false) then ((ref12_field f.Kind (72 : Int) f.Share (1 : Int) (100 : Int)).getD false) else false) then ((ref12_field f.Kind (67 : Int) f.Currency (1 : Int) (999 : Int)).getD false) else false) then ((ref12_field f.Kind (65 : Int) f.Amount (0 : Int) (1000000000 : Int)).getD false) else false) then ((ref12_field f.Kind (82 : Int) f.Ref (1 : Int) (99 : Int)).getD false) else false))], hp := [], nx := 0 })))) := by kernel_rfl
theorem ref12_Valid_p0_ok (f : GFact) (K : Exit → St → Prop) (h : W (ref12_Valid_p0 f) (fun x => (fun x K => K .ret (ref12_Valid_R x)) x K)) : EvL Try.prog 144 (List.drop 6 ref12_Valid_i0) K (ref12_Valid_p0_S f) :=
  EvL.pieceE mixed (lookC_ok (l := [(128, ref12_field_C)]) ⟨ref12_field_ok, trivial⟩) [2] 6 4 (by kernel_rfl) (EvP.of (ref12_Valid_p0_nf f _) ((W_bif h (fun _ h => ⟨(ref12_Valid_R false), (Ent.refl _), h⟩) (fun _ h => (W_bind false h fun hp0 h => (W_gd h fun hp1 h => (W_gd h fun hp2 h => (W_gd h fun hp3 h => (W_gd h fun hp4 h => (W_gd h fun hp5 h => ⟨(ref12_Valid_R (bif (bif (bif (bif (bif ((ref12_field f.Kind (83 : Int) f.State (0 : Int) (5 : Int)).getD false) then ((ref12_field f.Kind (84 : Int) f.Seat (0 : Int) (5 : Int)).getD false) else false) then ((ref12_field f.Kind (72 : Int) f.Share (1 : Int) (100 : Int)).getD false) else false) then ((ref12_field f.Kind (67 : Int) f.Currency (1 : Int) (999 : Int)).getD false) else false) then ((ref12_field f.Kind (65 : Int) f.Amount (0 : Int) (1000000000 : Int)).getD false) else false) then ((ref12_field f.Kind (82 : Int) f.Ref (1 : Int) (99 : Int)).getD false) else false)), (Ent.refl _), h⟩))))))))))
def ref12_Valid_p1_S (f : GFact) : St := { tm := [sv 0 (.agg [(i64 f.Issuer), (i64 f.Number), (i64 f.Version), (bl f.Withdrawn), (i64 f.Person), (i64 f.Kind), (i64 f.State), (i64 f.Span.From), (i64 f.Span.To), (i64 f.Seat), (i64 f.Share), (i64 f.Currency), (i64 f.Amount), (i64 f.Ref)])], hp := [], nx := 0 }
noncomputable def ref12_Valid_p1 (f : GFact) : Option (Bool) := gd (((!(bif (bif (bif (bif (bif (bif (bif (decide (f.Issuer < (0 : Int))) then true else (decide ((6 : Int) ≤ f.Issuer))) then true else (decide (f.Number < (1 : Int)))) then true else (decide ((999 : Int) < f.Number))) then true else (decide (f.Version < (1 : Int)))) then true else (decide ((99 : Int) < f.Version))) then true else (decide (f.Person < (1 : Int)))) then true else (decide ((99 : Int) < f.Person)))) && true) = true → (ref12_Uses f.Kind).isSome = true) ((bif (bif (bif (bif (bif (bif (bif (bif (bif (decide (f.Issuer < (0 : Int))) then true else (decide ((6 : Int) ≤ f.Issuer))) then true else (decide (f.Number < (1 : Int)))) then true else (decide ((999 : Int) < f.Number))) then true else (decide (f.Version < (1 : Int)))) then true else (decide ((99 : Int) < f.Version))) then true else (decide (f.Person < (1 : Int)))) then true else (decide ((99 : Int) < f.Person))) then true else (((ref12_Uses f.Kind).getD (bstr [])).toList == (bstr []).toList)) then (some false) else (bif (bif (bif (decide (f.Span.From < (0 : Int))) then true else (decide (f.Span.To ≤ f.Span.From))) then true else (decide ((73049 : Int) < f.Span.To))) then (some false) else (ref12_Valid_p0 f))))
theorem ref12_Valid_p1_nf (f : GFact) (K : Exit → St → Prop) :
    ev Try.prog (lookC [(76, ref12_Uses_C)]) 144 (ofItems ((List.drop 0 ref12_Valid_i0).take 6)) (cN [1, 2, 3, 71, 72, 75, 76, 77, 78, 79, 80, 81, 82, 85, 86, 87, 88, 89, 90, 91, 92, 93, 96, 97, 98, 99, 100, 101, 102, 103, 104, 105, 106, 107, 108, 115, 116, 117, 118, 121, 122, 123, 124, 127, 128, 129, 130, 133, 134, 135, 136, 139, 140, 141, 142] K) (ref12_Valid_p1_S f) =
    ((((!(bif (bif (bif (bif (bif (bif (bif (decide (f.Issuer < (0 : Int))) then true else (decide ((6 : Int) ≤ f.Issuer))) then true else (decide (f.Number < (1 : Int)))) then true else (decide ((999 : Int) < f.Number))) then true else (decide (f.Version < (1 : Int)))) then true else (decide ((99 : Int) < f.Version))) then true else (decide (f.Person < (1 : Int)))) then true else (decide ((99 : Int) < f.Person)))) && true) = true → (ref12_Uses f.Kind).isSome = true) ∧ ((bif (bif (bif (bif (bif (bif (bif (bif (bif (decide (f.Issuer < (0 : Int))) then true else (decide ((6 : Int) ≤ f.Issuer))) then true else (decide (f.Number < (1 : Int)))) then true else (decide ((999 : Int) < f.Number))) then true else (decide (f.Version < (1 : Int)))) then true else (decide ((99 : Int) < f.Version))) then true else (decide (f.Person < (1 : Int)))) then true else (decide ((99 : Int) < f.Person))) then true else (((ref12_Uses f.Kind).getD (bstr [])).toList == (bstr []).toList)) then wK K .ret ({ tm := [sv 1 (.ptr 0 14 0 0), sv 2 (bl false), sv 3 (i64 f.Kind)], hp := [(0, some (.box [(i64 f.Issuer), (i64 f.Number), (i64 f.Version), (bl f.Withdrawn), (i64 f.Person), (i64 f.Kind), (i64 f.State), (i64 f.Span.From), (i64 f.Span.To), (i64 f.Seat), (i64 f.Share), (i64 f.Currency), (i64 f.Amount), (i64 f.Ref)]))], nx := 1 }) else (bif (bif (bif (decide (f.Span.From < (0 : Int))) then true else (decide (f.Span.To ≤ f.Span.From))) then true else (decide ((73049 : Int) < f.Span.To))) then wK K .ret ({ tm := [sv 1 (.ptr 0 14 0 0), sv 2 (bl false), sv 3 (i64 f.Kind)], hp := [(0, some (.box [(i64 f.Issuer), (i64 f.Number), (i64 f.Version), (bl f.Withdrawn), (i64 f.Person), (i64 f.Kind), (i64 f.State), (i64 f.Span.From), (i64 f.Span.To), (i64 f.Seat), (i64 f.Share), (i64 f.Currency), (i64 f.Amount), (i64 f.Ref)]))], nx := 1 }) else wK K .normal ({ tm := [sv 1 (.ptr 0 14 0 0), sv 2 (bl false), sv 3 (i64 f.Kind)], hp := [(0, some (.box [(i64 f.Issuer), (i64 f.Number), (i64 f.Version), (bl f.Withdrawn), (i64 f.Person), (i64 f.Kind), (i64 f.State), (i64 f.Span.From), (i64 f.Span.To), (i64 f.Seat), (i64 f.Share), (i64 f.Currency), (i64 f.Amount), (i64 f.Ref)]))], nx := 1 }))))) := by kernel_rfl
theorem ref12_Valid_p1_ok (f : GFact) (K : Exit → St → Prop) (h : W (ref12_Valid_p1 f) (fun x => (fun x K => K .ret (ref12_Valid_R x)) x K)) : EvL Try.prog 144 (List.drop 0 ref12_Valid_i0) K (ref12_Valid_p1_S f) :=
  EvL.pieceD mixed (lookC_ok (l := [(76, ref12_Uses_C)]) ⟨ref12_Uses_ok, trivial⟩) [1, 2, 3, 71, 72, 75, 76, 77, 78, 79, 80, 81, 82, 85, 86, 87, 88, 89, 90, 91, 92, 93, 96, 97, 98, 99, 100, 101, 102, 103, 104, 105, 106, 107, 108, 115, 116, 117, 118, 121, 122, 123, 124, 127, 128, 129, 130, 133, 134, 135, 136, 139, 140, 141, 142] 0 6 6 rfl (EvP.of (ref12_Valid_p1_nf f _) ((W_gd h fun hp0 h => (W_bif h (fun _ h => ⟨(ref12_Valid_R false), (Ent.trans (Ent.canonN [2] (by kernel_rfl)) (Ent.of_eq (σ' := { tm := [sv 2 (bl false)], hp := [], nx := 0 }) (by kernel_rfl))), h⟩) (fun _ h => (W_bif h (fun _ h => ⟨(ref12_Valid_R false), (Ent.trans (Ent.canonN [2] (by kernel_rfl)) (Ent.of_eq (σ' := { tm := [sv 2 (bl false)], hp := [], nx := 0 }) (by kernel_rfl))), h⟩) (fun _ h => ⟨(ref12_Valid_p0_S f), (Ent.trans (Ent.canonN [1, 3] (by kernel_rfl)) (Ent.of_eq (σ' := { tm := [sv 1 (.ptr 0 14 0 0), sv 3 (i64 f.Kind)], hp := [(0, some (.box [(i64 f.Issuer), (i64 f.Number), (i64 f.Version), (bl f.Withdrawn), (i64 f.Person), (i64 f.Kind), (i64 f.State), (i64 f.Span.From), (i64 f.Span.To), (i64 f.Seat), (i64 f.Share), (i64 f.Currency), (i64 f.Amount), (i64 f.Ref)]))], nx := 1 }) (by kernel_rfl))), (ref12_Valid_p0_ok f _ h)⟩)))))))
noncomputable def ref12_Valid (f : GFact) : Option (Bool) := ref12_Valid_p1 f
theorem ref12_Valid_run (f : GFact) (y_ : Bool) (h : ref12_Valid f = some y_) : EvL Try.prog 144 (items (bodyOf Try.f78)) (retK Try.prog [.tmp 2] (OutOk (ref12_Valid_out y_))) (ref12_Valid_p1_S f) :=
  ref12_Valid_p1_ok f _ (W_iff.2 ⟨y_, h, ref12_Valid_Rok y_⟩)
noncomputable def ref12_Valid_C : Con
  | [(.agg [(.c (.lit (.int .i64 a1))), (.c (.lit (.int .i64 a2))), (.c (.lit (.int .i64 a3))), (.c (.lit (.bool a4))), (.c (.lit (.int .i64 a5))), (.c (.lit (.int .i64 a6))), (.c (.lit (.int .i64 a7))), (.c (.lit (.int .i64 a8))), (.c (.lit (.int .i64 a9))), (.c (.lit (.int .i64 a10))), (.c (.lit (.int .i64 a11))), (.c (.lit (.int .i64 a12))), (.c (.lit (.int .i64 a13))), (.c (.lit (.int .i64 a14)))])] => some ([(ref12_Valid (GFact.mk a1 a2 a3 a4 a5 a6 a7 (GSpan.mk a8 a9) a10 a11 a12 a13 a14)).isSome = true], (ref12_Valid_out ((ref12_Valid (GFact.mk a1 a2 a3 a4 a5 a6 a7 (GSpan.mk a8 a9) a10 a11 a12 a13 a14)).getD false)))
  | _ => none
theorem ref12_Valid_ok : Meets Try.prog 78 ref12_Valid_C := by
  refine meets_fun (fn := Try.f78) (c := bodyOf Try.f78) (by kernel_rfl) (by kernel_rfl) (by kernel_rfl) (rs := [.tmp 2]) (by kernel_rfl) (nt := 144) (by kernel_rfl) fun vs p out h hp => ?_
  unfold ref12_Valid_C at h
  split at h
  · next a1 a2 a3 a4 a5 a6 a7 a8 a9 a10 a11 a12 a13 a14 =>
    cases h
    obtain ⟨g, hp⟩ := allq hp
    obtain ⟨x, hx⟩ := Option.isSome_iff_exists.1 g
    rw [hx]
    exact ⟨[(.agg [(i64 (GFact.mk a1 a2 a3 a4 a5 a6 a7 (GSpan.mk a8 a9) a10 a11 a12 a13 a14).Issuer), (i64 (GFact.mk a1 a2 a3 a4 a5 a6 a7 (GSpan.mk a8 a9) a10 a11 a12 a13 a14).Number), (i64 (GFact.mk a1 a2 a3 a4 a5 a6 a7 (GSpan.mk a8 a9) a10 a11 a12 a13 a14).Version), (bl (GFact.mk a1 a2 a3 a4 a5 a6 a7 (GSpan.mk a8 a9) a10 a11 a12 a13 a14).Withdrawn), (i64 (GFact.mk a1 a2 a3 a4 a5 a6 a7 (GSpan.mk a8 a9) a10 a11 a12 a13 a14).Person), (i64 (GFact.mk a1 a2 a3 a4 a5 a6 a7 (GSpan.mk a8 a9) a10 a11 a12 a13 a14).Kind), (i64 (GFact.mk a1 a2 a3 a4 a5 a6 a7 (GSpan.mk a8 a9) a10 a11 a12 a13 a14).State), (i64 ((GFact.mk a1 a2 a3 a4 a5 a6 a7 (GSpan.mk a8 a9) a10 a11 a12 a13 a14).Span).From), (i64 ((GFact.mk a1 a2 a3 a4 a5 a6 a7 (GSpan.mk a8 a9) a10 a11 a12 a13 a14).Span).To), (i64 (GFact.mk a1 a2 a3 a4 a5 a6 a7 (GSpan.mk a8 a9) a10 a11 a12 a13 a14).Seat), (i64 (GFact.mk a1 a2 a3 a4 a5 a6 a7 (GSpan.mk a8 a9) a10 a11 a12 a13 a14).Share), (i64 (GFact.mk a1 a2 a3 a4 a5 a6 a7 (GSpan.mk a8 a9) a10 a11 a12 a13 a14).Currency), (i64 (GFact.mk a1 a2 a3 a4 a5 a6 a7 (GSpan.mk a8 a9) a10 a11 a12 a13 a14).Amount), (i64 (GFact.mk a1 a2 a3 a4 a5 a6 a7 (GSpan.mk a8 a9) a10 a11 a12 a13 a14).Ref)])], (VLes.cons (VLe.rfl' _) VLes.nil), rfl, ref12_Valid_run (GFact.mk a1 a2 a3 a4 a5 a6 a7 (GSpan.mk a8 a9) a10 a11 a12 a13 a14) x hx⟩
  · cases h

noncomputable def ref16_Part_i0 : List Code := items (bodyOf Try.f26)
def ref16_Part_R (x_1 : Int) : St := { tm := [sv 4 (i64 x_1)], hp := [], nx := 0 }
def ref16_Part_out (x_1 : Int) : Out := .data (i64 x_1)
theorem ref16_Part_Rok (x_1 : Int) : retK Try.prog [.tmp 4] (OutOk (ref16_Part_out x_1)) .ret (ref16_Part_R x_1) :=
  retK.intro (v := (i64 x_1)) (by kernel_rfl) ((VLe.rfl' _))
def ref16_Part_p0_S (f : GFact) (days : Int) : St := { tm := [sv 0 (.agg [(i64 f.Issuer), (i64 f.Number), (i64 f.Version), (bl f.Withdrawn), (i64 f.Person), (i64 f.Kind), (i64 f.State), (i64 f.Span.From), (i64 f.Span.To), (i64 f.Seat), (i64 f.Share), (i64 f.Currency), (i64 f.Amount), (i64 f.Ref)]), sv 1 (i64 days)], hp := [], nx := 0 }
noncomputable def ref16_Part_p0 (f : GFact) (days : Int) : Option (Int) := (ref12_Valid f).bind fun r_1 => ((bif (bif (bif (!r_1) then true else (decide (days < (0 : Int)))) then true else (decide ((w64 (f.Span.To - f.Span.From)) < days))) then (some (0 : Int)) else gd ((w64 (f.Span.To - f.Span.From)) ≠ (0 : Int)) ((some (w64 (Int.tdiv (w64 (f.Amount * days)) (w64 (f.Span.To - f.Span.From))))))))
theorem ref16_Part_p0_nf (f : GFact) (days : Int) (K : Exit → St → Prop) :
    ev Try.prog (lookC [(78, ref12_Valid_C)]) 35 (ofItems ((List.drop 0 ref16_Part_i0).take 5)) (cN [4] K) (ref16_Part_p0_S f days) =
    (((ref12_Valid f).isSome = true) ∧ ((bif (bif (bif (!((ref12_Valid f).getD false)) then true else (decide (days < (0 : Int)))) then true else (decide ((w64 (f.Span.To - f.Span.From)) < days))) then wK K .ret ({ tm := [sv 4 (i64 (0 : Int))], hp := [], nx := 0 }) else ((w64 (f.Span.To - f.Span.From)) ≠ (0 : Int)) ∧ (wK K .ret ({ tm := [sv 4 (i64 (w64 (Int.tdiv (w64 (f.Amount * days)) (w64 (f.Span.To - f.Span.From)))))], hp := [], nx := 0 }))))) := by kernel_rfl
theorem ref16_Part_p0_ok (f : GFact) (days : Int) (K : Exit → St → Prop) (h : W (ref16_Part_p0 f days) (fun x => (fun x K => K .ret (ref16_Part_R x)) x K)) : EvL Try.prog 35 (List.drop 0 ref16_Part_i0) K (ref16_Part_p0_S f days) :=
  EvL.pieceE mixed (lookC_ok (l := [(78, ref12_Valid_C)]) ⟨ref12_Valid_ok, trivial⟩) [4] 0 5 (by kernel_rfl) (EvP.of (ref16_Part_p0_nf f days _) ((W_bind false h fun hp0 h => (W_bif h (fun _ h => ⟨(ref16_Part_R (0 : Int)), (Ent.refl _), h⟩) (fun _ h => (W_gd h fun hp1 h => ⟨(ref16_Part_R (w64 (Int.tdiv (w64 (f.Amount * days)) (w64 (f.Span.To - f.Span.From))))), (Ent.refl _), h⟩))))))
noncomputable def ref16_Part (f : GFact) (days : Int) : Option (Int) := ref16_Part_p0 f days
theorem ref16_Part_run (f : GFact) (days : Int) (y_ : Int) (h : ref16_Part f days = some y_) : EvL Try.prog 35 (items (bodyOf Try.f26)) (retK Try.prog [.tmp 4] (OutOk (ref16_Part_out y_))) (ref16_Part_p0_S f days) :=
  ref16_Part_p0_ok f days _ (W_iff.2 ⟨y_, h, ref16_Part_Rok y_⟩)
noncomputable def ref16_Part_C : Con
  | [(.agg [(.c (.lit (.int .i64 a1))), (.c (.lit (.int .i64 a2))), (.c (.lit (.int .i64 a3))), (.c (.lit (.bool a4))), (.c (.lit (.int .i64 a5))), (.c (.lit (.int .i64 a6))), (.c (.lit (.int .i64 a7))), (.c (.lit (.int .i64 a8))), (.c (.lit (.int .i64 a9))), (.c (.lit (.int .i64 a10))), (.c (.lit (.int .i64 a11))), (.c (.lit (.int .i64 a12))), (.c (.lit (.int .i64 a13))), (.c (.lit (.int .i64 a14)))]), (.c (.lit (.int .i64 a15)))] => some ([(ref16_Part (GFact.mk a1 a2 a3 a4 a5 a6 a7 (GSpan.mk a8 a9) a10 a11 a12 a13 a14) a15).isSome = true], (ref16_Part_out ((ref16_Part (GFact.mk a1 a2 a3 a4 a5 a6 a7 (GSpan.mk a8 a9) a10 a11 a12 a13 a14) a15).getD (0 : Int))))
  | _ => none
theorem ref16_Part_ok : Meets Try.prog 26 ref16_Part_C := by
  refine meets_fun (fn := Try.f26) (c := bodyOf Try.f26) (by kernel_rfl) (by kernel_rfl) (by kernel_rfl) (rs := [.tmp 4]) (by kernel_rfl) (nt := 35) (by kernel_rfl) fun vs p out h hp => ?_
  unfold ref16_Part_C at h
  split at h
  · next a1 a2 a3 a4 a5 a6 a7 a8 a9 a10 a11 a12 a13 a14 a15 =>
    cases h
    obtain ⟨g, hp⟩ := allq hp
    obtain ⟨x, hx⟩ := Option.isSome_iff_exists.1 g
    rw [hx]
    exact ⟨[(.agg [(i64 (GFact.mk a1 a2 a3 a4 a5 a6 a7 (GSpan.mk a8 a9) a10 a11 a12 a13 a14).Issuer), (i64 (GFact.mk a1 a2 a3 a4 a5 a6 a7 (GSpan.mk a8 a9) a10 a11 a12 a13 a14).Number), (i64 (GFact.mk a1 a2 a3 a4 a5 a6 a7 (GSpan.mk a8 a9) a10 a11 a12 a13 a14).Version), (bl (GFact.mk a1 a2 a3 a4 a5 a6 a7 (GSpan.mk a8 a9) a10 a11 a12 a13 a14).Withdrawn), (i64 (GFact.mk a1 a2 a3 a4 a5 a6 a7 (GSpan.mk a8 a9) a10 a11 a12 a13 a14).Person), (i64 (GFact.mk a1 a2 a3 a4 a5 a6 a7 (GSpan.mk a8 a9) a10 a11 a12 a13 a14).Kind), (i64 (GFact.mk a1 a2 a3 a4 a5 a6 a7 (GSpan.mk a8 a9) a10 a11 a12 a13 a14).State), (i64 ((GFact.mk a1 a2 a3 a4 a5 a6 a7 (GSpan.mk a8 a9) a10 a11 a12 a13 a14).Span).From), (i64 ((GFact.mk a1 a2 a3 a4 a5 a6 a7 (GSpan.mk a8 a9) a10 a11 a12 a13 a14).Span).To), (i64 (GFact.mk a1 a2 a3 a4 a5 a6 a7 (GSpan.mk a8 a9) a10 a11 a12 a13 a14).Seat), (i64 (GFact.mk a1 a2 a3 a4 a5 a6 a7 (GSpan.mk a8 a9) a10 a11 a12 a13 a14).Share), (i64 (GFact.mk a1 a2 a3 a4 a5 a6 a7 (GSpan.mk a8 a9) a10 a11 a12 a13 a14).Currency), (i64 (GFact.mk a1 a2 a3 a4 a5 a6 a7 (GSpan.mk a8 a9) a10 a11 a12 a13 a14).Amount), (i64 (GFact.mk a1 a2 a3 a4 a5 a6 a7 (GSpan.mk a8 a9) a10 a11 a12 a13 a14).Ref)]), (i64 a15)], (VLes.cons (VLe.rfl' _) (VLes.cons (VLe.rfl' _) VLes.nil)), rfl, ref16_Part_run (GFact.mk a1 a2 a3 a4 a5 a6 a7 (GSpan.mk a8 a9) a10 a11 a12 a13 a14) a15 x hx⟩
  · cases h

noncomputable def law19_EarningsParts_i0 : List Code := items (bodyOf Try.f3)
def law19_EarningsParts_R (x_1 : Bool) : St := { tm := [sv 6 (bl x_1)], hp := [], nx := 0 }
def law19_EarningsParts_out (x_1 : Bool) : Out := .data (bl x_1)
theorem law19_EarningsParts_Rok (x_1 : Bool) : retK Try.prog [.tmp 6] (OutOk (law19_EarningsParts_out x_1)) .ret (law19_EarningsParts_R x_1) :=
  retK.intro (v := (bl x_1)) (by kernel_rfl) ((VLe.rfl' _))
def law19_EarningsParts_p0_S (days_1 : Int) (f : GFact) : St := { tm := [sv 1 (i64 days_1), sv 7 (.ptr 0 14 0 0)], hp := [(0, some (.box [(i64 f.Issuer), (i64 f.Number), (i64 f.Version), (bl f.Withdrawn), (i64 f.Person), (i64 f.Kind), (i64 f.State), (i64 f.Span.From), (i64 f.Span.To), (i64 f.Seat), (i64 f.Share), (i64 f.Currency), (i64 f.Amount), (i64 f.Ref)]))], nx := 1 }
noncomputable def law19_EarningsParts_p0 (days_1 : Int) (f : GFact) : Option (Bool) := (earnings_Part f days_1).bind fun r_4 => ((law19_awake).bind fun r_5 => (gd ((r_5 && true) = true → (ref16_Part f days_1).isSome = true) ((some (bif (bif (bif r_5 then (r_4 == ((ref16_Part f days_1).getD (0 : Int))) else false) then (decide ((0 : Int) ≤ r_4)) else false) then (decide (r_4 ≤ f.Amount)) else false)))))
theorem law19_EarningsParts_p0_nf (days_1 : Int) (f : GFact) (K : Exit → St → Prop) :
    ev Try.prog (lookC [(24, earnings_Part_C), (25, law19_awake_C), (26, ref16_Part_C)]) 45 (ofItems ((List.drop 4 law19_EarningsParts_i0).take 3)) (cN [6] K) (law19_EarningsParts_p0_S days_1 f) =
    (((earnings_Part f days_1).isSome = true) ∧ (((law19_awake).isSome = true) ∧ ((((law19_awake).getD false) && true) = true → (ref16_Part f days_1).isSome = true) ∧ (wK K .ret ({ tm := [sv 6 (bl (bif (bif (bif ((law19_awake).getD false) then (((earnings_Part f days_1).getD (0 : Int)) == ((ref16_Part f days_1).getD (0 : Int))) else false) then (decide ((0 : Int) ≤ ((earnings_Part f days_1).getD (0 : Int)))) else false) then (decide (((earnings_Part f days_1).getD (0 : Int)) ≤ f.Amount)) else false))], hp := [], nx := 0 })))) := by kernel_rfl
theorem law19_EarningsParts_p0_ok (days_1 : Int) (f : GFact) (K : Exit → St → Prop) (h : W (law19_EarningsParts_p0 days_1 f) (fun x => (fun x K => K .ret (law19_EarningsParts_R x)) x K)) : EvL Try.prog 45 (List.drop 4 law19_EarningsParts_i0) K (law19_EarningsParts_p0_S days_1 f) :=
  EvL.pieceE mixed (lookC_ok (l := [(24, earnings_Part_C), (25, law19_awake_C), (26, ref16_Part_C)]) ⟨earnings_Part_ok, law19_awake_ok, ref16_Part_ok, trivial⟩) [6] 4 3 (by kernel_rfl) (EvP.of (law19_EarningsParts_p0_nf days_1 f _) ((W_bind (0 : Int) h fun hp0 h => (W_bind false h fun hp1 h => (W_gd h fun hp2 h => ⟨(law19_EarningsParts_R (bif (bif (bif ((law19_awake).getD false) then (((earnings_Part f days_1).getD (0 : Int)) == ((ref16_Part f days_1).getD (0 : Int))) else false) then (decide ((0 : Int) ≤ ((earnings_Part f days_1).getD (0 : Int)))) else false) then (decide (((earnings_Part f days_1).getD (0 : Int)) ≤ f.Amount)) else false)), (Ent.refl _), h⟩)))))
def law19_EarningsParts_p1_S (r_1 : GPensionhand_Fact) (days : Int) (raw : Bool) : St := { tm := [sv 0 (.agg [(i64 r_1.Issuer), (i64 r_1.Number), (i64 r_1.Version), (bl r_1.Withdrawn), (i64 r_1.Person), (i64 r_1.Kind), (i64 r_1.State), (i64 r_1.Seat), (i64 r_1.From), (i64 r_1.Length), (i64 r_1.Share), (i64 r_1.Amount), (i64 r_1.Ref)]), sv 1 (i64 days), sv 2 (bl raw)], hp := [], nx := 0 }
noncomputable def law19_EarningsParts_p1 (r_1 : GPensionhand_Fact) (days : Int) (raw : Bool) : Option (Bool) := (hand_Make r_1).bind fun r_2 => ((bif (!raw) then (made_Pick days (w64 ((w64 (r_2.Span.To - r_2.Span.From)) + (3 : Int)))).bind fun r_3 => ((law19_EarningsParts_p0 (w64 (r_3 - (1 : Int))) r_2)) else (law19_EarningsParts_p0 days r_2)))
theorem law19_EarningsParts_p1_nf (r_1 : GPensionhand_Fact) (days : Int) (raw : Bool) (K : Exit → St → Prop) :
    ev Try.prog (lookC [(22, hand_Make_C), (23, made_Pick_C)]) 45 (ofItems ((List.drop 0 law19_EarningsParts_i0).take 4)) (cN [1, 7, 29, 30, 31, 32, 33, 36, 37, 40, 41, 42, 43] K) (law19_EarningsParts_p1_S r_1 days raw) =
    (((hand_Make r_1).isSome = true) ∧ ((bif (!raw) then ((made_Pick days (w64 ((w64 ((((hand_Make r_1).getD zGFact).Span).To - (((hand_Make r_1).getD zGFact).Span).From)) + (3 : Int)))).isSome = true) ∧ (wK K .normal ({ tm := [sv 1 (i64 (w64 (((made_Pick days (w64 ((w64 ((((hand_Make r_1).getD zGFact).Span).To - (((hand_Make r_1).getD zGFact).Span).From)) + (3 : Int)))).getD (0 : Int)) - (1 : Int)))), sv 7 (.ptr 0 14 0 0)], hp := [(0, some (.box [(i64 ((hand_Make r_1).getD zGFact).Issuer), (i64 ((hand_Make r_1).getD zGFact).Number), (i64 ((hand_Make r_1).getD zGFact).Version), (bl ((hand_Make r_1).getD zGFact).Withdrawn), (i64 ((hand_Make r_1).getD zGFact).Person), (i64 ((hand_Make r_1).getD zGFact).Kind), (i64 ((hand_Make r_1).getD zGFact).State), (i64 (((hand_Make r_1).getD zGFact).Span).From), (i64 (((hand_Make r_1).getD zGFact).Span).To), (i64 ((hand_Make r_1).getD zGFact).Seat), (i64 ((hand_Make r_1).getD zGFact).Share), (i64 ((hand_Make r_1).getD zGFact).Currency), (i64 ((hand_Make r_1).getD zGFact).Amount), (i64 ((hand_Make r_1).getD zGFact).Ref)]))], nx := 1 })) else wK K .normal ({ tm := [sv 1 (i64 days), sv 7 (.ptr 0 14 0 0)], hp := [(0, some (.box [(i64 ((hand_Make r_1).getD zGFact).Issuer), (i64 ((hand_Make r_1).getD zGFact).Number), (i64 ((hand_Make r_1).getD zGFact).Version), (bl ((hand_Make r_1).getD zGFact).Withdrawn), (i64 ((hand_Make r_1).getD zGFact).Person), (i64 ((hand_Make r_1).getD zGFact).Kind), (i64 ((hand_Make r_1).getD zGFact).State), (i64 (((hand_Make r_1).getD zGFact).Span).From), (i64 (((hand_Make r_1).getD zGFact).Span).To), (i64 ((hand_Make r_1).getD zGFact).Seat), (i64 ((hand_Make r_1).getD zGFact).Share), (i64 ((hand_Make r_1).getD zGFact).Currency), (i64 ((hand_Make r_1).getD zGFact).Amount), (i64 ((hand_Make r_1).getD zGFact).Ref)]))], nx := 1 })))) := by kernel_rfl
theorem law19_EarningsParts_p1_ok (r_1 : GPensionhand_Fact) (days : Int) (raw : Bool) (K : Exit → St → Prop) (h : W (law19_EarningsParts_p1 r_1 days raw) (fun x => (fun x K => K .ret (law19_EarningsParts_R x)) x K)) : EvL Try.prog 45 (List.drop 0 law19_EarningsParts_i0) K (law19_EarningsParts_p1_S r_1 days raw) :=
  EvL.pieceD mixed (lookC_ok (l := [(22, hand_Make_C), (23, made_Pick_C)]) ⟨hand_Make_ok, made_Pick_ok, trivial⟩) [1, 7, 29, 30, 31, 32, 33, 36, 37, 40, 41, 42, 43] 0 4 4 rfl (EvP.of (law19_EarningsParts_p1_nf r_1 days raw _) ((W_bind zGFact h fun hp0 h => (W_bif h (fun _ h => (W_bind (0 : Int) h fun hp1 h => ⟨(law19_EarningsParts_p0_S (w64 (((made_Pick days (w64 ((w64 ((((hand_Make r_1).getD zGFact).Span).To - (((hand_Make r_1).getD zGFact).Span).From)) + (3 : Int)))).getD (0 : Int)) - (1 : Int))) ((hand_Make r_1).getD zGFact)), (Ent.refl _), (law19_EarningsParts_p0_ok (w64 (((made_Pick days (w64 ((w64 ((((hand_Make r_1).getD zGFact).Span).To - (((hand_Make r_1).getD zGFact).Span).From)) + (3 : Int)))).getD (0 : Int)) - (1 : Int))) ((hand_Make r_1).getD zGFact) _ h)⟩)) (fun _ h => ⟨(law19_EarningsParts_p0_S days ((hand_Make r_1).getD zGFact)), (Ent.refl _), (law19_EarningsParts_p0_ok days ((hand_Make r_1).getD zGFact) _ h)⟩)))))
noncomputable def law19_EarningsParts (r_1 : GPensionhand_Fact) (days : Int) (raw : Bool) : Option (Bool) := law19_EarningsParts_p1 r_1 days raw
theorem law19_EarningsParts_run (r_1 : GPensionhand_Fact) (days : Int) (raw : Bool) (y_ : Bool) (h : law19_EarningsParts r_1 days raw = some y_) : EvL Try.prog 45 (items (bodyOf Try.f3)) (retK Try.prog [.tmp 6] (OutOk (law19_EarningsParts_out y_))) (law19_EarningsParts_p1_S r_1 days raw) :=
  law19_EarningsParts_p1_ok r_1 days raw _ (W_iff.2 ⟨y_, h, law19_EarningsParts_Rok y_⟩)
noncomputable def law19_EarningsParts_C : Con
  | [(.agg [(.c (.lit (.int .i64 a1))), (.c (.lit (.int .i64 a2))), (.c (.lit (.int .i64 a3))), (.c (.lit (.bool a4))), (.c (.lit (.int .i64 a5))), (.c (.lit (.int .i64 a6))), (.c (.lit (.int .i64 a7))), (.c (.lit (.int .i64 a8))), (.c (.lit (.int .i64 a9))), (.c (.lit (.int .i64 a10))), (.c (.lit (.int .i64 a11))), (.c (.lit (.int .i64 a12))), (.c (.lit (.int .i64 a13)))]), (.c (.lit (.int .i64 a14))), (.c (.lit (.bool a15)))] => some ([(law19_EarningsParts (GPensionhand_Fact.mk a1 a2 a3 a4 a5 a6 a7 a8 a9 a10 a11 a12 a13) a14 a15).isSome = true], (law19_EarningsParts_out ((law19_EarningsParts (GPensionhand_Fact.mk a1 a2 a3 a4 a5 a6 a7 a8 a9 a10 a11 a12 a13) a14 a15).getD false)))
  | _ => none
theorem law19_EarningsParts_ok : Meets Try.prog 3 law19_EarningsParts_C := by
  refine meets_fun (fn := Try.f3) (c := bodyOf Try.f3) (by kernel_rfl) (by kernel_rfl) (by kernel_rfl) (rs := [.tmp 6]) (by kernel_rfl) (nt := 45) (by kernel_rfl) fun vs p out h hp => ?_
  unfold law19_EarningsParts_C at h
  split at h
  · next a1 a2 a3 a4 a5 a6 a7 a8 a9 a10 a11 a12 a13 a14 a15 =>
    cases h
    obtain ⟨g, hp⟩ := allq hp
    obtain ⟨x, hx⟩ := Option.isSome_iff_exists.1 g
    rw [hx]
    exact ⟨[(.agg [(i64 (GPensionhand_Fact.mk a1 a2 a3 a4 a5 a6 a7 a8 a9 a10 a11 a12 a13).Issuer), (i64 (GPensionhand_Fact.mk a1 a2 a3 a4 a5 a6 a7 a8 a9 a10 a11 a12 a13).Number), (i64 (GPensionhand_Fact.mk a1 a2 a3 a4 a5 a6 a7 a8 a9 a10 a11 a12 a13).Version), (bl (GPensionhand_Fact.mk a1 a2 a3 a4 a5 a6 a7 a8 a9 a10 a11 a12 a13).Withdrawn), (i64 (GPensionhand_Fact.mk a1 a2 a3 a4 a5 a6 a7 a8 a9 a10 a11 a12 a13).Person), (i64 (GPensionhand_Fact.mk a1 a2 a3 a4 a5 a6 a7 a8 a9 a10 a11 a12 a13).Kind), (i64 (GPensionhand_Fact.mk a1 a2 a3 a4 a5 a6 a7 a8 a9 a10 a11 a12 a13).State), (i64 (GPensionhand_Fact.mk a1 a2 a3 a4 a5 a6 a7 a8 a9 a10 a11 a12 a13).Seat), (i64 (GPensionhand_Fact.mk a1 a2 a3 a4 a5 a6 a7 a8 a9 a10 a11 a12 a13).From), (i64 (GPensionhand_Fact.mk a1 a2 a3 a4 a5 a6 a7 a8 a9 a10 a11 a12 a13).Length), (i64 (GPensionhand_Fact.mk a1 a2 a3 a4 a5 a6 a7 a8 a9 a10 a11 a12 a13).Share), (i64 (GPensionhand_Fact.mk a1 a2 a3 a4 a5 a6 a7 a8 a9 a10 a11 a12 a13).Amount), (i64 (GPensionhand_Fact.mk a1 a2 a3 a4 a5 a6 a7 a8 a9 a10 a11 a12 a13).Ref)]), (i64 a14), (bl a15)], (VLes.cons (VLe.rfl' _) (VLes.cons (VLe.rfl' _) (VLes.cons (VLe.rfl' _) VLes.nil))), rfl, law19_EarningsParts_run (GPensionhand_Fact.mk a1 a2 a3 a4 a5 a6 a7 a8 a9 a10 a11 a12 a13) a14 a15 x hx⟩
  · cases h

noncomputable def law19_EarningsSplit_i0 : List Code := items (bodyOf Try.f4)
def law19_EarningsSplit_R (x_1 : Bool) : St := { tm := [sv 4 (bl x_1)], hp := [], nx := 0 }
def law19_EarningsSplit_out (x_1 : Bool) : Out := .data (bl x_1)
theorem law19_EarningsSplit_Rok (x_1 : Bool) : retK Try.prog [.tmp 4] (OutOk (law19_EarningsSplit_out x_1)) .ret (law19_EarningsSplit_R x_1) :=
  retK.intro (v := (bl x_1)) (by kernel_rfl) ((VLe.rfl' _))
def law19_EarningsSplit_p0_S (r_1 : GPensionhand_Fact) (cut : Int) : St := { tm := [sv 0 (.agg [(i64 r_1.Issuer), (i64 r_1.Number), (i64 r_1.Version), (bl r_1.Withdrawn), (i64 r_1.Person), (i64 r_1.Kind), (i64 r_1.State), (i64 r_1.Seat), (i64 r_1.From), (i64 r_1.Length), (i64 r_1.Share), (i64 r_1.Amount), (i64 r_1.Ref)]), sv 1 (i64 cut)], hp := [], nx := 0 }
noncomputable def law19_EarningsSplit_p0 (r_1 : GPensionhand_Fact) (cut : Int) : Option (Bool) := (hand_Make r_1).bind fun r_2 => ((made_Pick cut (w64 ((w64 (r_2.Span.To - r_2.Span.From)) + (1 : Int)))).bind fun r_3 => ((earnings_Part r_2 r_3).bind fun r_4 => ((earnings_Part r_2 (w64 ((w64 (r_2.Span.To - r_2.Span.From)) - r_3))).bind fun r_5 => ((earnings_Part r_2 (w64 (r_2.Span.To - r_2.Span.From))).bind fun r_6 => ((law19_awake).bind fun r_7 => ((some (bif (bif (bif r_7 then (r_6 == r_2.Amount) else false) then (decide ((w64 (r_4 + r_5)) ≤ r_6)) else false) then (decide ((w64 ((w64 (r_6 - r_4)) - r_5)) ≤ (1 : Int))) else false))))))))
theorem law19_EarningsSplit_p0_nf (r_1 : GPensionhand_Fact) (cut : Int) (K : Exit → St → Prop) :
    ev Try.prog (lookC [(22, hand_Make_C), (23, made_Pick_C), (24, earnings_Part_C), (25, law19_awake_C)]) 57 (ofItems ((List.drop 0 law19_EarningsSplit_i0).take 8)) (cN [4] K) (law19_EarningsSplit_p0_S r_1 cut) =
    (((hand_Make r_1).isSome = true) ∧ (((made_Pick cut (w64 ((w64 ((((hand_Make r_1).getD zGFact).Span).To - (((hand_Make r_1).getD zGFact).Span).From)) + (1 : Int)))).isSome = true) ∧ (((earnings_Part ((hand_Make r_1).getD zGFact) ((made_Pick cut (w64 ((w64 ((((hand_Make r_1).getD zGFact).Span).To - (((hand_Make r_1).getD zGFact).Span).From)) + (1 : Int)))).getD (0 : Int))).isSome = true) ∧ ((earnings_Part ((hand_Make r_1).getD zGFact) (w64 ((w64 ((((hand_Make r_1).getD zGFact).Span).To - (((hand_Make r_1).getD zGFact).Span).From)) - ((made_Pick cut (w64 ((w64 ((((hand_Make r_1).getD zGFact).Span).To - (((hand_Make r_1).getD zGFact).Span).From)) + (1 : Int)))).getD (0 : Int))))).isSome = true) ∧ (((earnings_Part ((hand_Make r_1).getD zGFact) (w64 ((((hand_Make r_1).getD zGFact).Span).To - (((hand_Make r_1).getD zGFact).Span).From))).isSome = true) ∧ (((law19_awake).isSome = true) ∧ (wK K .ret ({ tm := [sv 4 (bl (bif (bif (bif ((law19_awake).getD false) then (((earnings_Part ((hand_Make r_1).getD zGFact) (w64 ((((hand_Make r_1).getD zGFact).Span).To - (((hand_Make r_1).getD zGFact).Span).From))).getD (0 : Int)) == ((hand_Make r_1).getD zGFact).Amount) else false) then (decide ((w64 (((earnings_Part ((hand_Make r_1).getD zGFact) ((made_Pick cut (w64 ((w64 ((((hand_Make r_1).getD zGFact).Span).To - (((hand_Make r_1).getD zGFact).Span).From)) + (1 : Int)))).getD (0 : Int))).getD (0 : Int)) + ((earnings_Part ((hand_Make r_1).getD zGFact) (w64 ((w64 ((((hand_Make r_1).getD zGFact).Span).To - (((hand_Make r_1).getD zGFact).Span).From)) - ((made_Pick cut (w64 ((w64 ((((hand_Make r_1).getD zGFact).Span).To - (((hand_Make r_1).getD zGFact).Span).From)) + (1 : Int)))).getD (0 : Int))))).getD (0 : Int)))) ≤ ((earnings_Part ((hand_Make r_1).getD zGFact) (w64 ((((hand_Make r_1).getD zGFact).Span).To - (((hand_Make r_1).getD zGFact).Span).From))).getD (0 : Int)))) else false) then (decide ((w64 ((w64 (((earnings_Part ((hand_Make r_1).getD zGFact) (w64 ((((hand_Make r_1).getD zGFact).Span).To - (((hand_Make r_1).getD zGFact).Span).From))).getD (0 : Int)) - ((earnings_Part ((hand_Make r_1).getD zGFact) ((made_Pick cut (w64 ((w64 ((((hand_Make r_1).getD zGFact).Span).To - (((hand_Make r_1).getD zGFact).Span).From)) + (1 : Int)))).getD (0 : Int))).getD (0 : Int)))) - ((earnings_Part ((hand_Make r_1).getD zGFact) (w64 ((w64 ((((hand_Make r_1).getD zGFact).Span).To - (((hand_Make r_1).getD zGFact).Span).From)) - ((made_Pick cut (w64 ((w64 ((((hand_Make r_1).getD zGFact).Span).To - (((hand_Make r_1).getD zGFact).Span).From)) + (1 : Int)))).getD (0 : Int))))).getD (0 : Int)))) ≤ (1 : Int))) else false))], hp := [], nx := 0 }))))))) := by kernel_rfl
theorem law19_EarningsSplit_p0_ok (r_1 : GPensionhand_Fact) (cut : Int) (K : Exit → St → Prop) (h : W (law19_EarningsSplit_p0 r_1 cut) (fun x => (fun x K => K .ret (law19_EarningsSplit_R x)) x K)) : EvL Try.prog 57 (List.drop 0 law19_EarningsSplit_i0) K (law19_EarningsSplit_p0_S r_1 cut) :=
  EvL.pieceE mixed (lookC_ok (l := [(22, hand_Make_C), (23, made_Pick_C), (24, earnings_Part_C), (25, law19_awake_C)]) ⟨hand_Make_ok, made_Pick_ok, earnings_Part_ok, law19_awake_ok, trivial⟩) [4] 0 8 (by kernel_rfl) (EvP.of (law19_EarningsSplit_p0_nf r_1 cut _) ((W_bind zGFact h fun hp0 h => (W_bind (0 : Int) h fun hp1 h => (W_bind (0 : Int) h fun hp2 h => (W_bind (0 : Int) h fun hp3 h => (W_bind (0 : Int) h fun hp4 h => (W_bind false h fun hp5 h => ⟨(law19_EarningsSplit_R (bif (bif (bif ((law19_awake).getD false) then (((earnings_Part ((hand_Make r_1).getD zGFact) (w64 ((((hand_Make r_1).getD zGFact).Span).To - (((hand_Make r_1).getD zGFact).Span).From))).getD (0 : Int)) == ((hand_Make r_1).getD zGFact).Amount) else false) then (decide ((w64 (((earnings_Part ((hand_Make r_1).getD zGFact) ((made_Pick cut (w64 ((w64 ((((hand_Make r_1).getD zGFact).Span).To - (((hand_Make r_1).getD zGFact).Span).From)) + (1 : Int)))).getD (0 : Int))).getD (0 : Int)) + ((earnings_Part ((hand_Make r_1).getD zGFact) (w64 ((w64 ((((hand_Make r_1).getD zGFact).Span).To - (((hand_Make r_1).getD zGFact).Span).From)) - ((made_Pick cut (w64 ((w64 ((((hand_Make r_1).getD zGFact).Span).To - (((hand_Make r_1).getD zGFact).Span).From)) + (1 : Int)))).getD (0 : Int))))).getD (0 : Int)))) ≤ ((earnings_Part ((hand_Make r_1).getD zGFact) (w64 ((((hand_Make r_1).getD zGFact).Span).To - (((hand_Make r_1).getD zGFact).Span).From))).getD (0 : Int)))) else false) then (decide ((w64 ((w64 (((earnings_Part ((hand_Make r_1).getD zGFact) (w64 ((((hand_Make r_1).getD zGFact).Span).To - (((hand_Make r_1).getD zGFact).Span).From))).getD (0 : Int)) - ((earnings_Part ((hand_Make r_1).getD zGFact) ((made_Pick cut (w64 ((w64 ((((hand_Make r_1).getD zGFact).Span).To - (((hand_Make r_1).getD zGFact).Span).From)) + (1 : Int)))).getD (0 : Int))).getD (0 : Int)))) - ((earnings_Part ((hand_Make r_1).getD zGFact) (w64 ((w64 ((((hand_Make r_1).getD zGFact).Span).To - (((hand_Make r_1).getD zGFact).Span).From)) - ((made_Pick cut (w64 ((w64 ((((hand_Make r_1).getD zGFact).Span).To - (((hand_Make r_1).getD zGFact).Span).From)) + (1 : Int)))).getD (0 : Int))))).getD (0 : Int)))) ≤ (1 : Int))) else false)), (Ent.refl _), h⟩))))))))
noncomputable def law19_EarningsSplit (r_1 : GPensionhand_Fact) (cut : Int) : Option (Bool) := law19_EarningsSplit_p0 r_1 cut
theorem law19_EarningsSplit_run (r_1 : GPensionhand_Fact) (cut : Int) (y_ : Bool) (h : law19_EarningsSplit r_1 cut = some y_) : EvL Try.prog 57 (items (bodyOf Try.f4)) (retK Try.prog [.tmp 4] (OutOk (law19_EarningsSplit_out y_))) (law19_EarningsSplit_p0_S r_1 cut) :=
  law19_EarningsSplit_p0_ok r_1 cut _ (W_iff.2 ⟨y_, h, law19_EarningsSplit_Rok y_⟩)
noncomputable def law19_EarningsSplit_C : Con
  | [(.agg [(.c (.lit (.int .i64 a1))), (.c (.lit (.int .i64 a2))), (.c (.lit (.int .i64 a3))), (.c (.lit (.bool a4))), (.c (.lit (.int .i64 a5))), (.c (.lit (.int .i64 a6))), (.c (.lit (.int .i64 a7))), (.c (.lit (.int .i64 a8))), (.c (.lit (.int .i64 a9))), (.c (.lit (.int .i64 a10))), (.c (.lit (.int .i64 a11))), (.c (.lit (.int .i64 a12))), (.c (.lit (.int .i64 a13)))]), (.c (.lit (.int .i64 a14)))] => some ([(law19_EarningsSplit (GPensionhand_Fact.mk a1 a2 a3 a4 a5 a6 a7 a8 a9 a10 a11 a12 a13) a14).isSome = true], (law19_EarningsSplit_out ((law19_EarningsSplit (GPensionhand_Fact.mk a1 a2 a3 a4 a5 a6 a7 a8 a9 a10 a11 a12 a13) a14).getD false)))
  | _ => none
theorem law19_EarningsSplit_ok : Meets Try.prog 4 law19_EarningsSplit_C := by
  refine meets_fun (fn := Try.f4) (c := bodyOf Try.f4) (by kernel_rfl) (by kernel_rfl) (by kernel_rfl) (rs := [.tmp 4]) (by kernel_rfl) (nt := 57) (by kernel_rfl) fun vs p out h hp => ?_
  unfold law19_EarningsSplit_C at h
  split at h
  · next a1 a2 a3 a4 a5 a6 a7 a8 a9 a10 a11 a12 a13 a14 =>
    cases h
    obtain ⟨g, hp⟩ := allq hp
    obtain ⟨x, hx⟩ := Option.isSome_iff_exists.1 g
    rw [hx]
    exact ⟨[(.agg [(i64 (GPensionhand_Fact.mk a1 a2 a3 a4 a5 a6 a7 a8 a9 a10 a11 a12 a13).Issuer), (i64 (GPensionhand_Fact.mk a1 a2 a3 a4 a5 a6 a7 a8 a9 a10 a11 a12 a13).Number), (i64 (GPensionhand_Fact.mk a1 a2 a3 a4 a5 a6 a7 a8 a9 a10 a11 a12 a13).Version), (bl (GPensionhand_Fact.mk a1 a2 a3 a4 a5 a6 a7 a8 a9 a10 a11 a12 a13).Withdrawn), (i64 (GPensionhand_Fact.mk a1 a2 a3 a4 a5 a6 a7 a8 a9 a10 a11 a12 a13).Person), (i64 (GPensionhand_Fact.mk a1 a2 a3 a4 a5 a6 a7 a8 a9 a10 a11 a12 a13).Kind), (i64 (GPensionhand_Fact.mk a1 a2 a3 a4 a5 a6 a7 a8 a9 a10 a11 a12 a13).State), (i64 (GPensionhand_Fact.mk a1 a2 a3 a4 a5 a6 a7 a8 a9 a10 a11 a12 a13).Seat), (i64 (GPensionhand_Fact.mk a1 a2 a3 a4 a5 a6 a7 a8 a9 a10 a11 a12 a13).From), (i64 (GPensionhand_Fact.mk a1 a2 a3 a4 a5 a6 a7 a8 a9 a10 a11 a12 a13).Length), (i64 (GPensionhand_Fact.mk a1 a2 a3 a4 a5 a6 a7 a8 a9 a10 a11 a12 a13).Share), (i64 (GPensionhand_Fact.mk a1 a2 a3 a4 a5 a6 a7 a8 a9 a10 a11 a12 a13).Amount), (i64 (GPensionhand_Fact.mk a1 a2 a3 a4 a5 a6 a7 a8 a9 a10 a11 a12 a13).Ref)]), (i64 a14)], (VLes.cons (VLe.rfl' _) (VLes.cons (VLe.rfl' _) VLes.nil)), rfl, law19_EarningsSplit_run (GPensionhand_Fact.mk a1 a2 a3 a4 a5 a6 a7 a8 a9 a10 a11 a12 a13) a14 x hx⟩
  · cases h

end Go.Ax
