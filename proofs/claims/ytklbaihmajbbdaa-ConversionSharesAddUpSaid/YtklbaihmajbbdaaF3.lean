import Derived.Test.YtklbaihmajbbdaaF2
import Derived.Test.YtklbaihmajbbdaaRows
/- Types of the program, and functions of it: printed by a program, checked by the kernel. -/
set_option linter.all false
set_option maxRecDepth 100000
namespace Go.Ax
open Go.Proofs Go.Proofs.Ytklbaihmajbbdaa
noncomputable def z15i0 : List Code := items (bodyOf Try.f15)
def law22_awake_out (x_1 : Bool) : Out := .data (bl x_1)
def z15R (x_1 : Bool) : St := { tm := [sv 0 (bl x_1)], hp := [], nx := 0 }
theorem z15Rok (x_1 : Bool) : retK Try.prog [.tmp 0] (OutOk (law22_awake_out x_1)) .ret (z15R x_1) :=
  retK.intro (v := (bl x_1)) (by kernel_rfl) ((VLe.rfl' _))
def z15p0S : St := { tm := [], hp := [], nx := 0 }
noncomputable def law22_awake_p0 : Option (Bool) := (conversion_Shares ([(GHeir.mk (1 : Int) (1 : Int) (100 : Int)), (GHeir.mk (2 : Int) (2 : Int) (0 : Int)), (GHeir.mk (3 : Int) (2 : Int) (0 : Int))] : List GHeir)).bind fun r_1 => ((conversion_Divide (11 : Int) ([(GHeir.mk (1 : Int) (1 : Int) (100 : Int)), (GHeir.mk (2 : Int) (2 : Int) (0 : Int)), (GHeir.mk (3 : Int) (2 : Int) (0 : Int))] : List GHeir)).bind fun r_2 => ((conversion_Convert ([(GNet.mk (1 : Int) (2 : Int) (1 : Int) (0 : Int) (0 : Int) (0 : Int) (50 : Int)), (GNet.mk (1 : Int) (1 : Int) (1 : Int) (0 : Int) (0 : Int) (0 : Int) (40 : Int))] : List GNet)).bind fun r_3 => (gd (((bif (r_1.2 == (0 : Int)) then (((r_1.1.length : Nat) : Int) == (3 : Int)) else false) && true) = true → (0 : Int) ≤ (0 : Int)) (gd (((bif (r_1.2 == (0 : Int)) then (((r_1.1.length : Nat) : Int) == (3 : Int)) else false) && true) = true → (0 : Int) < ((r_1.1.length : Nat) : Int)) (gd (((bif (bif (bif (bif (r_1.2 == (0 : Int)) then (((r_1.1.length : Nat) : Int) == (3 : Int)) else false) then (((r_1.1.getD 0 zGFraction).Num == (3 : Int)) && (((r_1.1.getD 0 zGFraction).Den == (5 : Int)) && true)) else false) then (r_2.2 == (0 : Int)) else false) then (((r_2.1.length : Nat) : Int) == (3 : Int)) else false) && true) = true → (0 : Int) ≤ (0 : Int)) (gd (((bif (bif (bif (bif (r_1.2 == (0 : Int)) then (((r_1.1.length : Nat) : Int) == (3 : Int)) else false) then (((r_1.1.getD 0 zGFraction).Num == (3 : Int)) && (((r_1.1.getD 0 zGFraction).Den == (5 : Int)) && true)) else false) then (r_2.2 == (0 : Int)) else false) then (((r_2.1.length : Nat) : Int) == (3 : Int)) else false) && true) = true → (0 : Int) < ((r_2.1.length : Nat) : Int)) (gd (((bif (bif (bif (bif (r_1.2 == (0 : Int)) then (((r_1.1.length : Nat) : Int) == (3 : Int)) else false) then (((r_1.1.getD 0 zGFraction).Num == (3 : Int)) && (((r_1.1.getD 0 zGFraction).Den == (5 : Int)) && true)) else false) then (r_2.2 == (0 : Int)) else false) then (((r_2.1.length : Nat) : Int) == (3 : Int)) else false) && true) = true → (0 : Int) ≤ (1 : Int)) (gd (((bif (bif (bif (bif (r_1.2 == (0 : Int)) then (((r_1.1.length : Nat) : Int) == (3 : Int)) else false) then (((r_1.1.getD 0 zGFraction).Num == (3 : Int)) && (((r_1.1.getD 0 zGFraction).Den == (5 : Int)) && true)) else false) then (r_2.2 == (0 : Int)) else false) then (((r_2.1.length : Nat) : Int) == (3 : Int)) else false) && true) = true → (1 : Int) < ((r_2.1.length : Nat) : Int)) (gd (((bif (bif (bif (bif (r_1.2 == (0 : Int)) then (((r_1.1.length : Nat) : Int) == (3 : Int)) else false) then (((r_1.1.getD 0 zGFraction).Num == (3 : Int)) && (((r_1.1.getD 0 zGFraction).Den == (5 : Int)) && true)) else false) then (r_2.2 == (0 : Int)) else false) then (((r_2.1.length : Nat) : Int) == (3 : Int)) else false) && true) = true → (0 : Int) ≤ (2 : Int)) (gd (((bif (bif (bif (bif (r_1.2 == (0 : Int)) then (((r_1.1.length : Nat) : Int) == (3 : Int)) else false) then (((r_1.1.getD 0 zGFraction).Num == (3 : Int)) && (((r_1.1.getD 0 zGFraction).Den == (5 : Int)) && true)) else false) then (r_2.2 == (0 : Int)) else false) then (((r_2.1.length : Nat) : Int) == (3 : Int)) else false) && true) = true → (2 : Int) < ((r_2.1.length : Nat) : Int)) (gd (((bif (bif (bif (bif (bif (bif (r_1.2 == (0 : Int)) then (((r_1.1.length : Nat) : Int) == (3 : Int)) else false) then (((r_1.1.getD 0 zGFraction).Num == (3 : Int)) && (((r_1.1.getD 0 zGFraction).Den == (5 : Int)) && true)) else false) then (r_2.2 == (0 : Int)) else false) then (((r_2.1.length : Nat) : Int) == (3 : Int)) else false) then ((w64 ((w64 ((r_2.1.getD 0 zGPart).Amount + (r_2.1.getD 1 zGPart).Amount)) + (r_2.1.getD 2 zGPart).Amount)) == (11 : Int)) else false) then (((r_3.length : Nat) : Int) == (1 : Int)) else false) && true) = true → (0 : Int) ≤ (0 : Int)) (gd (((bif (bif (bif (bif (bif (bif (r_1.2 == (0 : Int)) then (((r_1.1.length : Nat) : Int) == (3 : Int)) else false) then (((r_1.1.getD 0 zGFraction).Num == (3 : Int)) && (((r_1.1.getD 0 zGFraction).Den == (5 : Int)) && true)) else false) then (r_2.2 == (0 : Int)) else false) then (((r_2.1.length : Nat) : Int) == (3 : Int)) else false) then ((w64 ((w64 ((r_2.1.getD 0 zGPart).Amount + (r_2.1.getD 1 zGPart).Amount)) + (r_2.1.getD 2 zGPart).Amount)) == (11 : Int)) else false) then (((r_3.length : Nat) : Int) == (1 : Int)) else false) && true) = true → (0 : Int) < ((r_3.length : Nat) : Int)) ((some (bif (bif (bif (bif (bif (bif (bif (r_1.2 == (0 : Int)) then (((r_1.1.length : Nat) : Int) == (3 : Int)) else false) then (((r_1.1.getD 0 zGFraction).Num == (3 : Int)) && (((r_1.1.getD 0 zGFraction).Den == (5 : Int)) && true)) else false) then (r_2.2 == (0 : Int)) else false) then (((r_2.1.length : Nat) : Int) == (3 : Int)) else false) then ((w64 ((w64 ((r_2.1.getD 0 zGPart).Amount + (r_2.1.getD 1 zGPart).Amount)) + (r_2.1.getD 2 zGPart).Amount)) == (11 : Int)) else false) then (((r_3.length : Nat) : Int) == (1 : Int)) else false) then ((r_3.getD 0 zGNet).Amount == (50 : Int)) else false)))))))))))))))
theorem z15p0nf (K : KT) (L1_ : List GHeir) (hL1_ : lst dGHeir 3 (fun i => (fun i => (List.take 3 (List.drop (i * 3) (eGHeir (GHeir.mk (1 : Int) (1 : Int) (100 : Int)) ++ eGHeir (GHeir.mk (2 : Int) (2 : Int) (0 : Int)) ++ eGHeir (GHeir.mk (3 : Int) (2 : Int) (0 : Int)))))) (0 + i)) = L1_) (L2_ : List GHeir) (hL2_ : lst dGHeir 3 (fun i => (fun i => (List.take 3 (List.drop (i * 3) (eGHeir (GHeir.mk (1 : Int) (1 : Int) (100 : Int)) ++ eGHeir (GHeir.mk (2 : Int) (2 : Int) (0 : Int)) ++ eGHeir (GHeir.mk (3 : Int) (2 : Int) (0 : Int)))))) (0 + i)) = L2_) (L3_ : List GNet) (hL3_ : lst dGNet 2 (fun i => (fun i => (List.take 7 (List.drop (i * 7) (eGNet (GNet.mk (1 : Int) (2 : Int) (1 : Int) (0 : Int) (0 : Int) (0 : Int) (50 : Int)) ++ eGNet (GNet.mk (1 : Int) (1 : Int) (1 : Int) (0 : Int) (0 : Int) (0 : Int) (40 : Int)))))) (0 + i)) = L3_) :
    ev Try.prog (lookC [(17, .pure conversion_Convert_C), (20, .pure conversion_Shares_C), (22, .pure conversion_Divide_C)]) 77 (ofItems ((List.drop 0 z15i0).take 7)) (cN [0] K) (z15p0S) =
    ((LstOk eGHeir dGHeir 3 3 3 (fun i => (fun i => (List.take 3 (List.drop (i * 3) (eGHeir (GHeir.mk (1 : Int) (1 : Int) (100 : Int)) ++ eGHeir (GHeir.mk (2 : Int) (2 : Int) (0 : Int)) ++ eGHeir (GHeir.mk (3 : Int) (2 : Int) (0 : Int)))))) (0 + i))) ∧ ((conversion_Shares L1_).isSome = true) ∧ ((LstOk eGHeir dGHeir 3 3 3 (fun i => (fun i => (List.take 3 (List.drop (i * 3) (eGHeir (GHeir.mk (1 : Int) (1 : Int) (100 : Int)) ++ eGHeir (GHeir.mk (2 : Int) (2 : Int) (0 : Int)) ++ eGHeir (GHeir.mk (3 : Int) (2 : Int) (0 : Int)))))) (0 + i))) ∧ ((conversion_Divide (11 : Int) L2_).isSome = true) ∧ ((LstOk eGNet dGNet 7 7 2 (fun i => (fun i => (List.take 7 (List.drop (i * 7) (eGNet (GNet.mk (1 : Int) (2 : Int) (1 : Int) (0 : Int) (0 : Int) (0 : Int) (50 : Int)) ++ eGNet (GNet.mk (1 : Int) (1 : Int) (1 : Int) (0 : Int) (0 : Int) (0 : Int) (40 : Int)))))) (0 + i))) ∧ ((conversion_Convert L3_).isSome = true) ∧ ((((bif (((conversion_Shares L1_).getD (([] : List GFraction), (0 : Int))).2 == (0 : Int)) then ((((((conversion_Shares L1_).getD (([] : List GFraction), (0 : Int))).1).length : Nat) : Int) == (3 : Int)) else false) && true) = true → (0 : Int) ≤ (0 : Int)) ∧ (((bif (((conversion_Shares L1_).getD (([] : List GFraction), (0 : Int))).2 == (0 : Int)) then ((((((conversion_Shares L1_).getD (([] : List GFraction), (0 : Int))).1).length : Nat) : Int) == (3 : Int)) else false) && true) = true → (0 : Int) < (((((conversion_Shares L1_).getD (([] : List GFraction), (0 : Int))).1).length : Nat) : Int)) ∧ (((bif (bif (bif (bif (((conversion_Shares L1_).getD (([] : List GFraction), (0 : Int))).2 == (0 : Int)) then ((((((conversion_Shares L1_).getD (([] : List GFraction), (0 : Int))).1).length : Nat) : Int) == (3 : Int)) else false) then ((((((conversion_Shares L1_).getD (([] : List GFraction), (0 : Int))).1).getD 0 zGFraction).Num == (3 : Int)) && ((((((conversion_Shares L1_).getD (([] : List GFraction), (0 : Int))).1).getD 0 zGFraction).Den == (5 : Int)) && true)) else false) then (((conversion_Divide (11 : Int) L2_).getD (([] : List GPart), (0 : Int))).2 == (0 : Int)) else false) then ((((((conversion_Divide (11 : Int) L2_).getD (([] : List GPart), (0 : Int))).1).length : Nat) : Int) == (3 : Int)) else false) && true) = true → (0 : Int) ≤ (0 : Int)) ∧ (((bif (bif (bif (bif (((conversion_Shares L1_).getD (([] : List GFraction), (0 : Int))).2 == (0 : Int)) then ((((((conversion_Shares L1_).getD (([] : List GFraction), (0 : Int))).1).length : Nat) : Int) == (3 : Int)) else false) then ((((((conversion_Shares L1_).getD (([] : List GFraction), (0 : Int))).1).getD 0 zGFraction).Num == (3 : Int)) && ((((((conversion_Shares L1_).getD (([] : List GFraction), (0 : Int))).1).getD 0 zGFraction).Den == (5 : Int)) && true)) else false) then (((conversion_Divide (11 : Int) L2_).getD (([] : List GPart), (0 : Int))).2 == (0 : Int)) else false) then ((((((conversion_Divide (11 : Int) L2_).getD (([] : List GPart), (0 : Int))).1).length : Nat) : Int) == (3 : Int)) else false) && true) = true → (0 : Int) < (((((conversion_Divide (11 : Int) L2_).getD (([] : List GPart), (0 : Int))).1).length : Nat) : Int)) ∧ (((bif (bif (bif (bif (((conversion_Shares L1_).getD (([] : List GFraction), (0 : Int))).2 == (0 : Int)) then ((((((conversion_Shares L1_).getD (([] : List GFraction), (0 : Int))).1).length : Nat) : Int) == (3 : Int)) else false) then ((((((conversion_Shares L1_).getD (([] : List GFraction), (0 : Int))).1).getD 0 zGFraction).Num == (3 : Int)) && ((((((conversion_Shares L1_).getD (([] : List GFraction), (0 : Int))).1).getD 0 zGFraction).Den == (5 : Int)) && true)) else false) then (((conversion_Divide (11 : Int) L2_).getD (([] : List GPart), (0 : Int))).2 == (0 : Int)) else false) then ((((((conversion_Divide (11 : Int) L2_).getD (([] : List GPart), (0 : Int))).1).length : Nat) : Int) == (3 : Int)) else false) && true) = true → (0 : Int) ≤ (1 : Int)) ∧ (((bif (bif (bif (bif (((conversion_Shares L1_).getD (([] : List GFraction), (0 : Int))).2 == (0 : Int)) then ((((((conversion_Shares L1_).getD (([] : List GFraction), (0 : Int))).1).length : Nat) : Int) == (3 : Int)) else false) then ((((((conversion_Shares L1_).getD (([] : List GFraction), (0 : Int))).1).getD 0 zGFraction).Num == (3 : Int)) && ((((((conversion_Shares L1_).getD (([] : List GFraction), (0 : Int))).1).getD 0 zGFraction).Den == (5 : Int)) && true)) else false) then (((conversion_Divide (11 : Int) L2_).getD (([] : List GPart), (0 : Int))).2 == (0 : Int)) else false) then ((((((conversion_Divide (11 : Int) L2_).getD (([] : List GPart), (0 : Int))).1).length : Nat) : Int) == (3 : Int)) else false) && true) = true → (1 : Int) < (((((conversion_Divide (11 : Int) L2_).getD (([] : List GPart), (0 : Int))).1).length : Nat) : Int)) ∧ (((bif (bif (bif (bif (((conversion_Shares L1_).getD (([] : List GFraction), (0 : Int))).2 == (0 : Int)) then ((((((conversion_Shares L1_).getD (([] : List GFraction), (0 : Int))).1).length : Nat) : Int) == (3 : Int)) else false) then ((((((conversion_Shares L1_).getD (([] : List GFraction), (0 : Int))).1).getD 0 zGFraction).Num == (3 : Int)) && ((((((conversion_Shares L1_).getD (([] : List GFraction), (0 : Int))).1).getD 0 zGFraction).Den == (5 : Int)) && true)) else false) then (((conversion_Divide (11 : Int) L2_).getD (([] : List GPart), (0 : Int))).2 == (0 : Int)) else false) then ((((((conversion_Divide (11 : Int) L2_).getD (([] : List GPart), (0 : Int))).1).length : Nat) : Int) == (3 : Int)) else false) && true) = true → (0 : Int) ≤ (2 : Int)) ∧ (((bif (bif (bif (bif (((conversion_Shares L1_).getD (([] : List GFraction), (0 : Int))).2 == (0 : Int)) then ((((((conversion_Shares L1_).getD (([] : List GFraction), (0 : Int))).1).length : Nat) : Int) == (3 : Int)) else false) then ((((((conversion_Shares L1_).getD (([] : List GFraction), (0 : Int))).1).getD 0 zGFraction).Num == (3 : Int)) && ((((((conversion_Shares L1_).getD (([] : List GFraction), (0 : Int))).1).getD 0 zGFraction).Den == (5 : Int)) && true)) else false) then (((conversion_Divide (11 : Int) L2_).getD (([] : List GPart), (0 : Int))).2 == (0 : Int)) else false) then ((((((conversion_Divide (11 : Int) L2_).getD (([] : List GPart), (0 : Int))).1).length : Nat) : Int) == (3 : Int)) else false) && true) = true → (2 : Int) < (((((conversion_Divide (11 : Int) L2_).getD (([] : List GPart), (0 : Int))).1).length : Nat) : Int)) ∧ (((bif (bif (bif (bif (bif (bif (((conversion_Shares L1_).getD (([] : List GFraction), (0 : Int))).2 == (0 : Int)) then ((((((conversion_Shares L1_).getD (([] : List GFraction), (0 : Int))).1).length : Nat) : Int) == (3 : Int)) else false) then ((((((conversion_Shares L1_).getD (([] : List GFraction), (0 : Int))).1).getD 0 zGFraction).Num == (3 : Int)) && ((((((conversion_Shares L1_).getD (([] : List GFraction), (0 : Int))).1).getD 0 zGFraction).Den == (5 : Int)) && true)) else false) then (((conversion_Divide (11 : Int) L2_).getD (([] : List GPart), (0 : Int))).2 == (0 : Int)) else false) then ((((((conversion_Divide (11 : Int) L2_).getD (([] : List GPart), (0 : Int))).1).length : Nat) : Int) == (3 : Int)) else false) then ((w64 ((w64 (((((conversion_Divide (11 : Int) L2_).getD (([] : List GPart), (0 : Int))).1).getD 0 zGPart).Amount + ((((conversion_Divide (11 : Int) L2_).getD (([] : List GPart), (0 : Int))).1).getD 1 zGPart).Amount)) + ((((conversion_Divide (11 : Int) L2_).getD (([] : List GPart), (0 : Int))).1).getD 2 zGPart).Amount)) == (11 : Int)) else false) then ((((((conversion_Convert L3_).getD ([] : List GNet))).length : Nat) : Int) == (1 : Int)) else false) && true) = true → (0 : Int) ≤ (0 : Int)) ∧ (((bif (bif (bif (bif (bif (bif (((conversion_Shares L1_).getD (([] : List GFraction), (0 : Int))).2 == (0 : Int)) then ((((((conversion_Shares L1_).getD (([] : List GFraction), (0 : Int))).1).length : Nat) : Int) == (3 : Int)) else false) then ((((((conversion_Shares L1_).getD (([] : List GFraction), (0 : Int))).1).getD 0 zGFraction).Num == (3 : Int)) && ((((((conversion_Shares L1_).getD (([] : List GFraction), (0 : Int))).1).getD 0 zGFraction).Den == (5 : Int)) && true)) else false) then (((conversion_Divide (11 : Int) L2_).getD (([] : List GPart), (0 : Int))).2 == (0 : Int)) else false) then ((((((conversion_Divide (11 : Int) L2_).getD (([] : List GPart), (0 : Int))).1).length : Nat) : Int) == (3 : Int)) else false) then ((w64 ((w64 (((((conversion_Divide (11 : Int) L2_).getD (([] : List GPart), (0 : Int))).1).getD 0 zGPart).Amount + ((((conversion_Divide (11 : Int) L2_).getD (([] : List GPart), (0 : Int))).1).getD 1 zGPart).Amount)) + ((((conversion_Divide (11 : Int) L2_).getD (([] : List GPart), (0 : Int))).1).getD 2 zGPart).Amount)) == (11 : Int)) else false) then ((((((conversion_Convert L3_).getD ([] : List GNet))).length : Nat) : Int) == (1 : Int)) else false) && true) = true → (0 : Int) < (((((conversion_Convert L3_).getD ([] : List GNet))).length : Nat) : Int)) ∧ (wK K .ret (z15R (bif (bif (bif (bif (bif (bif (bif (((conversion_Shares L1_).getD (([] : List GFraction), (0 : Int))).2 == (0 : Int)) then ((((((conversion_Shares L1_).getD (([] : List GFraction), (0 : Int))).1).length : Nat) : Int) == (3 : Int)) else false) then ((((((conversion_Shares L1_).getD (([] : List GFraction), (0 : Int))).1).getD 0 zGFraction).Num == (3 : Int)) && ((((((conversion_Shares L1_).getD (([] : List GFraction), (0 : Int))).1).getD 0 zGFraction).Den == (5 : Int)) && true)) else false) then (((conversion_Divide (11 : Int) L2_).getD (([] : List GPart), (0 : Int))).2 == (0 : Int)) else false) then ((((((conversion_Divide (11 : Int) L2_).getD (([] : List GPart), (0 : Int))).1).length : Nat) : Int) == (3 : Int)) else false) then ((w64 ((w64 (((((conversion_Divide (11 : Int) L2_).getD (([] : List GPart), (0 : Int))).1).getD 0 zGPart).Amount + ((((conversion_Divide (11 : Int) L2_).getD (([] : List GPart), (0 : Int))).1).getD 1 zGPart).Amount)) + ((((conversion_Divide (11 : Int) L2_).getD (([] : List GPart), (0 : Int))).1).getD 2 zGPart).Amount)) == (11 : Int)) else false) then ((((((conversion_Convert L3_).getD ([] : List GNet))).length : Nat) : Int) == (1 : Int)) else false) then ((((conversion_Convert L3_).getD ([] : List GNet)).getD 0 zGNet).Amount == (50 : Int)) else false))))))) := by subst hL1_ hL2_ hL3_; kernel_rfl
theorem z15p0ok (K : KT) (h : W (law22_awake_p0) (rE z15R K)) : EvL Try.prog 77 (List.drop 0 z15i0) K (z15p0S) :=
  EvL.pE mixed (lookC_ok (l := [(17, .pure conversion_Convert_C), (20, .pure conversion_Shares_C), (22, .pure conversion_Divide_C)]) ⟨conversion_Convert_ok, conversion_Shares_ok, conversion_Divide_ok, trivial⟩) [0] 0 7 (.of (z15p0nf _ _ (RowIs.lst dGHeir_eGHeir (RowIs.zero (RowIs.lits (el := (fun i => (List.take 3 (List.drop (i * 3) (eGHeir (GHeir.mk (1 : Int) (1 : Int) (100 : Int)) ++ eGHeir (GHeir.mk (2 : Int) (2 : Int) (0 : Int)) ++ eGHeir (GHeir.mk (3 : Int) (2 : Int) (0 : Int))))))) (z := zGHeir) (l := ([(GHeir.mk (1 : Int) (1 : Int) (100 : Int)), (GHeir.mk (2 : Int) (2 : Int) (0 : Int)), (GHeir.mk (3 : Int) (2 : Int) (0 : Int))] : List GHeir)) ⟨rfl, rfl, rfl, trivial⟩))) _ (RowIs.lst dGHeir_eGHeir (RowIs.zero (RowIs.lits (el := (fun i => (List.take 3 (List.drop (i * 3) (eGHeir (GHeir.mk (1 : Int) (1 : Int) (100 : Int)) ++ eGHeir (GHeir.mk (2 : Int) (2 : Int) (0 : Int)) ++ eGHeir (GHeir.mk (3 : Int) (2 : Int) (0 : Int))))))) (z := zGHeir) (l := ([(GHeir.mk (1 : Int) (1 : Int) (100 : Int)), (GHeir.mk (2 : Int) (2 : Int) (0 : Int)), (GHeir.mk (3 : Int) (2 : Int) (0 : Int))] : List GHeir)) ⟨rfl, rfl, rfl, trivial⟩))) _ (RowIs.lst dGNet_eGNet (RowIs.zero (RowIs.lits (el := (fun i => (List.take 7 (List.drop (i * 7) (eGNet (GNet.mk (1 : Int) (2 : Int) (1 : Int) (0 : Int) (0 : Int) (0 : Int) (50 : Int)) ++ eGNet (GNet.mk (1 : Int) (1 : Int) (1 : Int) (0 : Int) (0 : Int) (0 : Int) (40 : Int))))))) (z := zGNet) (l := ([(GNet.mk (1 : Int) (2 : Int) (1 : Int) (0 : Int) (0 : Int) (0 : Int) (50 : Int)), (GNet.mk (1 : Int) (1 : Int) (1 : Int) (0 : Int) (0 : Int) (0 : Int) (40 : Int))] : List GNet)) ⟨rfl, rfl, trivial⟩)))) (⟨RowIs.ok dGHeir_eGHeir (RowIs.zero (RowIs.lits (el := (fun i => (List.take 3 (List.drop (i * 3) (eGHeir (GHeir.mk (1 : Int) (1 : Int) (100 : Int)) ++ eGHeir (GHeir.mk (2 : Int) (2 : Int) (0 : Int)) ++ eGHeir (GHeir.mk (3 : Int) (2 : Int) (0 : Int))))))) (z := zGHeir) (l := ([(GHeir.mk (1 : Int) (1 : Int) (100 : Int)), (GHeir.mk (2 : Int) (2 : Int) (0 : Int)), (GHeir.mk (3 : Int) (2 : Int) (0 : Int))] : List GHeir)) ⟨rfl, rfl, rfl, trivial⟩)), (W_bind (([] : List GFraction), (0 : Int)) h fun hp0 h => ⟨RowIs.ok dGHeir_eGHeir (RowIs.zero (RowIs.lits (el := (fun i => (List.take 3 (List.drop (i * 3) (eGHeir (GHeir.mk (1 : Int) (1 : Int) (100 : Int)) ++ eGHeir (GHeir.mk (2 : Int) (2 : Int) (0 : Int)) ++ eGHeir (GHeir.mk (3 : Int) (2 : Int) (0 : Int))))))) (z := zGHeir) (l := ([(GHeir.mk (1 : Int) (1 : Int) (100 : Int)), (GHeir.mk (2 : Int) (2 : Int) (0 : Int)), (GHeir.mk (3 : Int) (2 : Int) (0 : Int))] : List GHeir)) ⟨rfl, rfl, rfl, trivial⟩)), (W_bind (([] : List GPart), (0 : Int)) h fun hp1 h => ⟨RowIs.ok dGNet_eGNet (RowIs.zero (RowIs.lits (el := (fun i => (List.take 7 (List.drop (i * 7) (eGNet (GNet.mk (1 : Int) (2 : Int) (1 : Int) (0 : Int) (0 : Int) (0 : Int) (50 : Int)) ++ eGNet (GNet.mk (1 : Int) (1 : Int) (1 : Int) (0 : Int) (0 : Int) (0 : Int) (40 : Int))))))) (z := zGNet) (l := ([(GNet.mk (1 : Int) (2 : Int) (1 : Int) (0 : Int) (0 : Int) (0 : Int) (50 : Int)), (GNet.mk (1 : Int) (1 : Int) (1 : Int) (0 : Int) (0 : Int) (0 : Int) (40 : Int))] : List GNet)) ⟨rfl, rfl, trivial⟩)), (W_bind ([] : List GNet) h fun hp2 h => (W_gd h fun hp3 h => (W_gd h fun hp4 h => (W_gd h fun hp5 h => (W_gd h fun hp6 h => (W_gd h fun hp7 h => (W_gd h fun hp8 h => (W_gd h fun hp9 h => (W_gd h fun hp10 h => (W_gd h fun hp11 h => (W_gd h fun hp12 h => ⟨_, .refl _, h⟩)))))))))))⟩)⟩)⟩))
noncomputable def law22_awake : Option (Bool) := law22_awake_p0
theorem z15run (y_ : Bool) (h : law22_awake = some y_) : EvL Try.prog 77 (items (bodyOf Try.f15)) (retK Try.prog [.tmp 0] (OutOk (law22_awake_out y_))) (z15p0S) :=
  z15p0ok _ (W_iff.2 ⟨y_, h, z15Rok y_⟩)
noncomputable def law22_awake_C : Con
  | [] => some ([(law22_awake).isSome = true], (law22_awake_out ((law22_awake).getD false)))
  | _ => none
theorem law22_awake_ok : Meets Try.prog 15 law22_awake_C := by
  refine meets_fun (fn := Try.f15) (c := bodyOf Try.f15) (by kernel_rfl) (by kernel_rfl) (by kernel_rfl) (rs := [.tmp 0]) (by kernel_rfl) (nt := 77) (by kernel_rfl) fun vs p out h hp => ?_
  unfold law22_awake_C at h
  split at h
  ·
    cases h
    obtain ⟨g, hp⟩ := allq hp
    obtain ⟨x, hx⟩ := Option.isSome_iff_exists.1 g
    rw [hx]
    exact ⟨[], VLes.nil, rfl, z15run x hx⟩
  · cases h

noncomputable def z46i0 : List Code := items (bodyOf Try.f46)
def ref1_size_out (x_1 : Int) : Out := .data (.c (.lit (.int .u64 x_1)))
def z46R (x_1 : Int) : St := { tm := [sv 2 (.c (.lit (.int .u64 x_1)))], hp := [], nx := 0 }
theorem z46Rok (x_1 : Int) : retK Try.prog [.tmp 2] (OutOk (ref1_size_out x_1)) .ret (z46R x_1) :=
  retK.intro (v := (.c (.lit (.int .u64 x_1)))) (by kernel_rfl) ((VLe.rfl' _))
def z46p0S (n : Int) : St := { tm := [sv 0 (i64 n)], hp := [], nx := 0 }
noncomputable def ref1_size_p0 (n : Int) : Option (Int) := (bif (decide (n < (0 : Int))) then (some (IntKind.u64.wrap ((IntKind.u64.wrap (w64 ((0 : Int) - (w64 (n + (1 : Int)))))) + (1 : Int)))) else (some (IntKind.u64.wrap n)))
theorem z46p0ok (n : Int) (K : KT) (h : W (ref1_size_p0 n) (rE z46R K)) : EvL Try.prog 12 (List.drop 0 z46i0) K (z46p0S n) :=
  EvL.pE mixed (lookC_ok (l := []) trivial) [2] 0 5 (.nf (X := fun K => (bif (decide (n < (0 : Int))) then wK K .ret (z46R (IntKind.u64.wrap ((IntKind.u64.wrap (w64 ((0 : Int) - (w64 (n + (1 : Int)))))) + (1 : Int)))) else wK K .ret (z46R (IntKind.u64.wrap n)))) (fun K => by kernel_rfl) (W_bif h (fun _ h => ⟨_, .refl _, h⟩) (fun _ h => ⟨_, .refl _, h⟩)))
noncomputable def ref1_size (n : Int) : Option (Int) := ref1_size_p0 n
theorem z46run (n : Int) (y_ : Int) (h : ref1_size n = some y_) : EvL Try.prog 12 (items (bodyOf Try.f46)) (retK Try.prog [.tmp 2] (OutOk (ref1_size_out y_))) (z46p0S n) :=
  z46p0ok n _ (W_iff.2 ⟨y_, h, z46Rok y_⟩)
noncomputable def ref1_size_C : Con
  | [(.c (.lit (.int .i64 a1)))] => some ([(ref1_size a1).isSome = true], (ref1_size_out ((ref1_size a1).getD (0 : Int))))
  | _ => none
theorem ref1_size_ok : Meets Try.prog 46 ref1_size_C := by
  refine meets_fun (fn := Try.f46) (c := bodyOf Try.f46) (by kernel_rfl) (by kernel_rfl) (by kernel_rfl) (rs := [.tmp 2]) (by kernel_rfl) (nt := 12) (by kernel_rfl) fun vs p out h hp => ?_
  unfold ref1_size_C at h
  split at h
  · next a1 =>
    cases h
    obtain ⟨g, hp⟩ := allq hp
    obtain ⟨x, hx⟩ := Option.isSome_iff_exists.1 g
    rw [hx]
    exact ⟨[(i64 a1)], (VLes.cons (VLe.rfl' _) VLes.nil), rfl, z46run a1 x hx⟩
  · cases h

noncomputable def z62i0 : List Code := items (bodyOf Try.f62)
noncomputable def z62i1 : List Code := items (inside (inside (nthI z62i0 1)))
def ref1_gcd_out (x_1 : Int) : Out := .data (.c (.lit (.int .u64 x_1)))
def z62R (x_1 : Int) : St := { tm := [sv 4 (.c (.lit (.int .u64 x_1)))], hp := [], nx := 0 }
theorem z62Rok (x_1 : Int) : retK Try.prog [.tmp 4] (OutOk (ref1_gcd_out x_1)) .ret (z62R x_1) :=
  retK.intro (v := (.c (.lit (.int .u64 x_1)))) (by kernel_rfl) ((VLe.rfl' _))
def z62l1S (a b : Int) (s : (Int × Int)) : St := match s with | (a_1, b_1) => { tm := [sv 0 (.c (.lit (.int .u64 a_1))), sv 1 (.c (.lit (.int .u64 b_1)))], hp := [], nx := 0 }
def z62l1C0 (a b : Int) (s : Int) : St := match s with | a_2 => { tm := [sv 0 (.c (.lit (.int .u64 a_2)))], hp := [], nx := 0 }
def z62l1E (a b : Int) (r : ((Int))) (K : KT) : Prop := match r with | s => K (.exit 0) (z62l1C0 a b s)
def z62p0S (a_1 b_1 : Int) : St := { tm := [sv 0 (.c (.lit (.int .u64 a_1))), sv 1 (.c (.lit (.int .u64 b_1)))], hp := [], nx := 0 }
noncomputable def ref1_gcd_p0 (a_1 b_1 : Int) : Option ((Int × Int) ⊕ ((Int))) := (bif (b_1 != (0 : Int)) then gd (b_1 ≠ (0 : Int)) ((some (Sum.inl (b_1, (Int.tmod a_1 b_1))))) else (some (Sum.inr a_1)))
theorem z62p0ok (a_1 b_1 a b : Int) (K : KT) (h : W (ref1_gcd_p0 a_1 b_1) (nE (z62l1S a b) (z62l1E a b) K)) : EvL Try.prog 12 (List.drop 0 z62i1) K (z62p0S a_1 b_1) :=
  EvL.pE mixed (lookC_ok (l := []) trivial) [0, 1] 0 3 (.nf (X := fun K => (bif (b_1 != (0 : Int)) then (b_1 ≠ (0 : Int)) ∧ (wK K .normal (z62l1S a b (b_1, (Int.tmod a_1 b_1)))) else wK K (.exit 0) ({ tm := [sv 0 (.c (.lit (.int .u64 a_1))), sv 1 (.c (.lit (.int .u64 b_1)))], hp := [], nx := 0 }))) (fun K => by kernel_rfl) (W_bif h (fun _ h => (W_gd h fun hp0 h => ⟨_, .refl _, h⟩)) (fun _ h => ⟨(z62l1C0 a b a_1), (.of (.q rfl .nil) .nil rfl), h⟩)))
noncomputable def ref1_gcd_l1 (a b : Int) (s : (Int × Int)) : Option ((Int × Int) ⊕ ((Int))) := match s with | (a_1, b_1) => ref1_gcd_p0 a_1 b_1
theorem z62l1ok (a b : Int) (s : (Int × Int)) : Pp Try.prog 12 (List.drop 0 z62i1) (z62l1S a b s) (ref1_gcd_l1 a b s) (nextE (z62l1S a b) (z62l1E a b)) := fun K h => match s, h with | (a_1, b_1), h => (z62p0ok a_1 b_1 a b _ h)
theorem z62l1Ethen (a b : Int) : ∀ (r : ((Int))) (J : St → Prop) (K : KT), z62l1E a b r K → z62l1E a b r (thenK J K)
  | s, _, _, h => h
def z62p1S (a_3 : Int) : St := { tm := [sv 0 (.c (.lit (.int .u64 a_3)))], hp := [], nx := 0 }
noncomputable def ref1_gcd_p1 (a_3 : Int) : Option (Int) := (some a_3)
theorem z62p1ok (a_3 : Int) (K : KT) (h : W (ref1_gcd_p1 a_3) (rE z62R K)) : EvL Try.prog 12 (List.drop 2 z62i0) K (z62p1S a_3) :=
  EvL.pE mixed (lookC_ok (l := []) trivial) [4] 2 2 (.nf (X := fun K => wK K .ret (z62R a_3)) (fun K => by kernel_rfl) (⟨_, .refl _, h⟩))
def z62p2S (a b : Int) : St := { tm := [sv 0 (.c (.lit (.int .u64 a))), sv 1 (.c (.lit (.int .u64 b)))], hp := [], nx := 0 }
noncomputable def ref1_gcd_p2_g (a b : Int) (r : ((Int))) : Option (Int) := match r with | a_2 => (ref1_gcd_p1 a_2)
noncomputable def ref1_gcd_p2 (a b : Int) : Option (Int) := (fixL (ref1_gcd_l1 a b) (a, b)).bind (ref1_gcd_p2_g a b)
theorem z62p2at : List.drop 1 z62i0 = .block 0 (.loop (inside (inside (nthI z62i0 1)))) :: List.drop 2 z62i0 := by kernel_rfl
theorem z62p2k (a b : Int) (K : KT) : ∀ r : ((Int)), W (ref1_gcd_p2_g a b r) (rE z62R K) → z62l1E a b r (wK (blockK 0 (thenK (EvL Try.prog 12 (List.drop 2 z62i0) K) K)))
  | a_2, h => ⟨(z62p1S a_2), (.refl _), (z62p1ok a_2 _ h)⟩
theorem z62p2ok (a b : Int) (K : KT) (h : W (ref1_gcd_p2 a b) (rE z62R K)) : EvL Try.prog 12 (List.drop 1 z62i0) K (z62p2S a b) :=
  EvL.at_ z62p2at (EvL.cons_loop (EvOk.weak (EvOk.ent (.refl _) (EvOk.loopF (x := inside (inside (nthI z62i0 1))) (f := ref1_gcd_l1 a b) (emb := z62l1S a b) (E := z62l1E a b) (z62l1ok a b) (z62l1Ethen a b) (W_loop h (z62p2k a b K))))))
def z62p3S (a b : Int) : St := { tm := [sv 0 (.c (.lit (.int .u64 a))), sv 1 (.c (.lit (.int .u64 b)))], hp := [], nx := 0 }
noncomputable def ref1_gcd_p3 (a b : Int) : Option (Int) := (ref1_gcd_p2 a b)
theorem z62p3ok (a b : Int) (K : KT) (h : W (ref1_gcd_p3 a b) (rE z62R K)) : EvL Try.prog 12 (List.drop 0 z62i0) K (z62p3S a b) :=
  EvL.pD mixed (lookC_ok (l := []) trivial) [0, 1] 0 1 1 (.nf (X := fun K => wK K .normal (z62p2S a b)) (fun K => by kernel_rfl) (⟨_, .refl _, (z62p2ok a b _ h)⟩))
noncomputable def ref1_gcd (a b : Int) : Option (Int) := ref1_gcd_p3 a b
theorem z62run (a b : Int) (y_ : Int) (h : ref1_gcd a b = some y_) : EvL Try.prog 12 (items (bodyOf Try.f62)) (retK Try.prog [.tmp 4] (OutOk (ref1_gcd_out y_))) (z62p3S a b) :=
  z62p3ok a b _ (W_iff.2 ⟨y_, h, z62Rok y_⟩)
noncomputable def ref1_gcd_C : Con
  | [(.c (.lit (.int .u64 a1))), (.c (.lit (.int .u64 a2)))] => some ([(ref1_gcd a1 a2).isSome = true], (ref1_gcd_out ((ref1_gcd a1 a2).getD (0 : Int))))
  | _ => none
theorem ref1_gcd_ok : Meets Try.prog 62 ref1_gcd_C := by
  refine meets_fun (fn := Try.f62) (c := bodyOf Try.f62) (by kernel_rfl) (by kernel_rfl) (by kernel_rfl) (rs := [.tmp 4]) (by kernel_rfl) (nt := 12) (by kernel_rfl) fun vs p out h hp => ?_
  unfold ref1_gcd_C at h
  split at h
  · next a1 a2 =>
    cases h
    obtain ⟨g, hp⟩ := allq hp
    obtain ⟨x, hx⟩ := Option.isSome_iff_exists.1 g
    rw [hx]
    exact ⟨[(.c (.lit (.int .u64 a1))), (.c (.lit (.int .u64 a2)))], (VLes.cons (VLe.rfl' _) (VLes.cons (VLe.rfl' _) VLes.nil)), rfl, z62run a1 a2 x hx⟩
  · cases h

noncomputable def z44i0 : List Code := items (bodyOf Try.f44)
def ref1_ValidFraction_out (x_1 : Bool) : Out := .data (bl x_1)
def z44R (x_1 : Bool) : St := { tm := [sv 2 (bl x_1)], hp := [], nx := 0 }
theorem z44Rok (x_1 : Bool) : retK Try.prog [.tmp 2] (OutOk (ref1_ValidFraction_out x_1)) .ret (z44R x_1) :=
  retK.intro (v := (bl x_1)) (by kernel_rfl) ((VLe.rfl' _))
def z44p0S (f : GFraction) : St := { tm := [sv 0 (.ag (eGFraction f))], hp := [], nx := 0 }
noncomputable def ref1_ValidFraction_p0 (f : GFraction) : Option (Bool) := gd (((bif (bif (bif (decide ((1 : Int) ≤ f.Den)) then (decide (f.Den ≤ (1000000000 : Int))) else false) then (decide ((-1000000000000000 : Int) ≤ f.Num)) else false) then (decide (f.Num ≤ (1000000000000000 : Int))) else false) && true) = true → (ref1_size f.Num).isSome = true) (gd (((bif (bif (bif (decide ((1 : Int) ≤ f.Den)) then (decide (f.Den ≤ (1000000000 : Int))) else false) then (decide ((-1000000000000000 : Int) ≤ f.Num)) else false) then (decide (f.Num ≤ (1000000000000000 : Int))) else false) && true) = true → (ref1_gcd ((ref1_size f.Num).getD (0 : Int)) (IntKind.u64.wrap f.Den)).isSome = true) ((some (bif (bif (bif (bif (decide ((1 : Int) ≤ f.Den)) then (decide (f.Den ≤ (1000000000 : Int))) else false) then (decide ((-1000000000000000 : Int) ≤ f.Num)) else false) then (decide (f.Num ≤ (1000000000000000 : Int))) else false) then (((ref1_gcd ((ref1_size f.Num).getD (0 : Int)) (IntKind.u64.wrap f.Den)).getD (0 : Int)) == (1 : Int)) else false))))
theorem z44p0ok (f : GFraction) (K : KT) (h : W (ref1_ValidFraction_p0 f) (rE z44R K)) : EvL Try.prog 31 (List.drop 0 z44i0) K (z44p0S f) :=
  EvL.pE mixed (lookC_ok (l := [(46, .pure ref1_size_C), (62, .pure ref1_gcd_C)]) ⟨ref1_size_ok, ref1_gcd_ok, trivial⟩) [2] 0 3 (.nf (X := fun K => (((bif (bif (bif (decide ((1 : Int) ≤ f.Den)) then (decide (f.Den ≤ (1000000000 : Int))) else false) then (decide ((-1000000000000000 : Int) ≤ f.Num)) else false) then (decide (f.Num ≤ (1000000000000000 : Int))) else false) && true) = true → (ref1_size f.Num).isSome = true) ∧ (((bif (bif (bif (decide ((1 : Int) ≤ f.Den)) then (decide (f.Den ≤ (1000000000 : Int))) else false) then (decide ((-1000000000000000 : Int) ≤ f.Num)) else false) then (decide (f.Num ≤ (1000000000000000 : Int))) else false) && true) = true → (ref1_gcd ((ref1_size f.Num).getD (0 : Int)) (IntKind.u64.wrap f.Den)).isSome = true) ∧ (wK K .ret (z44R (bif (bif (bif (bif (decide ((1 : Int) ≤ f.Den)) then (decide (f.Den ≤ (1000000000 : Int))) else false) then (decide ((-1000000000000000 : Int) ≤ f.Num)) else false) then (decide (f.Num ≤ (1000000000000000 : Int))) else false) then (((ref1_gcd ((ref1_size f.Num).getD (0 : Int)) (IntKind.u64.wrap f.Den)).getD (0 : Int)) == (1 : Int)) else false)))) (fun K => by kernel_rfl) (W_gd h fun hp0 h => (W_gd h fun hp1 h => ⟨_, .refl _, h⟩)))
noncomputable def ref1_ValidFraction (f : GFraction) : Option (Bool) := ref1_ValidFraction_p0 f
theorem z44run (f : GFraction) (y_ : Bool) (h : ref1_ValidFraction f = some y_) : EvL Try.prog 31 (items (bodyOf Try.f44)) (retK Try.prog [.tmp 2] (OutOk (ref1_ValidFraction_out y_))) (z44p0S f) :=
  z44p0ok f _ (W_iff.2 ⟨y_, h, z44Rok y_⟩)
noncomputable def ref1_ValidFraction_C : Con
  | [(.agg [(.c (.lit (.int .i64 a1))), (.c (.lit (.int .i64 a2)))])] => some ([(ref1_ValidFraction (GFraction.mk a1 a2)).isSome = true], (ref1_ValidFraction_out ((ref1_ValidFraction (GFraction.mk a1 a2)).getD false)))
  | _ => none
theorem ref1_ValidFraction_ok : Meets Try.prog 44 ref1_ValidFraction_C := by
  refine meets_fun (fn := Try.f44) (c := bodyOf Try.f44) (by kernel_rfl) (by kernel_rfl) (by kernel_rfl) (rs := [.tmp 2]) (by kernel_rfl) (nt := 31) (by kernel_rfl) fun vs p out h hp => ?_
  unfold ref1_ValidFraction_C at h
  split at h
  · next a1 a2 =>
    cases h
    obtain ⟨g, hp⟩ := allq hp
    obtain ⟨x, hx⟩ := Option.isSome_iff_exists.1 g
    rw [hx]
    exact ⟨[(.agg [(i64 (GFraction.mk a1 a2).Num), (i64 (GFraction.mk a1 a2).Den)])], (VLes.cons (VLe.rfl' _) VLes.nil), rfl, z44run (GFraction.mk a1 a2) x hx⟩
  · cases h

noncomputable def z53i0 : List Code := items (bodyOf Try.f53)
def math_bits_Mul64_out (x_2 : (Int × Int)) : Out := .data (.tup [(.c (.lit (.int .u64 x_2.1))), (.c (.lit (.int .u64 x_2.2)))])
def z53R (x_2 : (Int × Int)) : St := { tm := [sv 4 (.c (.lit (.int .u64 x_2.1))), sv 5 (.c (.lit (.int .u64 x_2.2)))], hp := [], nx := 0 }
theorem z53Rok (x_2 : (Int × Int)) : retK Try.prog [.tmp 4, .tmp 5] (OutOk (math_bits_Mul64_out x_2)) .ret (z53R x_2) :=
  retK.intro (v := (.tup [(.c (.lit (.int .u64 x_2.1))), (.c (.lit (.int .u64 x_2.2)))])) (by kernel_rfl) (VLe.tup (VLes.cons (VLe.rfl' _) (VLes.cons (VLe.rfl' _) (VLes.nil))))
def z53p0S (x_1 y : Int) : St := { tm := [sv 0 (.c (.lit (.int .u64 x_1))), sv 1 (.c (.lit (.int .u64 y)))], hp := [], nx := 0 }
noncomputable def math_bits_Mul64_p0 (x_1 y : Int) : Option ((Int × Int)) := (some ((IntKind.u64.wrap ((IntKind.u64.wrap ((IntKind.u64.wrap ((Int.fdiv x_1 (2 ^ min (Int.toNat (32 : Int)) 64)) * (Int.fdiv y (2 ^ min (Int.toNat (32 : Int)) 64)))) + (Int.fdiv (IntKind.u64.wrap ((IntKind.u64.wrap ((Int.fdiv x_1 (2 ^ min (Int.toNat (32 : Int)) 64)) * (IntKind.u64.wrap (BitVec.ofInt 64 y &&& BitVec.ofInt 64 (4294967295 : Int)).toNat))) + (Int.fdiv (IntKind.u64.wrap ((IntKind.u64.wrap (BitVec.ofInt 64 x_1 &&& BitVec.ofInt 64 (4294967295 : Int)).toNat) * (IntKind.u64.wrap (BitVec.ofInt 64 y &&& BitVec.ofInt 64 (4294967295 : Int)).toNat))) (2 ^ min (Int.toNat (32 : Int)) 64)))) (2 ^ min (Int.toNat (32 : Int)) 64)))) + (Int.fdiv (IntKind.u64.wrap ((IntKind.u64.wrap (BitVec.ofInt 64 (IntKind.u64.wrap ((IntKind.u64.wrap ((Int.fdiv x_1 (2 ^ min (Int.toNat (32 : Int)) 64)) * (IntKind.u64.wrap (BitVec.ofInt 64 y &&& BitVec.ofInt 64 (4294967295 : Int)).toNat))) + (Int.fdiv (IntKind.u64.wrap ((IntKind.u64.wrap (BitVec.ofInt 64 x_1 &&& BitVec.ofInt 64 (4294967295 : Int)).toNat) * (IntKind.u64.wrap (BitVec.ofInt 64 y &&& BitVec.ofInt 64 (4294967295 : Int)).toNat))) (2 ^ min (Int.toNat (32 : Int)) 64)))) &&& BitVec.ofInt 64 (4294967295 : Int)).toNat) + (IntKind.u64.wrap ((IntKind.u64.wrap (BitVec.ofInt 64 x_1 &&& BitVec.ofInt 64 (4294967295 : Int)).toNat) * (Int.fdiv y (2 ^ min (Int.toNat (32 : Int)) 64)))))) (2 ^ min (Int.toNat (32 : Int)) 64)))), (IntKind.u64.wrap (x_1 * y))))
theorem z53p0ok (x_1 y : Int) (K : KT) (h : W (math_bits_Mul64_p0 x_1 y) (rE z53R K)) : EvL Try.prog 51 (List.drop 0 z53i0) K (z53p0S x_1 y) :=
  EvL.pE mixed (lookC_ok (l := []) trivial) [4, 5] 0 13 (.nf (X := fun K => ((0 : Int) ≤ (32 : Int)) ∧ (((0 : Int) ≤ (32 : Int)) ∧ (((0 : Int) ≤ (32 : Int)) ∧ (((0 : Int) ≤ (32 : Int)) ∧ (((0 : Int) ≤ (32 : Int)) ∧ (wK K .ret (z53R ((IntKind.u64.wrap ((IntKind.u64.wrap ((IntKind.u64.wrap ((Int.fdiv x_1 (2 ^ min (Int.toNat (32 : Int)) 64)) * (Int.fdiv y (2 ^ min (Int.toNat (32 : Int)) 64)))) + (Int.fdiv (IntKind.u64.wrap ((IntKind.u64.wrap ((Int.fdiv x_1 (2 ^ min (Int.toNat (32 : Int)) 64)) * (IntKind.u64.wrap (BitVec.ofInt 64 y &&& BitVec.ofInt 64 (4294967295 : Int)).toNat))) + (Int.fdiv (IntKind.u64.wrap ((IntKind.u64.wrap (BitVec.ofInt 64 x_1 &&& BitVec.ofInt 64 (4294967295 : Int)).toNat) * (IntKind.u64.wrap (BitVec.ofInt 64 y &&& BitVec.ofInt 64 (4294967295 : Int)).toNat))) (2 ^ min (Int.toNat (32 : Int)) 64)))) (2 ^ min (Int.toNat (32 : Int)) 64)))) + (Int.fdiv (IntKind.u64.wrap ((IntKind.u64.wrap (BitVec.ofInt 64 (IntKind.u64.wrap ((IntKind.u64.wrap ((Int.fdiv x_1 (2 ^ min (Int.toNat (32 : Int)) 64)) * (IntKind.u64.wrap (BitVec.ofInt 64 y &&& BitVec.ofInt 64 (4294967295 : Int)).toNat))) + (Int.fdiv (IntKind.u64.wrap ((IntKind.u64.wrap (BitVec.ofInt 64 x_1 &&& BitVec.ofInt 64 (4294967295 : Int)).toNat) * (IntKind.u64.wrap (BitVec.ofInt 64 y &&& BitVec.ofInt 64 (4294967295 : Int)).toNat))) (2 ^ min (Int.toNat (32 : Int)) 64)))) &&& BitVec.ofInt 64 (4294967295 : Int)).toNat) + (IntKind.u64.wrap ((IntKind.u64.wrap (BitVec.ofInt 64 x_1 &&& BitVec.ofInt 64 (4294967295 : Int)).toNat) * (Int.fdiv y (2 ^ min (Int.toNat (32 : Int)) 64)))))) (2 ^ min (Int.toNat (32 : Int)) 64)))), (IntKind.u64.wrap (x_1 * y)))))))))) (fun K => by kernel_rfl) (⟨(by decide), ⟨(by decide), ⟨(by decide), ⟨(by decide), ⟨(by decide), ⟨_, .refl _, h⟩⟩⟩⟩⟩⟩))
noncomputable def math_bits_Mul64 (x_1 y : Int) : Option ((Int × Int)) := math_bits_Mul64_p0 x_1 y
theorem z53run (x_1 y : Int) (y_ : (Int × Int)) (h : math_bits_Mul64 x_1 y = some y_) : EvL Try.prog 51 (items (bodyOf Try.f53)) (retK Try.prog [.tmp 4, .tmp 5] (OutOk (math_bits_Mul64_out y_))) (z53p0S x_1 y) :=
  z53p0ok x_1 y _ (W_iff.2 ⟨y_, h, z53Rok y_⟩)
noncomputable def math_bits_Mul64_C : Con
  | [(.c (.lit (.int .u64 a1))), (.c (.lit (.int .u64 a2)))] => some ([(math_bits_Mul64 a1 a2).isSome = true], (math_bits_Mul64_out ((math_bits_Mul64 a1 a2).getD ((0 : Int), (0 : Int)))))
  | _ => none
theorem math_bits_Mul64_ok : Meets Try.prog 53 math_bits_Mul64_C := by
  refine meets_fun (fn := Try.f53) (c := bodyOf Try.f53) (by kernel_rfl) (by kernel_rfl) (by kernel_rfl) (rs := [.tmp 4, .tmp 5]) (by kernel_rfl) (nt := 51) (by kernel_rfl) fun vs p out h hp => ?_
  unfold math_bits_Mul64_C at h
  split at h
  · next a1 a2 =>
    cases h
    obtain ⟨g, hp⟩ := allq hp
    obtain ⟨x, hx⟩ := Option.isSome_iff_exists.1 g
    rw [hx]
    exact ⟨[(.c (.lit (.int .u64 a1))), (.c (.lit (.int .u64 a2)))], (VLes.cons (VLe.rfl' _) (VLes.cons (VLe.rfl' _) VLes.nil)), rfl, z53run a1 a2 x hx⟩
  · cases h

noncomputable def z45i0 : List Code := items (bodyOf Try.f45)
def ref1_times_out (x_1 : GPensionref1_wide) : Out := .data (.agg [(.c (.lit (.int .u64 x_1.hi))), (.c (.lit (.int .u64 x_1.lo)))])
def z45R (x_1 : GPensionref1_wide) : St := { tm := [sv 4 (.ptr 0 2 0 0)], hp := [(0, some (.box [(.c (.lit (.int .u64 x_1.hi))), (.c (.lit (.int .u64 x_1.lo)))]))], nx := 1 }
theorem z45Rok (x_1 : GPensionref1_wide) : retK Try.prog [.cell 4 83] (OutOk (ref1_times_out x_1)) .ret (z45R x_1) :=
  retK.intro (v := (.agg [(.c (.lit (.int .u64 x_1.hi))), (.c (.lit (.int .u64 x_1.lo)))])) (by kernel_rfl) ((VLe.rfl' _))
def z45p0S (a b : Int) : St := { tm := [sv 0 (.c (.lit (.int .u64 a))), sv 1 (.c (.lit (.int .u64 b)))], hp := [], nx := 0 }
noncomputable def ref1_times_p0 (a b : Int) : Option (GPensionref1_wide) := (math_bits_Mul64 a b).bind fun r_1 => ((some (GPensionref1_wide.mk r_1.1 r_1.2)))
theorem z45p0ok (a b : Int) (K : KT) (h : W (ref1_times_p0 a b) (rE z45R K)) : EvL Try.prog 16 (List.drop 0 z45i0) K (z45p0S a b) :=
  EvL.pE mixed (lookC_ok (l := [(53, .pure math_bits_Mul64_C)]) ⟨math_bits_Mul64_ok, trivial⟩) [4] 0 4 (.nf (X := fun K => ((math_bits_Mul64 a b).isSome = true) ∧ (wK K .ret (z45R (GPensionref1_wide.mk ((math_bits_Mul64 a b).getD ((0 : Int), (0 : Int))).1 ((math_bits_Mul64 a b).getD ((0 : Int), (0 : Int))).2)))) (fun K => by kernel_rfl) (W_bind ((0 : Int), (0 : Int)) h fun hp0 h => ⟨_, .refl _, h⟩))
noncomputable def ref1_times (a b : Int) : Option (GPensionref1_wide) := ref1_times_p0 a b
theorem z45run (a b : Int) (y_ : GPensionref1_wide) (h : ref1_times a b = some y_) : EvL Try.prog 16 (items (bodyOf Try.f45)) (retK Try.prog [.cell 4 83] (OutOk (ref1_times_out y_))) (z45p0S a b) :=
  z45p0ok a b _ (W_iff.2 ⟨y_, h, z45Rok y_⟩)
noncomputable def ref1_times_C : Con
  | [(.c (.lit (.int .u64 a1))), (.c (.lit (.int .u64 a2)))] => some ([(ref1_times a1 a2).isSome = true], (ref1_times_out ((ref1_times a1 a2).getD zGPensionref1_wide)))
  | _ => none
theorem ref1_times_ok : Meets Try.prog 45 ref1_times_C := by
  refine meets_fun (fn := Try.f45) (c := bodyOf Try.f45) (by kernel_rfl) (by kernel_rfl) (by kernel_rfl) (rs := [.cell 4 83]) (by kernel_rfl) (nt := 16) (by kernel_rfl) fun vs p out h hp => ?_
  unfold ref1_times_C at h
  split at h
  · next a1 a2 =>
    cases h
    obtain ⟨g, hp⟩ := allq hp
    obtain ⟨x, hx⟩ := Option.isSome_iff_exists.1 g
    rw [hx]
    exact ⟨[(.c (.lit (.int .u64 a1))), (.c (.lit (.int .u64 a2)))], (VLes.cons (VLe.rfl' _) (VLes.cons (VLe.rfl' _) VLes.nil)), rfl, z45run a1 a2 x hx⟩
  · cases h


/-- The sum of two words, and the carry. -/
noncomputable def math_bits_Add64 (x y c : Int) : Option (Int × Int) := gd ((0 : Int) ≤ x ∧ (0 : Int) ≤ y ∧ (0 : Int) ≤ c ∧ c ≤ (1 : Int)) (some ((x + y + c) % 18446744073709551616, (x + y + c) / 18446744073709551616))
def math_bits_Add64_out (x_2 : (Int × Int)) : Out := .data (.tup [(.c (.lit (.int .u64 x_2.1))), (.c (.lit (.int .u64 x_2.2)))])
noncomputable def math_bits_Add64_C : Con
  | [(.c (.lit (.int .u64 a1))), (.c (.lit (.int .u64 a2))), (.c (.lit (.int .u64 a3)))] => some ([(math_bits_Add64 a1 a2 a3).isSome = true], (math_bits_Add64_out ((math_bits_Add64 a1 a2 a3).getD ((0 : Int), (0 : Int)))))
  | _ => none
theorem math_bits_Add64_ok : Meets Try.prog 64 math_bits_Add64_C := by
  intro ok w xs vs p out hx hok hcon hp
  unfold math_bits_Add64_C at hcon
  split at hcon
  · next a b c =>
    cases hcon
    obtain ⟨g, hp⟩ := allq hp
    obtain ⟨r, hr⟩ := Option.isSome_iff_exists.1 g
    have hr' := hr
    unfold math_bits_Add64 at hr'
    obtain ⟨⟨h1, h2, h3, h4⟩, hq⟩ := gd_some.1 hr'
    cases hq
    rw [hr]
    obtain ⟨x, y, z, rfl⟩ : ∃ x y z, xs = [x, y, z] := by
      have := hx.1
      match xs, this with
      | [x, y, z], _ => exact ⟨x, y, z, rfl⟩
    have e1 := (hx.2 0 x _ rfl rfl).lit_inv
    have e2 := (hx.2 1 y _ rfl rfl).lit_inv
    have e3 := (hx.2 2 z _ rfl rfl).lit_inv
    subst e1 e2 e3
    refine .inr ⟨.tuple #[.int .u64 ((a + b + c) % 18446744073709551616), .int .u64 ((a + b + c) / 18446744073709551616)], w, ?_, .refl _ _, ?_⟩
    · rw [run_callFunc_extern (fn := Try.f64) (e := add64Entry) (by kernel_rfl) (by kernel_rfl) (by kernel_rfl) (by kernel_rfl) (by kernel_rfl)]
      have := run_add64 (P := Try.prog) a b c h1 h2 h3 h4 w
      rw [show [Value.int .u64 a, Value.int .u64 b, Value.int .u64 c].toArray = #[Value.int .u64 a, Value.int .u64 b, Value.int .u64 c] from rfl, this]
      rfl
    · refine RepV.tup [Value.int .u64 ((a + b + c) % 18446744073709551616), Value.int .u64 ((a + b + c) / 18446744073709551616)] _ rfl fun i v d hv hd => ?_
      match i with
      | 0 => cases hv; cases hd; exact .c _ _ (.lit _)
      | 1 => cases hv; cases hd; exact .c _ _ (.lit _)
      | i + 2 => cases hv
  · cases hcon

noncomputable def z48i0 : List Code := items (bodyOf Try.f48)
def ref1_wide_plus_out (x_2 : GPensionref1_wide) : Out := .data (.agg [(.c (.lit (.int .u64 x_2.hi))), (.c (.lit (.int .u64 x_2.lo)))])
def z48R (x_2 : GPensionref1_wide) : St := { tm := [sv 4 (.ptr 0 2 0 0)], hp := [(0, some (.box [(.c (.lit (.int .u64 x_2.hi))), (.c (.lit (.int .u64 x_2.lo)))]))], nx := 1 }
theorem z48Rok (x_2 : GPensionref1_wide) : retK Try.prog [.cell 4 83] (OutOk (ref1_wide_plus_out x_2)) .ret (z48R x_2) :=
  retK.intro (v := (.agg [(.c (.lit (.int .u64 x_2.hi))), (.c (.lit (.int .u64 x_2.lo)))])) (by kernel_rfl) ((VLe.rfl' _))
def z48p0S (w x_1 : GPensionref1_wide) : St := { tm := [sv 0 (.ag (eGPensionref1_wide w)), sv 1 (.ag (eGPensionref1_wide x_1))], hp := [], nx := 0 }
noncomputable def ref1_wide_plus_p0 (w x_1 : GPensionref1_wide) : Option (GPensionref1_wide) := (math_bits_Add64 w.lo x_1.lo (0 : Int)).bind fun r_1 => ((some (GPensionref1_wide.mk (IntKind.u64.wrap ((IntKind.u64.wrap (w.hi + x_1.hi)) + r_1.2)) r_1.1)))
theorem z48p0ok (w x_1 : GPensionref1_wide) (K : KT) (h : W (ref1_wide_plus_p0 w x_1) (rE z48R K)) : EvL Try.prog 24 (List.drop 0 z48i0) K (z48p0S w x_1) :=
  EvL.pE mixed (lookC_ok (l := [(64, .pure math_bits_Add64_C)]) ⟨math_bits_Add64_ok, trivial⟩) [4] 0 4 (.nf (X := fun K => ((math_bits_Add64 w.lo x_1.lo (0 : Int)).isSome = true) ∧ (wK K .ret (z48R (GPensionref1_wide.mk (IntKind.u64.wrap ((IntKind.u64.wrap (w.hi + x_1.hi)) + ((math_bits_Add64 w.lo x_1.lo (0 : Int)).getD ((0 : Int), (0 : Int))).2)) ((math_bits_Add64 w.lo x_1.lo (0 : Int)).getD ((0 : Int), (0 : Int))).1)))) (fun K => by kernel_rfl) (W_bind ((0 : Int), (0 : Int)) h fun hp0 h => ⟨_, .refl _, h⟩))
noncomputable def ref1_wide_plus (w x_1 : GPensionref1_wide) : Option (GPensionref1_wide) := ref1_wide_plus_p0 w x_1
theorem z48run (w x_1 : GPensionref1_wide) (y_ : GPensionref1_wide) (h : ref1_wide_plus w x_1 = some y_) : EvL Try.prog 24 (items (bodyOf Try.f48)) (retK Try.prog [.cell 4 83] (OutOk (ref1_wide_plus_out y_))) (z48p0S w x_1) :=
  z48p0ok w x_1 _ (W_iff.2 ⟨y_, h, z48Rok y_⟩)
noncomputable def ref1_wide_plus_C : Con
  | [(.agg [(.c (.lit (.int .u64 a1))), (.c (.lit (.int .u64 a2)))]), (.agg [(.c (.lit (.int .u64 a3))), (.c (.lit (.int .u64 a4)))])] => some ([(ref1_wide_plus (GPensionref1_wide.mk a1 a2) (GPensionref1_wide.mk a3 a4)).isSome = true], (ref1_wide_plus_out ((ref1_wide_plus (GPensionref1_wide.mk a1 a2) (GPensionref1_wide.mk a3 a4)).getD zGPensionref1_wide)))
  | _ => none
theorem ref1_wide_plus_ok : Meets Try.prog 48 ref1_wide_plus_C := by
  refine meets_fun (fn := Try.f48) (c := bodyOf Try.f48) (by kernel_rfl) (by kernel_rfl) (by kernel_rfl) (rs := [.cell 4 83]) (by kernel_rfl) (nt := 24) (by kernel_rfl) fun vs p out h hp => ?_
  unfold ref1_wide_plus_C at h
  split at h
  · next a1 a2 a3 a4 =>
    cases h
    obtain ⟨g, hp⟩ := allq hp
    obtain ⟨x, hx⟩ := Option.isSome_iff_exists.1 g
    rw [hx]
    exact ⟨[(.agg [(.c (.lit (.int .u64 (GPensionref1_wide.mk a1 a2).hi))), (.c (.lit (.int .u64 (GPensionref1_wide.mk a1 a2).lo)))]), (.agg [(.c (.lit (.int .u64 (GPensionref1_wide.mk a3 a4).hi))), (.c (.lit (.int .u64 (GPensionref1_wide.mk a3 a4).lo)))])], (VLes.cons (VLe.rfl' _) (VLes.cons (VLe.rfl' _) VLes.nil)), rfl, z48run (GPensionref1_wide.mk a1 a2) (GPensionref1_wide.mk a3 a4) x hx⟩
  · cases h

noncomputable def z74i0 : List Code := items (bodyOf Try.f74)
def math_bits_Len64_out (x_5 : Int) : Out := .data (i64 x_5)
def z74R (x_5 : Int) : St := { tm := [sv 2 (i64 x_5)], hp := [], nx := 0 }
theorem z74Rok (x_5 : Int) : retK Try.prog [.tmp 2] (OutOk (math_bits_Len64_out x_5)) .ret (z74R x_5) :=
  retK.intro (v := (i64 x_5)) (by kernel_rfl) ((VLe.rfl' _))
def z74p0S (x_4 n_2 : Int) : St := { tm := [sv 0 (.c (.lit (.int .u64 x_4))), sv 2 (i64 n_2)], hp := [], nx := 0 }
noncomputable def math_bits_Len64_p0 (x_4 n_2 : Int) : Option (Int) := gd ((0 : Int) ≤ (IntKind.u8.wrap x_4) ∧ (IntKind.u8.wrap x_4) < (((bstr [0, 1, 2, 2, 3, 3, 3, 3, 4, 4, 4, 4, 4, 4, 4, 4, 5, 5, 5, 5, 5, 5, 5, 5, 5, 5, 5, 5, 5, 5, 5, 5, 6, 6, 6, 6, 6, 6, 6, 6, 6, 6, 6, 6, 6, 6, 6, 6, 6, 6, 6, 6, 6, 6, 6, 6, 6, 6, 6, 6, 6, 6, 6, 6, 7, 7, 7, 7, 7, 7, 7, 7, 7, 7, 7, 7, 7, 7, 7, 7, 7, 7, 7, 7, 7, 7, 7, 7, 7, 7, 7, 7, 7, 7, 7, 7, 7, 7, 7, 7, 7, 7, 7, 7, 7, 7, 7, 7, 7, 7, 7, 7, 7, 7, 7, 7, 7, 7, 7, 7, 7, 7, 7, 7, 7, 7, 7, 7, 8, 8, 8, 8, 8, 8, 8, 8, 8, 8, 8, 8, 8, 8, 8, 8, 8, 8, 8, 8, 8, 8, 8, 8, 8, 8, 8, 8, 8, 8, 8, 8, 8, 8, 8, 8, 8, 8, 8, 8, 8, 8, 8, 8, 8, 8, 8, 8, 8, 8, 8, 8, 8, 8, 8, 8, 8, 8, 8, 8, 8, 8, 8, 8, 8, 8, 8, 8, 8, 8, 8, 8, 8, 8, 8, 8, 8, 8, 8, 8, 8, 8, 8, 8, 8, 8, 8, 8, 8, 8, 8, 8, 8, 8, 8, 8, 8, 8, 8, 8, 8, 8, 8, 8, 8, 8, 8, 8, 8, 8, 8, 8, 8, 8, 8, 8, 8, 8, 8, 8, 8, 8, 8, 8, 8, 8, 8, 8]).size : Nat) : Int)) ((some (w64 (n_2 + (w64 (((bstr [0, 1, 2, 2, 3, 3, 3, 3, 4, 4, 4, 4, 4, 4, 4, 4, 5, 5, 5, 5, 5, 5, 5, 5, 5, 5, 5, 5, 5, 5, 5, 5, 6, 6, 6, 6, 6, 6, 6, 6, 6, 6, 6, 6, 6, 6, 6, 6, 6, 6, 6, 6, 6, 6, 6, 6, 6, 6, 6, 6, 6, 6, 6, 6, 7, 7, 7, 7, 7, 7, 7, 7, 7, 7, 7, 7, 7, 7, 7, 7, 7, 7, 7, 7, 7, 7, 7, 7, 7, 7, 7, 7, 7, 7, 7, 7, 7, 7, 7, 7, 7, 7, 7, 7, 7, 7, 7, 7, 7, 7, 7, 7, 7, 7, 7, 7, 7, 7, 7, 7, 7, 7, 7, 7, 7, 7, 7, 7, 8, 8, 8, 8, 8, 8, 8, 8, 8, 8, 8, 8, 8, 8, 8, 8, 8, 8, 8, 8, 8, 8, 8, 8, 8, 8, 8, 8, 8, 8, 8, 8, 8, 8, 8, 8, 8, 8, 8, 8, 8, 8, 8, 8, 8, 8, 8, 8, 8, 8, 8, 8, 8, 8, 8, 8, 8, 8, 8, 8, 8, 8, 8, 8, 8, 8, 8, 8, 8, 8, 8, 8, 8, 8, 8, 8, 8, 8, 8, 8, 8, 8, 8, 8, 8, 8, 8, 8, 8, 8, 8, 8, 8, 8, 8, 8, 8, 8, 8, 8, 8, 8, 8, 8, 8, 8, 8, 8, 8, 8, 8, 8, 8, 8, 8, 8, 8, 8, 8, 8, 8, 8, 8, 8, 8, 8, 8, 8]).data.getD (Int.toNat (IntKind.u8.wrap x_4)) 0).toNat : Int))))))
theorem z74p0ok (x_4 n_2 : Int) (K : KT) (h : W (math_bits_Len64_p0 x_4 n_2) (rE z74R K)) : EvL Try.prog 25 (List.drop 7 z74i0) K (z74p0S x_4 n_2) :=
  EvL.pE mixed (lookC_ok (l := []) trivial) [2] 7 2 (.nf (X := fun K => ((0 : Int) ≤ (IntKind.u8.wrap x_4)) ∧ ((IntKind.u8.wrap x_4) < (((bstr [0, 1, 2, 2, 3, 3, 3, 3, 4, 4, 4, 4, 4, 4, 4, 4, 5, 5, 5, 5, 5, 5, 5, 5, 5, 5, 5, 5, 5, 5, 5, 5, 6, 6, 6, 6, 6, 6, 6, 6, 6, 6, 6, 6, 6, 6, 6, 6, 6, 6, 6, 6, 6, 6, 6, 6, 6, 6, 6, 6, 6, 6, 6, 6, 7, 7, 7, 7, 7, 7, 7, 7, 7, 7, 7, 7, 7, 7, 7, 7, 7, 7, 7, 7, 7, 7, 7, 7, 7, 7, 7, 7, 7, 7, 7, 7, 7, 7, 7, 7, 7, 7, 7, 7, 7, 7, 7, 7, 7, 7, 7, 7, 7, 7, 7, 7, 7, 7, 7, 7, 7, 7, 7, 7, 7, 7, 7, 7, 8, 8, 8, 8, 8, 8, 8, 8, 8, 8, 8, 8, 8, 8, 8, 8, 8, 8, 8, 8, 8, 8, 8, 8, 8, 8, 8, 8, 8, 8, 8, 8, 8, 8, 8, 8, 8, 8, 8, 8, 8, 8, 8, 8, 8, 8, 8, 8, 8, 8, 8, 8, 8, 8, 8, 8, 8, 8, 8, 8, 8, 8, 8, 8, 8, 8, 8, 8, 8, 8, 8, 8, 8, 8, 8, 8, 8, 8, 8, 8, 8, 8, 8, 8, 8, 8, 8, 8, 8, 8, 8, 8, 8, 8, 8, 8, 8, 8, 8, 8, 8, 8, 8, 8, 8, 8, 8, 8, 8, 8, 8, 8, 8, 8, 8, 8, 8, 8, 8, 8, 8, 8, 8, 8, 8, 8, 8, 8]).size : Nat) : Int)) ∧ (wK K .ret (z74R (w64 (n_2 + (w64 (((bstr [0, 1, 2, 2, 3, 3, 3, 3, 4, 4, 4, 4, 4, 4, 4, 4, 5, 5, 5, 5, 5, 5, 5, 5, 5, 5, 5, 5, 5, 5, 5, 5, 6, 6, 6, 6, 6, 6, 6, 6, 6, 6, 6, 6, 6, 6, 6, 6, 6, 6, 6, 6, 6, 6, 6, 6, 6, 6, 6, 6, 6, 6, 6, 6, 7, 7, 7, 7, 7, 7, 7, 7, 7, 7, 7, 7, 7, 7, 7, 7, 7, 7, 7, 7, 7, 7, 7, 7, 7, 7, 7, 7, 7, 7, 7, 7, 7, 7, 7, 7, 7, 7, 7, 7, 7, 7, 7, 7, 7, 7, 7, 7, 7, 7, 7, 7, 7, 7, 7, 7, 7, 7, 7, 7, 7, 7, 7, 7, 8, 8, 8, 8, 8, 8, 8, 8, 8, 8, 8, 8, 8, 8, 8, 8, 8, 8, 8, 8, 8, 8, 8, 8, 8, 8, 8, 8, 8, 8, 8, 8, 8, 8, 8, 8, 8, 8, 8, 8, 8, 8, 8, 8, 8, 8, 8, 8, 8, 8, 8, 8, 8, 8, 8, 8, 8, 8, 8, 8, 8, 8, 8, 8, 8, 8, 8, 8, 8, 8, 8, 8, 8, 8, 8, 8, 8, 8, 8, 8, 8, 8, 8, 8, 8, 8, 8, 8, 8, 8, 8, 8, 8, 8, 8, 8, 8, 8, 8, 8, 8, 8, 8, 8, 8, 8, 8, 8, 8, 8, 8, 8, 8, 8, 8, 8, 8, 8, 8, 8, 8, 8, 8, 8, 8, 8, 8, 8]).data.getD (Int.toNat (IntKind.u8.wrap x_4)) 0).toNat : Int))))))) (fun K => by kernel_rfl) (W_gd2 h fun hp0 h => ⟨_, .refl _, h⟩))
def z74p1S (x_3 n_1 : Int) : St := { tm := [sv 0 (.c (.lit (.int .u64 x_3))), sv 2 (i64 n_1)], hp := [], nx := 0 }
noncomputable def math_bits_Len64_p1 (x_3 n_1 : Int) : Option (Int) := (bif (decide ((256 : Int) ≤ x_3)) then (math_bits_Len64_p0 (Int.fdiv x_3 (2 ^ min (Int.toNat (8 : Int)) 64)) (w64 (n_1 + (8 : Int)))) else (math_bits_Len64_p0 x_3 n_1))
theorem z74p1ok (x_3 n_1 : Int) (K : KT) (h : W (math_bits_Len64_p1 x_3 n_1) (rE z74R K)) : EvL Try.prog 25 (List.drop 5 z74i0) K (z74p1S x_3 n_1) :=
  EvL.pD mixed (lookC_ok (l := []) trivial) [0, 2] 5 2 7 (.nf (X := fun K => (bif (decide ((256 : Int) ≤ x_3)) then ((0 : Int) ≤ (8 : Int)) ∧ (wK K .normal (z74p0S (Int.fdiv x_3 (2 ^ min (Int.toNat (8 : Int)) 64)) (w64 (n_1 + (8 : Int))))) else wK K .normal (z74p0S x_3 n_1))) (fun K => by kernel_rfl) (W_bif h (fun _ h => ⟨(by decide), ⟨_, .refl _, (z74p0ok (Int.fdiv x_3 (2 ^ min (Int.toNat (8 : Int)) 64)) (w64 (n_1 + (8 : Int))) _ h)⟩⟩) (fun _ h => ⟨_, .refl _, (z74p0ok x_3 n_1 _ h)⟩)))
def z74p2S (x_2 n : Int) : St := { tm := [sv 0 (.c (.lit (.int .u64 x_2))), sv 2 (i64 n)], hp := [], nx := 0 }
noncomputable def math_bits_Len64_p2 (x_2 n : Int) : Option (Int) := (bif (decide ((65536 : Int) ≤ x_2)) then (math_bits_Len64_p1 (Int.fdiv x_2 (2 ^ min (Int.toNat (16 : Int)) 64)) (w64 (n + (16 : Int)))) else (math_bits_Len64_p1 x_2 n))
theorem z74p2ok (x_2 n : Int) (K : KT) (h : W (math_bits_Len64_p2 x_2 n) (rE z74R K)) : EvL Try.prog 25 (List.drop 3 z74i0) K (z74p2S x_2 n) :=
  EvL.pD mixed (lookC_ok (l := []) trivial) [0, 2] 3 2 5 (.nf (X := fun K => (bif (decide ((65536 : Int) ≤ x_2)) then ((0 : Int) ≤ (16 : Int)) ∧ (wK K .normal (z74p1S (Int.fdiv x_2 (2 ^ min (Int.toNat (16 : Int)) 64)) (w64 (n + (16 : Int))))) else wK K .normal (z74p1S x_2 n))) (fun K => by kernel_rfl) (W_bif h (fun _ h => ⟨(by decide), ⟨_, .refl _, (z74p1ok (Int.fdiv x_2 (2 ^ min (Int.toNat (16 : Int)) 64)) (w64 (n + (16 : Int))) _ h)⟩⟩) (fun _ h => ⟨_, .refl _, (z74p1ok x_2 n _ h)⟩)))
def z74p3S (x_1 : Int) : St := { tm := [sv 0 (.c (.lit (.int .u64 x_1)))], hp := [], nx := 0 }
noncomputable def math_bits_Len64_p3 (x_1 : Int) : Option (Int) := (bif (decide ((4294967296 : Int) ≤ x_1)) then (math_bits_Len64_p2 (Int.fdiv x_1 (2 ^ min (Int.toNat (32 : Int)) 64)) (32 : Int)) else (math_bits_Len64_p2 x_1 (0 : Int)))
theorem z74p3ok (x_1 : Int) (K : KT) (h : W (math_bits_Len64_p3 x_1) (rE z74R K)) : EvL Try.prog 25 (List.drop 0 z74i0) K (z74p3S x_1) :=
  EvL.pD mixed (lookC_ok (l := []) trivial) [0, 2] 0 3 3 (.nf (X := fun K => (bif (decide ((4294967296 : Int) ≤ x_1)) then ((0 : Int) ≤ (32 : Int)) ∧ (wK K .normal (z74p2S (Int.fdiv x_1 (2 ^ min (Int.toNat (32 : Int)) 64)) (32 : Int))) else wK K .normal (z74p2S x_1 (0 : Int)))) (fun K => by kernel_rfl) (W_bif h (fun _ h => ⟨(by decide), ⟨_, .refl _, (z74p2ok (Int.fdiv x_1 (2 ^ min (Int.toNat (32 : Int)) 64)) (32 : Int) _ h)⟩⟩) (fun _ h => ⟨_, .refl _, (z74p2ok x_1 (0 : Int) _ h)⟩)))
noncomputable def math_bits_Len64 (x_1 : Int) : Option (Int) := math_bits_Len64_p3 x_1
theorem z74run (x_1 : Int) (y_ : Int) (h : math_bits_Len64 x_1 = some y_) : EvL Try.prog 25 (items (bodyOf Try.f74)) (retK Try.prog [.tmp 2] (OutOk (math_bits_Len64_out y_))) (z74p3S x_1) :=
  z74p3ok x_1 _ (W_iff.2 ⟨y_, h, z74Rok y_⟩)
noncomputable def math_bits_Len64_C : Con
  | [(.c (.lit (.int .u64 a1)))] => some ([(math_bits_Len64 a1).isSome = true], (math_bits_Len64_out ((math_bits_Len64 a1).getD (0 : Int))))
  | _ => none
theorem math_bits_Len64_ok : Meets Try.prog 74 math_bits_Len64_C := by
  refine meets_fun (fn := Try.f74) (c := bodyOf Try.f74) (by kernel_rfl) (by kernel_rfl) (by kernel_rfl) (rs := [.tmp 2]) (by kernel_rfl) (nt := 25) (by kernel_rfl) fun vs p out h hp => ?_
  unfold math_bits_Len64_C at h
  split at h
  · next a1 =>
    cases h
    obtain ⟨g, hp⟩ := allq hp
    obtain ⟨x, hx⟩ := Option.isSome_iff_exists.1 g
    rw [hx]
    exact ⟨[(.c (.lit (.int .u64 a1)))], (VLes.cons (VLe.rfl' _) VLes.nil), rfl, z74run a1 x hx⟩
  · cases h

noncomputable def z72i0 : List Code := items (bodyOf Try.f72)
def math_bits_LeadingZeros64_out (x_2 : Int) : Out := .data (i64 x_2)
def z72R (x_2 : Int) : St := { tm := [sv 2 (i64 x_2)], hp := [], nx := 0 }
theorem z72Rok (x_2 : Int) : retK Try.prog [.tmp 2] (OutOk (math_bits_LeadingZeros64_out x_2)) .ret (z72R x_2) :=
  retK.intro (v := (i64 x_2)) (by kernel_rfl) ((VLe.rfl' _))
def z72p0S (x_1 : Int) : St := { tm := [sv 0 (.c (.lit (.int .u64 x_1)))], hp := [], nx := 0 }
noncomputable def math_bits_LeadingZeros64_p0 (x_1 : Int) : Option (Int) := (math_bits_Len64 x_1).bind fun r_1 => ((some (w64 ((64 : Int) - r_1))))
theorem z72p0ok (x_1 : Int) (K : KT) (h : W (math_bits_LeadingZeros64_p0 x_1) (rE z72R K)) : EvL Try.prog 6 (List.drop 0 z72i0) K (z72p0S x_1) :=
  EvL.pE mixed (lookC_ok (l := [(74, .pure math_bits_Len64_C)]) ⟨math_bits_Len64_ok, trivial⟩) [2] 0 3 (.nf (X := fun K => ((math_bits_Len64 x_1).isSome = true) ∧ (wK K .ret (z72R (w64 ((64 : Int) - ((math_bits_Len64 x_1).getD (0 : Int))))))) (fun K => by kernel_rfl) (W_bind (0 : Int) h fun hp0 h => ⟨_, .refl _, h⟩))
noncomputable def math_bits_LeadingZeros64 (x_1 : Int) : Option (Int) := math_bits_LeadingZeros64_p0 x_1
theorem z72run (x_1 : Int) (y_ : Int) (h : math_bits_LeadingZeros64 x_1 = some y_) : EvL Try.prog 6 (items (bodyOf Try.f72)) (retK Try.prog [.tmp 2] (OutOk (math_bits_LeadingZeros64_out y_))) (z72p0S x_1) :=
  z72p0ok x_1 _ (W_iff.2 ⟨y_, h, z72Rok y_⟩)
noncomputable def math_bits_LeadingZeros64_C : Con
  | [(.c (.lit (.int .u64 a1)))] => some ([(math_bits_LeadingZeros64 a1).isSome = true], (math_bits_LeadingZeros64_out ((math_bits_LeadingZeros64 a1).getD (0 : Int))))
  | _ => none
theorem math_bits_LeadingZeros64_ok : Meets Try.prog 72 math_bits_LeadingZeros64_C := by
  refine meets_fun (fn := Try.f72) (c := bodyOf Try.f72) (by kernel_rfl) (by kernel_rfl) (by kernel_rfl) (rs := [.tmp 2]) (by kernel_rfl) (nt := 6) (by kernel_rfl) fun vs p out h hp => ?_
  unfold math_bits_LeadingZeros64_C at h
  split at h
  · next a1 =>
    cases h
    obtain ⟨g, hp⟩ := allq hp
    obtain ⟨x, hx⟩ := Option.isSome_iff_exists.1 g
    rw [hx]
    exact ⟨[(.c (.lit (.int .u64 a1)))], (VLes.cons (VLe.rfl' _) VLes.nil), rfl, z72run a1 x hx⟩
  · cases h

noncomputable def z66i0 : List Code := items (bodyOf Try.f66)
noncomputable def z66i1 : List Code := items (inside (inside (nthI z66i0 17)))
noncomputable def z66i2 : List Code := items (inside (inside (nthI z66i0 21)))
def math_bits_Div64_out (x_1 : (Int × Int)) : Out := .data (.tup [(.c (.lit (.int .u64 x_1.1))), (.c (.lit (.int .u64 x_1.2)))])
def z66R (x_1 : (Int × Int)) : St := { tm := [sv 6 (.c (.lit (.int .u64 x_1.1))), sv 7 (.c (.lit (.int .u64 x_1.2)))], hp := [], nx := 0 }
theorem z66Rok (x_1 : (Int × Int)) : retK Try.prog [.tmp 6, .tmp 7] (OutOk (math_bits_Div64_out x_1)) .ret (z66R x_1) :=
  retK.intro (v := (.tup [(.c (.lit (.int .u64 x_1.1))), (.c (.lit (.int .u64 x_1.2)))])) (by kernel_rfl) (VLe.tup (VLes.cons (VLe.rfl' _) (VLes.cons (VLe.rfl' _) (VLes.nil))))
def z66l1S (y_1 s_1 yn1 yn0 un32 un1 un0 q1 rhat : Int) (s : (Int × Int)) : St := match s with | (q1_2, rhat_1) => { tm := [sv 2 (.c (.lit (.int .u64 y_1))), sv 8 (.c (.lit (.int .u64 s_1))), sv 9 (.c (.lit (.int .u64 yn1))), sv 10 (.c (.lit (.int .u64 yn0))), sv 11 (.c (.lit (.int .u64 un32))), sv 13 (.c (.lit (.int .u64 un1))), sv 14 (.c (.lit (.int .u64 un0))), sv 15 (.c (.lit (.int .u64 q1_2))), sv 16 (.c (.lit (.int .u64 rhat_1)))], hp := [], nx := 0 }
def z66l1C0 (y_1 s_1 yn1 yn0 un32 un1 un0 q1 rhat : Int) (s : Int) : St := match s with | q1_1 => { tm := [sv 2 (.c (.lit (.int .u64 y_1))), sv 8 (.c (.lit (.int .u64 s_1))), sv 9 (.c (.lit (.int .u64 yn1))), sv 10 (.c (.lit (.int .u64 yn0))), sv 11 (.c (.lit (.int .u64 un32))), sv 13 (.c (.lit (.int .u64 un1))), sv 14 (.c (.lit (.int .u64 un0))), sv 15 (.c (.lit (.int .u64 q1_1)))], hp := [], nx := 0 }
def z66l1E (y_1 s_1 yn1 yn0 un32 un1 un0 q1 rhat : Int) (r : ((Int))) (K : KT) : Prop := match r with | s => K (.exit 0) (z66l1C0 y_1 s_1 yn1 yn0 un32 un1 un0 q1 rhat s)
def z66p0S (y_1 s_1 yn1 yn0 un32 un1 un0 q1_2 rhat_1 : Int) : St := { tm := [sv 2 (.c (.lit (.int .u64 y_1))), sv 8 (.c (.lit (.int .u64 s_1))), sv 9 (.c (.lit (.int .u64 yn1))), sv 10 (.c (.lit (.int .u64 yn0))), sv 11 (.c (.lit (.int .u64 un32))), sv 13 (.c (.lit (.int .u64 un1))), sv 14 (.c (.lit (.int .u64 un0))), sv 15 (.c (.lit (.int .u64 q1_2))), sv 16 (.c (.lit (.int .u64 rhat_1)))], hp := [], nx := 0 }
noncomputable def math_bits_Div64_p0 (y_1 s_1 yn1 yn0 un32 un1 un0 q1_2 rhat_1 : Int) : Option ((Int × Int) ⊕ ((Int))) := (bif (bif (decide ((4294967296 : Int) ≤ q1_2)) then true else (decide ((IntKind.u64.wrap ((IntKind.u64.wrap ((4294967296 : Int) * rhat_1)) + un1)) < (IntKind.u64.wrap (q1_2 * yn0))))) then (bif (decide ((4294967296 : Int) ≤ (IntKind.u64.wrap (rhat_1 + yn1)))) then (some (Sum.inr (IntKind.u64.wrap (q1_2 - (1 : Int))))) else (some (Sum.inl ((IntKind.u64.wrap (q1_2 - (1 : Int))), (IntKind.u64.wrap (rhat_1 + yn1)))))) else (some (Sum.inr q1_2)))
theorem z66p0ok (y_1 s_1 yn1 yn0 un32 un1 un0 q1_2 rhat_1 q1 rhat : Int) (K : KT) (h : W (math_bits_Div64_p0 y_1 s_1 yn1 yn0 un32 un1 un0 q1_2 rhat_1) (nE (z66l1S y_1 s_1 yn1 yn0 un32 un1 un0 q1 rhat) (z66l1E y_1 s_1 yn1 yn0 un32 un1 un0 q1 rhat) K)) : EvL Try.prog 135 (List.drop 0 z66i1) K (z66p0S y_1 s_1 yn1 yn0 un32 un1 un0 q1_2 rhat_1) :=
  EvL.pE mixed (lookC_ok (l := []) trivial) [2, 8, 9, 10, 11, 13, 14, 15, 16, 70, 71, 72, 73, 74, 75, 76, 77, 105, 106, 107, 108, 109, 110, 111, 112] 0 3 (.nf (X := fun K => (bif (bif (decide ((4294967296 : Int) ≤ q1_2)) then true else (decide ((IntKind.u64.wrap ((IntKind.u64.wrap ((4294967296 : Int) * rhat_1)) + un1)) < (IntKind.u64.wrap (q1_2 * yn0))))) then (bif (decide ((4294967296 : Int) ≤ (IntKind.u64.wrap (rhat_1 + yn1)))) then wK K (.exit 0) ({ tm := [sv 2 (.c (.lit (.int .u64 y_1))), sv 8 (.c (.lit (.int .u64 s_1))), sv 9 (.c (.lit (.int .u64 yn1))), sv 10 (.c (.lit (.int .u64 yn0))), sv 11 (.c (.lit (.int .u64 un32))), sv 13 (.c (.lit (.int .u64 un1))), sv 14 (.c (.lit (.int .u64 un0))), sv 15 (.c (.lit (.int .u64 (IntKind.u64.wrap (q1_2 - (1 : Int)))))), sv 16 (.c (.lit (.int .u64 (IntKind.u64.wrap (rhat_1 + yn1))))), sv 70 (.c .unk), sv 71 (.c .unk), sv 72 (.c .unk), sv 73 (.c .unk), sv 74 (.c .unk), sv 75 (.c .unk), sv 76 (.c .unk), sv 77 (.c .unk)], hp := [], nx := 0 }) else wK K .normal ({ tm := [sv 2 (.c (.lit (.int .u64 y_1))), sv 8 (.c (.lit (.int .u64 s_1))), sv 9 (.c (.lit (.int .u64 yn1))), sv 10 (.c (.lit (.int .u64 yn0))), sv 11 (.c (.lit (.int .u64 un32))), sv 13 (.c (.lit (.int .u64 un1))), sv 14 (.c (.lit (.int .u64 un0))), sv 15 (.c (.lit (.int .u64 (IntKind.u64.wrap (q1_2 - (1 : Int)))))), sv 16 (.c (.lit (.int .u64 (IntKind.u64.wrap (rhat_1 + yn1))))), sv 70 (.c .unk), sv 71 (.c .unk), sv 72 (.c .unk), sv 73 (.c .unk), sv 74 (.c .unk), sv 75 (.c .unk), sv 76 (.c .unk), sv 77 (.c .unk)], hp := [], nx := 0 })) else wK K (.exit 0) ({ tm := [sv 2 (.c (.lit (.int .u64 y_1))), sv 8 (.c (.lit (.int .u64 s_1))), sv 9 (.c (.lit (.int .u64 yn1))), sv 10 (.c (.lit (.int .u64 yn0))), sv 11 (.c (.lit (.int .u64 un32))), sv 13 (.c (.lit (.int .u64 un1))), sv 14 (.c (.lit (.int .u64 un0))), sv 15 (.c (.lit (.int .u64 q1_2))), sv 16 (.c (.lit (.int .u64 rhat_1))), sv 70 (.c .unk), sv 71 (.c .unk), sv 72 (.c .unk), sv 73 (.c .unk), sv 74 (.c .unk), sv 75 (.c .unk), sv 76 (.c .unk), sv 77 (.c .unk)], hp := [], nx := 0 }))) (fun K => by kernel_rfl) (W_bif h (fun _ h => (W_bif h (fun _ h => ⟨(z66l1C0 y_1 s_1 yn1 yn0 un32 un1 un0 q1 rhat (IntKind.u64.wrap (q1_2 - (1 : Int)))), (.of (.q rfl (.q rfl (.q rfl (.q rfl (.q rfl (.q rfl (.q rfl (.q rfl .nil)))))))) .nil rfl), h⟩) (fun _ h => ⟨(z66l1S y_1 s_1 yn1 yn0 un32 un1 un0 q1 rhat ((IntKind.u64.wrap (q1_2 - (1 : Int))), (IntKind.u64.wrap (rhat_1 + yn1)))), (.of (.q rfl (.q rfl (.q rfl (.q rfl (.q rfl (.q rfl (.q rfl (.q rfl (.q rfl .nil))))))))) .nil rfl), h⟩))) (fun _ h => ⟨(z66l1C0 y_1 s_1 yn1 yn0 un32 un1 un0 q1 rhat q1_2), (.of (.q rfl (.q rfl (.q rfl (.q rfl (.q rfl (.q rfl (.q rfl (.q rfl .nil)))))))) .nil rfl), h⟩)))
noncomputable def math_bits_Div64_l1 (y_1 s_1 yn1 yn0 un32 un1 un0 q1 rhat : Int) (s : (Int × Int)) : Option ((Int × Int) ⊕ ((Int))) := match s with | (q1_2, rhat_1) => math_bits_Div64_p0 y_1 s_1 yn1 yn0 un32 un1 un0 q1_2 rhat_1
theorem z66l1ok (y_1 s_1 yn1 yn0 un32 un1 un0 q1 rhat : Int) (s : (Int × Int)) : Pp Try.prog 135 (List.drop 0 z66i1) (z66l1S y_1 s_1 yn1 yn0 un32 un1 un0 q1 rhat s) (math_bits_Div64_l1 y_1 s_1 yn1 yn0 un32 un1 un0 q1 rhat s) (nextE (z66l1S y_1 s_1 yn1 yn0 un32 un1 un0 q1 rhat) (z66l1E y_1 s_1 yn1 yn0 un32 un1 un0 q1 rhat)) := fun K h => match s, h with | (q1_2, rhat_1), h => (z66p0ok y_1 s_1 yn1 yn0 un32 un1 un0 q1_2 rhat_1 q1 rhat _ h)
theorem z66l1Ethen (y_1 s_1 yn1 yn0 un32 un1 un0 q1 rhat : Int) : ∀ (r : ((Int))) (J : St → Prop) (K : KT), z66l1E y_1 s_1 yn1 yn0 un32 un1 un0 q1 rhat r K → z66l1E y_1 s_1 yn1 yn0 un32 un1 un0 q1 rhat r (thenK J K)
  | s, _, _, h => h
def z66l2S (y_1 s_1 yn1 yn0 un0 q1_1 rhat_2 un21 q0 : Int) (s : (Int × Int)) : St := match s with | (rhat_3, q0_2) => { tm := [sv 2 (.c (.lit (.int .u64 y_1))), sv 8 (.c (.lit (.int .u64 s_1))), sv 9 (.c (.lit (.int .u64 yn1))), sv 10 (.c (.lit (.int .u64 yn0))), sv 14 (.c (.lit (.int .u64 un0))), sv 15 (.c (.lit (.int .u64 q1_1))), sv 16 (.c (.lit (.int .u64 rhat_3))), sv 17 (.c (.lit (.int .u64 un21))), sv 18 (.c (.lit (.int .u64 q0_2)))], hp := [], nx := 0 }
def z66l2C0 (y_1 s_1 yn1 yn0 un0 q1_1 rhat_2 un21 q0 : Int) (s : Int) : St := match s with | q0_1 => { tm := [sv 2 (.c (.lit (.int .u64 y_1))), sv 8 (.c (.lit (.int .u64 s_1))), sv 14 (.c (.lit (.int .u64 un0))), sv 15 (.c (.lit (.int .u64 q1_1))), sv 17 (.c (.lit (.int .u64 un21))), sv 18 (.c (.lit (.int .u64 q0_1)))], hp := [], nx := 0 }
def z66l2E (y_1 s_1 yn1 yn0 un0 q1_1 rhat_2 un21 q0 : Int) (r : ((Int))) (K : KT) : Prop := match r with | s => K (.exit 2) (z66l2C0 y_1 s_1 yn1 yn0 un0 q1_1 rhat_2 un21 q0 s)
def z66p1S (y_1 s_1 yn1 yn0 un0 q1_1 rhat_3 un21 q0_2 : Int) : St := { tm := [sv 2 (.c (.lit (.int .u64 y_1))), sv 8 (.c (.lit (.int .u64 s_1))), sv 9 (.c (.lit (.int .u64 yn1))), sv 10 (.c (.lit (.int .u64 yn0))), sv 14 (.c (.lit (.int .u64 un0))), sv 15 (.c (.lit (.int .u64 q1_1))), sv 16 (.c (.lit (.int .u64 rhat_3))), sv 17 (.c (.lit (.int .u64 un21))), sv 18 (.c (.lit (.int .u64 q0_2)))], hp := [], nx := 0 }
noncomputable def math_bits_Div64_p1 (y_1 s_1 yn1 yn0 un0 q1_1 rhat_3 un21 q0_2 : Int) : Option ((Int × Int) ⊕ ((Int))) := (bif (bif (decide ((4294967296 : Int) ≤ q0_2)) then true else (decide ((IntKind.u64.wrap ((IntKind.u64.wrap ((4294967296 : Int) * rhat_3)) + un0)) < (IntKind.u64.wrap (q0_2 * yn0))))) then (bif (decide ((4294967296 : Int) ≤ (IntKind.u64.wrap (rhat_3 + yn1)))) then (some (Sum.inr (IntKind.u64.wrap (q0_2 - (1 : Int))))) else (some (Sum.inl ((IntKind.u64.wrap (rhat_3 + yn1)), (IntKind.u64.wrap (q0_2 - (1 : Int))))))) else (some (Sum.inr q0_2)))
theorem z66p1ok (y_1 s_1 yn1 yn0 un0 q1_1 rhat_3 un21 q0_2 rhat_2 q0 : Int) (K : KT) (h : W (math_bits_Div64_p1 y_1 s_1 yn1 yn0 un0 q1_1 rhat_3 un21 q0_2) (nE (z66l2S y_1 s_1 yn1 yn0 un0 q1_1 rhat_2 un21 q0) (z66l2E y_1 s_1 yn1 yn0 un0 q1_1 rhat_2 un21 q0) K)) : EvL Try.prog 135 (List.drop 0 z66i2) K (z66p1S y_1 s_1 yn1 yn0 un0 q1_1 rhat_3 un21 q0_2) :=
  EvL.pE mixed (lookC_ok (l := []) trivial) [2, 8, 9, 10, 14, 15, 16, 17, 18, 105, 106, 107, 108, 109, 110, 111, 112] 0 3 (.nf (X := fun K => (bif (bif (decide ((4294967296 : Int) ≤ q0_2)) then true else (decide ((IntKind.u64.wrap ((IntKind.u64.wrap ((4294967296 : Int) * rhat_3)) + un0)) < (IntKind.u64.wrap (q0_2 * yn0))))) then (bif (decide ((4294967296 : Int) ≤ (IntKind.u64.wrap (rhat_3 + yn1)))) then wK K (.exit 2) ({ tm := [sv 2 (.c (.lit (.int .u64 y_1))), sv 8 (.c (.lit (.int .u64 s_1))), sv 9 (.c (.lit (.int .u64 yn1))), sv 10 (.c (.lit (.int .u64 yn0))), sv 14 (.c (.lit (.int .u64 un0))), sv 15 (.c (.lit (.int .u64 q1_1))), sv 16 (.c (.lit (.int .u64 (IntKind.u64.wrap (rhat_3 + yn1))))), sv 17 (.c (.lit (.int .u64 un21))), sv 18 (.c (.lit (.int .u64 (IntKind.u64.wrap (q0_2 - (1 : Int)))))), sv 105 (.c .unk), sv 106 (.c .unk), sv 107 (.c .unk), sv 108 (.c .unk), sv 109 (.c .unk), sv 110 (.c .unk), sv 111 (.c .unk), sv 112 (.c .unk)], hp := [], nx := 0 }) else wK K .normal ({ tm := [sv 2 (.c (.lit (.int .u64 y_1))), sv 8 (.c (.lit (.int .u64 s_1))), sv 9 (.c (.lit (.int .u64 yn1))), sv 10 (.c (.lit (.int .u64 yn0))), sv 14 (.c (.lit (.int .u64 un0))), sv 15 (.c (.lit (.int .u64 q1_1))), sv 16 (.c (.lit (.int .u64 (IntKind.u64.wrap (rhat_3 + yn1))))), sv 17 (.c (.lit (.int .u64 un21))), sv 18 (.c (.lit (.int .u64 (IntKind.u64.wrap (q0_2 - (1 : Int)))))), sv 105 (.c .unk), sv 106 (.c .unk), sv 107 (.c .unk), sv 108 (.c .unk), sv 109 (.c .unk), sv 110 (.c .unk), sv 111 (.c .unk), sv 112 (.c .unk)], hp := [], nx := 0 })) else wK K (.exit 2) ({ tm := [sv 2 (.c (.lit (.int .u64 y_1))), sv 8 (.c (.lit (.int .u64 s_1))), sv 9 (.c (.lit (.int .u64 yn1))), sv 10 (.c (.lit (.int .u64 yn0))), sv 14 (.c (.lit (.int .u64 un0))), sv 15 (.c (.lit (.int .u64 q1_1))), sv 16 (.c (.lit (.int .u64 rhat_3))), sv 17 (.c (.lit (.int .u64 un21))), sv 18 (.c (.lit (.int .u64 q0_2))), sv 105 (.c .unk), sv 106 (.c .unk), sv 107 (.c .unk), sv 108 (.c .unk), sv 109 (.c .unk), sv 110 (.c .unk), sv 111 (.c .unk), sv 112 (.c .unk)], hp := [], nx := 0 }))) (fun K => by kernel_rfl) (W_bif h (fun _ h => (W_bif h (fun _ h => ⟨(z66l2C0 y_1 s_1 yn1 yn0 un0 q1_1 rhat_2 un21 q0 (IntKind.u64.wrap (q0_2 - (1 : Int)))), (.of (.q rfl (.q rfl (.q rfl (.q rfl (.q rfl (.q rfl .nil)))))) .nil rfl), h⟩) (fun _ h => ⟨(z66l2S y_1 s_1 yn1 yn0 un0 q1_1 rhat_2 un21 q0 ((IntKind.u64.wrap (rhat_3 + yn1)), (IntKind.u64.wrap (q0_2 - (1 : Int))))), (.of (.q rfl (.q rfl (.q rfl (.q rfl (.q rfl (.q rfl (.q rfl (.q rfl (.q rfl .nil))))))))) .nil rfl), h⟩))) (fun _ h => ⟨(z66l2C0 y_1 s_1 yn1 yn0 un0 q1_1 rhat_2 un21 q0 q0_2), (.of (.q rfl (.q rfl (.q rfl (.q rfl (.q rfl (.q rfl .nil)))))) .nil rfl), h⟩)))
noncomputable def math_bits_Div64_l2 (y_1 s_1 yn1 yn0 un0 q1_1 rhat_2 un21 q0 : Int) (s : (Int × Int)) : Option ((Int × Int) ⊕ ((Int))) := match s with | (rhat_3, q0_2) => math_bits_Div64_p1 y_1 s_1 yn1 yn0 un0 q1_1 rhat_3 un21 q0_2
theorem z66l2ok (y_1 s_1 yn1 yn0 un0 q1_1 rhat_2 un21 q0 : Int) (s : (Int × Int)) : Pp Try.prog 135 (List.drop 0 z66i2) (z66l2S y_1 s_1 yn1 yn0 un0 q1_1 rhat_2 un21 q0 s) (math_bits_Div64_l2 y_1 s_1 yn1 yn0 un0 q1_1 rhat_2 un21 q0 s) (nextE (z66l2S y_1 s_1 yn1 yn0 un0 q1_1 rhat_2 un21 q0) (z66l2E y_1 s_1 yn1 yn0 un0 q1_1 rhat_2 un21 q0)) := fun K h => match s, h with | (rhat_3, q0_2), h => (z66p1ok y_1 s_1 yn1 yn0 un0 q1_1 rhat_3 un21 q0_2 rhat_2 q0 _ h)
theorem z66l2Ethen (y_1 s_1 yn1 yn0 un0 q1_1 rhat_2 un21 q0 : Int) : ∀ (r : ((Int))) (J : St → Prop) (K : KT), z66l2E y_1 s_1 yn1 yn0 un0 q1_1 rhat_2 un21 q0 r K → z66l2E y_1 s_1 yn1 yn0 un0 q1_1 rhat_2 un21 q0 r (thenK J K)
  | s, _, _, h => h
def z66p2S (y_1 s_1 un0 q1_1 un21 q0_1 : Int) : St := { tm := [sv 2 (.c (.lit (.int .u64 y_1))), sv 8 (.c (.lit (.int .u64 s_1))), sv 14 (.c (.lit (.int .u64 un0))), sv 15 (.c (.lit (.int .u64 q1_1))), sv 17 (.c (.lit (.int .u64 un21))), sv 18 (.c (.lit (.int .u64 q0_1)))], hp := [], nx := 0 }
noncomputable def math_bits_Div64_p2 (y_1 s_1 un0 q1_1 un21 q0_1 : Int) : Option ((Int × Int)) := gd ((0 : Int) ≤ s_1) ((some ((IntKind.u64.wrap ((IntKind.u64.wrap (q1_1 * (4294967296 : Int))) + q0_1)), (Int.fdiv (IntKind.u64.wrap ((IntKind.u64.wrap ((IntKind.u64.wrap (un21 * (4294967296 : Int))) + un0)) - (IntKind.u64.wrap (q0_1 * y_1)))) (2 ^ min (Int.toNat s_1) 64)))))
theorem z66p2ok (y_1 s_1 un0 q1_1 un21 q0_1 : Int) (K : KT) (h : W (math_bits_Div64_p2 y_1 s_1 un0 q1_1 un21 q0_1) (rE z66R K)) : EvL Try.prog 135 (List.drop 22 z66i0) K (z66p2S y_1 s_1 un0 q1_1 un21 q0_1) :=
  EvL.pE mixed (lookC_ok (l := []) trivial) [6, 7] 22 2 (.nf (X := fun K => ((0 : Int) ≤ s_1) ∧ (wK K .ret (z66R ((IntKind.u64.wrap ((IntKind.u64.wrap (q1_1 * (4294967296 : Int))) + q0_1)), (Int.fdiv (IntKind.u64.wrap ((IntKind.u64.wrap ((IntKind.u64.wrap (un21 * (4294967296 : Int))) + un0)) - (IntKind.u64.wrap (q0_1 * y_1)))) (2 ^ min (Int.toNat s_1) 64)))))) (fun K => by kernel_rfl) (W_gd h fun hp0 h => ⟨_, .refl _, h⟩))
def z66p3S (y_1 s_1 yn1 yn0 un0 q1_1 rhat_2 un21 q0 : Int) : St := { tm := [sv 2 (.c (.lit (.int .u64 y_1))), sv 8 (.c (.lit (.int .u64 s_1))), sv 9 (.c (.lit (.int .u64 yn1))), sv 10 (.c (.lit (.int .u64 yn0))), sv 14 (.c (.lit (.int .u64 un0))), sv 15 (.c (.lit (.int .u64 q1_1))), sv 16 (.c (.lit (.int .u64 rhat_2))), sv 17 (.c (.lit (.int .u64 un21))), sv 18 (.c (.lit (.int .u64 q0)))], hp := [], nx := 0 }
noncomputable def math_bits_Div64_p3_g (y_1 s_1 yn1 yn0 un0 q1_1 rhat_2 un21 q0 : Int) (r : ((Int))) : Option ((Int × Int)) := match r with | q0_1 => (math_bits_Div64_p2 y_1 s_1 un0 q1_1 un21 q0_1)
noncomputable def math_bits_Div64_p3 (y_1 s_1 yn1 yn0 un0 q1_1 rhat_2 un21 q0 : Int) : Option ((Int × Int)) := (fixL (math_bits_Div64_l2 y_1 s_1 yn1 yn0 un0 q1_1 rhat_2 un21 q0) (rhat_2, q0)).bind (math_bits_Div64_p3_g y_1 s_1 yn1 yn0 un0 q1_1 rhat_2 un21 q0)
theorem z66p3at : List.drop 21 z66i0 = .block 2 (.loop (inside (inside (nthI z66i0 21)))) :: List.drop 22 z66i0 := by kernel_rfl
theorem z66p3k (y_1 s_1 yn1 yn0 un0 q1_1 rhat_2 un21 q0 : Int) (K : KT) : ∀ r : ((Int)), W (math_bits_Div64_p3_g y_1 s_1 yn1 yn0 un0 q1_1 rhat_2 un21 q0 r) (rE z66R K) → z66l2E y_1 s_1 yn1 yn0 un0 q1_1 rhat_2 un21 q0 r (wK (blockK 2 (thenK (EvL Try.prog 135 (List.drop 22 z66i0) K) K)))
  | q0_1, h => ⟨(z66p2S y_1 s_1 un0 q1_1 un21 q0_1), (.refl _), (z66p2ok y_1 s_1 un0 q1_1 un21 q0_1 _ h)⟩
theorem z66p3ok (y_1 s_1 yn1 yn0 un0 q1_1 rhat_2 un21 q0 : Int) (K : KT) (h : W (math_bits_Div64_p3 y_1 s_1 yn1 yn0 un0 q1_1 rhat_2 un21 q0) (rE z66R K)) : EvL Try.prog 135 (List.drop 21 z66i0) K (z66p3S y_1 s_1 yn1 yn0 un0 q1_1 rhat_2 un21 q0) :=
  EvL.at_ z66p3at (EvL.cons_loop (EvOk.weak (EvOk.ent (.refl _) (EvOk.loopF (x := inside (inside (nthI z66i0 21))) (f := math_bits_Div64_l2 y_1 s_1 yn1 yn0 un0 q1_1 rhat_2 un21 q0) (emb := z66l2S y_1 s_1 yn1 yn0 un0 q1_1 rhat_2 un21 q0) (E := z66l2E y_1 s_1 yn1 yn0 un0 q1_1 rhat_2 un21 q0) (z66l2ok y_1 s_1 yn1 yn0 un0 q1_1 rhat_2 un21 q0) (z66l2Ethen y_1 s_1 yn1 yn0 un0 q1_1 rhat_2 un21 q0) (W_loop h (z66p3k y_1 s_1 yn1 yn0 un0 q1_1 rhat_2 un21 q0 K))))))
def z66p4S (y_1 s_1 yn1 yn0 un32 un1 un0 q1_1 : Int) : St := { tm := [sv 2 (.c (.lit (.int .u64 y_1))), sv 8 (.c (.lit (.int .u64 s_1))), sv 9 (.c (.lit (.int .u64 yn1))), sv 10 (.c (.lit (.int .u64 yn0))), sv 11 (.c (.lit (.int .u64 un32))), sv 13 (.c (.lit (.int .u64 un1))), sv 14 (.c (.lit (.int .u64 un0))), sv 15 (.c (.lit (.int .u64 q1_1)))], hp := [], nx := 0 }
noncomputable def math_bits_Div64_p4 (y_1 s_1 yn1 yn0 un32 un1 un0 q1_1 : Int) : Option ((Int × Int)) := gd (yn1 ≠ (0 : Int)) ((math_bits_Div64_p3 y_1 s_1 yn1 yn0 un0 q1_1 (IntKind.u64.wrap ((IntKind.u64.wrap ((IntKind.u64.wrap ((IntKind.u64.wrap (un32 * (4294967296 : Int))) + un1)) - (IntKind.u64.wrap (q1_1 * y_1)))) - (IntKind.u64.wrap ((IntKind.u64.wrap (Int.tdiv (IntKind.u64.wrap ((IntKind.u64.wrap ((IntKind.u64.wrap (un32 * (4294967296 : Int))) + un1)) - (IntKind.u64.wrap (q1_1 * y_1)))) yn1)) * yn1)))) (IntKind.u64.wrap ((IntKind.u64.wrap ((IntKind.u64.wrap (un32 * (4294967296 : Int))) + un1)) - (IntKind.u64.wrap (q1_1 * y_1)))) (IntKind.u64.wrap (Int.tdiv (IntKind.u64.wrap ((IntKind.u64.wrap ((IntKind.u64.wrap (un32 * (4294967296 : Int))) + un1)) - (IntKind.u64.wrap (q1_1 * y_1)))) yn1))))
theorem z66p4ok (y_1 s_1 yn1 yn0 un32 un1 un0 q1_1 : Int) (K : KT) (h : W (math_bits_Div64_p4 y_1 s_1 yn1 yn0 un32 un1 un0 q1_1) (rE z66R K)) : EvL Try.prog 135 (List.drop 18 z66i0) K (z66p4S y_1 s_1 yn1 yn0 un32 un1 un0 q1_1) :=
  EvL.pD mixed (lookC_ok (l := []) trivial) [2, 8, 9, 10, 14, 15, 16, 17, 18, 105, 106, 107, 108, 109, 110, 111, 112] 18 3 21 (.nf (X := fun K => (yn1 ≠ (0 : Int)) ∧ (wK K .normal (z66p3S y_1 s_1 yn1 yn0 un0 q1_1 (IntKind.u64.wrap ((IntKind.u64.wrap ((IntKind.u64.wrap ((IntKind.u64.wrap (un32 * (4294967296 : Int))) + un1)) - (IntKind.u64.wrap (q1_1 * y_1)))) - (IntKind.u64.wrap ((IntKind.u64.wrap (Int.tdiv (IntKind.u64.wrap ((IntKind.u64.wrap ((IntKind.u64.wrap (un32 * (4294967296 : Int))) + un1)) - (IntKind.u64.wrap (q1_1 * y_1)))) yn1)) * yn1)))) (IntKind.u64.wrap ((IntKind.u64.wrap ((IntKind.u64.wrap (un32 * (4294967296 : Int))) + un1)) - (IntKind.u64.wrap (q1_1 * y_1)))) (IntKind.u64.wrap (Int.tdiv (IntKind.u64.wrap ((IntKind.u64.wrap ((IntKind.u64.wrap (un32 * (4294967296 : Int))) + un1)) - (IntKind.u64.wrap (q1_1 * y_1)))) yn1))))) (fun K => by kernel_rfl) (W_gd h fun hp0 h => ⟨_, .refl _, (z66p3ok y_1 s_1 yn1 yn0 un0 q1_1 (IntKind.u64.wrap ((IntKind.u64.wrap ((IntKind.u64.wrap ((IntKind.u64.wrap (un32 * (4294967296 : Int))) + un1)) - (IntKind.u64.wrap (q1_1 * y_1)))) - (IntKind.u64.wrap ((IntKind.u64.wrap (Int.tdiv (IntKind.u64.wrap ((IntKind.u64.wrap ((IntKind.u64.wrap (un32 * (4294967296 : Int))) + un1)) - (IntKind.u64.wrap (q1_1 * y_1)))) yn1)) * yn1)))) (IntKind.u64.wrap ((IntKind.u64.wrap ((IntKind.u64.wrap (un32 * (4294967296 : Int))) + un1)) - (IntKind.u64.wrap (q1_1 * y_1)))) (IntKind.u64.wrap (Int.tdiv (IntKind.u64.wrap ((IntKind.u64.wrap ((IntKind.u64.wrap (un32 * (4294967296 : Int))) + un1)) - (IntKind.u64.wrap (q1_1 * y_1)))) yn1)) _ h)⟩))
def z66p5S (y_1 s_1 yn1 yn0 un32 un1 un0 q1 rhat : Int) : St := { tm := [sv 2 (.c (.lit (.int .u64 y_1))), sv 8 (.c (.lit (.int .u64 s_1))), sv 9 (.c (.lit (.int .u64 yn1))), sv 10 (.c (.lit (.int .u64 yn0))), sv 11 (.c (.lit (.int .u64 un32))), sv 13 (.c (.lit (.int .u64 un1))), sv 14 (.c (.lit (.int .u64 un0))), sv 15 (.c (.lit (.int .u64 q1))), sv 16 (.c (.lit (.int .u64 rhat)))], hp := [], nx := 0 }
noncomputable def math_bits_Div64_p5_g (y_1 s_1 yn1 yn0 un32 un1 un0 q1 rhat : Int) (r : ((Int))) : Option ((Int × Int)) := match r with | q1_1 => (math_bits_Div64_p4 y_1 s_1 yn1 yn0 un32 un1 un0 q1_1)
noncomputable def math_bits_Div64_p5 (y_1 s_1 yn1 yn0 un32 un1 un0 q1 rhat : Int) : Option ((Int × Int)) := (fixL (math_bits_Div64_l1 y_1 s_1 yn1 yn0 un32 un1 un0 q1 rhat) (q1, rhat)).bind (math_bits_Div64_p5_g y_1 s_1 yn1 yn0 un32 un1 un0 q1 rhat)
theorem z66p5at : List.drop 17 z66i0 = .block 0 (.loop (inside (inside (nthI z66i0 17)))) :: List.drop 18 z66i0 := by kernel_rfl
theorem z66p5k (y_1 s_1 yn1 yn0 un32 un1 un0 q1 rhat : Int) (K : KT) : ∀ r : ((Int)), W (math_bits_Div64_p5_g y_1 s_1 yn1 yn0 un32 un1 un0 q1 rhat r) (rE z66R K) → z66l1E y_1 s_1 yn1 yn0 un32 un1 un0 q1 rhat r (wK (blockK 0 (thenK (EvL Try.prog 135 (List.drop 18 z66i0) K) K)))
  | q1_1, h => ⟨(z66p4S y_1 s_1 yn1 yn0 un32 un1 un0 q1_1), (.refl _), (z66p4ok y_1 s_1 yn1 yn0 un32 un1 un0 q1_1 _ h)⟩
theorem z66p5ok (y_1 s_1 yn1 yn0 un32 un1 un0 q1 rhat : Int) (K : KT) (h : W (math_bits_Div64_p5 y_1 s_1 yn1 yn0 un32 un1 un0 q1 rhat) (rE z66R K)) : EvL Try.prog 135 (List.drop 17 z66i0) K (z66p5S y_1 s_1 yn1 yn0 un32 un1 un0 q1 rhat) :=
  EvL.at_ z66p5at (EvL.cons_loop (EvOk.weak (EvOk.ent (.refl _) (EvOk.loopF (x := inside (inside (nthI z66i0 17))) (f := math_bits_Div64_l1 y_1 s_1 yn1 yn0 un32 un1 un0 q1 rhat) (emb := z66l1S y_1 s_1 yn1 yn0 un32 un1 un0 q1 rhat) (E := z66l1E y_1 s_1 yn1 yn0 un32 un1 un0 q1 rhat) (z66l1ok y_1 s_1 yn1 yn0 un32 un1 un0 q1 rhat) (z66l1Ethen y_1 s_1 yn1 yn0 un32 un1 un0 q1 rhat) (W_loop h (z66p5k y_1 s_1 yn1 yn0 un32 un1 un0 q1 rhat K))))))
def z66p6S (hi lo y : Int) : St := { tm := [sv 0 (.c (.lit (.int .u64 hi))), sv 1 (.c (.lit (.int .u64 lo))), sv 2 (.c (.lit (.int .u64 y)))], hp := [], nx := 0 }
noncomputable def math_bits_Div64_p6 (hi lo y : Int) : Option ((Int × Int)) := (bif (y == (0 : Int)) then none else (bif (decide (y ≤ hi)) then none else (bif (hi == (0 : Int)) then gd (y ≠ (0 : Int)) (gd (y ≠ (0 : Int)) ((some ((IntKind.u64.wrap (Int.tdiv lo y)), (Int.tmod lo y))))) else (math_bits_LeadingZeros64 y).bind fun r_1 => (gd ((0 : Int) ≤ (IntKind.u64.wrap r_1)) (gd ((0 : Int) ≤ (IntKind.u64.wrap r_1)) (gd ((0 : Int) ≤ (IntKind.u64.wrap ((64 : Int) - (IntKind.u64.wrap r_1)))) (gd ((0 : Int) ≤ (IntKind.u64.wrap r_1)) (gd ((Int.fdiv (IntKind.u64.wrap (y * 2 ^ min (Int.toNat (IntKind.u64.wrap r_1)) 64)) (2 ^ min (Int.toNat (32 : Int)) 64)) ≠ (0 : Int)) ((math_bits_Div64_p5 (IntKind.u64.wrap (y * 2 ^ min (Int.toNat (IntKind.u64.wrap r_1)) 64)) (IntKind.u64.wrap r_1) (Int.fdiv (IntKind.u64.wrap (y * 2 ^ min (Int.toNat (IntKind.u64.wrap r_1)) 64)) (2 ^ min (Int.toNat (32 : Int)) 64)) (IntKind.u64.wrap (BitVec.ofInt 64 (IntKind.u64.wrap (y * 2 ^ min (Int.toNat (IntKind.u64.wrap r_1)) 64)) &&& BitVec.ofInt 64 (4294967295 : Int)).toNat) (IntKind.u64.wrap (BitVec.ofInt 64 (IntKind.u64.wrap (hi * 2 ^ min (Int.toNat (IntKind.u64.wrap r_1)) 64)) ||| BitVec.ofInt 64 (Int.fdiv lo (2 ^ min (Int.toNat (IntKind.u64.wrap ((64 : Int) - (IntKind.u64.wrap r_1)))) 64))).toNat) (Int.fdiv (IntKind.u64.wrap (lo * 2 ^ min (Int.toNat (IntKind.u64.wrap r_1)) 64)) (2 ^ min (Int.toNat (32 : Int)) 64)) (IntKind.u64.wrap (BitVec.ofInt 64 (IntKind.u64.wrap (lo * 2 ^ min (Int.toNat (IntKind.u64.wrap r_1)) 64)) &&& BitVec.ofInt 64 (4294967295 : Int)).toNat) (IntKind.u64.wrap (Int.tdiv (IntKind.u64.wrap (BitVec.ofInt 64 (IntKind.u64.wrap (hi * 2 ^ min (Int.toNat (IntKind.u64.wrap r_1)) 64)) ||| BitVec.ofInt 64 (Int.fdiv lo (2 ^ min (Int.toNat (IntKind.u64.wrap ((64 : Int) - (IntKind.u64.wrap r_1)))) 64))).toNat) (Int.fdiv (IntKind.u64.wrap (y * 2 ^ min (Int.toNat (IntKind.u64.wrap r_1)) 64)) (2 ^ min (Int.toNat (32 : Int)) 64)))) (IntKind.u64.wrap ((IntKind.u64.wrap (BitVec.ofInt 64 (IntKind.u64.wrap (hi * 2 ^ min (Int.toNat (IntKind.u64.wrap r_1)) 64)) ||| BitVec.ofInt 64 (Int.fdiv lo (2 ^ min (Int.toNat (IntKind.u64.wrap ((64 : Int) - (IntKind.u64.wrap r_1)))) 64))).toNat) - (IntKind.u64.wrap ((IntKind.u64.wrap (Int.tdiv (IntKind.u64.wrap (BitVec.ofInt 64 (IntKind.u64.wrap (hi * 2 ^ min (Int.toNat (IntKind.u64.wrap r_1)) 64)) ||| BitVec.ofInt 64 (Int.fdiv lo (2 ^ min (Int.toNat (IntKind.u64.wrap ((64 : Int) - (IntKind.u64.wrap r_1)))) 64))).toNat) (Int.fdiv (IntKind.u64.wrap (y * 2 ^ min (Int.toNat (IntKind.u64.wrap r_1)) 64)) (2 ^ min (Int.toNat (32 : Int)) 64)))) * (Int.fdiv (IntKind.u64.wrap (y * 2 ^ min (Int.toNat (IntKind.u64.wrap r_1)) 64)) (2 ^ min (Int.toNat (32 : Int)) 64))))))))))))))))
theorem z66p6ok (hi lo y : Int) (K : KT) (h : W (math_bits_Div64_p6 hi lo y) (rE z66R K)) : EvL Try.prog 135 (List.drop 0 z66i0) K (z66p6S hi lo y) :=
  EvL.pD mixed (lookC_ok (l := [(72, .pure math_bits_LeadingZeros64_C)]) ⟨math_bits_LeadingZeros64_ok, trivial⟩) [2, 6, 7, 8, 9, 10, 11, 13, 14, 15, 16, 70, 71, 72, 73, 74, 75, 76, 77, 105, 106, 107, 108, 109, 110, 111, 112] 0 17 17 (.nf (X := fun K => (bif (y == (0 : Int)) then False else (bif (decide (y ≤ hi)) then False else (bif (hi == (0 : Int)) then (y ≠ (0 : Int)) ∧ (y ≠ (0 : Int)) ∧ (wK K .ret ({ tm := [sv 2 (.c (.lit (.int .u64 y))), sv 6 (.c (.lit (.int .u64 (IntKind.u64.wrap (Int.tdiv lo y))))), sv 7 (.c (.lit (.int .u64 (Int.tmod lo y))))], hp := [], nx := 0 })) else ((math_bits_LeadingZeros64 y).isSome = true) ∧ (((0 : Int) ≤ (IntKind.u64.wrap ((math_bits_LeadingZeros64 y).getD (0 : Int)))) ∧ (((0 : Int) ≤ (32 : Int)) ∧ (((0 : Int) ≤ (IntKind.u64.wrap ((math_bits_LeadingZeros64 y).getD (0 : Int)))) ∧ ((0 : Int) ≤ (IntKind.u64.wrap ((64 : Int) - (IntKind.u64.wrap ((math_bits_LeadingZeros64 y).getD (0 : Int)))))) ∧ (((0 : Int) ≤ (IntKind.u64.wrap ((math_bits_LeadingZeros64 y).getD (0 : Int)))) ∧ (((0 : Int) ≤ (32 : Int)) ∧ (((Int.fdiv (IntKind.u64.wrap (y * 2 ^ min (Int.toNat (IntKind.u64.wrap ((math_bits_LeadingZeros64 y).getD (0 : Int)))) 64)) (2 ^ min (Int.toNat (32 : Int)) 64)) ≠ (0 : Int)) ∧ (wK K .normal ({ tm := [sv 2 (.c (.lit (.int .u64 (IntKind.u64.wrap (y * 2 ^ min (Int.toNat (IntKind.u64.wrap ((math_bits_LeadingZeros64 y).getD (0 : Int)))) 64))))), sv 6 (.c (.lit (.int .u64 (0 : Int)))), sv 7 (.c (.lit (.int .u64 (0 : Int)))), sv 8 (.c (.lit (.int .u64 (IntKind.u64.wrap ((math_bits_LeadingZeros64 y).getD (0 : Int)))))), sv 9 (.c (.lit (.int .u64 (Int.fdiv (IntKind.u64.wrap (y * 2 ^ min (Int.toNat (IntKind.u64.wrap ((math_bits_LeadingZeros64 y).getD (0 : Int)))) 64)) (2 ^ min (Int.toNat (32 : Int)) 64))))), sv 10 (.c (.lit (.int .u64 (IntKind.u64.wrap (BitVec.ofInt 64 (IntKind.u64.wrap (y * 2 ^ min (Int.toNat (IntKind.u64.wrap ((math_bits_LeadingZeros64 y).getD (0 : Int)))) 64)) &&& BitVec.ofInt 64 (4294967295 : Int)).toNat)))), sv 11 (.c (.lit (.int .u64 (IntKind.u64.wrap (BitVec.ofInt 64 (IntKind.u64.wrap (hi * 2 ^ min (Int.toNat (IntKind.u64.wrap ((math_bits_LeadingZeros64 y).getD (0 : Int)))) 64)) ||| BitVec.ofInt 64 (Int.fdiv lo (2 ^ min (Int.toNat (IntKind.u64.wrap ((64 : Int) - (IntKind.u64.wrap ((math_bits_LeadingZeros64 y).getD (0 : Int)))))) 64))).toNat)))), sv 13 (.c (.lit (.int .u64 (Int.fdiv (IntKind.u64.wrap (lo * 2 ^ min (Int.toNat (IntKind.u64.wrap ((math_bits_LeadingZeros64 y).getD (0 : Int)))) 64)) (2 ^ min (Int.toNat (32 : Int)) 64))))), sv 14 (.c (.lit (.int .u64 (IntKind.u64.wrap (BitVec.ofInt 64 (IntKind.u64.wrap (lo * 2 ^ min (Int.toNat (IntKind.u64.wrap ((math_bits_LeadingZeros64 y).getD (0 : Int)))) 64)) &&& BitVec.ofInt 64 (4294967295 : Int)).toNat)))), sv 15 (.c (.lit (.int .u64 (IntKind.u64.wrap (Int.tdiv (IntKind.u64.wrap (BitVec.ofInt 64 (IntKind.u64.wrap (hi * 2 ^ min (Int.toNat (IntKind.u64.wrap ((math_bits_LeadingZeros64 y).getD (0 : Int)))) 64)) ||| BitVec.ofInt 64 (Int.fdiv lo (2 ^ min (Int.toNat (IntKind.u64.wrap ((64 : Int) - (IntKind.u64.wrap ((math_bits_LeadingZeros64 y).getD (0 : Int)))))) 64))).toNat) (Int.fdiv (IntKind.u64.wrap (y * 2 ^ min (Int.toNat (IntKind.u64.wrap ((math_bits_LeadingZeros64 y).getD (0 : Int)))) 64)) (2 ^ min (Int.toNat (32 : Int)) 64))))))), sv 16 (.c (.lit (.int .u64 (IntKind.u64.wrap ((IntKind.u64.wrap (BitVec.ofInt 64 (IntKind.u64.wrap (hi * 2 ^ min (Int.toNat (IntKind.u64.wrap ((math_bits_LeadingZeros64 y).getD (0 : Int)))) 64)) ||| BitVec.ofInt 64 (Int.fdiv lo (2 ^ min (Int.toNat (IntKind.u64.wrap ((64 : Int) - (IntKind.u64.wrap ((math_bits_LeadingZeros64 y).getD (0 : Int)))))) 64))).toNat) - (IntKind.u64.wrap ((IntKind.u64.wrap (Int.tdiv (IntKind.u64.wrap (BitVec.ofInt 64 (IntKind.u64.wrap (hi * 2 ^ min (Int.toNat (IntKind.u64.wrap ((math_bits_LeadingZeros64 y).getD (0 : Int)))) 64)) ||| BitVec.ofInt 64 (Int.fdiv lo (2 ^ min (Int.toNat (IntKind.u64.wrap ((64 : Int) - (IntKind.u64.wrap ((math_bits_LeadingZeros64 y).getD (0 : Int)))))) 64))).toNat) (Int.fdiv (IntKind.u64.wrap (y * 2 ^ min (Int.toNat (IntKind.u64.wrap ((math_bits_LeadingZeros64 y).getD (0 : Int)))) 64)) (2 ^ min (Int.toNat (32 : Int)) 64)))) * (Int.fdiv (IntKind.u64.wrap (y * 2 ^ min (Int.toNat (IntKind.u64.wrap ((math_bits_LeadingZeros64 y).getD (0 : Int)))) 64)) (2 ^ min (Int.toNat (32 : Int)) 64)))))))))], hp := [], nx := 0 })))))))))))) (fun K => by kernel_rfl) (W_bif h (fun _ h => h) (fun _ h => (W_bif h (fun _ h => h) (fun _ h => (W_bif h (fun _ h => (W_gd h fun hp0 h => (W_gd h fun hp1 h => ⟨(z66R ((IntKind.u64.wrap (Int.tdiv lo y)), (Int.tmod lo y))), (.of (.q rfl (.q rfl .nil)) .nil rfl), h⟩))) (fun _ h => (W_bind (0 : Int) h fun hp2 h => (W_gd h fun hp3 h => ⟨(by decide), (W_gd h fun hp4 h => (W_gd h fun hp5 h => (W_gd h fun hp6 h => ⟨(by decide), (W_gd h fun hp7 h => ⟨(z66p5S (IntKind.u64.wrap (y * 2 ^ min (Int.toNat (IntKind.u64.wrap ((math_bits_LeadingZeros64 y).getD (0 : Int)))) 64)) (IntKind.u64.wrap ((math_bits_LeadingZeros64 y).getD (0 : Int))) (Int.fdiv (IntKind.u64.wrap (y * 2 ^ min (Int.toNat (IntKind.u64.wrap ((math_bits_LeadingZeros64 y).getD (0 : Int)))) 64)) (2 ^ min (Int.toNat (32 : Int)) 64)) (IntKind.u64.wrap (BitVec.ofInt 64 (IntKind.u64.wrap (y * 2 ^ min (Int.toNat (IntKind.u64.wrap ((math_bits_LeadingZeros64 y).getD (0 : Int)))) 64)) &&& BitVec.ofInt 64 (4294967295 : Int)).toNat) (IntKind.u64.wrap (BitVec.ofInt 64 (IntKind.u64.wrap (hi * 2 ^ min (Int.toNat (IntKind.u64.wrap ((math_bits_LeadingZeros64 y).getD (0 : Int)))) 64)) ||| BitVec.ofInt 64 (Int.fdiv lo (2 ^ min (Int.toNat (IntKind.u64.wrap ((64 : Int) - (IntKind.u64.wrap ((math_bits_LeadingZeros64 y).getD (0 : Int)))))) 64))).toNat) (Int.fdiv (IntKind.u64.wrap (lo * 2 ^ min (Int.toNat (IntKind.u64.wrap ((math_bits_LeadingZeros64 y).getD (0 : Int)))) 64)) (2 ^ min (Int.toNat (32 : Int)) 64)) (IntKind.u64.wrap (BitVec.ofInt 64 (IntKind.u64.wrap (lo * 2 ^ min (Int.toNat (IntKind.u64.wrap ((math_bits_LeadingZeros64 y).getD (0 : Int)))) 64)) &&& BitVec.ofInt 64 (4294967295 : Int)).toNat) (IntKind.u64.wrap (Int.tdiv (IntKind.u64.wrap (BitVec.ofInt 64 (IntKind.u64.wrap (hi * 2 ^ min (Int.toNat (IntKind.u64.wrap ((math_bits_LeadingZeros64 y).getD (0 : Int)))) 64)) ||| BitVec.ofInt 64 (Int.fdiv lo (2 ^ min (Int.toNat (IntKind.u64.wrap ((64 : Int) - (IntKind.u64.wrap ((math_bits_LeadingZeros64 y).getD (0 : Int)))))) 64))).toNat) (Int.fdiv (IntKind.u64.wrap (y * 2 ^ min (Int.toNat (IntKind.u64.wrap ((math_bits_LeadingZeros64 y).getD (0 : Int)))) 64)) (2 ^ min (Int.toNat (32 : Int)) 64)))) (IntKind.u64.wrap ((IntKind.u64.wrap (BitVec.ofInt 64 (IntKind.u64.wrap (hi * 2 ^ min (Int.toNat (IntKind.u64.wrap ((math_bits_LeadingZeros64 y).getD (0 : Int)))) 64)) ||| BitVec.ofInt 64 (Int.fdiv lo (2 ^ min (Int.toNat (IntKind.u64.wrap ((64 : Int) - (IntKind.u64.wrap ((math_bits_LeadingZeros64 y).getD (0 : Int)))))) 64))).toNat) - (IntKind.u64.wrap ((IntKind.u64.wrap (Int.tdiv (IntKind.u64.wrap (BitVec.ofInt 64 (IntKind.u64.wrap (hi * 2 ^ min (Int.toNat (IntKind.u64.wrap ((math_bits_LeadingZeros64 y).getD (0 : Int)))) 64)) ||| BitVec.ofInt 64 (Int.fdiv lo (2 ^ min (Int.toNat (IntKind.u64.wrap ((64 : Int) - (IntKind.u64.wrap ((math_bits_LeadingZeros64 y).getD (0 : Int)))))) 64))).toNat) (Int.fdiv (IntKind.u64.wrap (y * 2 ^ min (Int.toNat (IntKind.u64.wrap ((math_bits_LeadingZeros64 y).getD (0 : Int)))) 64)) (2 ^ min (Int.toNat (32 : Int)) 64)))) * (Int.fdiv (IntKind.u64.wrap (y * 2 ^ min (Int.toNat (IntKind.u64.wrap ((math_bits_LeadingZeros64 y).getD (0 : Int)))) 64)) (2 ^ min (Int.toNat (32 : Int)) 64))))))), (.of (.q rfl (.q rfl (.q rfl (.q rfl (.q rfl (.q rfl (.q rfl (.q rfl (.q rfl .nil))))))))) .nil rfl), (z66p5ok (IntKind.u64.wrap (y * 2 ^ min (Int.toNat (IntKind.u64.wrap ((math_bits_LeadingZeros64 y).getD (0 : Int)))) 64)) (IntKind.u64.wrap ((math_bits_LeadingZeros64 y).getD (0 : Int))) (Int.fdiv (IntKind.u64.wrap (y * 2 ^ min (Int.toNat (IntKind.u64.wrap ((math_bits_LeadingZeros64 y).getD (0 : Int)))) 64)) (2 ^ min (Int.toNat (32 : Int)) 64)) (IntKind.u64.wrap (BitVec.ofInt 64 (IntKind.u64.wrap (y * 2 ^ min (Int.toNat (IntKind.u64.wrap ((math_bits_LeadingZeros64 y).getD (0 : Int)))) 64)) &&& BitVec.ofInt 64 (4294967295 : Int)).toNat) (IntKind.u64.wrap (BitVec.ofInt 64 (IntKind.u64.wrap (hi * 2 ^ min (Int.toNat (IntKind.u64.wrap ((math_bits_LeadingZeros64 y).getD (0 : Int)))) 64)) ||| BitVec.ofInt 64 (Int.fdiv lo (2 ^ min (Int.toNat (IntKind.u64.wrap ((64 : Int) - (IntKind.u64.wrap ((math_bits_LeadingZeros64 y).getD (0 : Int)))))) 64))).toNat) (Int.fdiv (IntKind.u64.wrap (lo * 2 ^ min (Int.toNat (IntKind.u64.wrap ((math_bits_LeadingZeros64 y).getD (0 : Int)))) 64)) (2 ^ min (Int.toNat (32 : Int)) 64)) (IntKind.u64.wrap (BitVec.ofInt 64 (IntKind.u64.wrap (lo * 2 ^ min (Int.toNat (IntKind.u64.wrap ((math_bits_LeadingZeros64 y).getD (0 : Int)))) 64)) &&& BitVec.ofInt 64 (4294967295 : Int)).toNat) (IntKind.u64.wrap (Int.tdiv (IntKind.u64.wrap (BitVec.ofInt 64 (IntKind.u64.wrap (hi * 2 ^ min (Int.toNat (IntKind.u64.wrap ((math_bits_LeadingZeros64 y).getD (0 : Int)))) 64)) ||| BitVec.ofInt 64 (Int.fdiv lo (2 ^ min (Int.toNat (IntKind.u64.wrap ((64 : Int) - (IntKind.u64.wrap ((math_bits_LeadingZeros64 y).getD (0 : Int)))))) 64))).toNat) (Int.fdiv (IntKind.u64.wrap (y * 2 ^ min (Int.toNat (IntKind.u64.wrap ((math_bits_LeadingZeros64 y).getD (0 : Int)))) 64)) (2 ^ min (Int.toNat (32 : Int)) 64)))) (IntKind.u64.wrap ((IntKind.u64.wrap (BitVec.ofInt 64 (IntKind.u64.wrap (hi * 2 ^ min (Int.toNat (IntKind.u64.wrap ((math_bits_LeadingZeros64 y).getD (0 : Int)))) 64)) ||| BitVec.ofInt 64 (Int.fdiv lo (2 ^ min (Int.toNat (IntKind.u64.wrap ((64 : Int) - (IntKind.u64.wrap ((math_bits_LeadingZeros64 y).getD (0 : Int)))))) 64))).toNat) - (IntKind.u64.wrap ((IntKind.u64.wrap (Int.tdiv (IntKind.u64.wrap (BitVec.ofInt 64 (IntKind.u64.wrap (hi * 2 ^ min (Int.toNat (IntKind.u64.wrap ((math_bits_LeadingZeros64 y).getD (0 : Int)))) 64)) ||| BitVec.ofInt 64 (Int.fdiv lo (2 ^ min (Int.toNat (IntKind.u64.wrap ((64 : Int) - (IntKind.u64.wrap ((math_bits_LeadingZeros64 y).getD (0 : Int)))))) 64))).toNat) (Int.fdiv (IntKind.u64.wrap (y * 2 ^ min (Int.toNat (IntKind.u64.wrap ((math_bits_LeadingZeros64 y).getD (0 : Int)))) 64)) (2 ^ min (Int.toNat (32 : Int)) 64)))) * (Int.fdiv (IntKind.u64.wrap (y * 2 ^ min (Int.toNat (IntKind.u64.wrap ((math_bits_LeadingZeros64 y).getD (0 : Int)))) 64)) (2 ^ min (Int.toNat (32 : Int)) 64)))))) _ h)⟩)⟩)))⟩)))))))))
noncomputable def math_bits_Div64 (hi lo y : Int) : Option ((Int × Int)) := math_bits_Div64_p6 hi lo y
theorem z66run (hi lo y : Int) (y_ : (Int × Int)) (h : math_bits_Div64 hi lo y = some y_) : EvL Try.prog 135 (items (bodyOf Try.f66)) (retK Try.prog [.tmp 6, .tmp 7] (OutOk (math_bits_Div64_out y_))) (z66p6S hi lo y) :=
  z66p6ok hi lo y _ (W_iff.2 ⟨y_, h, z66Rok y_⟩)
noncomputable def math_bits_Div64_C : Con
  | [(.c (.lit (.int .u64 a1))), (.c (.lit (.int .u64 a2))), (.c (.lit (.int .u64 a3)))] => some ([(math_bits_Div64 a1 a2 a3).isSome = true], (math_bits_Div64_out ((math_bits_Div64 a1 a2 a3).getD ((0 : Int), (0 : Int)))))
  | _ => none
theorem math_bits_Div64_ok : Meets Try.prog 66 math_bits_Div64_C := by
  refine meets_fun (fn := Try.f66) (c := bodyOf Try.f66) (by kernel_rfl) (by kernel_rfl) (by kernel_rfl) (rs := [.tmp 6, .tmp 7]) (by kernel_rfl) (nt := 135) (by kernel_rfl) fun vs p out h hp => ?_
  unfold math_bits_Div64_C at h
  split at h
  · next a1 a2 a3 =>
    cases h
    obtain ⟨g, hp⟩ := allq hp
    obtain ⟨x, hx⟩ := Option.isSome_iff_exists.1 g
    rw [hx]
    exact ⟨[(.c (.lit (.int .u64 a1))), (.c (.lit (.int .u64 a2))), (.c (.lit (.int .u64 a3)))], (VLes.cons (VLe.rfl' _) (VLes.cons (VLe.rfl' _) (VLes.cons (VLe.rfl' _) VLes.nil))), rfl, z66run a1 a2 a3 x hx⟩
  · cases h

noncomputable def z63i0 : List Code := items (bodyOf Try.f63)
def ref1_wide_over_out (x_1 : (GPensionref1_wide × Int)) : Out := .data (.tup [(.agg [(.c (.lit (.int .u64 x_1.1.hi))), (.c (.lit (.int .u64 x_1.1.lo)))]), (.c (.lit (.int .u64 x_1.2)))])
def z63R (x_1 : (GPensionref1_wide × Int)) : St := { tm := [sv 4 (.ptr 0 2 0 0), sv 5 (.c (.lit (.int .u64 x_1.2)))], hp := [(0, some (.box [(.c (.lit (.int .u64 x_1.1.hi))), (.c (.lit (.int .u64 x_1.1.lo)))]))], nx := 1 }
theorem z63Rok (x_1 : (GPensionref1_wide × Int)) : retK Try.prog [.cell 4 83, .tmp 5] (OutOk (ref1_wide_over_out x_1)) .ret (z63R x_1) :=
  retK.intro (v := (.tup [(.agg [(.c (.lit (.int .u64 x_1.1.hi))), (.c (.lit (.int .u64 x_1.1.lo)))]), (.c (.lit (.int .u64 x_1.2)))])) (by kernel_rfl) (VLe.tup (VLes.cons (VLe.rfl' _) (VLes.cons (VLe.rfl' _) (VLes.nil))))
def z63p0S (w : GPensionref1_wide) (d_1 : Int) : St := { tm := [sv 0 (.ag (eGPensionref1_wide w)), sv 1 (.c (.lit (.int .u64 d_1)))], hp := [], nx := 0 }
noncomputable def ref1_wide_over_p0 (w : GPensionref1_wide) (d_1 : Int) : Option ((GPensionref1_wide × Int)) := gd (d_1 ≠ (0 : Int)) ((math_bits_Div64 (Int.tmod w.hi d_1) w.lo d_1).bind fun r_1 => (gd (d_1 ≠ (0 : Int)) ((some ((GPensionref1_wide.mk (IntKind.u64.wrap (Int.tdiv w.hi d_1)) r_1.1), r_1.2)))))
theorem z63p0ok (w : GPensionref1_wide) (d_1 : Int) (K : KT) (h : W (ref1_wide_over_p0 w d_1) (rE z63R K)) : EvL Try.prog 26 (List.drop 0 z63i0) K (z63p0S w d_1) :=
  EvL.pE mixed (lookC_ok (l := [(66, .pure math_bits_Div64_C)]) ⟨math_bits_Div64_ok, trivial⟩) [4, 5] 0 4 (.nf (X := fun K => (d_1 ≠ (0 : Int)) ∧ ((math_bits_Div64 (Int.tmod w.hi d_1) w.lo d_1).isSome = true) ∧ ((d_1 ≠ (0 : Int)) ∧ (wK K .ret (z63R ((GPensionref1_wide.mk (IntKind.u64.wrap (Int.tdiv w.hi d_1)) ((math_bits_Div64 (Int.tmod w.hi d_1) w.lo d_1).getD ((0 : Int), (0 : Int))).1), ((math_bits_Div64 (Int.tmod w.hi d_1) w.lo d_1).getD ((0 : Int), (0 : Int))).2))))) (fun K => by kernel_rfl) (W_gd h fun hp0 h => (W_bind ((0 : Int), (0 : Int)) h fun hp1 h => (W_gd h fun hp2 h => ⟨_, .refl _, h⟩))))
noncomputable def ref1_wide_over (w : GPensionref1_wide) (d_1 : Int) : Option ((GPensionref1_wide × Int)) := ref1_wide_over_p0 w d_1
theorem z63run (w : GPensionref1_wide) (d_1 : Int) (y_ : (GPensionref1_wide × Int)) (h : ref1_wide_over w d_1 = some y_) : EvL Try.prog 26 (items (bodyOf Try.f63)) (retK Try.prog [.cell 4 83, .tmp 5] (OutOk (ref1_wide_over_out y_))) (z63p0S w d_1) :=
  z63p0ok w d_1 _ (W_iff.2 ⟨y_, h, z63Rok y_⟩)
noncomputable def ref1_wide_over_C : Con
  | [(.agg [(.c (.lit (.int .u64 a1))), (.c (.lit (.int .u64 a2)))]), (.c (.lit (.int .u64 a3)))] => some ([(ref1_wide_over (GPensionref1_wide.mk a1 a2) a3).isSome = true], (ref1_wide_over_out ((ref1_wide_over (GPensionref1_wide.mk a1 a2) a3).getD (zGPensionref1_wide, (0 : Int)))))
  | _ => none
theorem ref1_wide_over_ok : Meets Try.prog 63 ref1_wide_over_C := by
  refine meets_fun (fn := Try.f63) (c := bodyOf Try.f63) (by kernel_rfl) (by kernel_rfl) (by kernel_rfl) (rs := [.cell 4 83, .tmp 5]) (by kernel_rfl) (nt := 26) (by kernel_rfl) fun vs p out h hp => ?_
  unfold ref1_wide_over_C at h
  split at h
  · next a1 a2 a3 =>
    cases h
    obtain ⟨g, hp⟩ := allq hp
    obtain ⟨x, hx⟩ := Option.isSome_iff_exists.1 g
    rw [hx]
    exact ⟨[(.agg [(.c (.lit (.int .u64 (GPensionref1_wide.mk a1 a2).hi))), (.c (.lit (.int .u64 (GPensionref1_wide.mk a1 a2).lo)))]), (.c (.lit (.int .u64 a3)))], (VLes.cons (VLe.rfl' _) (VLes.cons (VLe.rfl' _) VLes.nil)), rfl, z63run (GPensionref1_wide.mk a1 a2) a3 x hx⟩
  · cases h

noncomputable def z47i0 : List Code := items (bodyOf Try.f47)
def ref1_lowest_out (x_1 : (GFraction × Int)) : Out := .data (.tup [(.agg [(i64 x_1.1.Num), (i64 x_1.1.Den)]), (i64 x_1.2)])
def z47R (x_1 : (GFraction × Int)) : St := { tm := [sv 6 (.ptr 0 2 0 0), sv 7 (i64 x_1.2)], hp := [(0, some (.box [(i64 x_1.1.Num), (i64 x_1.1.Den)]))], nx := 1 }
theorem z47Rok (x_1 : (GFraction × Int)) : retK Try.prog [.cell 6 51, .tmp 7] (OutOk (ref1_lowest_out x_1)) .ret (z47R x_1) :=
  retK.intro (v := (.tup [(.agg [(i64 x_1.1.Num), (i64 x_1.1.Den)]), (i64 x_1.2)])) (by kernel_rfl) (VLe.tup (VLes.cons (VLe.rfl' _) (VLes.cons (VLe.rfl' _) (VLes.nil))))
def z47p0S (negative : Bool) (n : GPensionref1_wide) (d_1 : Int) : St := { tm := [sv 0 (bl negative), sv 1 (.ag (eGPensionref1_wide n)), sv 2 (.c (.lit (.int .u64 d_1)))], hp := [], nx := 0 }
noncomputable def ref1_lowest_p0 (negative : Bool) (n : GPensionref1_wide) (d_1 : Int) : Option ((GFraction × Int)) := (ref1_wide_over n d_1).bind fun r_1 => ((ref1_gcd d_1 r_1.2).bind fun r_2 => ((ref1_wide_over n r_2).bind fun r_3 => (gd (r_2 ≠ (0 : Int)) ((bif (bif (bif (r_3.1.hi != (0 : Int)) then true else (decide ((1000000000000000 : Int) < r_3.1.lo))) then true else (decide ((1000000000 : Int) < (IntKind.u64.wrap (Int.tdiv d_1 r_2))))) then (some ((GFraction.mk (0 : Int) (0 : Int)), (2 : Int))) else (bif negative then (some ((GFraction.mk (w64 ((0 : Int) - (w64 r_3.1.lo))) (w64 (IntKind.u64.wrap (Int.tdiv d_1 r_2)))), (0 : Int))) else (some ((GFraction.mk (w64 r_3.1.lo) (w64 (IntKind.u64.wrap (Int.tdiv d_1 r_2)))), (0 : Int)))))))))
theorem z47p0ok (negative : Bool) (n : GPensionref1_wide) (d_1 : Int) (K : KT) (h : W (ref1_lowest_p0 negative n d_1) (rE z47R K)) : EvL Try.prog 55 (List.drop 0 z47i0) K (z47p0S negative n d_1) :=
  EvL.pE mixed (lookC_ok (l := [(62, .pure ref1_gcd_C), (63, .pure ref1_wide_over_C)]) ⟨ref1_gcd_ok, ref1_wide_over_ok, trivial⟩) [6, 7] 0 12 (.nf (X := fun K => ((ref1_wide_over n d_1).isSome = true) ∧ (((ref1_gcd d_1 (((ref1_wide_over n d_1).getD (zGPensionref1_wide, (0 : Int))).2)).isSome = true) ∧ (((ref1_wide_over n ((ref1_gcd d_1 (((ref1_wide_over n d_1).getD (zGPensionref1_wide, (0 : Int))).2)).getD (0 : Int))).isSome = true) ∧ ((((ref1_gcd d_1 (((ref1_wide_over n d_1).getD (zGPensionref1_wide, (0 : Int))).2)).getD (0 : Int)) ≠ (0 : Int)) ∧ ((bif (bif (bif ((((ref1_wide_over n ((ref1_gcd d_1 (((ref1_wide_over n d_1).getD (zGPensionref1_wide, (0 : Int))).2)).getD (0 : Int))).getD (zGPensionref1_wide, (0 : Int))).1).hi != (0 : Int)) then true else (decide ((1000000000000000 : Int) < (((ref1_wide_over n ((ref1_gcd d_1 (((ref1_wide_over n d_1).getD (zGPensionref1_wide, (0 : Int))).2)).getD (0 : Int))).getD (zGPensionref1_wide, (0 : Int))).1).lo))) then true else (decide ((1000000000 : Int) < (IntKind.u64.wrap (Int.tdiv d_1 ((ref1_gcd d_1 (((ref1_wide_over n d_1).getD (zGPensionref1_wide, (0 : Int))).2)).getD (0 : Int))))))) then wK K .ret (z47R ((GFraction.mk (0 : Int) (0 : Int)), (2 : Int))) else (bif negative then wK K .ret (z47R ((GFraction.mk (w64 ((0 : Int) - (w64 (((ref1_wide_over n ((ref1_gcd d_1 (((ref1_wide_over n d_1).getD (zGPensionref1_wide, (0 : Int))).2)).getD (0 : Int))).getD (zGPensionref1_wide, (0 : Int))).1).lo))) (w64 (IntKind.u64.wrap (Int.tdiv d_1 ((ref1_gcd d_1 (((ref1_wide_over n d_1).getD (zGPensionref1_wide, (0 : Int))).2)).getD (0 : Int)))))), (0 : Int))) else wK K .ret (z47R ((GFraction.mk (w64 (((ref1_wide_over n ((ref1_gcd d_1 (((ref1_wide_over n d_1).getD (zGPensionref1_wide, (0 : Int))).2)).getD (0 : Int))).getD (zGPensionref1_wide, (0 : Int))).1).lo) (w64 (IntKind.u64.wrap (Int.tdiv d_1 ((ref1_gcd d_1 (((ref1_wide_over n d_1).getD (zGPensionref1_wide, (0 : Int))).2)).getD (0 : Int)))))), (0 : Int)))))))))) (fun K => by kernel_rfl) (W_bind (zGPensionref1_wide, (0 : Int)) h fun hp0 h => (W_bind (0 : Int) h fun hp1 h => (W_bind (zGPensionref1_wide, (0 : Int)) h fun hp2 h => (W_gd h fun hp3 h => (W_bif h (fun _ h => ⟨_, .refl _, h⟩) (fun _ h => (W_bif h (fun _ h => ⟨_, .refl _, h⟩) (fun _ h => ⟨_, .refl _, h⟩)))))))))
noncomputable def ref1_lowest (negative : Bool) (n : GPensionref1_wide) (d_1 : Int) : Option ((GFraction × Int)) := ref1_lowest_p0 negative n d_1
theorem z47run (negative : Bool) (n : GPensionref1_wide) (d_1 : Int) (y_ : (GFraction × Int)) (h : ref1_lowest negative n d_1 = some y_) : EvL Try.prog 55 (items (bodyOf Try.f47)) (retK Try.prog [.cell 6 51, .tmp 7] (OutOk (ref1_lowest_out y_))) (z47p0S negative n d_1) :=
  z47p0ok negative n d_1 _ (W_iff.2 ⟨y_, h, z47Rok y_⟩)
noncomputable def ref1_lowest_C : Con
  | [(.c (.lit (.bool a1))), (.agg [(.c (.lit (.int .u64 a2))), (.c (.lit (.int .u64 a3)))]), (.c (.lit (.int .u64 a4)))] => some ([(ref1_lowest a1 (GPensionref1_wide.mk a2 a3) a4).isSome = true], (ref1_lowest_out ((ref1_lowest a1 (GPensionref1_wide.mk a2 a3) a4).getD (zGFraction, (0 : Int)))))
  | _ => none
theorem ref1_lowest_ok : Meets Try.prog 47 ref1_lowest_C := by
  refine meets_fun (fn := Try.f47) (c := bodyOf Try.f47) (by kernel_rfl) (by kernel_rfl) (by kernel_rfl) (rs := [.cell 6 51, .tmp 7]) (by kernel_rfl) (nt := 55) (by kernel_rfl) fun vs p out h hp => ?_
  unfold ref1_lowest_C at h
  split at h
  · next a1 a2 a3 a4 =>
    cases h
    obtain ⟨g, hp⟩ := allq hp
    obtain ⟨x, hx⟩ := Option.isSome_iff_exists.1 g
    rw [hx]
    exact ⟨[(bl a1), (.agg [(.c (.lit (.int .u64 (GPensionref1_wide.mk a2 a3).hi))), (.c (.lit (.int .u64 (GPensionref1_wide.mk a2 a3).lo)))]), (.c (.lit (.int .u64 a4)))], (VLes.cons (VLe.rfl' _) (VLes.cons (VLe.rfl' _) (VLes.cons (VLe.rfl' _) VLes.nil))), rfl, z47run a1 (GPensionref1_wide.mk a2 a3) a4 x hx⟩
  · cases h

noncomputable def z49i0 : List Code := items (bodyOf Try.f49)
def ref1_wide_less_out (x_2 : Bool) : Out := .data (bl x_2)
def z49R (x_2 : Bool) : St := { tm := [sv 4 (bl x_2)], hp := [], nx := 0 }
theorem z49Rok (x_2 : Bool) : retK Try.prog [.tmp 4] (OutOk (ref1_wide_less_out x_2)) .ret (z49R x_2) :=
  retK.intro (v := (bl x_2)) (by kernel_rfl) ((VLe.rfl' _))
def z49p0S (w x_1 : GPensionref1_wide) : St := { tm := [sv 0 (.ag (eGPensionref1_wide w)), sv 1 (.ag (eGPensionref1_wide x_1))], hp := [], nx := 0 }
noncomputable def ref1_wide_less_p0 (w x_1 : GPensionref1_wide) : Option (Bool) := (some (bif (decide (w.hi < x_1.hi)) then true else (bif (w.hi == x_1.hi) then (decide (w.lo < x_1.lo)) else false)))
theorem z49p0ok (w x_1 : GPensionref1_wide) (K : KT) (h : W (ref1_wide_less_p0 w x_1) (rE z49R K)) : EvL Try.prog 24 (List.drop 0 z49i0) K (z49p0S w x_1) :=
  EvL.pE mixed (lookC_ok (l := []) trivial) [4] 0 3 (.nf (X := fun K => wK K .ret (z49R (bif (decide (w.hi < x_1.hi)) then true else (bif (w.hi == x_1.hi) then (decide (w.lo < x_1.lo)) else false)))) (fun K => by kernel_rfl) (⟨_, .refl _, h⟩))
noncomputable def ref1_wide_less (w x_1 : GPensionref1_wide) : Option (Bool) := ref1_wide_less_p0 w x_1
theorem z49run (w x_1 : GPensionref1_wide) (y_ : Bool) (h : ref1_wide_less w x_1 = some y_) : EvL Try.prog 24 (items (bodyOf Try.f49)) (retK Try.prog [.tmp 4] (OutOk (ref1_wide_less_out y_))) (z49p0S w x_1) :=
  z49p0ok w x_1 _ (W_iff.2 ⟨y_, h, z49Rok y_⟩)
noncomputable def ref1_wide_less_C : Con
  | [(.agg [(.c (.lit (.int .u64 a1))), (.c (.lit (.int .u64 a2)))]), (.agg [(.c (.lit (.int .u64 a3))), (.c (.lit (.int .u64 a4)))])] => some ([(ref1_wide_less (GPensionref1_wide.mk a1 a2) (GPensionref1_wide.mk a3 a4)).isSome = true], (ref1_wide_less_out ((ref1_wide_less (GPensionref1_wide.mk a1 a2) (GPensionref1_wide.mk a3 a4)).getD false)))
  | _ => none
theorem ref1_wide_less_ok : Meets Try.prog 49 ref1_wide_less_C := by
  refine meets_fun (fn := Try.f49) (c := bodyOf Try.f49) (by kernel_rfl) (by kernel_rfl) (by kernel_rfl) (rs := [.tmp 4]) (by kernel_rfl) (nt := 24) (by kernel_rfl) fun vs p out h hp => ?_
  unfold ref1_wide_less_C at h
  split at h
  · next a1 a2 a3 a4 =>
    cases h
    obtain ⟨g, hp⟩ := allq hp
    obtain ⟨x, hx⟩ := Option.isSome_iff_exists.1 g
    rw [hx]
    exact ⟨[(.agg [(.c (.lit (.int .u64 (GPensionref1_wide.mk a1 a2).hi))), (.c (.lit (.int .u64 (GPensionref1_wide.mk a1 a2).lo)))]), (.agg [(.c (.lit (.int .u64 (GPensionref1_wide.mk a3 a4).hi))), (.c (.lit (.int .u64 (GPensionref1_wide.mk a3 a4).lo)))])], (VLes.cons (VLe.rfl' _) (VLes.cons (VLe.rfl' _) VLes.nil)), rfl, z49run (GPensionref1_wide.mk a1 a2) (GPensionref1_wide.mk a3 a4) x hx⟩
  · cases h


/-- The difference of two words, and the borrow. -/
def sub64Entry : Array Value → Sem Value := fun args => do
  let (x, y, b) ← Extern.MathBitsCarry.three "Sub64" args
  pure (Extern.MathBitsCarry.pair ((x + Extern.MathBitsCarry.m64 - y - b) % Extern.MathBitsCarry.m64) (if x < y + b then 1 else 0))
theorem run_sub64 {P : Program} (x y c : Int) (hx : 0 ≤ x) (hy : 0 ≤ y) (hy2 : y < 18446744073709551616) (hc0 : 0 ≤ c) (hc : c ≤ 1) (w : World) :
    (sub64Entry #[.int .u64 x, .int .u64 y, .int .u64 c]).run P w = .ok (.tuple #[.int .u64 ((x - y - c) % 18446744073709551616), .int .u64 (if x < y + c then 1 else 0)]) w := by
  have key : ∀ k : Nat, k ≤ 1 → (sub64Entry #[.int .u64 x, .int .u64 y, .int .u64 (k : Int)]).run P w =
      .ok (Extern.MathBitsCarry.pair ((x.toNat + Extern.MathBitsCarry.m64 - y.toNat - k) % Extern.MathBitsCarry.m64) (if x.toNat < y.toNat + k then 1 else 0)) w := by
    intro k hk
    have : k = 0 ∨ k = 1 := by omega
    rcases this with rfl | rfl <;> rfl
  obtain ⟨k, rfl⟩ := Int.eq_ofNat_of_zero_le hc0
  rw [key k (by omega)]
  obtain ⟨X, rfl⟩ := Int.eq_ofNat_of_zero_le hx
  obtain ⟨Y, rfl⟩ := Int.eq_ofNat_of_zero_le hy
  simp only [Extern.MathBitsCarry.pair, Extern.MathBitsCarry.m64, Int.toNat_natCast]
  have e1 : Int.ofNat ((X + 2 ^ 64 - Y - k) % 2 ^ 64) = ((X : Int) - (Y : Int) - (k : Int)) % 18446744073709551616 := by
    show (((X + 18446744073709551616 - Y - k) % 18446744073709551616 : Nat) : Int) = _
    omega
  have e2 : Int.ofNat (if X < Y + k then 1 else 0) = (if (X : Int) < (Y : Int) + (k : Int) then (1 : Int) else 0) := by
    by_cases h : X < Y + k
    · rw [if_pos h, if_pos (by omega)]; rfl
    · rw [if_neg h, if_neg (by omega)]; rfl
  rw [e1, e2]
noncomputable def math_bits_Sub64 (x y c : Int) : Option (Int × Int) := gd ((0 : Int) ≤ x ∧ (0 : Int) ≤ y ∧ (0 : Int) ≤ c ∧ c ≤ (1 : Int) ∧ y < (18446744073709551616 : Int)) (some ((x - y - c) % 18446744073709551616, if x < y + c then 1 else 0))
def math_bits_Sub64_out (x_2 : (Int × Int)) : Out := .data (.tup [(.c (.lit (.int .u64 x_2.1))), (.c (.lit (.int .u64 x_2.2)))])
noncomputable def math_bits_Sub64_C : Con
  | [(.c (.lit (.int .u64 a1))), (.c (.lit (.int .u64 a2))), (.c (.lit (.int .u64 a3)))] => some ([(math_bits_Sub64 a1 a2 a3).isSome = true], (math_bits_Sub64_out ((math_bits_Sub64 a1 a2 a3).getD ((0 : Int), (0 : Int)))))
  | _ => none
theorem math_bits_Sub64_ok : Meets Try.prog 65 math_bits_Sub64_C := by
  intro ok w xs vs p out hx hok hcon hp
  unfold math_bits_Sub64_C at hcon
  split at hcon
  · next a b c =>
    cases hcon
    obtain ⟨g, hp⟩ := allq hp
    obtain ⟨r, hr⟩ := Option.isSome_iff_exists.1 g
    have hr' := hr
    unfold math_bits_Sub64 at hr'
    obtain ⟨⟨h1, h2, h3, h4, h5⟩, hq⟩ := gd_some.1 hr'
    cases hq
    rw [hr]
    obtain ⟨x, y, z, rfl⟩ : ∃ x y z, xs = [x, y, z] := by
      have := hx.1
      match xs, this with
      | [x, y, z], _ => exact ⟨x, y, z, rfl⟩
    have e1 := (hx.2 0 x _ rfl rfl).lit_inv
    have e2 := (hx.2 1 y _ rfl rfl).lit_inv
    have e3 := (hx.2 2 z _ rfl rfl).lit_inv
    subst e1 e2 e3
    refine .inr ⟨.tuple #[.int .u64 ((a - b - c) % 18446744073709551616), .int .u64 (if a < b + c then 1 else 0)], w, ?_, .refl _ _, ?_⟩
    · rw [run_callFunc_extern (fn := Try.f65) (e := sub64Entry) (by kernel_rfl) (by kernel_rfl) (by kernel_rfl) (by kernel_rfl) (by kernel_rfl)]
      have := run_sub64 (P := Try.prog) a b c h1 h2 h5 h3 h4 w
      rw [show [Value.int .u64 a, Value.int .u64 b, Value.int .u64 c].toArray = #[Value.int .u64 a, Value.int .u64 b, Value.int .u64 c] from rfl, this]
      rfl
    · refine RepV.tup [Value.int .u64 ((a - b - c) % 18446744073709551616), Value.int .u64 (if a < b + c then 1 else 0)] _ rfl fun i v d hv hd => ?_
      match i with
      | 0 => cases hv; cases hd; exact .c _ _ (.lit _)
      | 1 => cases hv; cases hd; exact .c _ _ (.lit _)
      | i + 2 => cases hv
  · cases hcon

noncomputable def z50i0 : List Code := items (bodyOf Try.f50)
def ref1_wide_minus_out (x_2 : GPensionref1_wide) : Out := .data (.agg [(.c (.lit (.int .u64 x_2.hi))), (.c (.lit (.int .u64 x_2.lo)))])
def z50R (x_2 : GPensionref1_wide) : St := { tm := [sv 4 (.ptr 0 2 0 0)], hp := [(0, some (.box [(.c (.lit (.int .u64 x_2.hi))), (.c (.lit (.int .u64 x_2.lo)))]))], nx := 1 }
theorem z50Rok (x_2 : GPensionref1_wide) : retK Try.prog [.cell 4 83] (OutOk (ref1_wide_minus_out x_2)) .ret (z50R x_2) :=
  retK.intro (v := (.agg [(.c (.lit (.int .u64 x_2.hi))), (.c (.lit (.int .u64 x_2.lo)))])) (by kernel_rfl) ((VLe.rfl' _))
def z50p0S (w x_1 : GPensionref1_wide) : St := { tm := [sv 0 (.ag (eGPensionref1_wide w)), sv 1 (.ag (eGPensionref1_wide x_1))], hp := [], nx := 0 }
noncomputable def ref1_wide_minus_p0 (w x_1 : GPensionref1_wide) : Option (GPensionref1_wide) := (math_bits_Sub64 w.lo x_1.lo (0 : Int)).bind fun r_1 => ((some (GPensionref1_wide.mk (IntKind.u64.wrap ((IntKind.u64.wrap (w.hi - x_1.hi)) - r_1.2)) r_1.1)))
theorem z50p0ok (w x_1 : GPensionref1_wide) (K : KT) (h : W (ref1_wide_minus_p0 w x_1) (rE z50R K)) : EvL Try.prog 24 (List.drop 0 z50i0) K (z50p0S w x_1) :=
  EvL.pE mixed (lookC_ok (l := [(65, .pure math_bits_Sub64_C)]) ⟨math_bits_Sub64_ok, trivial⟩) [4] 0 4 (.nf (X := fun K => ((math_bits_Sub64 w.lo x_1.lo (0 : Int)).isSome = true) ∧ (wK K .ret (z50R (GPensionref1_wide.mk (IntKind.u64.wrap ((IntKind.u64.wrap (w.hi - x_1.hi)) - ((math_bits_Sub64 w.lo x_1.lo (0 : Int)).getD ((0 : Int), (0 : Int))).2)) ((math_bits_Sub64 w.lo x_1.lo (0 : Int)).getD ((0 : Int), (0 : Int))).1)))) (fun K => by kernel_rfl) (W_bind ((0 : Int), (0 : Int)) h fun hp0 h => ⟨_, .refl _, h⟩))
noncomputable def ref1_wide_minus (w x_1 : GPensionref1_wide) : Option (GPensionref1_wide) := ref1_wide_minus_p0 w x_1
theorem z50run (w x_1 : GPensionref1_wide) (y_ : GPensionref1_wide) (h : ref1_wide_minus w x_1 = some y_) : EvL Try.prog 24 (items (bodyOf Try.f50)) (retK Try.prog [.cell 4 83] (OutOk (ref1_wide_minus_out y_))) (z50p0S w x_1) :=
  z50p0ok w x_1 _ (W_iff.2 ⟨y_, h, z50Rok y_⟩)
noncomputable def ref1_wide_minus_C : Con
  | [(.agg [(.c (.lit (.int .u64 a1))), (.c (.lit (.int .u64 a2)))]), (.agg [(.c (.lit (.int .u64 a3))), (.c (.lit (.int .u64 a4)))])] => some ([(ref1_wide_minus (GPensionref1_wide.mk a1 a2) (GPensionref1_wide.mk a3 a4)).isSome = true], (ref1_wide_minus_out ((ref1_wide_minus (GPensionref1_wide.mk a1 a2) (GPensionref1_wide.mk a3 a4)).getD zGPensionref1_wide)))
  | _ => none
theorem ref1_wide_minus_ok : Meets Try.prog 50 ref1_wide_minus_C := by
  refine meets_fun (fn := Try.f50) (c := bodyOf Try.f50) (by kernel_rfl) (by kernel_rfl) (by kernel_rfl) (rs := [.cell 4 83]) (by kernel_rfl) (nt := 24) (by kernel_rfl) fun vs p out h hp => ?_
  unfold ref1_wide_minus_C at h
  split at h
  · next a1 a2 a3 a4 =>
    cases h
    obtain ⟨g, hp⟩ := allq hp
    obtain ⟨x, hx⟩ := Option.isSome_iff_exists.1 g
    rw [hx]
    exact ⟨[(.agg [(.c (.lit (.int .u64 (GPensionref1_wide.mk a1 a2).hi))), (.c (.lit (.int .u64 (GPensionref1_wide.mk a1 a2).lo)))]), (.agg [(.c (.lit (.int .u64 (GPensionref1_wide.mk a3 a4).hi))), (.c (.lit (.int .u64 (GPensionref1_wide.mk a3 a4).lo)))])], (VLes.cons (VLe.rfl' _) (VLes.cons (VLe.rfl' _) VLes.nil)), rfl, z50run (GPensionref1_wide.mk a1 a2) (GPensionref1_wide.mk a3 a4) x hx⟩
  · cases h

end Go.Ax
