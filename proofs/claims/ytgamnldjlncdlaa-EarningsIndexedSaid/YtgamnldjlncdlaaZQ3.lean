import Derived.Test.YtgamnldjlncdlaaZQ2
import Derived.Test.YtgamnldjlncdlaaZA5
/- Facts of the program that every row asks. -/
set_option linter.all false
set_option maxRecDepth 100000
namespace Go.Ax
open Go.Proofs Go.Proofs.Ytgamnldjlncdlaa
open Go.ChangeShapes Go.WideShapes Go.ChangeAt Go.RowKit
def OP : List Char := List.map Char.ofNat [104,97,114,110,101,115,115]
def OL : List Char := List.map Char.ofNat [101,51,54,52,57,54,54,57,48,102,51,52,54,51,52,54,53,97,99,102,99,49,102,99,52,99,52,55,102,100,100,55,101,54,98,99,51,49,50,102,49,98,51,100,102,54,51,99,52,49,99,57,102,57,100,57,48,57,53,99,52,97,57,97]
def N7 : List Char := List.map Char.ofNat [97,116,32,112,101,110,115,105,111,110,47,112,101,110,115,105,111,110,108,97,119,49,57,46,69,97,114,110,105,110,103,115,73,110,100,101,120,101,100]
theorem QA : Try.prog.initOrder = String.ofList (OP ++ Char.ofNat 32 :: (OL ++ Char.ofNat 32 :: (kr ++ Char.ofNat 32 :: N7))) := by kernel_rfl
theorem N2 (r : List (List Char)) : behindMainWord (OP :: OL :: r) = r := by kernel_rfl
theorem Ev : behindMainWord (wordsSigns Try.prog.initOrder.toList) = kr :: wordsSigns N7 := by
  rw [QA,String.toList_ofList,vL _ _ (by kernel_rfl),vL _ _ (by kernel_rfl),vL _ _ (by kernel_rfl),N2]
theorem Qv : Try.prog.mayEnter = true := G7 Ev (by kernel_rfl) (by kernel_rfl) (by kernel_rfl)
theorem QC : Try.prog.liftsFinal = false := G6 Ev
theorem Qy : Try.prog.make = some .cut := JF Ev
end Go.Ax
