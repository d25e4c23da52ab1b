import Derived.Test.YtkijjjdaijjpaaaGreatZQ2
import Derived.Test.YtkijjjdaijjpaaaGreatZA5
/- Facts of the program that every row asks. -/
set_option linter.all false
set_option maxRecDepth 100000
namespace Go.Ax
open Go.Proofs Go.Proofs.YtkijjjdaijjpaaaGreat
open Go.ChangeShapes Go.WideShapes Go.ChangeAt Go.RowKit
def agJ : List Char := List.map Char.ofNat [104,97,114,110,101,115,115]
def ahP : List Char := List.map Char.ofNat [56,101,100,102,101,100,48,100,99,49,51,55,54,102,97,52,57,53,101,100,101,97,49,53,97,54,102,55,55,49,50,53,57,97,56,50,98,98,49,48,57,99,102,50,101,57,101,100,99,98,98,50,102,55,52,102,55,57,55,54,57,99,55,51]
def ahN : List Char := List.map Char.ofNat [97,116,32,112,101,110,115,105,111,110,47,112,101,110,115,105,111,110,108,97,119,50,50,46,67,111,110,118,101,114,115,105,111,110,83,117,114,118,105,118,111,114,115,65,103,114,101,101,32,112,101,110,115,105,111,110,47,112,101,110,115,105,111,110,108,97,119,50,50,46,67,111,110,118,101,114,115,105,111,110,83,117,114,118,105,118,111,114,115,73,103,110,111,114,101,79,114,100,101,114,32,112,101,110,115,105,111,110,47,112,101,110,115,105,111,110,108,97,119,50,50,46,67,111,110,118,101,114,115,105,111,110,83,117,114,118,105,118,111,114,115,65,114,101,86,97,108,105,100]
theorem akO : Tryz.prog.initOrder = String.ofList (agJ ++ Char.ofNat 32 :: (ahP ++ Char.ofNat 32 :: (p6 ++ Char.ofNat 32 :: ahN))) := by kernel_rfl
theorem agk (r : List (List Char)) : behindMainWord (agJ :: ahP :: r) = r := by kernel_rfl
theorem QV : behindMainWord (wordsSigns Tryz.prog.initOrder.toList) = p6 :: wordsSigns ahN := by
  rw [akO,String.toList_ofList,F0 _ _ (by kernel_rfl),F0 _ _ (by kernel_rfl),F0 _ _ (by kernel_rfl),agk]
theorem ak4 : Tryz.prog.mayEnter = true := Wf QV (by kernel_rfl) (by kernel_rfl) (by kernel_rfl)
theorem akS : Tryz.prog.liftsFinal = false := Wn QV
theorem ak0 : Tryz.prog.make = some .cut := acU QV
end Go.Ax
