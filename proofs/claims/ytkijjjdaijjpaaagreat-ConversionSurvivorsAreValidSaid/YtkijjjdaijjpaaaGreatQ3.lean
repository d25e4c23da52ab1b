import Derived.Test.YtkijjjdaijjpaaaGreatQ2
import Derived.Test.YtkijjjdaijjpaaaGreatA5
/- Facts of the program that every row asks. -/
set_option linter.all false
set_option maxRecDepth 100000
namespace Go.Ax
open Go.Proofs Go.Proofs.YtkijjjdaijjpaaaGreat
open Go.ChangeShapes Go.WideShapes Go.ChangeAt Go.RowKit
def q_w1 : List Char := List.map Char.ofNat [104, 97, 114, 110, 101, 115, 115]
def q_w2 : List Char := List.map Char.ofNat [56, 101, 100, 102, 101, 100, 48, 100, 99, 49, 51, 55, 54, 102, 97, 52, 57, 53, 101, 100, 101, 97, 49, 53, 97, 54, 102, 55, 55, 49, 50, 53, 57, 97, 56, 50, 98, 98, 49, 48, 57, 99, 102, 50, 101, 57, 101, 100, 99, 98, 98, 50, 102, 55, 52, 102, 55, 57, 55, 54, 57, 99, 55, 51]
def q_w4 : List Char := List.map Char.ofNat [97, 116, 32, 112, 101, 110, 115, 105, 111, 110, 47, 112, 101, 110, 115, 105, 111, 110, 108, 97, 119, 50, 50, 46, 67, 111, 110, 118, 101, 114, 115, 105, 111, 110, 83, 117, 114, 118, 105, 118, 111, 114, 115, 65, 103, 114, 101, 101, 32, 112, 101, 110, 115, 105, 111, 110, 47, 112, 101, 110, 115, 105, 111, 110, 108, 97, 119, 50, 50, 46, 67, 111, 110, 118, 101, 114, 115, 105, 111, 110, 83, 117, 114, 118, 105, 118, 111, 114, 115, 73, 103, 110, 111, 114, 101, 79, 114, 100, 101, 114, 32, 112, 101, 110, 115, 105, 111, 110, 47, 112, 101, 110, 115, 105, 111, 110, 108, 97, 119, 50, 50, 46, 67, 111, 110, 118, 101, 114, 115, 105, 111, 110, 83, 117, 114, 118, 105, 118, 111, 114, 115, 65, 114, 101, 86, 97, 108, 105, 100]
theorem q_io : Tryz.prog.initOrder = String.ofList (q_w1 ++ Char.ofNat 32 :: (q_w2 ++ Char.ofNat 32 :: (cutW ++ Char.ofNat 32 :: q_w4))) := by kernel_rfl
theorem q_main (r : List (List Char)) : behindMainWord (q_w1 :: q_w2 :: r) = r := by kernel_rfl
theorem q_beh : behindMainWord (wordsSigns Tryz.prog.initOrder.toList) = cutW :: wordsSigns q_w4 := by
  rw [q_io, String.toList_ofList, ws_word _ _ (by kernel_rfl), ws_word _ _ (by kernel_rfl), ws_word _ _ (by kernel_rfl), q_main]
theorem q_c8 : Tryz.prog.mayEnter = true := enter_mk q_beh (by kernel_rfl) (by kernel_rfl) (by kernel_rfl)
theorem q_c9 : Tryz.prog.liftsFinal = false := lifts_mk q_beh
theorem q_d1 : Tryz.prog.make = some .cut := make_mk q_beh
end Go.Ax
