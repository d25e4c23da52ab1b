import Derived.Test.YtefjkielgagknaaQ2
import Derived.Test.YtefjkielgagknaaA5
/- Facts of the program that every row asks. -/
set_option linter.all false
set_option maxRecDepth 100000
namespace Go.Ax
open Go.Proofs Go.Proofs.Ytefjkielgagknaa
open Go.ChangeShapes Go.WideShapes Go.ChangeAt Go.RowKit
def q_w1 : List Char := List.map Char.ofNat [104, 97, 114, 110, 101, 115, 115]
def q_w2 : List Char := List.map Char.ofNat [97, 98, 54, 56, 50, 52, 97, 57, 53, 57, 51, 52, 55, 51, 50, 55, 98, 51, 48, 99, 101, 48, 49, 53, 50, 49, 50, 52, 57, 53, 48, 50, 98, 99, 54, 97, 98, 51, 98, 102, 48, 102, 55, 51, 97, 51, 99, 100, 56, 99, 50, 48, 55, 101, 51, 49, 55, 56, 51, 48, 97, 99, 54, 100]
def q_w4 : List Char := List.map Char.ofNat [97, 116, 32, 112, 101, 110, 115, 105, 111, 110, 47, 112, 101, 110, 115, 105, 111, 110, 108, 97, 119, 49, 51, 46, 67, 97, 114, 101, 101, 114, 70, 97, 109, 105, 108, 121]
theorem q_io : Try.prog.initOrder = String.ofList (q_w1 ++ Char.ofNat 32 :: (q_w2 ++ Char.ofNat 32 :: (cutW ++ Char.ofNat 32 :: q_w4))) := by kernel_rfl
theorem q_main (r : List (List Char)) : behindMainWord (q_w1 :: q_w2 :: r) = r := by kernel_rfl
theorem q_beh : behindMainWord (wordsSigns Try.prog.initOrder.toList) = cutW :: wordsSigns q_w4 := by
  rw [q_io, String.toList_ofList, ws_word _ _ (by kernel_rfl), ws_word _ _ (by kernel_rfl), ws_word _ _ (by kernel_rfl), q_main]
theorem q_c8 : Try.prog.mayEnter = true := enter_mk q_beh (by kernel_rfl) (by kernel_rfl) (by kernel_rfl)
theorem q_c9 : Try.prog.liftsFinal = false := lifts_mk q_beh
theorem q_d1 : Try.prog.make = some .cut := make_mk q_beh
end Go.Ax
