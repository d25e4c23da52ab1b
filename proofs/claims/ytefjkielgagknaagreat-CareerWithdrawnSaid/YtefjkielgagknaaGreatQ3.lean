import Derived.Test.YtefjkielgagknaaGreatQ2
import Derived.Test.YtefjkielgagknaaGreatA5
/- Facts of the program that every row asks. -/
set_option linter.all false
set_option maxRecDepth 100000
namespace Go.Ax
open Go.Proofs Go.Proofs.YtefjkielgagknaaGreat
open Go.ChangeShapes Go.WideShapes Go.ChangeAt Go.RowKit
def q_w1 : List Char := List.map Char.ofNat [104, 97, 114, 110, 101, 115, 115]
def q_w2 : List Char := List.map Char.ofNat [52, 101, 53, 57, 99, 52, 49, 56, 99, 101, 53, 52, 54, 48, 102, 55, 50, 48, 102, 100, 56, 51, 53, 48, 57, 102, 102, 56, 53, 100, 102, 48, 57, 57, 50, 99, 97, 101, 57, 99, 99, 53, 54, 97, 55, 98, 53, 52, 54, 97, 50, 101, 98, 54, 52, 51, 102, 102, 50, 52, 55, 54, 54, 50]
def q_w4 : List Char := List.map Char.ofNat [97, 116, 32, 112, 101, 110, 115, 105, 111, 110, 47, 112, 101, 110, 115, 105, 111, 110, 108, 97, 119, 49, 51, 46, 67, 97, 114, 101, 101, 114, 83, 112, 97, 110, 115, 32, 112, 101, 110, 115, 105, 111, 110, 47, 112, 101, 110, 115, 105, 111, 110, 108, 97, 119, 49, 51, 46, 67, 97, 114, 101, 101, 114, 87, 105, 116, 104, 100, 114, 97, 119, 110]
theorem q_io : Tryz.prog.initOrder = String.ofList (q_w1 ++ Char.ofNat 32 :: (q_w2 ++ Char.ofNat 32 :: (cutW ++ Char.ofNat 32 :: q_w4))) := by kernel_rfl
theorem q_main (r : List (List Char)) : behindMainWord (q_w1 :: q_w2 :: r) = r := by kernel_rfl
theorem q_beh : behindMainWord (wordsSigns Tryz.prog.initOrder.toList) = cutW :: wordsSigns q_w4 := by
  rw [q_io, String.toList_ofList, ws_word _ _ (by kernel_rfl), ws_word _ _ (by kernel_rfl), ws_word _ _ (by kernel_rfl), q_main]
theorem q_c8 : Tryz.prog.mayEnter = true := enter_mk q_beh (by kernel_rfl) (by kernel_rfl) (by kernel_rfl)
theorem q_c9 : Tryz.prog.liftsFinal = false := lifts_mk q_beh
theorem q_d1 : Tryz.prog.make = some .cut := make_mk q_beh
end Go.Ax
