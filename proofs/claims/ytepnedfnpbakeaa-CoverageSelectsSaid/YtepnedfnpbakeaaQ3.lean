import Derived.Test.YtepnedfnpbakeaaQ2
import Derived.Test.YtepnedfnpbakeaaA5
/- Facts of the program that every row asks. -/
set_option linter.all false
set_option maxRecDepth 100000
namespace Go.Ax
open Go.Proofs Go.Proofs.Ytepnedfnpbakeaa
open Go.ChangeShapes Go.WideShapes Go.ChangeAt Go.RowKit
def q_w1 : List Char := List.map Char.ofNat [104, 97, 114, 110, 101, 115, 115]
def q_w2 : List Char := List.map Char.ofNat [48, 49, 100, 49, 49, 102, 100, 48, 54, 102, 50, 53, 48, 50, 102, 53, 99, 55, 100, 50, 53, 54, 57, 100, 101, 53, 102, 49, 98, 53, 49, 56, 50, 53, 97, 53, 54, 51, 51, 54, 50, 57, 56, 100, 51, 50, 55, 57, 49, 54, 55, 48, 97, 102, 49, 51, 51, 100, 57, 48, 56, 101, 100, 50]
def q_w4 : List Char := List.map Char.ofNat [97, 116, 32, 112, 101, 110, 115, 105, 111, 110, 47, 112, 101, 110, 115, 105, 111, 110, 108, 97, 119, 49, 54, 46, 67, 111, 118, 101, 114, 97, 103, 101, 82, 97, 110, 107, 115, 32, 112, 101, 110, 115, 105, 111, 110, 47, 112, 101, 110, 115, 105, 111, 110, 108, 97, 119, 49, 54, 46, 67, 111, 118, 101, 114, 97, 103, 101, 83, 101, 108, 101, 99, 116, 115]
theorem q_io : Try.prog.initOrder = String.ofList (q_w1 ++ Char.ofNat 32 :: (q_w2 ++ Char.ofNat 32 :: (cutW ++ Char.ofNat 32 :: q_w4))) := by kernel_rfl
theorem q_main (r : List (List Char)) : behindMainWord (q_w1 :: q_w2 :: r) = r := by kernel_rfl
theorem q_beh : behindMainWord (wordsSigns Try.prog.initOrder.toList) = cutW :: wordsSigns q_w4 := by
  rw [q_io, String.toList_ofList, ws_word _ _ (by kernel_rfl), ws_word _ _ (by kernel_rfl), ws_word _ _ (by kernel_rfl), q_main]
theorem q_c8 : Try.prog.mayEnter = true := enter_mk q_beh (by kernel_rfl) (by kernel_rfl) (by kernel_rfl)
theorem q_c9 : Try.prog.liftsFinal = false := lifts_mk q_beh
theorem q_d1 : Try.prog.make = some .cut := make_mk q_beh
end Go.Ax
