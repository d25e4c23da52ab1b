import Derived.Test.YtkcekbabhmdnhaaQ2
import Derived.Test.YtkcekbabhmdnhaaA5
/- Facts of the program that every row asks. -/
set_option linter.all false
set_option maxRecDepth 100000
namespace Go.Ax
open Go.Proofs Go.Proofs.Ytkcekbabhmdnhaa
open Go.ChangeShapes Go.WideShapes Go.ChangeAt Go.RowKit
def q_w1 : List Char := List.map Char.ofNat [104, 97, 114, 110, 101, 115, 115]
def q_w2 : List Char := List.map Char.ofNat [51, 100, 99, 97, 97, 97, 55, 101, 100, 55, 55, 101, 100, 100, 57, 98, 48, 99, 98, 56, 55, 97, 56, 97, 102, 51, 48, 50, 98, 49, 98, 48, 56, 50, 48, 53, 54, 56, 99, 50, 56, 97, 100, 98, 99, 53, 54, 57, 56, 56, 53, 50, 50, 52, 53, 50, 50, 49, 97, 98, 57, 50, 98, 99]
def q_w4 : List Char := List.map Char.ofNat [97, 116, 32, 112, 101, 110, 115, 105, 111, 110, 47, 112, 101, 110, 115, 105, 111, 110, 108, 97, 119, 49, 56, 46, 84, 111, 116, 97, 108, 115, 67, 111, 109, 112, 117, 116, 101, 32, 112, 101, 110, 115, 105, 111, 110, 47, 112, 101, 110, 115, 105, 111, 110, 108, 97, 119, 49, 56, 46, 84, 111, 116, 97, 108, 115, 70, 114, 97, 99, 116, 105, 111, 110, 115, 32, 112, 101, 110, 115, 105, 111, 110, 47, 112, 101, 110, 115, 105, 111, 110, 108, 97, 119, 49, 56, 46, 84, 111, 116, 97, 108, 115, 83, 117, 109, 115, 32, 112, 101, 110, 115, 105, 111, 110, 47, 112, 101, 110, 115, 105, 111, 110, 108, 97, 119, 49, 56, 46, 84, 111, 116, 97, 108, 115, 71, 114, 111, 119, 32, 112, 101, 110, 115, 105, 111, 110, 47, 112, 101, 110, 115, 105, 111, 110, 108, 97, 119, 49, 56, 46, 84, 111, 116, 97, 108, 115, 65, 100, 100, 85, 112]
theorem q_io : Try.prog.initOrder = String.ofList (q_w1 ++ Char.ofNat 32 :: (q_w2 ++ Char.ofNat 32 :: (cutW ++ Char.ofNat 32 :: q_w4))) := by kernel_rfl
theorem q_main (r : List (List Char)) : behindMainWord (q_w1 :: q_w2 :: r) = r := by kernel_rfl
theorem q_beh : behindMainWord (wordsSigns Try.prog.initOrder.toList) = cutW :: wordsSigns q_w4 := by
  rw [q_io, String.toList_ofList, ws_word _ _ (by kernel_rfl), ws_word _ _ (by kernel_rfl), ws_word _ _ (by kernel_rfl), q_main]
theorem q_c8 : Try.prog.mayEnter = true := enter_mk q_beh (by kernel_rfl) (by kernel_rfl) (by kernel_rfl)
theorem q_c9 : Try.prog.liftsFinal = false := lifts_mk q_beh
theorem q_d1 : Try.prog.make = some .cut := make_mk q_beh
end Go.Ax
