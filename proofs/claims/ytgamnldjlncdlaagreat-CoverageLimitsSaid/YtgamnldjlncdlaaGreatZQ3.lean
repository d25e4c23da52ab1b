import Derived.Test.YtgamnldjlncdlaaGreatZQ2
import Derived.Test.YtgamnldjlncdlaaGreatZA5
/- Facts of the program that every row asks. -/
set_option linter.all false
set_option maxRecDepth 100000
namespace Go.Ax
open Go.Proofs Go.Proofs.YtgamnldjlncdlaaGreat
open Go.ChangeShapes Go.WideShapes Go.ChangeAt Go.RowKit
def aim:List Char:=List.map Char.ofNat [104,97,114,110,101,115,115]
def alI:List Char:=List.map Char.ofNat [102,97,54,54,97,49,100,50,97,101,56,55,99,57,97,50,100,97,57,51,100,49,99,52,98,98,53,102,99,51,101,53,52,52,99,53,48,52,56,97,100,101,55,55,56,53,55,50,48,55,100,97,97,102,48,50,101,48,100,97,100,55,56,99]
def ajg:List Char:=List.map Char.ofNat [97,116,32,112,101,110,115,105,111,110,47,112,101,110,115,105,111,110,108,97,119,49,54,46,67,111,118,101,114,97,103,101,82,97,119,32,112,101,110,115,105,111,110,47,112,101,110,115,105,111,110,108,97,119,49,54,46,67,111,118,101,114,97,103,101,76,105,109,105,116,115]
theorem anY:Tryz.prog.initOrder = String.ofList (aim++Char.ofNat 32 :: (alI++Char.ofNat 32 :: (pA++Char.ofNat 32 :: ajg))):=by kernel_rfl
theorem akh (r:List (List Char)):behindMainWord (aim :: alI :: r) = r:=by kernel_rfl
theorem Sl:behindMainWord (wordsSigns Tryz.prog.initOrder.toList) = pA :: wordsSigns ajg:=by
  rw [anY,String.toList_ofList,Hc _ _ (by kernel_rfl),Hc _ _ (by kernel_rfl),Hc _ _ (by kernel_rfl),akh]
theorem an3:Tryz.prog.mayEnter = true:=Yw Sl (by kernel_rfl) (by kernel_rfl) (by kernel_rfl)
theorem aon:Tryz.prog.liftsFinal = false:=XO Sl
theorem aoI:Tryz.prog.make = some .cut:=adr Sl
end Go.Ax
