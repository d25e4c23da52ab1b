import Derived.Test.YtokecajedkojlaaGreatYQ2
/- Facts of the program that every row asks. -/
set_option linter.all false
set_option maxRecDepth 100000
namespace Go.Ax
open Go.Proofs Go.Proofs.YtokecajedkojlaaGreat
open Go.ChangeShapes Go.WideShapes Go.ChangeAt Go.RowKit
def OJ:List Char:=List.map Char.ofNat [104,97,114,110,101,115,115]
def OI:List Char:=List.map Char.ofNat [99,57,52,99,97,102,48,101,52,101,99,55,50,53,48,99,57,102,56,49,55,101,99,48,57,102,52,102,101,48,50,53,101,51,53,101,53,55,54,102,99,53,55,102,55,57,55,101,56,57,54,51,52,51,54,51,57,98,99,52,55,102,102,100]
def Oy:List Char:=List.map Char.ofNat [97,116,32,112,101,110,115,105,111,110,47,112,101,110,115,105,111,110,108,97,119,49,54,46,67,111,118,101,114,97,103,101,67,108,97,105,109,115,32,112,101,110,115,105,111,110,47,112,101,110,115,105,111,110,108,97,119,49,54,46,67,111,118,101,114,97,103,101,66,101,102,111,114,101,32,112,101,110,115,105,111,110,47,112,101,110,115,105,111,110,108,97,119,49,57,46,69,97,114,110,105,110,103,115,89,101,97,114,115,32,112,101,110,115,105,111,110,47,112,101,110,115,105,111,110,108,97,119,49,57,46,69,97,114,110,105,110,103,115,79,110,99,101]
theorem PC:Tryz.prog.initOrder = String.ofList (OJ++Char.ofNat 32 :: (OI++Char.ofNat 32 :: (kO++Char.ofNat 32 :: Oy))):=by kernel_rfl
theorem OG (r:List (List Char)):behindMainWord (OJ :: OI :: r) = r:=by kernel_rfl
theorem JR:behindMainWord (wordsSigns Tryz.prog.initOrder.toList) = kO :: wordsSigns Oy:=by
  rw [PC,String.toList_ofList,xQ _ _ (by kernel_rfl),xQ _ _ (by kernel_rfl),xQ _ _ (by kernel_rfl),OG]
theorem Py:Tryz.prog.mayEnter = true:=M0 JR (by kernel_rfl) (by kernel_rfl) (by kernel_rfl)
theorem PF:Tryz.prog.liftsFinal = false:=MC JR
theorem PD:Tryz.prog.make = some .cut:=N9 JR
end Go.Ax
