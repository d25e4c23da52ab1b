import Derived.Test.YtnnblpijaoocaaaGreatZB13
import Derived.Test.YtnnblpijaoocaaaGreatRows
/- Facts of the program that every row asks. -/
set_option linter.all false
set_option maxRecDepth 100000
namespace Go.Ax
open Go.Proofs Go.Proofs.YtnnblpijaoocaaaGreat
open Go.ChangeShapes Go.WideShapes Go.ChangeAt Go.RowKit
theorem RL:ownKnob Tryz.prog.godebug = none:=by kernel_rfl
theorem Ng:laidOutB Tryz.prog = true:=by kernel_rfl
theorem SX:(Tryz.prog.stops == []) = true:=by kernel_rfl
theorem SV:(Tryz.prog.stopKnobs == []) = true:=by kernel_rfl
end Go.Ax
/- Facts of the program that every row asks. -/
set_option linter.all false
set_option maxRecDepth 100000
namespace Go.Ax
open Go.Proofs Go.Proofs.YtnnblpijaoocaaaGreat
open Go.ChangeShapes Go.WideShapes Go.ChangeAt Go.RowKit
theorem S8:mapsRowed Tryz.prog = true:=by kernel_rfl
theorem Th:Tryz.prog.stopsHeard = true:=by kernel_rfl
end Go.Ax
/- Facts of the program that every row asks. -/
set_option linter.all false
set_option maxRecDepth 100000
namespace Go.Ax
open Go.Proofs Go.Proofs.YtnnblpijaoocaaaGreat
open Go.ChangeShapes Go.WideShapes Go.ChangeAt Go.RowKit
def TD:List Char:=List.map Char.ofNat [104,97,114,110,101,115,115]
def S2:List Char:=List.map Char.ofNat [102,54,97,99,52,97,100,55,99,52,53,57,51,48,53,97,54,51,54,97,98,52,50,98,97,55,50,102,54,98,48,48,50,56,102,101,57,55,52,99,102,98,57,51,55,51,98,52,102,49,56,57,100,53,57,56,56,102,55,50,99,50,53,52]
def Tr:List Char:=List.map Char.ofNat [97,116,32,112,101,110,115,105,111,110,47,112,101,110,115,105,111,110,108,97,119,49,53,46,76,97,119,80,111,115,116,105,110,103,115,32,112,101,110,115,105,111,110,47,112,101,110,115,105,111,110,108,97,119,49,53,46,76,97,119,80,111,115,116,101,100,32,112,101,110,115,105,111,110,47,112,101,110,115,105,111,110,108,97,119,49,53,46,76,97,119,68,97,121,115,32,112,101,110,115,105,111,110,47,112,101,110,115,105,111,110,108,97,119,49,53,46,76,97,119,82,101,115,105,100,101,110,99,101,32,112,101,110,115,105,111,110,47,112,101,110,115,105,111,110,108,97,119,49,53,46,76,97,119,85,110,100,101,114,32,112,101,110,115,105,111,110,47,112,101,110,115,105,111,110,108,97,119,49,53,46,76,97,119,83,101,103,109,101,110,116,115,32,112,101,110,115,105,111,110,47,112,101,110,115,105,111,110,108,97,119,49,53,46,76,97,119,79,110,99,101,32,112,101,110,115,105,111,110,47,112,101,110,115,105,111,110,108,97,119,49,53,46,76,97,119,65,114,114,105,118,97,108]
theorem Ul:Tryz.prog.initOrder = String.ofList (TD++Char.ofNat 32 :: (S2++Char.ofNat 32 :: (lU++Char.ofNat 32 :: Tr))):=by kernel_rfl
theorem TG (r:List (List Char)):behindMainWord (TD :: S2 :: r) = r:=by kernel_rfl
theorem Nk:behindMainWord (wordsSigns Tryz.prog.initOrder.toList) = lU :: wordsSigns Tr:=by
  rw [Ul,String.toList_ofList,AK _ _ (by kernel_rfl),AK _ _ (by kernel_rfl),AK _ _ (by kernel_rfl),TG]
theorem Tl:Tryz.prog.mayEnter = true:=Rp Nk (by kernel_rfl) (by kernel_rfl) (by kernel_rfl)
theorem S5:Tryz.prog.liftsFinal = false:=QI Nk
theorem SR:Tryz.prog.make = some .cut:=SH Nk
end Go.Ax
