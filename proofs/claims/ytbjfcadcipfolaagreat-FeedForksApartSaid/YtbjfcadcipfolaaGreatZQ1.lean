import Derived.Test.YtbjfcadcipfolaaGreatZB13
import Derived.Test.YtbjfcadcipfolaaGreatRows
/- Facts of the program that every row asks. -/
set_option linter.all false
set_option maxRecDepth 100000
namespace Go.Ax
open Go.Proofs Go.Proofs.YtbjfcadcipfolaaGreat
open Go.ChangeShapes Go.WideShapes Go.ChangeAt Go.RowKit
theorem Nv:ownKnob Tryz.prog.godebug = none:=by kernel_rfl
theorem M8:laidOutB Tryz.prog = true:=by kernel_rfl
theorem NG:(Tryz.prog.stops == []) = true:=by kernel_rfl
theorem NX:(Tryz.prog.stopKnobs == []) = true:=by kernel_rfl
end Go.Ax
/- Facts of the program that every row asks. -/
set_option linter.all false
set_option maxRecDepth 100000
namespace Go.Ax
open Go.Proofs Go.Proofs.YtbjfcadcipfolaaGreat
open Go.ChangeShapes Go.WideShapes Go.ChangeAt Go.RowKit
theorem NV:mapsRowed Tryz.prog = true:=by kernel_rfl
theorem NS:Tryz.prog.stopsHeard = true:=by kernel_rfl
end Go.Ax
/- Facts of the program that every row asks. -/
set_option linter.all false
set_option maxRecDepth 100000
namespace Go.Ax
open Go.Proofs Go.Proofs.YtbjfcadcipfolaaGreat
open Go.ChangeShapes Go.WideShapes Go.ChangeAt Go.RowKit
def Nb:List Char:=List.map Char.ofNat [104,97,114,110,101,115,115]
def MM:List Char:=List.map Char.ofNat [49,55,50,100,50,55,48,48,102,51,53,52,101,48,49,51,53,99,100,55,57,101,100,50,101,57,50,54,49,56,99,54,100,53,57,53,55,99,53,98,50,55,99,48,102,48,53,48,56,52,56,97,101,56,55,101,99,51,101,100,54,102,55,53]
def M2:List Char:=List.map Char.ofNat [97,116,32,112,101,110,115,105,111,110,47,112,101,110,115,105,111,110,108,97,119,51,50,46,70,101,101,100,71,101,116,65,103,114,101,101,115,32,112,101,110,115,105,111,110,47,112,101,110,115,105,111,110,108,97,119,51,50,46,70,101,101,100,67,111,117,110,116,115,87,105,116,104,111,117,116,71,97,112,115,32,112,101,110,115,105,111,110,47,112,101,110,115,105,111,110,108,97,119,51,50,46,70,101,101,100,77,105,115,115,105,110,103,65,103,114,101,101,115,32,112,101,110,115,105,111,110,47,112,101,110,115,105,111,110,108,97,119,51,50,46,70,101,101,100,82,101,115,111,108,118,101,115,70,111,114,103,101,114,105,101,115,32,112,101,110,115,105,111,110,47,112,101,110,115,105,111,110,108,97,119,51,50,46,70,101,101,100,82,101,99,111,110,99,105,108,101,115,32,112,101,110,115,105,111,110,47,112,101,110,115,105,111,110,108,97,119,51,50,46,70,101,101,100,65,100,100,65,103,114,101,101,115,32,112,101,110,115,105,111,110,47,112,101,110,115,105,111,110,108,97,119,51,50,46,70,101,101,100,65,100,100,82,101,106,101,99,116,115,32,112,101,110,115,105,111,110,47,112,101,110,115,105,111,110,108,97,119,51,50,46,70,101,101,100,70,97,99,116,115,65,103,114,101,101,32,112,101,110,115,105,111,110,47,112,101,110,115,105,111,110,108,97,119,51,50,46,70,101,101,100,70,111,114,107,115,65,112,97,114,116,32,112,101,110,115,105,111,110,47,112,101,110,115,105,111,110,108,97,119,51,50,46,70,101,101,100,73,103,110,111,114,101,115,79,114,100,101,114]
theorem NM:Tryz.prog.initOrder = String.ofList (Nb++Char.ofNat 32 :: (MM++Char.ofNat 32 :: (ku++Char.ofNat 32 :: M2))):=by kernel_rfl
theorem MU (r:List (List Char)):behindMainWord (Nb :: MM :: r) = r:=by kernel_rfl
theorem Iz:behindMainWord (wordsSigns Tryz.prog.initOrder.toList) = ku :: wordsSigns M2:=by
  rw [NM,String.toList_ofList,wQ _ _ (by kernel_rfl),wQ _ _ (by kernel_rfl),wQ _ _ (by kernel_rfl),MU]
theorem NW:Tryz.prog.mayEnter = true:=Kr Iz (by kernel_rfl) (by kernel_rfl) (by kernel_rfl)
theorem NP:Tryz.prog.liftsFinal = false:=Ly Iz
theorem NR:Tryz.prog.make = some .cut:=L3 Iz
end Go.Ax
