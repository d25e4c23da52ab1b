import Derived.Test.YtnnblpijaoocaaaGreatXB13
import Derived.Test.YtnnblpijaoocaaaGreatRows
/- Facts of the program that every row asks. -/
set_option linter.all false
set_option maxRecDepth 100000
namespace Go.Ax
open Go.Proofs Go.Proofs.YtnnblpijaoocaaaGreat
open Go.ChangeShapes Go.WideShapes Go.ChangeAt Go.RowKit
theorem S9:ownKnob Tryz.prog.godebug = none:=by kernel_rfl
theorem Py:laidOutB Tryz.prog = true:=by kernel_rfl
theorem Ux:(Tryz.prog.stops == []) = true:=by kernel_rfl
theorem Uy:(Tryz.prog.stopKnobs == []) = true:=by kernel_rfl
end Go.Ax
/- Facts of the program that every row asks. -/
set_option linter.all false
set_option maxRecDepth 100000
namespace Go.Ax
open Go.Proofs Go.Proofs.YtnnblpijaoocaaaGreat
open Go.ChangeShapes Go.WideShapes Go.ChangeAt Go.RowKit
theorem UN:mapsRowed Tryz.prog = true:=by kernel_rfl
theorem Up:Tryz.prog.stopsHeard = true:=by kernel_rfl
end Go.Ax
/- Facts of the program that every row asks. -/
set_option linter.all false
set_option maxRecDepth 100000
namespace Go.Ax
open Go.Proofs Go.Proofs.YtnnblpijaoocaaaGreat
open Go.ChangeShapes Go.WideShapes Go.ChangeAt Go.RowKit
def U0:List Char:=List.map Char.ofNat [104,97,114,110,101,115,115]
def UV:List Char:=List.map Char.ofNat [102,54,97,99,52,97,100,55,99,52,53,57,51,48,53,97,54,51,54,97,98,52,50,98,97,55,50,102,54,98,48,48,50,56,102,101,57,55,52,99,102,98,57,51,55,51,98,52,102,49,56,57,100,53,57,56,56,102,55,50,99,50,53,52]
def Va:List Char:=List.map Char.ofNat [97,116,32,112,101,110,115,105,111,110,47,112,101,110,115,105,111,110,108,97,119,49,53,46,76,97,119,80,111,115,116,105,110,103,115,32,112,101,110,115,105,111,110,47,112,101,110,115,105,111,110,108,97,119,49,53,46,76,97,119,80,111,115,116,101,100,32,112,101,110,115,105,111,110,47,112,101,110,115,105,111,110,108,97,119,49,53,46,76,97,119,68,97,121,115,32,112,101,110,115,105,111,110,47,112,101,110,115,105,111,110,108,97,119,49,53,46,76,97,119,82,101,115,105,100,101,110,99,101,32,112,101,110,115,105,111,110,47,112,101,110,115,105,111,110,108,97,119,49,53,46,76,97,119,85,110,100,101,114,32,112,101,110,115,105,111,110,47,112,101,110,115,105,111,110,108,97,119,49,53,46,76,97,119,83,101,103,109,101,110,116,115,32,112,101,110,115,105,111,110,47,112,101,110,115,105,111,110,108,97,119,49,53,46,76,97,119,79,110,99,101,32,112,101,110,115,105,111,110,47,112,101,110,115,105,111,110,108,97,119,49,53,46,76,97,119,65,114,114,105,118,97,108]
theorem VE:Tryz.prog.initOrder = String.ofList (U0++Char.ofNat 32 :: (UV++Char.ofNat 32 :: (mt++Char.ofNat 32 :: Va))):=by kernel_rfl
theorem Um (r:List (List Char)):behindMainWord (U0 :: UV :: r) = r:=by kernel_rfl
theorem O0:behindMainWord (wordsSigns Tryz.prog.initOrder.toList) = mt :: wordsSigns Va:=by
  rw [VE,String.toList_ofList,BJ _ _ (by kernel_rfl),BJ _ _ (by kernel_rfl),BJ _ _ (by kernel_rfl),Um]
theorem UW:Tryz.prog.mayEnter = true:=RM O0 (by kernel_rfl) (by kernel_rfl) (by kernel_rfl)
theorem UG:Tryz.prog.liftsFinal = false:=SI O0
theorem Uq:Tryz.prog.make = some .cut:=TN O0
end Go.Ax
