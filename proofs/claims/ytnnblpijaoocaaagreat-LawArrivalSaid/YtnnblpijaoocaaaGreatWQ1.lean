import Derived.Test.YtnnblpijaoocaaaGreatWB13
import Derived.Test.YtnnblpijaoocaaaGreatRows
/- Facts of the program that every row asks. -/
set_option linter.all false
set_option maxRecDepth 100000
namespace Go.Ax
open Go.Proofs Go.Proofs.YtnnblpijaoocaaaGreat
open Go.ChangeShapes Go.WideShapes Go.ChangeAt Go.RowKit
theorem Ro:ownKnob Tryz.prog.godebug = none:=by kernel_rfl
theorem QM:laidOutB Tryz.prog = true:=by kernel_rfl
theorem R0:(Tryz.prog.stops == []) = true:=by kernel_rfl
theorem RW:(Tryz.prog.stopKnobs == []) = true:=by kernel_rfl
end Go.Ax
/- Facts of the program that every row asks. -/
set_option linter.all false
set_option maxRecDepth 100000
namespace Go.Ax
open Go.Proofs Go.Proofs.YtnnblpijaoocaaaGreat
open Go.ChangeShapes Go.WideShapes Go.ChangeAt Go.RowKit
theorem Sh:mapsRowed Tryz.prog = true:=by kernel_rfl
theorem Sc:Tryz.prog.stopsHeard = true:=by kernel_rfl
end Go.Ax
/- Facts of the program that every row asks. -/
set_option linter.all false
set_option maxRecDepth 100000
namespace Go.Ax
open Go.Proofs Go.Proofs.YtnnblpijaoocaaaGreat
open Go.ChangeShapes Go.WideShapes Go.ChangeAt Go.RowKit
def QQ:List Char:=List.map Char.ofNat [104,97,114,110,101,115,115]
def QN:List Char:=List.map Char.ofNat [102,54,97,99,52,97,100,55,99,52,53,57,51,48,53,97,54,51,54,97,98,52,50,98,97,55,50,102,54,98,48,48,50,56,102,101,57,55,52,99,102,98,57,51,55,51,98,52,102,49,56,57,100,53,57,56,56,102,55,50,99,50,53,52]
def Rj:List Char:=List.map Char.ofNat [97,116,32,112,101,110,115,105,111,110,47,112,101,110,115,105,111,110,108,97,119,49,53,46,76,97,119,80,111,115,116,105,110,103,115,32,112,101,110,115,105,111,110,47,112,101,110,115,105,111,110,108,97,119,49,53,46,76,97,119,80,111,115,116,101,100,32,112,101,110,115,105,111,110,47,112,101,110,115,105,111,110,108,97,119,49,53,46,76,97,119,68,97,121,115,32,112,101,110,115,105,111,110,47,112,101,110,115,105,111,110,108,97,119,49,53,46,76,97,119,82,101,115,105,100,101,110,99,101,32,112,101,110,115,105,111,110,47,112,101,110,115,105,111,110,108,97,119,49,53,46,76,97,119,85,110,100,101,114,32,112,101,110,115,105,111,110,47,112,101,110,115,105,111,110,108,97,119,49,53,46,76,97,119,83,101,103,109,101,110,116,115,32,112,101,110,115,105,111,110,47,112,101,110,115,105,111,110,108,97,119,49,53,46,76,97,119,79,110,99,101,32,112,101,110,115,105,111,110,47,112,101,110,115,105,111,110,108,97,119,49,53,46,76,97,119,65,114,114,105,118,97,108]
theorem Sg:Tryz.prog.initOrder = String.ofList (QQ++Char.ofNat 32 :: (QN++Char.ofNat 32 :: (lg++Char.ofNat 32 :: Rj))):=by kernel_rfl
theorem QV (r:List (List Char)):behindMainWord (QQ :: QN :: r) = r:=by kernel_rfl
theorem KT:behindMainWord (wordsSigns Tryz.prog.initOrder.toList) = lg :: wordsSigns Rj:=by
  rw [Sg,String.toList_ofList,zb _ _ (by kernel_rfl),zb _ _ (by kernel_rfl),zb _ _ (by kernel_rfl),QV]
theorem R8:Tryz.prog.mayEnter = true:=N1 KT (by kernel_rfl) (by kernel_rfl) (by kernel_rfl)
theorem R5:Tryz.prog.liftsFinal = false:=N0 KT
theorem Se:Tryz.prog.make = some .cut:=Qi KT
end Go.Ax
