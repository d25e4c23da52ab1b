import Derived.Test.YtnnblpijaoocaaaGreatYB13
import Derived.Test.YtnnblpijaoocaaaGreatRows
/- Facts of the program that every row asks. -/
set_option linter.all false
set_option maxRecDepth 100000
namespace Go.Ax
open Go.Proofs Go.Proofs.YtnnblpijaoocaaaGreat
open Go.ChangeShapes Go.WideShapes Go.ChangeAt Go.RowKit
theorem QS:ownKnob Tryz.prog.godebug = none:=by kernel_rfl
theorem P9:laidOutB Tryz.prog = true:=by kernel_rfl
theorem Ro:(Tryz.prog.stops == []) = true:=by kernel_rfl
theorem Rm:(Tryz.prog.stopKnobs == []) = true:=by kernel_rfl
end Go.Ax
/- Facts of the program that every row asks. -/
set_option linter.all false
set_option maxRecDepth 100000
namespace Go.Ax
open Go.Proofs Go.Proofs.YtnnblpijaoocaaaGreat
open Go.ChangeShapes Go.WideShapes Go.ChangeAt Go.RowKit
theorem Rw:mapsRowed Tryz.prog = true:=by kernel_rfl
theorem RD:Tryz.prog.stopsHeard = true:=by kernel_rfl
end Go.Ax
/- Facts of the program that every row asks. -/
set_option linter.all false
set_option maxRecDepth 100000
namespace Go.Ax
open Go.Proofs Go.Proofs.YtnnblpijaoocaaaGreat
open Go.ChangeShapes Go.WideShapes Go.ChangeAt Go.RowKit
def QJ:List Char:=List.map Char.ofNat [104,97,114,110,101,115,115]
def Qg:List Char:=List.map Char.ofNat [102,54,97,99,52,97,100,55,99,52,53,57,51,48,53,97,54,51,54,97,98,52,50,98,97,55,50,102,54,98,48,48,50,56,102,101,57,55,52,99,102,98,57,51,55,51,98,52,102,49,56,57,100,53,57,56,56,102,55,50,99,50,53,52]
def Qj:List Char:=List.map Char.ofNat [97,116,32,112,101,110,115,105,111,110,47,112,101,110,115,105,111,110,108,97,119,49,53,46,76,97,119,80,111,115,116,105,110,103,115,32,112,101,110,115,105,111,110,47,112,101,110,115,105,111,110,108,97,119,49,53,46,76,97,119,80,111,115,116,101,100,32,112,101,110,115,105,111,110,47,112,101,110,115,105,111,110,108,97,119,49,53,46,76,97,119,68,97,121,115,32,112,101,110,115,105,111,110,47,112,101,110,115,105,111,110,108,97,119,49,53,46,76,97,119,82,101,115,105,100,101,110,99,101,32,112,101,110,115,105,111,110,47,112,101,110,115,105,111,110,108,97,119,49,53,46,76,97,119,85,110,100,101,114,32,112,101,110,115,105,111,110,47,112,101,110,115,105,111,110,108,97,119,49,53,46,76,97,119,83,101,103,109,101,110,116,115,32,112,101,110,115,105,111,110,47,112,101,110,115,105,111,110,108,97,119,49,53,46,76,97,119,79,110,99,101,32,112,101,110,115,105,111,110,47,112,101,110,115,105,111,110,108,97,119,49,53,46,76,97,119,65,114,114,105,118,97,108]
theorem Rl:Tryz.prog.initOrder = String.ofList (QJ++Char.ofNat 32 :: (Qg++Char.ofNat 32 :: (kB++Char.ofNat 32 :: Qj))):=by kernel_rfl
theorem QG (r:List (List Char)):behindMainWord (QJ :: Qg :: r) = r:=by kernel_rfl
theorem Ko:behindMainWord (wordsSigns Tryz.prog.initOrder.toList) = kB :: wordsSigns Qj:=by
  rw [Rl,String.toList_ofList,x8 _ _ (by kernel_rfl),x8 _ _ (by kernel_rfl),x8 _ _ (by kernel_rfl),QG]
theorem Rv:Tryz.prog.mayEnter = true:=Nk Ko (by kernel_rfl) (by kernel_rfl) (by kernel_rfl)
theorem RB:Tryz.prog.liftsFinal = false:=NA Ko
theorem RA:Tryz.prog.make = some .cut:=O7 Ko
end Go.Ax
