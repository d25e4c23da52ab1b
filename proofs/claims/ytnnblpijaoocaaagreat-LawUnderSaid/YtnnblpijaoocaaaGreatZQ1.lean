import Derived.Test.YtnnblpijaoocaaaGreatZB13
import Derived.Test.YtnnblpijaoocaaaGreatRows
/- Facts of the program that every row asks. -/
set_option linter.all false
set_option maxRecDepth 100000
namespace Go.Ax
open Go.Proofs Go.Proofs.YtnnblpijaoocaaaGreat
open Go.ChangeShapes Go.WideShapes Go.ChangeAt Go.RowKit
theorem N9:ownKnob Tryz.prog.godebug = none:=by kernel_rfl
theorem Nk:laidOutB Tryz.prog = true:=by kernel_rfl
theorem OC:(Tryz.prog.stops == []) = true:=by kernel_rfl
theorem Ou:(Tryz.prog.stopKnobs == []) = true:=by kernel_rfl
end Go.Ax
/- Facts of the program that every row asks. -/
set_option linter.all false
set_option maxRecDepth 100000
namespace Go.Ax
open Go.Proofs Go.Proofs.YtnnblpijaoocaaaGreat
open Go.ChangeShapes Go.WideShapes Go.ChangeAt Go.RowKit
theorem Oz:mapsRowed Tryz.prog = true:=by kernel_rfl
theorem Ov:Tryz.prog.stopsHeard = true:=by kernel_rfl
end Go.Ax
/- Facts of the program that every row asks. -/
set_option linter.all false
set_option maxRecDepth 100000
namespace Go.Ax
open Go.Proofs Go.Proofs.YtnnblpijaoocaaaGreat
open Go.ChangeShapes Go.WideShapes Go.ChangeAt Go.RowKit
def NK:List Char:=List.map Char.ofNat [104,97,114,110,101,115,115]
def Nl:List Char:=List.map Char.ofNat [102,54,97,99,52,97,100,55,99,52,53,57,51,48,53,97,54,51,54,97,98,52,50,98,97,55,50,102,54,98,48,48,50,56,102,101,57,55,52,99,102,98,57,51,55,51,98,52,102,49,56,57,100,53,57,56,56,102,55,50,99,50,53,52]
def Nu:List Char:=List.map Char.ofNat [97,116,32,112,101,110,115,105,111,110,47,112,101,110,115,105,111,110,108,97,119,49,53,46,76,97,119,80,111,115,116,105,110,103,115,32,112,101,110,115,105,111,110,47,112,101,110,115,105,111,110,108,97,119,49,53,46,76,97,119,80,111,115,116,101,100,32,112,101,110,115,105,111,110,47,112,101,110,115,105,111,110,108,97,119,49,53,46,76,97,119,68,97,121,115,32,112,101,110,115,105,111,110,47,112,101,110,115,105,111,110,108,97,119,49,53,46,76,97,119,82,101,115,105,100,101,110,99,101,32,112,101,110,115,105,111,110,47,112,101,110,115,105,111,110,108,97,119,49,53,46,76,97,119,85,110,100,101,114,32,112,101,110,115,105,111,110,47,112,101,110,115,105,111,110,108,97,119,49,53,46,76,97,119,83,101,103,109,101,110,116,115,32,112,101,110,115,105,111,110,47,112,101,110,115,105,111,110,108,97,119,49,53,46,76,97,119,79,110,99,101,32,112,101,110,115,105,111,110,47,112,101,110,115,105,111,110,108,97,119,49,53,46,76,97,119,65,114,114,105,118,97,108]
theorem OB:Tryz.prog.initOrder = String.ofList (NK++Char.ofNat 32 :: (Nl++Char.ofNat 32 :: (kc++Char.ofNat 32 :: Nu))):=by kernel_rfl
theorem NQ (r:List (List Char)):behindMainWord (NK :: Nl :: r) = r:=by kernel_rfl
theorem Jj:behindMainWord (wordsSigns Tryz.prog.initOrder.toList) = kc :: wordsSigns Nu:=by
  rw [OB,String.toList_ofList,wM _ _ (by kernel_rfl),wM _ _ (by kernel_rfl),wM _ _ (by kernel_rfl),NQ]
theorem Ot:Tryz.prog.mayEnter = true:=Mo Jj (by kernel_rfl) (by kernel_rfl) (by kernel_rfl)
theorem OA:Tryz.prog.liftsFinal = false:=L7 Jj
theorem Oo:Tryz.prog.make = some .cut:=M0 Jj
end Go.Ax
