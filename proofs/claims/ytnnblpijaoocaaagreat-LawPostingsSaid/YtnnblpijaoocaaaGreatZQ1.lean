import Derived.Test.YtnnblpijaoocaaaGreatZB13
import Derived.Test.YtnnblpijaoocaaaGreatRows
/- Facts of the program that every row asks. -/
set_option linter.all false
set_option maxRecDepth 100000
namespace Go.Ax
open Go.Proofs Go.Proofs.YtnnblpijaoocaaaGreat
open Go.ChangeShapes Go.WideShapes Go.ChangeAt Go.RowKit
theorem KH:ownKnob Tryz.prog.godebug = none:=by kernel_rfl
theorem JS:laidOutB Tryz.prog = true:=by kernel_rfl
theorem K8:(Tryz.prog.stops == []) = true:=by kernel_rfl
theorem K2:(Tryz.prog.stopKnobs == []) = true:=by kernel_rfl
end Go.Ax
/- Facts of the program that every row asks. -/
set_option linter.all false
set_option maxRecDepth 100000
namespace Go.Ax
open Go.Proofs Go.Proofs.YtnnblpijaoocaaaGreat
open Go.ChangeShapes Go.WideShapes Go.ChangeAt Go.RowKit
theorem Lh:mapsRowed Tryz.prog = true:=by kernel_rfl
theorem Lf:Tryz.prog.stopsHeard = true:=by kernel_rfl
end Go.Ax
/- Facts of the program that every row asks. -/
set_option linter.all false
set_option maxRecDepth 100000
namespace Go.Ax
open Go.Proofs Go.Proofs.YtnnblpijaoocaaaGreat
open Go.ChangeShapes Go.WideShapes Go.ChangeAt Go.RowKit
def JH:List Char:=List.map Char.ofNat [104,97,114,110,101,115,115]
def Kh:List Char:=List.map Char.ofNat [102,54,97,99,52,97,100,55,99,52,53,57,51,48,53,97,54,51,54,97,98,52,50,98,97,55,50,102,54,98,48,48,50,56,102,101,57,55,52,99,102,98,57,51,55,51,98,52,102,49,56,57,100,53,57,56,56,102,55,50,99,50,53,52]
def JL:List Char:=List.map Char.ofNat [97,116,32,112,101,110,115,105,111,110,47,112,101,110,115,105,111,110,108,97,119,49,53,46,76,97,119,80,111,115,116,105,110,103,115,32,112,101,110,115,105,111,110,47,112,101,110,115,105,111,110,108,97,119,49,53,46,76,97,119,80,111,115,116,101,100,32,112,101,110,115,105,111,110,47,112,101,110,115,105,111,110,108,97,119,49,53,46,76,97,119,68,97,121,115,32,112,101,110,115,105,111,110,47,112,101,110,115,105,111,110,108,97,119,49,53,46,76,97,119,82,101,115,105,100,101,110,99,101,32,112,101,110,115,105,111,110,47,112,101,110,115,105,111,110,108,97,119,49,53,46,76,97,119,85,110,100,101,114,32,112,101,110,115,105,111,110,47,112,101,110,115,105,111,110,108,97,119,49,53,46,76,97,119,83,101,103,109,101,110,116,115,32,112,101,110,115,105,111,110,47,112,101,110,115,105,111,110,108,97,119,49,53,46,76,97,119,79,110,99,101,32,112,101,110,115,105,111,110,47,112,101,110,115,105,111,110,108,97,119,49,53,46,76,97,119,65,114,114,105,118,97,108]
theorem KZ:Tryz.prog.initOrder = String.ofList (JH++Char.ofNat 32 :: (Kh++Char.ofNat 32 :: (iI++Char.ofNat 32 :: JL))):=by kernel_rfl
theorem JI (r:List (List Char)):behindMainWord (JH :: Kh :: r) = r:=by kernel_rfl
theorem EK:behindMainWord (wordsSigns Tryz.prog.initOrder.toList) = iI :: wordsSigns JL:=by
  rw [KZ,String.toList_ofList,tq _ _ (by kernel_rfl),tq _ _ (by kernel_rfl),tq _ _ (by kernel_rfl),JI]
theorem Lg:Tryz.prog.mayEnter = true:=GI EK (by kernel_rfl) (by kernel_rfl) (by kernel_rfl)
theorem Li:Tryz.prog.liftsFinal = false:=Ho EK
theorem K4:Tryz.prog.make = some .cut:=IS EK
end Go.Ax
