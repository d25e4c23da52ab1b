import Derived.Test.YtokecajedkojlaaGreatZB13
import Derived.Test.YtokecajedkojlaaGreatRows
/- Facts of the program that every row asks. -/
set_option linter.all false
set_option maxRecDepth 100000
namespace Go.Ax
open Go.Proofs Go.Proofs.YtokecajedkojlaaGreat
open Go.ChangeShapes Go.WideShapes Go.ChangeAt Go.RowKit
theorem WW:ownKnob Tryz.prog.godebug = none:=by kernel_rfl
theorem Wr:laidOutB Tryz.prog = true:=by kernel_rfl
theorem Xk:(Tryz.prog.stops == []) = true:=by kernel_rfl
theorem Xg:(Tryz.prog.stopKnobs == []) = true:=by kernel_rfl
end Go.Ax
/- Facts of the program that every row asks. -/
set_option linter.all false
set_option maxRecDepth 100000
namespace Go.Ax
open Go.Proofs Go.Proofs.YtokecajedkojlaaGreat
open Go.ChangeShapes Go.WideShapes Go.ChangeAt Go.RowKit
theorem Xj:mapsRowed Tryz.prog = true:=by kernel_rfl
theorem Xe:Tryz.prog.stopsHeard = true:=by kernel_rfl
end Go.Ax
/- Facts of the program that every row asks. -/
set_option linter.all false
set_option maxRecDepth 100000
namespace Go.Ax
open Go.Proofs Go.Proofs.YtokecajedkojlaaGreat
open Go.ChangeShapes Go.WideShapes Go.ChangeAt Go.RowKit
def Wi:List Char:=List.map Char.ofNat [104,97,114,110,101,115,115]
def V8:List Char:=List.map Char.ofNat [99,57,52,99,97,102,48,101,52,101,99,55,50,53,48,99,57,102,56,49,55,101,99,48,57,102,52,102,101,48,50,53,101,51,53,101,53,55,54,102,99,53,55,102,55,57,55,101,56,57,54,51,52,51,54,51,57,98,99,52,55,102,102,100]
def We:List Char:=List.map Char.ofNat [97,116,32,112,101,110,115,105,111,110,47,112,101,110,115,105,111,110,108,97,119,49,54,46,67,111,118,101,114,97,103,101,67,108,97,105,109,115,32,112,101,110,115,105,111,110,47,112,101,110,115,105,111,110,108,97,119,49,54,46,67,111,118,101,114,97,103,101,66,101,102,111,114,101,32,112,101,110,115,105,111,110,47,112,101,110,115,105,111,110,108,97,119,49,57,46,69,97,114,110,105,110,103,115,89,101,97,114,115,32,112,101,110,115,105,111,110,47,112,101,110,115,105,111,110,108,97,119,49,57,46,69,97,114,110,105,110,103,115,79,110,99,101]
theorem Xh:Tryz.prog.initOrder = String.ofList (Wi++Char.ofNat 32 :: (V8++Char.ofNat 32 :: (m6++Char.ofNat 32 :: We))):=by kernel_rfl
theorem WE (r:List (List Char)):behindMainWord (Wi :: V8 :: r) = r:=by kernel_rfl
theorem Rk:behindMainWord (wordsSigns Tryz.prog.initOrder.toList) = m6 :: wordsSigns We:=by
  rw [Xh,String.toList_ofList,CJ _ _ (by kernel_rfl),CJ _ _ (by kernel_rfl),CJ _ _ (by kernel_rfl),WE]
theorem W7:Tryz.prog.mayEnter = true:=UH Rk (by kernel_rfl) (by kernel_rfl) (by kernel_rfl)
theorem Xb:Tryz.prog.liftsFinal = false:=Ux Rk
theorem W9:Tryz.prog.make = some .cut:=VB Rk
end Go.Ax
