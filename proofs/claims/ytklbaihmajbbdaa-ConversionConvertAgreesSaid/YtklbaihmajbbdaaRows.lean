/-
  No cell of these rows narrows 'for every input' (looked for: loops, veiled, ifaces, maps, wideKeys, modest, calm, conditions, laid).
  DERIVED. THE GIVEN ROWS OF THIS SEAT. 11 by the template 'for every input the law returns true; each argument reads behind the call as it read before'; 0 by the template 'total and deterministic' (their statements: YtklbaihmajbbdaaTotals.lean).
  GIVEN WITH THE SEED: the statements are not yours to turn. If you find one false, say at which input.
  Laid BY PROGRAM, IN A SANDBOX (cutbox-rows.mjs): the forced cells as the released guide's own fill.sh prints them over the translation a31eddd7361f490d… (all of the seat's roots in one cut). By AI agents, Wed Nov 11 2026. No macro, syntax, notation, axiom, sorry.
-/
import Derived.Test.YtklbaihmajbbdaaChecked
import GoSem.Claim
import GoSem.ClaimJoined
import GoSem.ClaimMapViews
import Derived.JoinedTies
import Derived.KernelRfl
namespace Go.Proofs.Ytklbaihmajbbdaa
/- THE CELL 'sum', in the pinned program and in every row, IS THE sha256 OF THE DUMP (.gsa) THAT YtklbaihmajbbdaaProg.lean LOADS. Nothing in Lean hashes anything: it is a label: what it is worth is what the hold of that sum in a sandbox is worth. -/
noncomputable def Try.pinned : Pinned := { name := "ytklbaihmajbbdaa", sum := "a31eddd7361f490dfd691cebb1c93bedb79b92413c106535a677e9b0493234b6", checked := Try.checked }
namespace Rows
def none {H : Type} : Left H := { results := [], args := [] }

/-- 'pensionlaw22.ConversionConvertAgrees': WHATEVER THE INPUT: true; the input reads as it did. -/
def conversionConvertAgreesSpec : ChangeSpec := { name := "conversionConvertAgrees", fn := fun _ => fun
  | [d1, d2] => { results := [.lit (.bool true)], args := [d1, d2] }
  | _ => none }
def conversionConvertAgreesRow : OpenClaim := { program := "ytklbaihmajbbdaa", sum := "a31eddd7361f490dfd691cebb1c93bedb79b92413c106535a677e9b0493234b6", func := "pension/pensionlaw22.ConversionConvertAgrees", spec := "conversionConvertAgrees", inPlace := ["slices.overlaps[pension/conversion.remainder]"], unfollowed := true, recurses := true, apart := false }
def ConversionConvertAgreesSaid : Prop := conversionConvertAgreesRow.holds Try.pinned (OpenSpec.ofChange conversionConvertAgreesSpec)

/-- ITS FALSE NEIGHBOUR: 'it returns false'. Refute it at one input. -/
def conversionConvertAgreesWrong : ChangeSpec := { name := "conversionConvertAgrees", fn := fun _ => fun
  | [d1, d2] => { results := [.lit (.bool false)], args := [d1, d2] }
  | _ => none }
def ConversionConvertAgreesWrongFalsely : Prop := conversionConvertAgreesRow.holds Try.pinned (OpenSpec.ofChange conversionConvertAgreesWrong)

/-- 'pensionlaw22.ConversionLeavesNoPair': WHATEVER THE INPUT: true; the input reads as it did. -/
def conversionLeavesNoPairSpec : ChangeSpec := { name := "conversionLeavesNoPair", fn := fun _ => fun
  | [d] => { results := [.lit (.bool true)], args := [d] }
  | _ => none }
def conversionLeavesNoPairRow : OpenClaim := { program := "ytklbaihmajbbdaa", sum := "a31eddd7361f490dfd691cebb1c93bedb79b92413c106535a677e9b0493234b6", func := "pension/pensionlaw22.ConversionLeavesNoPair", spec := "conversionLeavesNoPair", inPlace := ["slices.overlaps[pension/conversion.remainder]"], unfollowed := true, recurses := true, apart := false }
def ConversionLeavesNoPairSaid : Prop := conversionLeavesNoPairRow.holds Try.pinned (OpenSpec.ofChange conversionLeavesNoPairSpec)

/-- ITS FALSE NEIGHBOUR: 'it returns false'. Refute it at one input. -/
def conversionLeavesNoPairWrong : ChangeSpec := { name := "conversionLeavesNoPair", fn := fun _ => fun
  | [d] => { results := [.lit (.bool false)], args := [d] }
  | _ => none }
def ConversionLeavesNoPairWrongFalsely : Prop := conversionLeavesNoPairRow.holds Try.pinned (OpenSpec.ofChange conversionLeavesNoPairWrong)

/-- 'pensionlaw22.ConversionIsIdempotent': WHATEVER THE INPUT: true; the input reads as it did. -/
def conversionIsIdempotentSpec : ChangeSpec := { name := "conversionIsIdempotent", fn := fun _ => fun
  | [d] => { results := [.lit (.bool true)], args := [d] }
  | _ => none }
def conversionIsIdempotentRow : OpenClaim := { program := "ytklbaihmajbbdaa", sum := "a31eddd7361f490dfd691cebb1c93bedb79b92413c106535a677e9b0493234b6", func := "pension/pensionlaw22.ConversionIsIdempotent", spec := "conversionIsIdempotent", inPlace := ["slices.overlaps[pension/conversion.remainder]"], unfollowed := true, recurses := true, apart := false }
def ConversionIsIdempotentSaid : Prop := conversionIsIdempotentRow.holds Try.pinned (OpenSpec.ofChange conversionIsIdempotentSpec)

/-- ITS FALSE NEIGHBOUR: 'it returns false'. Refute it at one input. -/
def conversionIsIdempotentWrong : ChangeSpec := { name := "conversionIsIdempotent", fn := fun _ => fun
  | [d] => { results := [.lit (.bool false)], args := [d] }
  | _ => none }
def ConversionIsIdempotentWrongFalsely : Prop := conversionIsIdempotentRow.holds Try.pinned (OpenSpec.ofChange conversionIsIdempotentWrong)

/-- 'pensionlaw22.ConversionSharesReject': WHATEVER THE INPUT: true; the input reads as it did. -/
def conversionSharesRejectSpec : ChangeSpec := { name := "conversionSharesReject", fn := fun _ => fun
  | [d1, d2, d3, d4] => { results := [.lit (.bool true)], args := [d1, d2, d3, d4] }
  | _ => none }
def conversionSharesRejectRow : OpenClaim := { program := "ytklbaihmajbbdaa", sum := "a31eddd7361f490dfd691cebb1c93bedb79b92413c106535a677e9b0493234b6", func := "pension/pensionlaw22.ConversionSharesReject", spec := "conversionSharesReject", inPlace := ["slices.overlaps[pension/conversion.remainder]"], unfollowed := true, recurses := true, apart := false }
def ConversionSharesRejectSaid : Prop := conversionSharesRejectRow.holds Try.pinned (OpenSpec.ofChange conversionSharesRejectSpec)

/-- ITS FALSE NEIGHBOUR: 'it returns false'. Refute it at one input. -/
def conversionSharesRejectWrong : ChangeSpec := { name := "conversionSharesReject", fn := fun _ => fun
  | [d1, d2, d3, d4] => { results := [.lit (.bool false)], args := [d1, d2, d3, d4] }
  | _ => none }
def ConversionSharesRejectWrongFalsely : Prop := conversionSharesRejectRow.holds Try.pinned (OpenSpec.ofChange conversionSharesRejectWrong)

/-- 'pensionlaw22.ConversionDivideRejects': WHATEVER THE INPUT: true; the input reads as it did. -/
def conversionDivideRejectsSpec : ChangeSpec := { name := "conversionDivideRejects", fn := fun _ => fun
  | [d1, d2] => { results := [.lit (.bool true)], args := [d1, d2] }
  | _ => none }
def conversionDivideRejectsRow : OpenClaim := { program := "ytklbaihmajbbdaa", sum := "a31eddd7361f490dfd691cebb1c93bedb79b92413c106535a677e9b0493234b6", func := "pension/pensionlaw22.ConversionDivideRejects", spec := "conversionDivideRejects", inPlace := ["slices.overlaps[pension/conversion.remainder]"], unfollowed := true, recurses := true, apart := false }
def ConversionDivideRejectsSaid : Prop := conversionDivideRejectsRow.holds Try.pinned (OpenSpec.ofChange conversionDivideRejectsSpec)

/-- ITS FALSE NEIGHBOUR: 'it returns false'. Refute it at one input. -/
def conversionDivideRejectsWrong : ChangeSpec := { name := "conversionDivideRejects", fn := fun _ => fun
  | [d1, d2] => { results := [.lit (.bool false)], args := [d1, d2] }
  | _ => none }
def ConversionDivideRejectsWrongFalsely : Prop := conversionDivideRejectsRow.holds Try.pinned (OpenSpec.ofChange conversionDivideRejectsWrong)

/-- 'pensionlaw22.ConversionPartsAddUp': WHATEVER THE INPUT: true; the input reads as it did. -/
def conversionPartsAddUpSpec : ChangeSpec := { name := "conversionPartsAddUp", fn := fun _ => fun
  | [d1, d2] => { results := [.lit (.bool true)], args := [d1, d2] }
  | _ => none }
def conversionPartsAddUpRow : OpenClaim := { program := "ytklbaihmajbbdaa", sum := "a31eddd7361f490dfd691cebb1c93bedb79b92413c106535a677e9b0493234b6", func := "pension/pensionlaw22.ConversionPartsAddUp", spec := "conversionPartsAddUp", inPlace := ["slices.overlaps[pension/conversion.remainder]"], unfollowed := true, recurses := true, apart := false }
def ConversionPartsAddUpSaid : Prop := conversionPartsAddUpRow.holds Try.pinned (OpenSpec.ofChange conversionPartsAddUpSpec)

/-- ITS FALSE NEIGHBOUR: 'it returns false'. Refute it at one input. -/
def conversionPartsAddUpWrong : ChangeSpec := { name := "conversionPartsAddUp", fn := fun _ => fun
  | [d1, d2] => { results := [.lit (.bool false)], args := [d1, d2] }
  | _ => none }
def ConversionPartsAddUpWrongFalsely : Prop := conversionPartsAddUpRow.holds Try.pinned (OpenSpec.ofChange conversionPartsAddUpWrong)

/-- 'pensionlaw22.ConversionEqualSurvivors': WHATEVER THE INPUT: true; the input reads as it did. -/
def conversionEqualSurvivorsSpec : ChangeSpec := { name := "conversionEqualSurvivors", fn := fun _ => fun
  | [d1, d2, d3, d4] => { results := [.lit (.bool true)], args := [d1, d2, d3, d4] }
  | _ => none }
def conversionEqualSurvivorsRow : OpenClaim := { program := "ytklbaihmajbbdaa", sum := "a31eddd7361f490dfd691cebb1c93bedb79b92413c106535a677e9b0493234b6", func := "pension/pensionlaw22.ConversionEqualSurvivors", spec := "conversionEqualSurvivors", inPlace := ["slices.overlaps[pension/conversion.remainder]"], unfollowed := true, recurses := true, apart := false }
def ConversionEqualSurvivorsSaid : Prop := conversionEqualSurvivorsRow.holds Try.pinned (OpenSpec.ofChange conversionEqualSurvivorsSpec)

/-- ITS FALSE NEIGHBOUR: 'it returns false'. Refute it at one input. -/
def conversionEqualSurvivorsWrong : ChangeSpec := { name := "conversionEqualSurvivors", fn := fun _ => fun
  | [d1, d2, d3, d4] => { results := [.lit (.bool false)], args := [d1, d2, d3, d4] }
  | _ => none }
def ConversionEqualSurvivorsWrongFalsely : Prop := conversionEqualSurvivorsRow.holds Try.pinned (OpenSpec.ofChange conversionEqualSurvivorsWrong)

/-- 'pensionlaw22.ConversionSharesAgree': WHATEVER THE INPUT: true; the input reads as it did. -/
def conversionSharesAgreeSpec : ChangeSpec := { name := "conversionSharesAgree", fn := fun _ => fun
  | [d1, d2] => { results := [.lit (.bool true)], args := [d1, d2] }
  | _ => none }
def conversionSharesAgreeRow : OpenClaim := { program := "ytklbaihmajbbdaa", sum := "a31eddd7361f490dfd691cebb1c93bedb79b92413c106535a677e9b0493234b6", func := "pension/pensionlaw22.ConversionSharesAgree", spec := "conversionSharesAgree", inPlace := ["slices.overlaps[pension/conversion.remainder]"], unfollowed := true, recurses := true, named := ["math/bits.divideError", "math/bits.overflowError"], apart := false }
def ConversionSharesAgreeSaid : Prop := conversionSharesAgreeRow.holds Try.pinned (OpenSpec.ofChange conversionSharesAgreeSpec)

/-- ITS FALSE NEIGHBOUR: 'it returns false'. Refute it at one input. -/
def conversionSharesAgreeWrong : ChangeSpec := { name := "conversionSharesAgree", fn := fun _ => fun
  | [d1, d2] => { results := [.lit (.bool false)], args := [d1, d2] }
  | _ => none }
def ConversionSharesAgreeWrongFalsely : Prop := conversionSharesAgreeRow.holds Try.pinned (OpenSpec.ofChange conversionSharesAgreeWrong)

/-- 'pensionlaw22.ConversionDivideAgrees': WHATEVER THE INPUT: true; the input reads as it did. -/
def conversionDivideAgreesSpec : ChangeSpec := { name := "conversionDivideAgrees", fn := fun _ => fun
  | [d1, d2, d3] => { results := [.lit (.bool true)], args := [d1, d2, d3] }
  | _ => none }
def conversionDivideAgreesRow : OpenClaim := { program := "ytklbaihmajbbdaa", sum := "a31eddd7361f490dfd691cebb1c93bedb79b92413c106535a677e9b0493234b6", func := "pension/pensionlaw22.ConversionDivideAgrees", spec := "conversionDivideAgrees", inPlace := ["slices.overlaps[pension/conversion.remainder]"], unfollowed := true, recurses := true, named := ["math/bits.divideError", "math/bits.overflowError"], apart := false }
def ConversionDivideAgreesSaid : Prop := conversionDivideAgreesRow.holds Try.pinned (OpenSpec.ofChange conversionDivideAgreesSpec)

/-- ITS FALSE NEIGHBOUR: 'it returns false'. Refute it at one input. -/
def conversionDivideAgreesWrong : ChangeSpec := { name := "conversionDivideAgrees", fn := fun _ => fun
  | [d1, d2, d3] => { results := [.lit (.bool false)], args := [d1, d2, d3] }
  | _ => none }
def ConversionDivideAgreesWrongFalsely : Prop := conversionDivideAgreesRow.holds Try.pinned (OpenSpec.ofChange conversionDivideAgreesWrong)

/-- 'pensionlaw22.ConversionSharesAddUp': WHATEVER THE INPUT: true; the input reads as it did. -/
def conversionSharesAddUpSpec : ChangeSpec := { name := "conversionSharesAddUp", fn := fun _ => fun
  | [d] => { results := [.lit (.bool true)], args := [d] }
  | _ => none }
def conversionSharesAddUpRow : OpenClaim := { program := "ytklbaihmajbbdaa", sum := "a31eddd7361f490dfd691cebb1c93bedb79b92413c106535a677e9b0493234b6", func := "pension/pensionlaw22.ConversionSharesAddUp", spec := "conversionSharesAddUp", inPlace := ["slices.overlaps[pension/conversion.remainder]", "math/bits.Add64", "math/bits.Sub64"], unfollowed := true, recurses := true, named := ["math/bits.divideError", "math/bits.overflowError"], apart := false }
def ConversionSharesAddUpSaid : Prop := conversionSharesAddUpRow.holds Try.pinned (OpenSpec.ofChange conversionSharesAddUpSpec)

/-- ITS FALSE NEIGHBOUR: 'it returns false'. Refute it at one input. -/
def conversionSharesAddUpWrong : ChangeSpec := { name := "conversionSharesAddUp", fn := fun _ => fun
  | [d] => { results := [.lit (.bool false)], args := [d] }
  | _ => none }
def ConversionSharesAddUpWrongFalsely : Prop := conversionSharesAddUpRow.holds Try.pinned (OpenSpec.ofChange conversionSharesAddUpWrong)

/-- 'pensionlaw22.ConversionPartsAreFair': WHATEVER THE INPUT: true; the input reads as it did. -/
def conversionPartsAreFairSpec : ChangeSpec := { name := "conversionPartsAreFair", fn := fun _ => fun
  | [d1, d2] => { results := [.lit (.bool true)], args := [d1, d2] }
  | _ => none }
def conversionPartsAreFairRow : OpenClaim := { program := "ytklbaihmajbbdaa", sum := "a31eddd7361f490dfd691cebb1c93bedb79b92413c106535a677e9b0493234b6", func := "pension/pensionlaw22.ConversionPartsAreFair", spec := "conversionPartsAreFair", inPlace := ["slices.overlaps[pension/conversion.remainder]"], unfollowed := true, recurses := true, named := ["math/bits.divideError", "math/bits.overflowError"], apart := false }
def ConversionPartsAreFairSaid : Prop := conversionPartsAreFairRow.holds Try.pinned (OpenSpec.ofChange conversionPartsAreFairSpec)

/-- ITS FALSE NEIGHBOUR: 'it returns false'. Refute it at one input. -/
def conversionPartsAreFairWrong : ChangeSpec := { name := "conversionPartsAreFair", fn := fun _ => fun
  | [d1, d2] => { results := [.lit (.bool false)], args := [d1, d2] }
  | _ => none }
def ConversionPartsAreFairWrongFalsely : Prop := conversionPartsAreFairRow.holds Try.pinned (OpenSpec.ofChange conversionPartsAreFairWrong)

/- THE SECOND FORM. 'bulk': how many values and letters a reading holds, each counted each time it is reached (what is shared counts as often as it is met; a slice's spare places count too). A statement '..UptoSaid' is the law's where the arguments, and the package variables that the reading takes, are together of bulk at most 1048576: NARROWER than '..Said'. Prove '..Said' where nothing that the law and all that it calls make is longer than what came in: it says more and counts as full. Else prove '..UptoSaid'. A law counts once. -/
mutual
def uptoBulk {H : Type} : DataW H → Nat
  | .lit (.string bytes) => bytes.length + 1
  | .lit _ => 1
  | .nil => 1
  | .ptr d => uptoBulk d + 1
  | .slice elems spare => uptoBulkAll elems + uptoBulkAll spare + 1
  | .agg parts => uptoBulkAll parts + 1
  | .iface _ d => uptoBulk d + 1
  | .map entries => uptoBulkEntries entries + 1
  | .held _ => 1
def uptoBulkAll {H : Type} : List (DataW H) → Nat
  | [] => 0
  | d :: r => uptoBulk d + uptoBulkAll r
def uptoBulkEntries {H : Type} : List (Lit × DataW H) → Nat
  | [] => 0
  | x :: r => uptoBulkEntry x + uptoBulkEntries r
def uptoBulkEntry {H : Type} : Lit × DataW H → Nat
  | (.string bytes, d) => bytes.length + uptoBulk d + 1
  | (_, d) => uptoBulk d + 1
 end
def uptoSmall : (H : Type) → List (DataW H) → Bool := fun _ ds => decide (uptoBulkAll ds ≤ 1048576)
def OpenSpec.upto (s : _root_.Go.ChangeSpec) : _root_.Go.OpenSpec := { _root_.Go.OpenSpec.ofChange s with cond := some uptoSmall }

/-- 'pensionlaw22.ConversionConvertAgrees', WHERE WHAT IT READS IS OF BULK AT MOST 1048576: true; the input reads as it did. -/
def conversionConvertAgreesUptoRow : OpenClaim := { program := "ytklbaihmajbbdaa", sum := "a31eddd7361f490dfd691cebb1c93bedb79b92413c106535a677e9b0493234b6", func := "pension/pensionlaw22.ConversionConvertAgrees", spec := "conversionConvertAgrees", inPlace := ["slices.overlaps[pension/conversion.remainder]"], unfollowed := true, recurses := true, apart := false, narrowed := true }
def ConversionConvertAgreesUptoSaid : Prop := conversionConvertAgreesUptoRow.holds Try.pinned (OpenSpec.upto conversionConvertAgreesSpec)

/-- 'pensionlaw22.ConversionLeavesNoPair', WHERE WHAT IT READS IS OF BULK AT MOST 1048576: true; the input reads as it did. -/
def conversionLeavesNoPairUptoRow : OpenClaim := { program := "ytklbaihmajbbdaa", sum := "a31eddd7361f490dfd691cebb1c93bedb79b92413c106535a677e9b0493234b6", func := "pension/pensionlaw22.ConversionLeavesNoPair", spec := "conversionLeavesNoPair", inPlace := ["slices.overlaps[pension/conversion.remainder]"], unfollowed := true, recurses := true, apart := false, narrowed := true }
def ConversionLeavesNoPairUptoSaid : Prop := conversionLeavesNoPairUptoRow.holds Try.pinned (OpenSpec.upto conversionLeavesNoPairSpec)

/-- 'pensionlaw22.ConversionIsIdempotent', WHERE WHAT IT READS IS OF BULK AT MOST 1048576: true; the input reads as it did. -/
def conversionIsIdempotentUptoRow : OpenClaim := { program := "ytklbaihmajbbdaa", sum := "a31eddd7361f490dfd691cebb1c93bedb79b92413c106535a677e9b0493234b6", func := "pension/pensionlaw22.ConversionIsIdempotent", spec := "conversionIsIdempotent", inPlace := ["slices.overlaps[pension/conversion.remainder]"], unfollowed := true, recurses := true, apart := false, narrowed := true }
def ConversionIsIdempotentUptoSaid : Prop := conversionIsIdempotentUptoRow.holds Try.pinned (OpenSpec.upto conversionIsIdempotentSpec)

/-- 'pensionlaw22.ConversionSharesReject', WHERE WHAT IT READS IS OF BULK AT MOST 1048576: true; the input reads as it did. -/
def conversionSharesRejectUptoRow : OpenClaim := { program := "ytklbaihmajbbdaa", sum := "a31eddd7361f490dfd691cebb1c93bedb79b92413c106535a677e9b0493234b6", func := "pension/pensionlaw22.ConversionSharesReject", spec := "conversionSharesReject", inPlace := ["slices.overlaps[pension/conversion.remainder]"], unfollowed := true, recurses := true, apart := false, narrowed := true }
def ConversionSharesRejectUptoSaid : Prop := conversionSharesRejectUptoRow.holds Try.pinned (OpenSpec.upto conversionSharesRejectSpec)

/-- 'pensionlaw22.ConversionDivideRejects', WHERE WHAT IT READS IS OF BULK AT MOST 1048576: true; the input reads as it did. -/
def conversionDivideRejectsUptoRow : OpenClaim := { program := "ytklbaihmajbbdaa", sum := "a31eddd7361f490dfd691cebb1c93bedb79b92413c106535a677e9b0493234b6", func := "pension/pensionlaw22.ConversionDivideRejects", spec := "conversionDivideRejects", inPlace := ["slices.overlaps[pension/conversion.remainder]"], unfollowed := true, recurses := true, apart := false, narrowed := true }
def ConversionDivideRejectsUptoSaid : Prop := conversionDivideRejectsUptoRow.holds Try.pinned (OpenSpec.upto conversionDivideRejectsSpec)

/-- 'pensionlaw22.ConversionPartsAddUp', WHERE WHAT IT READS IS OF BULK AT MOST 1048576: true; the input reads as it did. -/
def conversionPartsAddUpUptoRow : OpenClaim := { program := "ytklbaihmajbbdaa", sum := "a31eddd7361f490dfd691cebb1c93bedb79b92413c106535a677e9b0493234b6", func := "pension/pensionlaw22.ConversionPartsAddUp", spec := "conversionPartsAddUp", inPlace := ["slices.overlaps[pension/conversion.remainder]"], unfollowed := true, recurses := true, apart := false, narrowed := true }
def ConversionPartsAddUpUptoSaid : Prop := conversionPartsAddUpUptoRow.holds Try.pinned (OpenSpec.upto conversionPartsAddUpSpec)

/-- 'pensionlaw22.ConversionEqualSurvivors', WHERE WHAT IT READS IS OF BULK AT MOST 1048576: true; the input reads as it did. -/
def conversionEqualSurvivorsUptoRow : OpenClaim := { program := "ytklbaihmajbbdaa", sum := "a31eddd7361f490dfd691cebb1c93bedb79b92413c106535a677e9b0493234b6", func := "pension/pensionlaw22.ConversionEqualSurvivors", spec := "conversionEqualSurvivors", inPlace := ["slices.overlaps[pension/conversion.remainder]"], unfollowed := true, recurses := true, apart := false, narrowed := true }
def ConversionEqualSurvivorsUptoSaid : Prop := conversionEqualSurvivorsUptoRow.holds Try.pinned (OpenSpec.upto conversionEqualSurvivorsSpec)

/-- 'pensionlaw22.ConversionSharesAgree', WHERE WHAT IT READS IS OF BULK AT MOST 1048576: true; the input reads as it did. -/
def conversionSharesAgreeUptoRow : OpenClaim := { program := "ytklbaihmajbbdaa", sum := "a31eddd7361f490dfd691cebb1c93bedb79b92413c106535a677e9b0493234b6", func := "pension/pensionlaw22.ConversionSharesAgree", spec := "conversionSharesAgree", inPlace := ["slices.overlaps[pension/conversion.remainder]"], unfollowed := true, recurses := true, named := ["math/bits.divideError", "math/bits.overflowError"], apart := false, narrowed := true }
def ConversionSharesAgreeUptoSaid : Prop := conversionSharesAgreeUptoRow.holds Try.pinned (OpenSpec.upto conversionSharesAgreeSpec)

/-- 'pensionlaw22.ConversionDivideAgrees', WHERE WHAT IT READS IS OF BULK AT MOST 1048576: true; the input reads as it did. -/
def conversionDivideAgreesUptoRow : OpenClaim := { program := "ytklbaihmajbbdaa", sum := "a31eddd7361f490dfd691cebb1c93bedb79b92413c106535a677e9b0493234b6", func := "pension/pensionlaw22.ConversionDivideAgrees", spec := "conversionDivideAgrees", inPlace := ["slices.overlaps[pension/conversion.remainder]"], unfollowed := true, recurses := true, named := ["math/bits.divideError", "math/bits.overflowError"], apart := false, narrowed := true }
def ConversionDivideAgreesUptoSaid : Prop := conversionDivideAgreesUptoRow.holds Try.pinned (OpenSpec.upto conversionDivideAgreesSpec)

/-- 'pensionlaw22.ConversionSharesAddUp', WHERE WHAT IT READS IS OF BULK AT MOST 1048576: true; the input reads as it did. -/
def conversionSharesAddUpUptoRow : OpenClaim := { program := "ytklbaihmajbbdaa", sum := "a31eddd7361f490dfd691cebb1c93bedb79b92413c106535a677e9b0493234b6", func := "pension/pensionlaw22.ConversionSharesAddUp", spec := "conversionSharesAddUp", inPlace := ["slices.overlaps[pension/conversion.remainder]", "math/bits.Add64", "math/bits.Sub64"], unfollowed := true, recurses := true, named := ["math/bits.divideError", "math/bits.overflowError"], apart := false, narrowed := true }
def ConversionSharesAddUpUptoSaid : Prop := conversionSharesAddUpUptoRow.holds Try.pinned (OpenSpec.upto conversionSharesAddUpSpec)

/-- 'pensionlaw22.ConversionPartsAreFair', WHERE WHAT IT READS IS OF BULK AT MOST 1048576: true; the input reads as it did. -/
def conversionPartsAreFairUptoRow : OpenClaim := { program := "ytklbaihmajbbdaa", sum := "a31eddd7361f490dfd691cebb1c93bedb79b92413c106535a677e9b0493234b6", func := "pension/pensionlaw22.ConversionPartsAreFair", spec := "conversionPartsAreFair", inPlace := ["slices.overlaps[pension/conversion.remainder]"], unfollowed := true, recurses := true, named := ["math/bits.divideError", "math/bits.overflowError"], apart := false, narrowed := true }
def ConversionPartsAreFairUptoSaid : Prop := conversionPartsAreFairUptoRow.holds Try.pinned (OpenSpec.upto conversionPartsAreFairSpec)

end Rows
end Go.Proofs.Ytklbaihmajbbdaa
