/-
  No cell of these rows narrows 'for every input' (looked for: loops, veiled, ifaces, maps, wideKeys, modest, calm, conditions, laid).
  DERIVED. THE GIVEN ROWS OF THIS SEAT. 19 by the template 'for every input the law returns true; each argument reads behind the call as it read before'; 0 by the template 'total and deterministic' (their statements: YtchffdmfiffifaaTotals.lean).
  GIVEN WITH THE SEED: the statements are not yours to turn. If you find one false, say at which input.
  Laid BY PROGRAM, IN A SANDBOX (cutbox-rows.mjs): the forced cells as the released guide's own fill.sh prints them over the translation 70a5629e9df9b58e… (all of the seat's roots in one cut). By AI agents, Wed Nov 11 2026. No macro, syntax, notation, axiom, sorry.
-/
import Derived.Test.YtchffdmfiffifaaChecked
import GoSem.Claim
import GoSem.ClaimJoined
import GoSem.ClaimMapViews
import Derived.JoinedTies
import Derived.KernelRfl
namespace Go.Proofs.Ytchffdmfiffifaa
/- THE CELL 'sum', in the pinned program and in every row, IS THE sha256 OF THE DUMP (.gsa) THAT YtchffdmfiffifaaProg.lean LOADS. Nothing in Lean hashes anything: it is a label: what it is worth is what the hold of that sum in a sandbox is worth. -/
noncomputable def Try.pinned : Pinned := { name := "ytchffdmfiffifaa", sum := "70a5629e9df9b58ec11a886d64dc1a0334046f8ac2053113b252def242d84ec1", checked := Try.checked }
namespace Rows
def none {H : Type} : Left H := { results := [], args := [] }

/-- 'pensionlaw19.EarningsParts': WHATEVER THE INPUT: true; the input reads as it did. -/
def earningsPartsSpec : ChangeSpec := { name := "earningsParts", fn := fun _ => fun
  | [d1, d2, d3] => { results := [.lit (.bool true)], args := [d1, d2, d3] }
  | _ => none }
def earningsPartsRow : OpenClaim := { program := "ytchffdmfiffifaa", sum := "70a5629e9df9b58ec11a886d64dc1a0334046f8ac2053113b252def242d84ec1", func := "pension/pensionlaw19.EarningsParts", spec := "earningsParts", inPlace := ["internal/bytealg.IndexByteString", "internal/bytealg.IndexString"], unfollowed := true, recurses := true, named := ["internal/bytealg.MaxLen"], apart := false }
def EarningsPartsSaid : Prop := earningsPartsRow.holds Try.pinned (OpenSpec.ofChange earningsPartsSpec)

/-- ITS FALSE NEIGHBOUR: 'it returns false'. Refute it at one input. -/
def earningsPartsWrong : ChangeSpec := { name := "earningsParts", fn := fun _ => fun
  | [d1, d2, d3] => { results := [.lit (.bool false)], args := [d1, d2, d3] }
  | _ => none }
def EarningsPartsWrongFalsely : Prop := earningsPartsRow.holds Try.pinned (OpenSpec.ofChange earningsPartsWrong)

/-- 'pensionlaw19.EarningsSplit': WHATEVER THE INPUT: true; the input reads as it did. -/
def earningsSplitSpec : ChangeSpec := { name := "earningsSplit", fn := fun _ => fun
  | [d1, d2] => { results := [.lit (.bool true)], args := [d1, d2] }
  | _ => none }
def earningsSplitRow : OpenClaim := { program := "ytchffdmfiffifaa", sum := "70a5629e9df9b58ec11a886d64dc1a0334046f8ac2053113b252def242d84ec1", func := "pension/pensionlaw19.EarningsSplit", spec := "earningsSplit", inPlace := ["internal/bytealg.IndexByteString", "internal/bytealg.IndexString"], unfollowed := true, recurses := true, named := ["internal/bytealg.MaxLen"], apart := false }
def EarningsSplitSaid : Prop := earningsSplitRow.holds Try.pinned (OpenSpec.ofChange earningsSplitSpec)

/-- ITS FALSE NEIGHBOUR: 'it returns false'. Refute it at one input. -/
def earningsSplitWrong : ChangeSpec := { name := "earningsSplit", fn := fun _ => fun
  | [d1, d2] => { results := [.lit (.bool false)], args := [d1, d2] }
  | _ => none }
def EarningsSplitWrongFalsely : Prop := earningsSplitRow.holds Try.pinned (OpenSpec.ofChange earningsSplitWrong)

/-- 'pensionlaw13.CareerLattice': WHATEVER THE INPUT: true; the input reads as it did. -/
def careerLatticeSpec : ChangeSpec := { name := "careerLattice", fn := fun _ => fun
  | [d1, d2, d3, d4] => { results := [.lit (.bool true)], args := [d1, d2, d3, d4] }
  | _ => none }
def careerLatticeRow : OpenClaim := { program := "ytchffdmfiffifaa", sum := "70a5629e9df9b58ec11a886d64dc1a0334046f8ac2053113b252def242d84ec1", func := "pension/pensionlaw13.CareerLattice", spec := "careerLattice", inPlace := ["internal/bytealg.IndexByteString", "internal/bytealg.IndexString", "internal/bytealg.Compare"], unfollowed := true, recurses := true, named := ["internal/bytealg.MaxLen"], apart := false }
def CareerLatticeSaid : Prop := careerLatticeRow.holds Try.pinned (OpenSpec.ofChange careerLatticeSpec)

/-- ITS FALSE NEIGHBOUR: 'it returns false'. Refute it at one input. -/
def careerLatticeWrong : ChangeSpec := { name := "careerLattice", fn := fun _ => fun
  | [d1, d2, d3, d4] => { results := [.lit (.bool false)], args := [d1, d2, d3, d4] }
  | _ => none }
def CareerLatticeWrongFalsely : Prop := careerLatticeRow.holds Try.pinned (OpenSpec.ofChange careerLatticeWrong)

/-- 'pensionlaw13.CareerArrival': WHATEVER THE INPUT: true; the input reads as it did. -/
def careerArrivalSpec : ChangeSpec := { name := "careerArrival", fn := fun _ => fun
  | [d1, d2, d3] => { results := [.lit (.bool true)], args := [d1, d2, d3] }
  | _ => none }
def careerArrivalRow : OpenClaim := { program := "ytchffdmfiffifaa", sum := "70a5629e9df9b58ec11a886d64dc1a0334046f8ac2053113b252def242d84ec1", func := "pension/pensionlaw13.CareerArrival", spec := "careerArrival", inPlace := ["internal/bytealg.IndexByteString", "internal/bytealg.IndexString", "internal/bytealg.Compare"], unfollowed := true, recurses := true, named := ["internal/bytealg.MaxLen"], apart := false }
def CareerArrivalSaid : Prop := careerArrivalRow.holds Try.pinned (OpenSpec.ofChange careerArrivalSpec)

/-- ITS FALSE NEIGHBOUR: 'it returns false'. Refute it at one input. -/
def careerArrivalWrong : ChangeSpec := { name := "careerArrival", fn := fun _ => fun
  | [d1, d2, d3] => { results := [.lit (.bool false)], args := [d1, d2, d3] }
  | _ => none }
def CareerArrivalWrongFalsely : Prop := careerArrivalRow.holds Try.pinned (OpenSpec.ofChange careerArrivalWrong)

/-- 'pensionlaw19.EarningsBase': WHATEVER THE INPUT: true; the input reads as it did. -/
def earningsBaseSpec : ChangeSpec := { name := "earningsBase", fn := fun _ => fun
  | [d1, d2] => { results := [.lit (.bool true)], args := [d1, d2] }
  | _ => none }
def earningsBaseRow : OpenClaim := { program := "ytchffdmfiffifaa", sum := "70a5629e9df9b58ec11a886d64dc1a0334046f8ac2053113b252def242d84ec1", func := "pension/pensionlaw19.EarningsBase", spec := "earningsBase", inPlace := ["internal/bytealg.IndexByteString", "internal/bytealg.IndexString"], unfollowed := true, recurses := true, named := ["math/bits.divideError", "math/bits.overflowError", "internal/bytealg.MaxLen"], apart := false }
def EarningsBaseSaid : Prop := earningsBaseRow.holds Try.pinned (OpenSpec.ofChange earningsBaseSpec)

/-- ITS FALSE NEIGHBOUR: 'it returns false'. Refute it at one input. -/
def earningsBaseWrong : ChangeSpec := { name := "earningsBase", fn := fun _ => fun
  | [d1, d2] => { results := [.lit (.bool false)], args := [d1, d2] }
  | _ => none }
def EarningsBaseWrongFalsely : Prop := earningsBaseRow.holds Try.pinned (OpenSpec.ofChange earningsBaseWrong)

/-- 'pensionlaw13.CareerMerges': WHATEVER THE INPUT: true; the input reads as it did. -/
def careerMergesSpec : ChangeSpec := { name := "careerMerges", fn := fun _ => fun
  | [d1, d2, d3] => { results := [.lit (.bool true)], args := [d1, d2, d3] }
  | _ => none }
def careerMergesRow : OpenClaim := { program := "ytchffdmfiffifaa", sum := "70a5629e9df9b58ec11a886d64dc1a0334046f8ac2053113b252def242d84ec1", func := "pension/pensionlaw13.CareerMerges", spec := "careerMerges", inPlace := ["internal/bytealg.IndexByteString", "internal/bytealg.IndexString", "internal/bytealg.Compare"], unfollowed := true, recurses := true, named := ["internal/bytealg.MaxLen"], apart := false }
def CareerMergesSaid : Prop := careerMergesRow.holds Try.pinned (OpenSpec.ofChange careerMergesSpec)

/-- ITS FALSE NEIGHBOUR: 'it returns false'. Refute it at one input. -/
def careerMergesWrong : ChangeSpec := { name := "careerMerges", fn := fun _ => fun
  | [d1, d2, d3] => { results := [.lit (.bool false)], args := [d1, d2, d3] }
  | _ => none }
def CareerMergesWrongFalsely : Prop := careerMergesRow.holds Try.pinned (OpenSpec.ofChange careerMergesWrong)

/-- 'pensionlaw13.CareerMoves': WHATEVER THE INPUT: true; the input reads as it did. -/
def careerMovesSpec : ChangeSpec := { name := "careerMoves", fn := fun _ => fun
  | [d1, d2] => { results := [.lit (.bool true)], args := [d1, d2] }
  | _ => none }
def careerMovesRow : OpenClaim := { program := "ytchffdmfiffifaa", sum := "70a5629e9df9b58ec11a886d64dc1a0334046f8ac2053113b252def242d84ec1", func := "pension/pensionlaw13.CareerMoves", spec := "careerMoves", inPlace := ["internal/bytealg.IndexByteString", "internal/bytealg.IndexString", "internal/bytealg.Compare"], unfollowed := true, recurses := true, named := ["internal/bytealg.MaxLen"], apart := false }
def CareerMovesSaid : Prop := careerMovesRow.holds Try.pinned (OpenSpec.ofChange careerMovesSpec)

/-- ITS FALSE NEIGHBOUR: 'it returns false'. Refute it at one input. -/
def careerMovesWrong : ChangeSpec := { name := "careerMoves", fn := fun _ => fun
  | [d1, d2] => { results := [.lit (.bool false)], args := [d1, d2] }
  | _ => none }
def CareerMovesWrongFalsely : Prop := careerMovesRow.holds Try.pinned (OpenSpec.ofChange careerMovesWrong)

/-- 'pensionlaw19.EarningsBest': WHATEVER THE INPUT: true; the input reads as it did. -/
def earningsBestSpec : ChangeSpec := { name := "earningsBest", fn := fun _ => fun
  | [d1, d2] => { results := [.lit (.bool true)], args := [d1, d2] }
  | _ => none }
def earningsBestRow : OpenClaim := { program := "ytchffdmfiffifaa", sum := "70a5629e9df9b58ec11a886d64dc1a0334046f8ac2053113b252def242d84ec1", func := "pension/pensionlaw19.EarningsBest", spec := "earningsBest", inPlace := ["internal/bytealg.IndexByteString", "internal/bytealg.IndexString"], unfollowed := true, recurses := true, named := ["math/bits.divideError", "math/bits.overflowError", "internal/bytealg.MaxLen"], apart := false }
def EarningsBestSaid : Prop := earningsBestRow.holds Try.pinned (OpenSpec.ofChange earningsBestSpec)

/-- ITS FALSE NEIGHBOUR: 'it returns false'. Refute it at one input. -/
def earningsBestWrong : ChangeSpec := { name := "earningsBest", fn := fun _ => fun
  | [d1, d2] => { results := [.lit (.bool false)], args := [d1, d2] }
  | _ => none }
def EarningsBestWrongFalsely : Prop := earningsBestRow.holds Try.pinned (OpenSpec.ofChange earningsBestWrong)

/-- 'pensionlaw13.CareerLife': WHATEVER THE INPUT: true; the input reads as it did. -/
def careerLifeSpec : ChangeSpec := { name := "careerLife", fn := fun _ => fun
  | [d1, d2] => { results := [.lit (.bool true)], args := [d1, d2] }
  | _ => none }
def careerLifeRow : OpenClaim := { program := "ytchffdmfiffifaa", sum := "70a5629e9df9b58ec11a886d64dc1a0334046f8ac2053113b252def242d84ec1", func := "pension/pensionlaw13.CareerLife", spec := "careerLife", inPlace := ["internal/bytealg.IndexByteString", "internal/bytealg.IndexString", "internal/bytealg.Compare"], unfollowed := true, recurses := true, named := ["internal/bytealg.MaxLen"], apart := false }
def CareerLifeSaid : Prop := careerLifeRow.holds Try.pinned (OpenSpec.ofChange careerLifeSpec)

/-- ITS FALSE NEIGHBOUR: 'it returns false'. Refute it at one input. -/
def careerLifeWrong : ChangeSpec := { name := "careerLife", fn := fun _ => fun
  | [d1, d2] => { results := [.lit (.bool false)], args := [d1, d2] }
  | _ => none }
def CareerLifeWrongFalsely : Prop := careerLifeRow.holds Try.pinned (OpenSpec.ofChange careerLifeWrong)

/-- 'pensionlaw13.CareerSelects': WHATEVER THE INPUT: true; the input reads as it did. -/
def careerSelectsSpec : ChangeSpec := { name := "careerSelects", fn := fun _ => fun
  | [d1, d2, d3, d4] => { results := [.lit (.bool true)], args := [d1, d2, d3, d4] }
  | _ => none }
def careerSelectsRow : OpenClaim := { program := "ytchffdmfiffifaa", sum := "70a5629e9df9b58ec11a886d64dc1a0334046f8ac2053113b252def242d84ec1", func := "pension/pensionlaw13.CareerSelects", spec := "careerSelects", inPlace := ["internal/bytealg.IndexByteString", "internal/bytealg.IndexString", "internal/bytealg.Compare"], unfollowed := true, recurses := true, named := ["internal/bytealg.MaxLen"], apart := false }
def CareerSelectsSaid : Prop := careerSelectsRow.holds Try.pinned (OpenSpec.ofChange careerSelectsSpec)

/-- ITS FALSE NEIGHBOUR: 'it returns false'. Refute it at one input. -/
def careerSelectsWrong : ChangeSpec := { name := "careerSelects", fn := fun _ => fun
  | [d1, d2, d3, d4] => { results := [.lit (.bool false)], args := [d1, d2, d3, d4] }
  | _ => none }
def CareerSelectsWrongFalsely : Prop := careerSelectsRow.holds Try.pinned (OpenSpec.ofChange careerSelectsWrong)

/-- 'pensionlaw19.EarningsIndexed': WHATEVER THE INPUT: true; the input reads as it did. -/
def earningsIndexedSpec : ChangeSpec := { name := "earningsIndexed", fn := fun _ => fun
  | [d1, d2, d3, d4] => { results := [.lit (.bool true)], args := [d1, d2, d3, d4] }
  | _ => none }
def earningsIndexedRow : OpenClaim := { program := "ytchffdmfiffifaa", sum := "70a5629e9df9b58ec11a886d64dc1a0334046f8ac2053113b252def242d84ec1", func := "pension/pensionlaw19.EarningsIndexed", spec := "earningsIndexed", inPlace := ["math/bits.Add64", "internal/bytealg.IndexByteString", "internal/bytealg.IndexString"], unfollowed := true, recurses := true, named := ["math/bits.divideError", "math/bits.overflowError", "internal/bytealg.MaxLen"], apart := false }
def EarningsIndexedSaid : Prop := earningsIndexedRow.holds Try.pinned (OpenSpec.ofChange earningsIndexedSpec)

/-- ITS FALSE NEIGHBOUR: 'it returns false'. Refute it at one input. -/
def earningsIndexedWrong : ChangeSpec := { name := "earningsIndexed", fn := fun _ => fun
  | [d1, d2, d3, d4] => { results := [.lit (.bool false)], args := [d1, d2, d3, d4] }
  | _ => none }
def EarningsIndexedWrongFalsely : Prop := earningsIndexedRow.holds Try.pinned (OpenSpec.ofChange earningsIndexedWrong)

/-- 'pensionlaw18.TotalsCompute': WHATEVER THE INPUT: true; the input reads as it did. -/
def totalsComputeSpec : ChangeSpec := { name := "totalsCompute", fn := fun _ => fun
  | [d1, d2, d3] => { results := [.lit (.bool true)], args := [d1, d2, d3] }
  | _ => none }
def totalsComputeRow : OpenClaim := { program := "ytchffdmfiffifaa", sum := "70a5629e9df9b58ec11a886d64dc1a0334046f8ac2053113b252def242d84ec1", func := "pension/pensionlaw18.TotalsCompute", spec := "totalsCompute", inPlace := ["internal/reflectlite.ValueOf", "internal/reflectlite.Swapper", "(internal/reflectlite.Value).Len"], unfollowed := true, recurses := true, apart := false }
def TotalsComputeSaid : Prop := totalsComputeRow.holds Try.pinned (OpenSpec.ofChange totalsComputeSpec)

/-- ITS FALSE NEIGHBOUR: 'it returns false'. Refute it at one input. -/
def totalsComputeWrong : ChangeSpec := { name := "totalsCompute", fn := fun _ => fun
  | [d1, d2, d3] => { results := [.lit (.bool false)], args := [d1, d2, d3] }
  | _ => none }
def TotalsComputeWrongFalsely : Prop := totalsComputeRow.holds Try.pinned (OpenSpec.ofChange totalsComputeWrong)

/-- 'pensionlaw18.TotalsFractions': WHATEVER THE INPUT: true; the input reads as it did. -/
def totalsFractionsSpec : ChangeSpec := { name := "totalsFractions", fn := fun _ => fun
  | [d1, d2, d3, d4] => { results := [.lit (.bool true)], args := [d1, d2, d3, d4] }
  | _ => none }
def totalsFractionsRow : OpenClaim := { program := "ytchffdmfiffifaa", sum := "70a5629e9df9b58ec11a886d64dc1a0334046f8ac2053113b252def242d84ec1", func := "pension/pensionlaw18.TotalsFractions", spec := "totalsFractions", inPlace := ["internal/reflectlite.ValueOf", "internal/reflectlite.Swapper", "(internal/reflectlite.Value).Len"], unfollowed := true, recurses := true, apart := false }
def TotalsFractionsSaid : Prop := totalsFractionsRow.holds Try.pinned (OpenSpec.ofChange totalsFractionsSpec)

/-- ITS FALSE NEIGHBOUR: 'it returns false'. Refute it at one input. -/
def totalsFractionsWrong : ChangeSpec := { name := "totalsFractions", fn := fun _ => fun
  | [d1, d2, d3, d4] => { results := [.lit (.bool false)], args := [d1, d2, d3, d4] }
  | _ => none }
def TotalsFractionsWrongFalsely : Prop := totalsFractionsRow.holds Try.pinned (OpenSpec.ofChange totalsFractionsWrong)

/-- 'pensionlaw18.TotalsSums': WHATEVER THE INPUT: true; the input reads as it did. -/
def totalsSumsSpec : ChangeSpec := { name := "totalsSums", fn := fun _ => fun
  | [d1, d2] => { results := [.lit (.bool true)], args := [d1, d2] }
  | _ => none }
def totalsSumsRow : OpenClaim := { program := "ytchffdmfiffifaa", sum := "70a5629e9df9b58ec11a886d64dc1a0334046f8ac2053113b252def242d84ec1", func := "pension/pensionlaw18.TotalsSums", spec := "totalsSums", inPlace := ["internal/reflectlite.ValueOf", "internal/reflectlite.Swapper", "(internal/reflectlite.Value).Len"], unfollowed := true, recurses := true, apart := false }
def TotalsSumsSaid : Prop := totalsSumsRow.holds Try.pinned (OpenSpec.ofChange totalsSumsSpec)

/-- ITS FALSE NEIGHBOUR: 'it returns false'. Refute it at one input. -/
def totalsSumsWrong : ChangeSpec := { name := "totalsSums", fn := fun _ => fun
  | [d1, d2] => { results := [.lit (.bool false)], args := [d1, d2] }
  | _ => none }
def TotalsSumsWrongFalsely : Prop := totalsSumsRow.holds Try.pinned (OpenSpec.ofChange totalsSumsWrong)

/-- 'pensionlaw18.TotalsGrow': WHATEVER THE INPUT: true; the input reads as it did. -/
def totalsGrowSpec : ChangeSpec := { name := "totalsGrow", fn := fun _ => fun
  | [d1, d2, d3, d4] => { results := [.lit (.bool true)], args := [d1, d2, d3, d4] }
  | _ => none }
def totalsGrowRow : OpenClaim := { program := "ytchffdmfiffifaa", sum := "70a5629e9df9b58ec11a886d64dc1a0334046f8ac2053113b252def242d84ec1", func := "pension/pensionlaw18.TotalsGrow", spec := "totalsGrow", inPlace := ["internal/reflectlite.ValueOf", "internal/reflectlite.Swapper", "(internal/reflectlite.Value).Len"], unfollowed := true, recurses := true, apart := false }
def TotalsGrowSaid : Prop := totalsGrowRow.holds Try.pinned (OpenSpec.ofChange totalsGrowSpec)

/-- ITS FALSE NEIGHBOUR: 'it returns false'. Refute it at one input. -/
def totalsGrowWrong : ChangeSpec := { name := "totalsGrow", fn := fun _ => fun
  | [d1, d2, d3, d4] => { results := [.lit (.bool false)], args := [d1, d2, d3, d4] }
  | _ => none }
def TotalsGrowWrongFalsely : Prop := totalsGrowRow.holds Try.pinned (OpenSpec.ofChange totalsGrowWrong)

/-- 'pensionlaw18.TotalsAddUp': WHATEVER THE INPUT: true; the input reads as it did. -/
def totalsAddUpSpec : ChangeSpec := { name := "totalsAddUp", fn := fun _ => fun
  | [d1, d2] => { results := [.lit (.bool true)], args := [d1, d2] }
  | _ => none }
def totalsAddUpRow : OpenClaim := { program := "ytchffdmfiffifaa", sum := "70a5629e9df9b58ec11a886d64dc1a0334046f8ac2053113b252def242d84ec1", func := "pension/pensionlaw18.TotalsAddUp", spec := "totalsAddUp", inPlace := ["internal/reflectlite.ValueOf", "internal/reflectlite.Swapper", "(internal/reflectlite.Value).Len", "math/bits.Add64", "math/bits.Sub64"], unfollowed := true, recurses := true, named := ["math/bits.divideError", "math/bits.overflowError"], apart := false }
def TotalsAddUpSaid : Prop := totalsAddUpRow.holds Try.pinned (OpenSpec.ofChange totalsAddUpSpec)

/-- ITS FALSE NEIGHBOUR: 'it returns false'. Refute it at one input. -/
def totalsAddUpWrong : ChangeSpec := { name := "totalsAddUp", fn := fun _ => fun
  | [d1, d2] => { results := [.lit (.bool false)], args := [d1, d2] }
  | _ => none }
def TotalsAddUpWrongFalsely : Prop := totalsAddUpRow.holds Try.pinned (OpenSpec.ofChange totalsAddUpWrong)

/-- 'pensionlaw13.CareerFamily': WHATEVER THE INPUT: true; the input reads as it did. -/
def careerFamilySpec : ChangeSpec := { name := "careerFamily", fn := fun _ => fun
  | [d1, d2, d3] => { results := [.lit (.bool true)], args := [d1, d2, d3] }
  | _ => none }
def careerFamilyRow : OpenClaim := { program := "ytchffdmfiffifaa", sum := "70a5629e9df9b58ec11a886d64dc1a0334046f8ac2053113b252def242d84ec1", func := "pension/pensionlaw13.CareerFamily", spec := "careerFamily", inPlace := ["internal/bytealg.IndexByteString", "internal/bytealg.IndexString", "internal/bytealg.Compare"], unfollowed := true, recurses := true, named := ["internal/bytealg.MaxLen"], apart := false }
def CareerFamilySaid : Prop := careerFamilyRow.holds Try.pinned (OpenSpec.ofChange careerFamilySpec)

/-- ITS FALSE NEIGHBOUR: 'it returns false'. Refute it at one input. -/
def careerFamilyWrong : ChangeSpec := { name := "careerFamily", fn := fun _ => fun
  | [d1, d2, d3] => { results := [.lit (.bool false)], args := [d1, d2, d3] }
  | _ => none }
def CareerFamilyWrongFalsely : Prop := careerFamilyRow.holds Try.pinned (OpenSpec.ofChange careerFamilyWrong)

/-- 'pensionlaw16.CoverageRanks': WHATEVER THE INPUT: true; the input reads as it did. -/
def coverageRanksSpec : ChangeSpec := { name := "coverageRanks", fn := fun _ => fun
  | [d] => { results := [.lit (.bool true)], args := [d] }
  | _ => none }
def coverageRanksRow : OpenClaim := { program := "ytchffdmfiffifaa", sum := "70a5629e9df9b58ec11a886d64dc1a0334046f8ac2053113b252def242d84ec1", func := "pension/pensionlaw16.CoverageRanks", spec := "coverageRanks", inPlace := ["internal/reflectlite.ValueOf", "internal/reflectlite.Swapper", "(internal/reflectlite.Value).Len", "internal/bytealg.IndexByteString", "internal/bytealg.IndexString"], unfollowed := true, recurses := true, named := ["internal/bytealg.MaxLen"], apart := false }
def CoverageRanksSaid : Prop := coverageRanksRow.holds Try.pinned (OpenSpec.ofChange coverageRanksSpec)

/-- ITS FALSE NEIGHBOUR: 'it returns false'. Refute it at one input. -/
def coverageRanksWrong : ChangeSpec := { name := "coverageRanks", fn := fun _ => fun
  | [d] => { results := [.lit (.bool false)], args := [d] }
  | _ => none }
def CoverageRanksWrongFalsely : Prop := coverageRanksRow.holds Try.pinned (OpenSpec.ofChange coverageRanksWrong)

/-- 'pensionlaw16.CoverageSelects': WHATEVER THE INPUT: true; the input reads as it did. -/
def coverageSelectsSpec : ChangeSpec := { name := "coverageSelects", fn := fun _ => fun
  | [d1, d2, d3, d4] => { results := [.lit (.bool true)], args := [d1, d2, d3, d4] }
  | _ => none }
def coverageSelectsRow : OpenClaim := { program := "ytchffdmfiffifaa", sum := "70a5629e9df9b58ec11a886d64dc1a0334046f8ac2053113b252def242d84ec1", func := "pension/pensionlaw16.CoverageSelects", spec := "coverageSelects", inPlace := ["internal/reflectlite.ValueOf", "internal/reflectlite.Swapper", "(internal/reflectlite.Value).Len", "internal/bytealg.IndexByteString", "internal/bytealg.IndexString"], unfollowed := true, recurses := true, named := ["internal/bytealg.MaxLen"], apart := false }
def CoverageSelectsSaid : Prop := coverageSelectsRow.holds Try.pinned (OpenSpec.ofChange coverageSelectsSpec)

/-- ITS FALSE NEIGHBOUR: 'it returns false'. Refute it at one input. -/
def coverageSelectsWrong : ChangeSpec := { name := "coverageSelects", fn := fun _ => fun
  | [d1, d2, d3, d4] => { results := [.lit (.bool false)], args := [d1, d2, d3, d4] }
  | _ => none }
def CoverageSelectsWrongFalsely : Prop := coverageSelectsRow.holds Try.pinned (OpenSpec.ofChange coverageSelectsWrong)

/- THE SECOND FORM. 'bulk': how many values and letters a reading holds, each counted each time it is reached (what is shared counts as often as it is met; a slice's spare places count too). A statement '..UptoSaid' is the law's where the arguments, and the package variables that the reading takes, are together of bulk at most 1048576: NARROWER than '..Said'. Prove '..Said' where nothing that the law and all that it calls make is longer than what came in: it says more and counts as full. Else prove '..UptoSaid'. A law counts once. -/
mutual
def uptoBulk {H : Type} : DataW H → Nat
  | .lit (.string bytes) => bytes.length + 1
  | .lit _ => 1
  | .nil => 1
  | .ptr d => uptoBulk d + 1
  | .slice elems spare => uptoBulkAll elems + uptoBulkAll spare + 1
  | .agg parts => uptoBulkAll parts + 1
  | .iface _ d => uptoBulk d + 1
  | .map entries => uptoBulkEntries entries + 1
  | .held _ => 1
def uptoBulkAll {H : Type} : List (DataW H) → Nat
  | [] => 0
  | d :: r => uptoBulk d + uptoBulkAll r
def uptoBulkEntries {H : Type} : List (Lit × DataW H) → Nat
  | [] => 0
  | x :: r => uptoBulkEntry x + uptoBulkEntries r
def uptoBulkEntry {H : Type} : Lit × DataW H → Nat
  | (.string bytes, d) => bytes.length + uptoBulk d + 1
  | (_, d) => uptoBulk d + 1
 end
def uptoSmall : (H : Type) → List (DataW H) → Bool := fun _ ds => decide (uptoBulkAll ds ≤ 1048576)
def OpenSpec.upto (s : _root_.Go.ChangeSpec) : _root_.Go.OpenSpec := { _root_.Go.OpenSpec.ofChange s with cond := some uptoSmall }

/-- 'pensionlaw19.EarningsParts', WHERE WHAT IT READS IS OF BULK AT MOST 1048576: true; the input reads as it did. -/
def earningsPartsUptoRow : OpenClaim := { program := "ytchffdmfiffifaa", sum := "70a5629e9df9b58ec11a886d64dc1a0334046f8ac2053113b252def242d84ec1", func := "pension/pensionlaw19.EarningsParts", spec := "earningsParts", inPlace := ["internal/bytealg.IndexByteString", "internal/bytealg.IndexString"], unfollowed := true, recurses := true, named := ["internal/bytealg.MaxLen"], apart := false, narrowed := true }
def EarningsPartsUptoSaid : Prop := earningsPartsUptoRow.holds Try.pinned (OpenSpec.upto earningsPartsSpec)

/-- 'pensionlaw19.EarningsSplit', WHERE WHAT IT READS IS OF BULK AT MOST 1048576: true; the input reads as it did. -/
def earningsSplitUptoRow : OpenClaim := { program := "ytchffdmfiffifaa", sum := "70a5629e9df9b58ec11a886d64dc1a0334046f8ac2053113b252def242d84ec1", func := "pension/pensionlaw19.EarningsSplit", spec := "earningsSplit", inPlace := ["internal/bytealg.IndexByteString", "internal/bytealg.IndexString"], unfollowed := true, recurses := true, named := ["internal/bytealg.MaxLen"], apart := false, narrowed := true }
def EarningsSplitUptoSaid : Prop := earningsSplitUptoRow.holds Try.pinned (OpenSpec.upto earningsSplitSpec)

/-- 'pensionlaw13.CareerLattice', WHERE WHAT IT READS IS OF BULK AT MOST 1048576: true; the input reads as it did. -/
def careerLatticeUptoRow : OpenClaim := { program := "ytchffdmfiffifaa", sum := "70a5629e9df9b58ec11a886d64dc1a0334046f8ac2053113b252def242d84ec1", func := "pension/pensionlaw13.CareerLattice", spec := "careerLattice", inPlace := ["internal/bytealg.IndexByteString", "internal/bytealg.IndexString", "internal/bytealg.Compare"], unfollowed := true, recurses := true, named := ["internal/bytealg.MaxLen"], apart := false, narrowed := true }
def CareerLatticeUptoSaid : Prop := careerLatticeUptoRow.holds Try.pinned (OpenSpec.upto careerLatticeSpec)

/-- 'pensionlaw13.CareerArrival', WHERE WHAT IT READS IS OF BULK AT MOST 1048576: true; the input reads as it did. -/
def careerArrivalUptoRow : OpenClaim := { program := "ytchffdmfiffifaa", sum := "70a5629e9df9b58ec11a886d64dc1a0334046f8ac2053113b252def242d84ec1", func := "pension/pensionlaw13.CareerArrival", spec := "careerArrival", inPlace := ["internal/bytealg.IndexByteString", "internal/bytealg.IndexString", "internal/bytealg.Compare"], unfollowed := true, recurses := true, named := ["internal/bytealg.MaxLen"], apart := false, narrowed := true }
def CareerArrivalUptoSaid : Prop := careerArrivalUptoRow.holds Try.pinned (OpenSpec.upto careerArrivalSpec)

/-- 'pensionlaw19.EarningsBase', WHERE WHAT IT READS IS OF BULK AT MOST 1048576: true; the input reads as it did. -/
def earningsBaseUptoRow : OpenClaim := { program := "ytchffdmfiffifaa", sum := "70a5629e9df9b58ec11a886d64dc1a0334046f8ac2053113b252def242d84ec1", func := "pension/pensionlaw19.EarningsBase", spec := "earningsBase", inPlace := ["internal/bytealg.IndexByteString", "internal/bytealg.IndexString"], unfollowed := true, recurses := true, named := ["math/bits.divideError", "math/bits.overflowError", "internal/bytealg.MaxLen"], apart := false, narrowed := true }
def EarningsBaseUptoSaid : Prop := earningsBaseUptoRow.holds Try.pinned (OpenSpec.upto earningsBaseSpec)

/-- 'pensionlaw13.CareerMerges', WHERE WHAT IT READS IS OF BULK AT MOST 1048576: true; the input reads as it did. -/
def careerMergesUptoRow : OpenClaim := { program := "ytchffdmfiffifaa", sum := "70a5629e9df9b58ec11a886d64dc1a0334046f8ac2053113b252def242d84ec1", func := "pension/pensionlaw13.CareerMerges", spec := "careerMerges", inPlace := ["internal/bytealg.IndexByteString", "internal/bytealg.IndexString", "internal/bytealg.Compare"], unfollowed := true, recurses := true, named := ["internal/bytealg.MaxLen"], apart := false, narrowed := true }
def CareerMergesUptoSaid : Prop := careerMergesUptoRow.holds Try.pinned (OpenSpec.upto careerMergesSpec)

/-- 'pensionlaw13.CareerMoves', WHERE WHAT IT READS IS OF BULK AT MOST 1048576: true; the input reads as it did. -/
def careerMovesUptoRow : OpenClaim := { program := "ytchffdmfiffifaa", sum := "70a5629e9df9b58ec11a886d64dc1a0334046f8ac2053113b252def242d84ec1", func := "pension/pensionlaw13.CareerMoves", spec := "careerMoves", inPlace := ["internal/bytealg.IndexByteString", "internal/bytealg.IndexString", "internal/bytealg.Compare"], unfollowed := true, recurses := true, named := ["internal/bytealg.MaxLen"], apart := false, narrowed := true }
def CareerMovesUptoSaid : Prop := careerMovesUptoRow.holds Try.pinned (OpenSpec.upto careerMovesSpec)

/-- 'pensionlaw19.EarningsBest', WHERE WHAT IT READS IS OF BULK AT MOST 1048576: true; the input reads as it did. -/
def earningsBestUptoRow : OpenClaim := { program := "ytchffdmfiffifaa", sum := "70a5629e9df9b58ec11a886d64dc1a0334046f8ac2053113b252def242d84ec1", func := "pension/pensionlaw19.EarningsBest", spec := "earningsBest", inPlace := ["internal/bytealg.IndexByteString", "internal/bytealg.IndexString"], unfollowed := true, recurses := true, named := ["math/bits.divideError", "math/bits.overflowError", "internal/bytealg.MaxLen"], apart := false, narrowed := true }
def EarningsBestUptoSaid : Prop := earningsBestUptoRow.holds Try.pinned (OpenSpec.upto earningsBestSpec)

/-- 'pensionlaw13.CareerLife', WHERE WHAT IT READS IS OF BULK AT MOST 1048576: true; the input reads as it did. -/
def careerLifeUptoRow : OpenClaim := { program := "ytchffdmfiffifaa", sum := "70a5629e9df9b58ec11a886d64dc1a0334046f8ac2053113b252def242d84ec1", func := "pension/pensionlaw13.CareerLife", spec := "careerLife", inPlace := ["internal/bytealg.IndexByteString", "internal/bytealg.IndexString", "internal/bytealg.Compare"], unfollowed := true, recurses := true, named := ["internal/bytealg.MaxLen"], apart := false, narrowed := true }
def CareerLifeUptoSaid : Prop := careerLifeUptoRow.holds Try.pinned (OpenSpec.upto careerLifeSpec)

/-- 'pensionlaw13.CareerSelects', WHERE WHAT IT READS IS OF BULK AT MOST 1048576: true; the input reads as it did. -/
def careerSelectsUptoRow : OpenClaim := { program := "ytchffdmfiffifaa", sum := "70a5629e9df9b58ec11a886d64dc1a0334046f8ac2053113b252def242d84ec1", func := "pension/pensionlaw13.CareerSelects", spec := "careerSelects", inPlace := ["internal/bytealg.IndexByteString", "internal/bytealg.IndexString", "internal/bytealg.Compare"], unfollowed := true, recurses := true, named := ["internal/bytealg.MaxLen"], apart := false, narrowed := true }
def CareerSelectsUptoSaid : Prop := careerSelectsUptoRow.holds Try.pinned (OpenSpec.upto careerSelectsSpec)

/-- 'pensionlaw19.EarningsIndexed', WHERE WHAT IT READS IS OF BULK AT MOST 1048576: true; the input reads as it did. -/
def earningsIndexedUptoRow : OpenClaim := { program := "ytchffdmfiffifaa", sum := "70a5629e9df9b58ec11a886d64dc1a0334046f8ac2053113b252def242d84ec1", func := "pension/pensionlaw19.EarningsIndexed", spec := "earningsIndexed", inPlace := ["math/bits.Add64", "internal/bytealg.IndexByteString", "internal/bytealg.IndexString"], unfollowed := true, recurses := true, named := ["math/bits.divideError", "math/bits.overflowError", "internal/bytealg.MaxLen"], apart := false, narrowed := true }
def EarningsIndexedUptoSaid : Prop := earningsIndexedUptoRow.holds Try.pinned (OpenSpec.upto earningsIndexedSpec)

/-- 'pensionlaw18.TotalsCompute', WHERE WHAT IT READS IS OF BULK AT MOST 1048576: true; the input reads as it did. -/
def totalsComputeUptoRow : OpenClaim := { program := "ytchffdmfiffifaa", sum := "70a5629e9df9b58ec11a886d64dc1a0334046f8ac2053113b252def242d84ec1", func := "pension/pensionlaw18.TotalsCompute", spec := "totalsCompute", inPlace := ["internal/reflectlite.ValueOf", "internal/reflectlite.Swapper", "(internal/reflectlite.Value).Len"], unfollowed := true, recurses := true, apart := false, narrowed := true }
def TotalsComputeUptoSaid : Prop := totalsComputeUptoRow.holds Try.pinned (OpenSpec.upto totalsComputeSpec)

/-- 'pensionlaw18.TotalsFractions', WHERE WHAT IT READS IS OF BULK AT MOST 1048576: true; the input reads as it did. -/
def totalsFractionsUptoRow : OpenClaim := { program := "ytchffdmfiffifaa", sum := "70a5629e9df9b58ec11a886d64dc1a0334046f8ac2053113b252def242d84ec1", func := "pension/pensionlaw18.TotalsFractions", spec := "totalsFractions", inPlace := ["internal/reflectlite.ValueOf", "internal/reflectlite.Swapper", "(internal/reflectlite.Value).Len"], unfollowed := true, recurses := true, apart := false, narrowed := true }
def TotalsFractionsUptoSaid : Prop := totalsFractionsUptoRow.holds Try.pinned (OpenSpec.upto totalsFractionsSpec)

/-- 'pensionlaw18.TotalsSums', WHERE WHAT IT READS IS OF BULK AT MOST 1048576: true; the input reads as it did. -/
def totalsSumsUptoRow : OpenClaim := { program := "ytchffdmfiffifaa", sum := "70a5629e9df9b58ec11a886d64dc1a0334046f8ac2053113b252def242d84ec1", func := "pension/pensionlaw18.TotalsSums", spec := "totalsSums", inPlace := ["internal/reflectlite.ValueOf", "internal/reflectlite.Swapper", "(internal/reflectlite.Value).Len"], unfollowed := true, recurses := true, apart := false, narrowed := true }
def TotalsSumsUptoSaid : Prop := totalsSumsUptoRow.holds Try.pinned (OpenSpec.upto totalsSumsSpec)

/-- 'pensionlaw18.TotalsGrow', WHERE WHAT IT READS IS OF BULK AT MOST 1048576: true; the input reads as it did. -/
def totalsGrowUptoRow : OpenClaim := { program := "ytchffdmfiffifaa", sum := "70a5629e9df9b58ec11a886d64dc1a0334046f8ac2053113b252def242d84ec1", func := "pension/pensionlaw18.TotalsGrow", spec := "totalsGrow", inPlace := ["internal/reflectlite.ValueOf", "internal/reflectlite.Swapper", "(internal/reflectlite.Value).Len"], unfollowed := true, recurses := true, apart := false, narrowed := true }
def TotalsGrowUptoSaid : Prop := totalsGrowUptoRow.holds Try.pinned (OpenSpec.upto totalsGrowSpec)

/-- 'pensionlaw18.TotalsAddUp', WHERE WHAT IT READS IS OF BULK AT MOST 1048576: true; the input reads as it did. -/
def totalsAddUpUptoRow : OpenClaim := { program := "ytchffdmfiffifaa", sum := "70a5629e9df9b58ec11a886d64dc1a0334046f8ac2053113b252def242d84ec1", func := "pension/pensionlaw18.TotalsAddUp", spec := "totalsAddUp", inPlace := ["internal/reflectlite.ValueOf", "internal/reflectlite.Swapper", "(internal/reflectlite.Value).Len", "math/bits.Add64", "math/bits.Sub64"], unfollowed := true, recurses := true, named := ["math/bits.divideError", "math/bits.overflowError"], apart := false, narrowed := true }
def TotalsAddUpUptoSaid : Prop := totalsAddUpUptoRow.holds Try.pinned (OpenSpec.upto totalsAddUpSpec)

/-- 'pensionlaw13.CareerFamily', WHERE WHAT IT READS IS OF BULK AT MOST 1048576: true; the input reads as it did. -/
def careerFamilyUptoRow : OpenClaim := { program := "ytchffdmfiffifaa", sum := "70a5629e9df9b58ec11a886d64dc1a0334046f8ac2053113b252def242d84ec1", func := "pension/pensionlaw13.CareerFamily", spec := "careerFamily", inPlace := ["internal/bytealg.IndexByteString", "internal/bytealg.IndexString", "internal/bytealg.Compare"], unfollowed := true, recurses := true, named := ["internal/bytealg.MaxLen"], apart := false, narrowed := true }
def CareerFamilyUptoSaid : Prop := careerFamilyUptoRow.holds Try.pinned (OpenSpec.upto careerFamilySpec)

/-- 'pensionlaw16.CoverageRanks', WHERE WHAT IT READS IS OF BULK AT MOST 1048576: true; the input reads as it did. -/
def coverageRanksUptoRow : OpenClaim := { program := "ytchffdmfiffifaa", sum := "70a5629e9df9b58ec11a886d64dc1a0334046f8ac2053113b252def242d84ec1", func := "pension/pensionlaw16.CoverageRanks", spec := "coverageRanks", inPlace := ["internal/reflectlite.ValueOf", "internal/reflectlite.Swapper", "(internal/reflectlite.Value).Len", "internal/bytealg.IndexByteString", "internal/bytealg.IndexString"], unfollowed := true, recurses := true, named := ["internal/bytealg.MaxLen"], apart := false, narrowed := true }
def CoverageRanksUptoSaid : Prop := coverageRanksUptoRow.holds Try.pinned (OpenSpec.upto coverageRanksSpec)

/-- 'pensionlaw16.CoverageSelects', WHERE WHAT IT READS IS OF BULK AT MOST 1048576: true; the input reads as it did. -/
def coverageSelectsUptoRow : OpenClaim := { program := "ytchffdmfiffifaa", sum := "70a5629e9df9b58ec11a886d64dc1a0334046f8ac2053113b252def242d84ec1", func := "pension/pensionlaw16.CoverageSelects", spec := "coverageSelects", inPlace := ["internal/reflectlite.ValueOf", "internal/reflectlite.Swapper", "(internal/reflectlite.Value).Len", "internal/bytealg.IndexByteString", "internal/bytealg.IndexString"], unfollowed := true, recurses := true, named := ["internal/bytealg.MaxLen"], apart := false, narrowed := true }
def CoverageSelectsUptoSaid : Prop := coverageSelectsUptoRow.holds Try.pinned (OpenSpec.upto coverageSelectsSpec)

end Rows
end Go.Proofs.Ytchffdmfiffifaa
