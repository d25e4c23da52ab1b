/-
  No cell of these rows narrows 'for every input' (looked for: loops, veiled, ifaces, maps, wideKeys, modest, calm, conditions, laid).
  DERIVED. THE GIVEN ROWS OF THIS SEAT. 10 by the template 'for every input the law returns true; each argument reads behind the call as it read before'; 0 by the template 'total and deterministic' (their statements: YtbjfcadcipfolaaGreatTotals.lean).
  GIVEN WITH THE SEED: the statements are not yours to turn. If you find one false, say at which input.
  Laid BY PROGRAM, IN A SANDBOX (cutbox-rows.mjs): the forced cells as the released guide's own fill.sh prints them over the translation 2f8999c5c5c0646e… (all of the seat's roots in one cut). By AI agents, Wed Nov 11 2026. No macro, syntax, notation, axiom, sorry.
-/
import Derived.Test.YtbjfcadcipfolaaGreatChecked
import GoSem.Claim
import GoSem.ClaimJoined
import GoSem.ClaimMapViews
import Derived.JoinedTies
import Derived.KernelRfl
namespace Go.Proofs.YtbjfcadcipfolaaGreat
/- THE CELL 'sum', in the pinned program and in every row, IS THE sha256 OF THE DUMP (.gsa) THAT YtbjfcadcipfolaaGreatProg.lean LOADS. Nothing in Lean hashes anything: it is a label: what it is worth is what the hold of that sum in a sandbox is worth. -/
noncomputable def Tryz.pinned : Pinned := { name := "ytbjfcadcipfolaagreat", sum := "2f8999c5c5c0646ee580cd7088a521dee06f03a909e2e79c611373872524b857", checked := Tryz.checked }
namespace Rows
def none {H : Type} : Left H := { results := [], args := [] }

/-- 'pensionlaw32.FeedGetAgrees': WHATEVER THE INPUT: true; the input reads as it did. -/
def feedGetAgreesSpec : ChangeSpec := { name := "feedGetAgrees", fn := fun _ => fun
  | [d1, d2, d3, d4] => { results := [.lit (.bool true)], args := [d1, d2, d3, d4] }
  | _ => none }
def feedGetAgreesRow : OpenClaim := { program := "ytbjfcadcipfolaagreat", sum := "2f8999c5c5c0646ee580cd7088a521dee06f03a909e2e79c611373872524b857", func := "pension/pensionlaw32.FeedGetAgrees", spec := "feedGetAgrees", inPlace := ["internal/bytealg.IndexByteString", "internal/bytealg.IndexString", "internal/bytealg.Compare"], unfollowed := true, recurses := true, named := ["internal/bytealg.MaxLen"], plainKeys := false, apart := false }
def FeedGetAgreesSaid : Prop := feedGetAgreesRow.holds Tryz.pinned (OpenSpec.ofChange feedGetAgreesSpec)

/-- ITS FALSE NEIGHBOUR: 'it returns false'. Refute it at one input. -/
def feedGetAgreesWrong : ChangeSpec := { name := "feedGetAgrees", fn := fun _ => fun
  | [d1, d2, d3, d4] => { results := [.lit (.bool false)], args := [d1, d2, d3, d4] }
  | _ => none }
def FeedGetAgreesWrongFalsely : Prop := feedGetAgreesRow.holds Tryz.pinned (OpenSpec.ofChange feedGetAgreesWrong)

/-- 'pensionlaw32.FeedCountsWithoutGaps': WHATEVER THE INPUT: true; the input reads as it did. -/
def feedCountsWithoutGapsSpec : ChangeSpec := { name := "feedCountsWithoutGaps", fn := fun _ => fun
  | [d1, d2, d3] => { results := [.lit (.bool true)], args := [d1, d2, d3] }
  | _ => none }
def feedCountsWithoutGapsRow : OpenClaim := { program := "ytbjfcadcipfolaagreat", sum := "2f8999c5c5c0646ee580cd7088a521dee06f03a909e2e79c611373872524b857", func := "pension/pensionlaw32.FeedCountsWithoutGaps", spec := "feedCountsWithoutGaps", inPlace := ["internal/bytealg.IndexByteString", "internal/bytealg.IndexString", "internal/bytealg.Compare"], unfollowed := true, recurses := true, named := ["internal/bytealg.MaxLen"], plainKeys := false, apart := false }
def FeedCountsWithoutGapsSaid : Prop := feedCountsWithoutGapsRow.holds Tryz.pinned (OpenSpec.ofChange feedCountsWithoutGapsSpec)

/-- ITS FALSE NEIGHBOUR: 'it returns false'. Refute it at one input. -/
def feedCountsWithoutGapsWrong : ChangeSpec := { name := "feedCountsWithoutGaps", fn := fun _ => fun
  | [d1, d2, d3] => { results := [.lit (.bool false)], args := [d1, d2, d3] }
  | _ => none }
def FeedCountsWithoutGapsWrongFalsely : Prop := feedCountsWithoutGapsRow.holds Tryz.pinned (OpenSpec.ofChange feedCountsWithoutGapsWrong)

/-- 'pensionlaw32.FeedMissingAgrees': WHATEVER THE INPUT: true; the input reads as it did. -/
def feedMissingAgreesSpec : ChangeSpec := { name := "feedMissingAgrees", fn := fun _ => fun
  | [d1, d2, d3, d4] => { results := [.lit (.bool true)], args := [d1, d2, d3, d4] }
  | _ => none }
def feedMissingAgreesRow : OpenClaim := { program := "ytbjfcadcipfolaagreat", sum := "2f8999c5c5c0646ee580cd7088a521dee06f03a909e2e79c611373872524b857", func := "pension/pensionlaw32.FeedMissingAgrees", spec := "feedMissingAgrees", inPlace := ["internal/bytealg.IndexByteString", "internal/bytealg.IndexString", "internal/bytealg.Compare"], unfollowed := true, recurses := true, named := ["internal/bytealg.MaxLen"], plainKeys := false, apart := false }
def FeedMissingAgreesSaid : Prop := feedMissingAgreesRow.holds Tryz.pinned (OpenSpec.ofChange feedMissingAgreesSpec)

/-- ITS FALSE NEIGHBOUR: 'it returns false'. Refute it at one input. -/
def feedMissingAgreesWrong : ChangeSpec := { name := "feedMissingAgrees", fn := fun _ => fun
  | [d1, d2, d3, d4] => { results := [.lit (.bool false)], args := [d1, d2, d3, d4] }
  | _ => none }
def FeedMissingAgreesWrongFalsely : Prop := feedMissingAgreesRow.holds Tryz.pinned (OpenSpec.ofChange feedMissingAgreesWrong)

/-- 'pensionlaw32.FeedResolvesForgeries': WHATEVER THE INPUT: true; the input reads as it did. -/
def feedResolvesForgeriesSpec : ChangeSpec := { name := "feedResolvesForgeries", fn := fun _ => fun
  | [d1, d2] => { results := [.lit (.bool true)], args := [d1, d2] }
  | _ => none }
def feedResolvesForgeriesRow : OpenClaim := { program := "ytbjfcadcipfolaagreat", sum := "2f8999c5c5c0646ee580cd7088a521dee06f03a909e2e79c611373872524b857", func := "pension/pensionlaw32.FeedResolvesForgeries", spec := "feedResolvesForgeries", inPlace := ["internal/bytealg.IndexByteString", "internal/bytealg.IndexString", "internal/bytealg.Compare"], unfollowed := true, recurses := true, named := ["internal/bytealg.MaxLen"], plainKeys := false, apart := false }
def FeedResolvesForgeriesSaid : Prop := feedResolvesForgeriesRow.holds Tryz.pinned (OpenSpec.ofChange feedResolvesForgeriesSpec)

/-- ITS FALSE NEIGHBOUR: 'it returns false'. Refute it at one input. -/
def feedResolvesForgeriesWrong : ChangeSpec := { name := "feedResolvesForgeries", fn := fun _ => fun
  | [d1, d2] => { results := [.lit (.bool false)], args := [d1, d2] }
  | _ => none }
def FeedResolvesForgeriesWrongFalsely : Prop := feedResolvesForgeriesRow.holds Tryz.pinned (OpenSpec.ofChange feedResolvesForgeriesWrong)

/-- 'pensionlaw32.FeedReconciles': WHATEVER THE INPUT: true; the input reads as it did. -/
def feedReconcilesSpec : ChangeSpec := { name := "feedReconciles", fn := fun _ => fun
  | [d1, d2, d3] => { results := [.lit (.bool true)], args := [d1, d2, d3] }
  | _ => none }
def feedReconcilesRow : OpenClaim := { program := "ytbjfcadcipfolaagreat", sum := "2f8999c5c5c0646ee580cd7088a521dee06f03a909e2e79c611373872524b857", func := "pension/pensionlaw32.FeedReconciles", spec := "feedReconciles", inPlace := ["internal/bytealg.IndexByteString", "internal/bytealg.IndexString", "internal/bytealg.Compare"], unfollowed := true, recurses := true, named := ["internal/bytealg.MaxLen"], plainKeys := false, apart := false }
def FeedReconcilesSaid : Prop := feedReconcilesRow.holds Tryz.pinned (OpenSpec.ofChange feedReconcilesSpec)

/-- ITS FALSE NEIGHBOUR: 'it returns false'. Refute it at one input. -/
def feedReconcilesWrong : ChangeSpec := { name := "feedReconciles", fn := fun _ => fun
  | [d1, d2, d3] => { results := [.lit (.bool false)], args := [d1, d2, d3] }
  | _ => none }
def FeedReconcilesWrongFalsely : Prop := feedReconcilesRow.holds Tryz.pinned (OpenSpec.ofChange feedReconcilesWrong)

/-- 'pensionlaw32.FeedAddAgrees': WHATEVER THE INPUT: true; the input reads as it did. -/
def feedAddAgreesSpec : ChangeSpec := { name := "feedAddAgrees", fn := fun _ => fun
  | [d1, d2] => { results := [.lit (.bool true)], args := [d1, d2] }
  | _ => none }
def feedAddAgreesRow : OpenClaim := { program := "ytbjfcadcipfolaagreat", sum := "2f8999c5c5c0646ee580cd7088a521dee06f03a909e2e79c611373872524b857", func := "pension/pensionlaw32.FeedAddAgrees", spec := "feedAddAgrees", inPlace := ["internal/bytealg.IndexByteString", "internal/bytealg.IndexString", "internal/bytealg.Compare", "internal/reflectlite.ValueOf", "internal/reflectlite.Swapper", "(internal/reflectlite.Value).Len"], unfollowed := true, recurses := true, named := ["internal/bytealg.MaxLen"], plainKeys := false, apart := false }
def FeedAddAgreesSaid : Prop := feedAddAgreesRow.holds Tryz.pinned (OpenSpec.ofChange feedAddAgreesSpec)

/-- ITS FALSE NEIGHBOUR: 'it returns false'. Refute it at one input. -/
def feedAddAgreesWrong : ChangeSpec := { name := "feedAddAgrees", fn := fun _ => fun
  | [d1, d2] => { results := [.lit (.bool false)], args := [d1, d2] }
  | _ => none }
def FeedAddAgreesWrongFalsely : Prop := feedAddAgreesRow.holds Tryz.pinned (OpenSpec.ofChange feedAddAgreesWrong)

/-- 'pensionlaw32.FeedAddRejects': WHATEVER THE INPUT: true; the input reads as it did. -/
def feedAddRejectsSpec : ChangeSpec := { name := "feedAddRejects", fn := fun _ => fun
  | [d1, d2, d3, d4] => { results := [.lit (.bool true)], args := [d1, d2, d3, d4] }
  | _ => none }
def feedAddRejectsRow : OpenClaim := { program := "ytbjfcadcipfolaagreat", sum := "2f8999c5c5c0646ee580cd7088a521dee06f03a909e2e79c611373872524b857", func := "pension/pensionlaw32.FeedAddRejects", spec := "feedAddRejects", inPlace := ["internal/bytealg.IndexByteString", "internal/bytealg.IndexString", "internal/bytealg.Compare", "internal/reflectlite.ValueOf", "internal/reflectlite.Swapper", "(internal/reflectlite.Value).Len"], unfollowed := true, recurses := true, named := ["internal/bytealg.MaxLen"], plainKeys := false, apart := false }
def FeedAddRejectsSaid : Prop := feedAddRejectsRow.holds Tryz.pinned (OpenSpec.ofChange feedAddRejectsSpec)

/-- ITS FALSE NEIGHBOUR: 'it returns false'. Refute it at one input. -/
def feedAddRejectsWrong : ChangeSpec := { name := "feedAddRejects", fn := fun _ => fun
  | [d1, d2, d3, d4] => { results := [.lit (.bool false)], args := [d1, d2, d3, d4] }
  | _ => none }
def FeedAddRejectsWrongFalsely : Prop := feedAddRejectsRow.holds Tryz.pinned (OpenSpec.ofChange feedAddRejectsWrong)

/-- 'pensionlaw32.FeedFactsAgree': WHATEVER THE INPUT: true; the input reads as it did. -/
def feedFactsAgreeSpec : ChangeSpec := { name := "feedFactsAgree", fn := fun _ => fun
  | [d1, d2] => { results := [.lit (.bool true)], args := [d1, d2] }
  | _ => none }
def feedFactsAgreeRow : OpenClaim := { program := "ytbjfcadcipfolaagreat", sum := "2f8999c5c5c0646ee580cd7088a521dee06f03a909e2e79c611373872524b857", func := "pension/pensionlaw32.FeedFactsAgree", spec := "feedFactsAgree", inPlace := ["internal/bytealg.IndexByteString", "internal/bytealg.IndexString", "internal/bytealg.Compare"], unfollowed := true, recurses := true, named := ["internal/bytealg.MaxLen"], plainKeys := false, apart := false }
def FeedFactsAgreeSaid : Prop := feedFactsAgreeRow.holds Tryz.pinned (OpenSpec.ofChange feedFactsAgreeSpec)

/-- ITS FALSE NEIGHBOUR: 'it returns false'. Refute it at one input. -/
def feedFactsAgreeWrong : ChangeSpec := { name := "feedFactsAgree", fn := fun _ => fun
  | [d1, d2] => { results := [.lit (.bool false)], args := [d1, d2] }
  | _ => none }
def FeedFactsAgreeWrongFalsely : Prop := feedFactsAgreeRow.holds Tryz.pinned (OpenSpec.ofChange feedFactsAgreeWrong)

/-- 'pensionlaw32.FeedForksApart': WHATEVER THE INPUT: true; the input reads as it did. -/
def feedForksApartSpec : ChangeSpec := { name := "feedForksApart", fn := fun _ => fun
  | [d1, d2] => { results := [.lit (.bool true)], args := [d1, d2] }
  | _ => none }
def feedForksApartRow : OpenClaim := { program := "ytbjfcadcipfolaagreat", sum := "2f8999c5c5c0646ee580cd7088a521dee06f03a909e2e79c611373872524b857", func := "pension/pensionlaw32.FeedForksApart", spec := "feedForksApart", inPlace := ["internal/bytealg.IndexByteString", "internal/bytealg.IndexString", "internal/bytealg.Compare", "maps.clone", "internal/reflectlite.ValueOf", "internal/reflectlite.Swapper", "(internal/reflectlite.Value).Len"], unfollowed := true, recurses := true, named := ["internal/bytealg.MaxLen"], plainKeys := false, apart := false }
def FeedForksApartSaid : Prop := feedForksApartRow.holds Tryz.pinned (OpenSpec.ofChange feedForksApartSpec)

/-- ITS FALSE NEIGHBOUR: 'it returns false'. Refute it at one input. -/
def feedForksApartWrong : ChangeSpec := { name := "feedForksApart", fn := fun _ => fun
  | [d1, d2] => { results := [.lit (.bool false)], args := [d1, d2] }
  | _ => none }
def FeedForksApartWrongFalsely : Prop := feedForksApartRow.holds Tryz.pinned (OpenSpec.ofChange feedForksApartWrong)

/-- 'pensionlaw32.FeedIgnoresOrder': WHATEVER THE INPUT: true; the input reads as it did. -/
def feedIgnoresOrderSpec : ChangeSpec := { name := "feedIgnoresOrder", fn := fun _ => fun
  | [d1, d2, d3] => { results := [.lit (.bool true)], args := [d1, d2, d3] }
  | _ => none }
def feedIgnoresOrderRow : OpenClaim := { program := "ytbjfcadcipfolaagreat", sum := "2f8999c5c5c0646ee580cd7088a521dee06f03a909e2e79c611373872524b857", func := "pension/pensionlaw32.FeedIgnoresOrder", spec := "feedIgnoresOrder", inPlace := ["internal/bytealg.IndexByteString", "internal/bytealg.IndexString", "internal/bytealg.Compare"], unfollowed := true, recurses := true, named := ["internal/bytealg.MaxLen"], plainKeys := false, apart := false }
def FeedIgnoresOrderSaid : Prop := feedIgnoresOrderRow.holds Tryz.pinned (OpenSpec.ofChange feedIgnoresOrderSpec)

/-- ITS FALSE NEIGHBOUR: 'it returns false'. Refute it at one input. -/
def feedIgnoresOrderWrong : ChangeSpec := { name := "feedIgnoresOrder", fn := fun _ => fun
  | [d1, d2, d3] => { results := [.lit (.bool false)], args := [d1, d2, d3] }
  | _ => none }
def FeedIgnoresOrderWrongFalsely : Prop := feedIgnoresOrderRow.holds Tryz.pinned (OpenSpec.ofChange feedIgnoresOrderWrong)

/- THE SECOND FORM. 'bulk': how many values and letters a reading holds, each counted each time it is reached (what is shared counts as often as it is met; a slice's spare places count too). A statement '..UptoSaid' is the law's where the arguments, and the package variables that the reading takes, are together of bulk at most 1048576: NARROWER than '..Said'. Prove '..Said' where nothing that the law and all that it calls make is longer than what came in: it says more and counts as full. Else prove '..UptoSaid'. A law counts once. -/
mutual
def uptoBulk {H : Type} : DataW H → Nat
  | .lit (.string bytes) => bytes.length + 1
  | .lit _ => 1
  | .nil => 1
  | .ptr d => uptoBulk d + 1
  | .slice elems spare => uptoBulkAll elems + uptoBulkAll spare + 1
  | .agg parts => uptoBulkAll parts + 1
  | .iface _ d => uptoBulk d + 1
  | .map entries => uptoBulkEntries entries + 1
  | .held _ => 1
def uptoBulkAll {H : Type} : List (DataW H) → Nat
  | [] => 0
  | d :: r => uptoBulk d + uptoBulkAll r
def uptoBulkEntries {H : Type} : List (Lit × DataW H) → Nat
  | [] => 0
  | x :: r => uptoBulkEntry x + uptoBulkEntries r
def uptoBulkEntry {H : Type} : Lit × DataW H → Nat
  | (.string bytes, d) => bytes.length + uptoBulk d + 1
  | (_, d) => uptoBulk d + 1
 end
def uptoSmall : (H : Type) → List (DataW H) → Bool := fun _ ds => decide (uptoBulkAll ds ≤ 1048576)
def OpenSpec.upto (s : _root_.Go.ChangeSpec) : _root_.Go.OpenSpec := { _root_.Go.OpenSpec.ofChange s with cond := some uptoSmall }

/-- 'pensionlaw32.FeedGetAgrees', WHERE WHAT IT READS IS OF BULK AT MOST 1048576: true; the input reads as it did. -/
def feedGetAgreesUptoRow : OpenClaim := { program := "ytbjfcadcipfolaagreat", sum := "2f8999c5c5c0646ee580cd7088a521dee06f03a909e2e79c611373872524b857", func := "pension/pensionlaw32.FeedGetAgrees", spec := "feedGetAgrees", inPlace := ["internal/bytealg.IndexByteString", "internal/bytealg.IndexString", "internal/bytealg.Compare"], unfollowed := true, recurses := true, named := ["internal/bytealg.MaxLen"], plainKeys := false, apart := false, narrowed := true }
def FeedGetAgreesUptoSaid : Prop := feedGetAgreesUptoRow.holds Tryz.pinned (OpenSpec.upto feedGetAgreesSpec)

/-- 'pensionlaw32.FeedCountsWithoutGaps', WHERE WHAT IT READS IS OF BULK AT MOST 1048576: true; the input reads as it did. -/
def feedCountsWithoutGapsUptoRow : OpenClaim := { program := "ytbjfcadcipfolaagreat", sum := "2f8999c5c5c0646ee580cd7088a521dee06f03a909e2e79c611373872524b857", func := "pension/pensionlaw32.FeedCountsWithoutGaps", spec := "feedCountsWithoutGaps", inPlace := ["internal/bytealg.IndexByteString", "internal/bytealg.IndexString", "internal/bytealg.Compare"], unfollowed := true, recurses := true, named := ["internal/bytealg.MaxLen"], plainKeys := false, apart := false, narrowed := true }
def FeedCountsWithoutGapsUptoSaid : Prop := feedCountsWithoutGapsUptoRow.holds Tryz.pinned (OpenSpec.upto feedCountsWithoutGapsSpec)

/-- 'pensionlaw32.FeedMissingAgrees', WHERE WHAT IT READS IS OF BULK AT MOST 1048576: true; the input reads as it did. -/
def feedMissingAgreesUptoRow : OpenClaim := { program := "ytbjfcadcipfolaagreat", sum := "2f8999c5c5c0646ee580cd7088a521dee06f03a909e2e79c611373872524b857", func := "pension/pensionlaw32.FeedMissingAgrees", spec := "feedMissingAgrees", inPlace := ["internal/bytealg.IndexByteString", "internal/bytealg.IndexString", "internal/bytealg.Compare"], unfollowed := true, recurses := true, named := ["internal/bytealg.MaxLen"], plainKeys := false, apart := false, narrowed := true }
def FeedMissingAgreesUptoSaid : Prop := feedMissingAgreesUptoRow.holds Tryz.pinned (OpenSpec.upto feedMissingAgreesSpec)

/-- 'pensionlaw32.FeedResolvesForgeries', WHERE WHAT IT READS IS OF BULK AT MOST 1048576: true; the input reads as it did. -/
def feedResolvesForgeriesUptoRow : OpenClaim := { program := "ytbjfcadcipfolaagreat", sum := "2f8999c5c5c0646ee580cd7088a521dee06f03a909e2e79c611373872524b857", func := "pension/pensionlaw32.FeedResolvesForgeries", spec := "feedResolvesForgeries", inPlace := ["internal/bytealg.IndexByteString", "internal/bytealg.IndexString", "internal/bytealg.Compare"], unfollowed := true, recurses := true, named := ["internal/bytealg.MaxLen"], plainKeys := false, apart := false, narrowed := true }
def FeedResolvesForgeriesUptoSaid : Prop := feedResolvesForgeriesUptoRow.holds Tryz.pinned (OpenSpec.upto feedResolvesForgeriesSpec)

/-- 'pensionlaw32.FeedReconciles', WHERE WHAT IT READS IS OF BULK AT MOST 1048576: true; the input reads as it did. -/
def feedReconcilesUptoRow : OpenClaim := { program := "ytbjfcadcipfolaagreat", sum := "2f8999c5c5c0646ee580cd7088a521dee06f03a909e2e79c611373872524b857", func := "pension/pensionlaw32.FeedReconciles", spec := "feedReconciles", inPlace := ["internal/bytealg.IndexByteString", "internal/bytealg.IndexString", "internal/bytealg.Compare"], unfollowed := true, recurses := true, named := ["internal/bytealg.MaxLen"], plainKeys := false, apart := false, narrowed := true }
def FeedReconcilesUptoSaid : Prop := feedReconcilesUptoRow.holds Tryz.pinned (OpenSpec.upto feedReconcilesSpec)

/-- 'pensionlaw32.FeedAddAgrees', WHERE WHAT IT READS IS OF BULK AT MOST 1048576: true; the input reads as it did. -/
def feedAddAgreesUptoRow : OpenClaim := { program := "ytbjfcadcipfolaagreat", sum := "2f8999c5c5c0646ee580cd7088a521dee06f03a909e2e79c611373872524b857", func := "pension/pensionlaw32.FeedAddAgrees", spec := "feedAddAgrees", inPlace := ["internal/bytealg.IndexByteString", "internal/bytealg.IndexString", "internal/bytealg.Compare", "internal/reflectlite.ValueOf", "internal/reflectlite.Swapper", "(internal/reflectlite.Value).Len"], unfollowed := true, recurses := true, named := ["internal/bytealg.MaxLen"], plainKeys := false, apart := false, narrowed := true }
def FeedAddAgreesUptoSaid : Prop := feedAddAgreesUptoRow.holds Tryz.pinned (OpenSpec.upto feedAddAgreesSpec)

/-- 'pensionlaw32.FeedAddRejects', WHERE WHAT IT READS IS OF BULK AT MOST 1048576: true; the input reads as it did. -/
def feedAddRejectsUptoRow : OpenClaim := { program := "ytbjfcadcipfolaagreat", sum := "2f8999c5c5c0646ee580cd7088a521dee06f03a909e2e79c611373872524b857", func := "pension/pensionlaw32.FeedAddRejects", spec := "feedAddRejects", inPlace := ["internal/bytealg.IndexByteString", "internal/bytealg.IndexString", "internal/bytealg.Compare", "internal/reflectlite.ValueOf", "internal/reflectlite.Swapper", "(internal/reflectlite.Value).Len"], unfollowed := true, recurses := true, named := ["internal/bytealg.MaxLen"], plainKeys := false, apart := false, narrowed := true }
def FeedAddRejectsUptoSaid : Prop := feedAddRejectsUptoRow.holds Tryz.pinned (OpenSpec.upto feedAddRejectsSpec)

/-- 'pensionlaw32.FeedFactsAgree', WHERE WHAT IT READS IS OF BULK AT MOST 1048576: true; the input reads as it did. -/
def feedFactsAgreeUptoRow : OpenClaim := { program := "ytbjfcadcipfolaagreat", sum := "2f8999c5c5c0646ee580cd7088a521dee06f03a909e2e79c611373872524b857", func := "pension/pensionlaw32.FeedFactsAgree", spec := "feedFactsAgree", inPlace := ["internal/bytealg.IndexByteString", "internal/bytealg.IndexString", "internal/bytealg.Compare"], unfollowed := true, recurses := true, named := ["internal/bytealg.MaxLen"], plainKeys := false, apart := false, narrowed := true }
def FeedFactsAgreeUptoSaid : Prop := feedFactsAgreeUptoRow.holds Tryz.pinned (OpenSpec.upto feedFactsAgreeSpec)

/-- 'pensionlaw32.FeedForksApart', WHERE WHAT IT READS IS OF BULK AT MOST 1048576: true; the input reads as it did. -/
def feedForksApartUptoRow : OpenClaim := { program := "ytbjfcadcipfolaagreat", sum := "2f8999c5c5c0646ee580cd7088a521dee06f03a909e2e79c611373872524b857", func := "pension/pensionlaw32.FeedForksApart", spec := "feedForksApart", inPlace := ["internal/bytealg.IndexByteString", "internal/bytealg.IndexString", "internal/bytealg.Compare", "maps.clone", "internal/reflectlite.ValueOf", "internal/reflectlite.Swapper", "(internal/reflectlite.Value).Len"], unfollowed := true, recurses := true, named := ["internal/bytealg.MaxLen"], plainKeys := false, apart := false, narrowed := true }
def FeedForksApartUptoSaid : Prop := feedForksApartUptoRow.holds Tryz.pinned (OpenSpec.upto feedForksApartSpec)

/-- 'pensionlaw32.FeedIgnoresOrder', WHERE WHAT IT READS IS OF BULK AT MOST 1048576: true; the input reads as it did. -/
def feedIgnoresOrderUptoRow : OpenClaim := { program := "ytbjfcadcipfolaagreat", sum := "2f8999c5c5c0646ee580cd7088a521dee06f03a909e2e79c611373872524b857", func := "pension/pensionlaw32.FeedIgnoresOrder", spec := "feedIgnoresOrder", inPlace := ["internal/bytealg.IndexByteString", "internal/bytealg.IndexString", "internal/bytealg.Compare"], unfollowed := true, recurses := true, named := ["internal/bytealg.MaxLen"], plainKeys := false, apart := false, narrowed := true }
def FeedIgnoresOrderUptoSaid : Prop := feedIgnoresOrderUptoRow.holds Tryz.pinned (OpenSpec.upto feedIgnoresOrderSpec)

end Rows
end Go.Proofs.YtbjfcadcipfolaaGreat
