/-
  No cell of these rows narrows 'for every input' (looked for: loops, veiled, ifaces, maps, wideKeys, modest, calm, conditions, laid).
  DERIVED. THE GIVEN ROWS OF THIS SEAT. 8 by the template 'for every input the law returns true; each argument reads behind the call as it read before'; 0 by the template 'total and deterministic' (their statements: YtnnblpijaoocaaaGreatTotals.lean).
  GIVEN WITH THE SEED: the statements are not yours to turn. If you find one false, say at which input.
  Laid BY PROGRAM, IN A SANDBOX (cutbox-rows.mjs): the forced cells as the released guide's own fill.sh prints them over the translation 440a4e09d0852197… (all of the seat's roots in one cut). By AI agents, Wed Nov 11 2026. No macro, syntax, notation, axiom, sorry.
-/
import Derived.Test.YtnnblpijaoocaaaGreatChecked
import GoSem.Claim
import GoSem.ClaimJoined
import GoSem.ClaimMapViews
import Derived.JoinedTies
import Derived.KernelRfl
namespace Go.Proofs.YtnnblpijaoocaaaGreat
/- THE CELL 'sum', in the pinned program and in every row, IS THE sha256 OF THE DUMP (.gsa) THAT YtnnblpijaoocaaaGreatProg.lean LOADS. Nothing in Lean hashes anything: it is a label: what it is worth is what the hold of that sum in a sandbox is worth. -/
noncomputable def Tryz.pinned : Pinned := { name := "ytnnblpijaoocaaagreat", sum := "440a4e09d0852197f1ec1e2466a6a86b61a809dd329f236471a0c28373b89a4c", checked := Tryz.checked }
namespace Rows
def none {H : Type} : Left H := { results := [], args := [] }

/-- 'pensionlaw15.LawPostings': WHATEVER THE INPUT: true; the input reads as it did. -/
def lawPostingsSpec : ChangeSpec := { name := "lawPostings", fn := fun _ => fun
  | [d1, d2, d3] => { results := [.lit (.bool true)], args := [d1, d2, d3] }
  | _ => none }
def lawPostingsRow : OpenClaim := { program := "ytnnblpijaoocaaagreat", sum := "440a4e09d0852197f1ec1e2466a6a86b61a809dd329f236471a0c28373b89a4c", func := "pension/pensionlaw15.LawPostings", spec := "lawPostings", inPlace := ["internal/bytealg.IndexByteString", "internal/bytealg.IndexString", "internal/reflectlite.ValueOf", "internal/reflectlite.Swapper", "(internal/reflectlite.Value).Len"], unfollowed := true, recurses := true, named := ["internal/bytealg.MaxLen"], plainKeys := false, apart := false }
def LawPostingsSaid : Prop := lawPostingsRow.holds Tryz.pinned (OpenSpec.ofChange lawPostingsSpec)

/-- ITS FALSE NEIGHBOUR: 'it returns false'. Refute it at one input. -/
def lawPostingsWrong : ChangeSpec := { name := "lawPostings", fn := fun _ => fun
  | [d1, d2, d3] => { results := [.lit (.bool false)], args := [d1, d2, d3] }
  | _ => none }
def LawPostingsWrongFalsely : Prop := lawPostingsRow.holds Tryz.pinned (OpenSpec.ofChange lawPostingsWrong)

/-- 'pensionlaw15.LawPosted': WHATEVER THE INPUT: true; the input reads as it did. -/
def lawPostedSpec : ChangeSpec := { name := "lawPosted", fn := fun _ => fun
  | [d1, d2, d3, d4, d5, d6] => { results := [.lit (.bool true)], args := [d1, d2, d3, d4, d5, d6] }
  | _ => none }
def lawPostedRow : OpenClaim := { program := "ytnnblpijaoocaaagreat", sum := "440a4e09d0852197f1ec1e2466a6a86b61a809dd329f236471a0c28373b89a4c", func := "pension/pensionlaw15.LawPosted", spec := "lawPosted", inPlace := ["internal/bytealg.IndexByteString", "internal/bytealg.IndexString", "internal/reflectlite.ValueOf", "internal/reflectlite.Swapper", "(internal/reflectlite.Value).Len"], unfollowed := true, recurses := true, named := ["internal/bytealg.MaxLen"], plainKeys := false, apart := false }
def LawPostedSaid : Prop := lawPostedRow.holds Tryz.pinned (OpenSpec.ofChange lawPostedSpec)

/-- ITS FALSE NEIGHBOUR: 'it returns false'. Refute it at one input. -/
def lawPostedWrong : ChangeSpec := { name := "lawPosted", fn := fun _ => fun
  | [d1, d2, d3, d4, d5, d6] => { results := [.lit (.bool false)], args := [d1, d2, d3, d4, d5, d6] }
  | _ => none }
def LawPostedWrongFalsely : Prop := lawPostedRow.holds Tryz.pinned (OpenSpec.ofChange lawPostedWrong)

/-- 'pensionlaw15.LawDays': WHATEVER THE INPUT: true; the input reads as it did. -/
def lawDaysSpec : ChangeSpec := { name := "lawDays", fn := fun _ => fun
  | [d1, d2, d3, d4, d5] => { results := [.lit (.bool true)], args := [d1, d2, d3, d4, d5] }
  | _ => none }
def lawDaysRow : OpenClaim := { program := "ytnnblpijaoocaaagreat", sum := "440a4e09d0852197f1ec1e2466a6a86b61a809dd329f236471a0c28373b89a4c", func := "pension/pensionlaw15.LawDays", spec := "lawDays", inPlace := ["internal/bytealg.IndexByteString", "internal/bytealg.IndexString", "internal/reflectlite.ValueOf", "internal/reflectlite.Swapper", "(internal/reflectlite.Value).Len"], unfollowed := true, recurses := true, named := ["math/bits.divideError", "math/bits.overflowError", "internal/bytealg.MaxLen"], plainKeys := false, apart := false }
def LawDaysSaid : Prop := lawDaysRow.holds Tryz.pinned (OpenSpec.ofChange lawDaysSpec)

/-- ITS FALSE NEIGHBOUR: 'it returns false'. Refute it at one input. -/
def lawDaysWrong : ChangeSpec := { name := "lawDays", fn := fun _ => fun
  | [d1, d2, d3, d4, d5] => { results := [.lit (.bool false)], args := [d1, d2, d3, d4, d5] }
  | _ => none }
def LawDaysWrongFalsely : Prop := lawDaysRow.holds Tryz.pinned (OpenSpec.ofChange lawDaysWrong)

/-- 'pensionlaw15.LawResidence': WHATEVER THE INPUT: true; the input reads as it did. -/
def lawResidenceSpec : ChangeSpec := { name := "lawResidence", fn := fun _ => fun
  | [d1, d2, d3] => { results := [.lit (.bool true)], args := [d1, d2, d3] }
  | _ => none }
def lawResidenceRow : OpenClaim := { program := "ytnnblpijaoocaaagreat", sum := "440a4e09d0852197f1ec1e2466a6a86b61a809dd329f236471a0c28373b89a4c", func := "pension/pensionlaw15.LawResidence", spec := "lawResidence", inPlace := ["internal/bytealg.IndexByteString", "internal/bytealg.IndexString", "internal/reflectlite.ValueOf", "internal/reflectlite.Swapper", "(internal/reflectlite.Value).Len"], unfollowed := true, recurses := true, named := ["math/bits.divideError", "math/bits.overflowError", "internal/bytealg.MaxLen"], plainKeys := false, apart := false }
def LawResidenceSaid : Prop := lawResidenceRow.holds Tryz.pinned (OpenSpec.ofChange lawResidenceSpec)

/-- ITS FALSE NEIGHBOUR: 'it returns false'. Refute it at one input. -/
def lawResidenceWrong : ChangeSpec := { name := "lawResidence", fn := fun _ => fun
  | [d1, d2, d3] => { results := [.lit (.bool false)], args := [d1, d2, d3] }
  | _ => none }
def LawResidenceWrongFalsely : Prop := lawResidenceRow.holds Tryz.pinned (OpenSpec.ofChange lawResidenceWrong)

/-- 'pensionlaw15.LawUnder': WHATEVER THE INPUT: true; the input reads as it did. -/
def lawUnderSpec : ChangeSpec := { name := "lawUnder", fn := fun _ => fun
  | [d1, d2, d3, d4, d5, d6] => { results := [.lit (.bool true)], args := [d1, d2, d3, d4, d5, d6] }
  | _ => none }
def lawUnderRow : OpenClaim := { program := "ytnnblpijaoocaaagreat", sum := "440a4e09d0852197f1ec1e2466a6a86b61a809dd329f236471a0c28373b89a4c", func := "pension/pensionlaw15.LawUnder", spec := "lawUnder", inPlace := ["internal/bytealg.IndexByteString", "internal/bytealg.IndexString", "internal/reflectlite.ValueOf", "internal/reflectlite.Swapper", "(internal/reflectlite.Value).Len"], unfollowed := true, recurses := true, named := ["math/bits.divideError", "math/bits.overflowError", "internal/bytealg.MaxLen"], plainKeys := false, apart := false }
def LawUnderSaid : Prop := lawUnderRow.holds Tryz.pinned (OpenSpec.ofChange lawUnderSpec)

/-- ITS FALSE NEIGHBOUR: 'it returns false'. Refute it at one input. -/
def lawUnderWrong : ChangeSpec := { name := "lawUnder", fn := fun _ => fun
  | [d1, d2, d3, d4, d5, d6] => { results := [.lit (.bool false)], args := [d1, d2, d3, d4, d5, d6] }
  | _ => none }
def LawUnderWrongFalsely : Prop := lawUnderRow.holds Tryz.pinned (OpenSpec.ofChange lawUnderWrong)

/-- 'pensionlaw15.LawSegments': WHATEVER THE INPUT: true; the input reads as it did. -/
def lawSegmentsSpec : ChangeSpec := { name := "lawSegments", fn := fun _ => fun
  | [d1, d2, d3, d4] => { results := [.lit (.bool true)], args := [d1, d2, d3, d4] }
  | _ => none }
def lawSegmentsRow : OpenClaim := { program := "ytnnblpijaoocaaagreat", sum := "440a4e09d0852197f1ec1e2466a6a86b61a809dd329f236471a0c28373b89a4c", func := "pension/pensionlaw15.LawSegments", spec := "lawSegments", inPlace := ["internal/bytealg.IndexByteString", "internal/bytealg.IndexString", "internal/reflectlite.ValueOf", "internal/reflectlite.Swapper", "(internal/reflectlite.Value).Len"], unfollowed := true, recurses := true, named := ["math/bits.divideError", "math/bits.overflowError", "internal/bytealg.MaxLen"], plainKeys := false, apart := false }
def LawSegmentsSaid : Prop := lawSegmentsRow.holds Tryz.pinned (OpenSpec.ofChange lawSegmentsSpec)

/-- ITS FALSE NEIGHBOUR: 'it returns false'. Refute it at one input. -/
def lawSegmentsWrong : ChangeSpec := { name := "lawSegments", fn := fun _ => fun
  | [d1, d2, d3, d4] => { results := [.lit (.bool false)], args := [d1, d2, d3, d4] }
  | _ => none }
def LawSegmentsWrongFalsely : Prop := lawSegmentsRow.holds Tryz.pinned (OpenSpec.ofChange lawSegmentsWrong)

/-- 'pensionlaw15.LawOnce': WHATEVER THE INPUT: true; the input reads as it did. -/
def lawOnceSpec : ChangeSpec := { name := "lawOnce", fn := fun _ => fun
  | [d1, d2, d3, d4, d5] => { results := [.lit (.bool true)], args := [d1, d2, d3, d4, d5] }
  | _ => none }
def lawOnceRow : OpenClaim := { program := "ytnnblpijaoocaaagreat", sum := "440a4e09d0852197f1ec1e2466a6a86b61a809dd329f236471a0c28373b89a4c", func := "pension/pensionlaw15.LawOnce", spec := "lawOnce", inPlace := ["internal/bytealg.IndexByteString", "internal/bytealg.IndexString", "internal/reflectlite.ValueOf", "internal/reflectlite.Swapper", "(internal/reflectlite.Value).Len"], unfollowed := true, recurses := true, named := ["math/bits.divideError", "math/bits.overflowError", "internal/bytealg.MaxLen"], plainKeys := false, apart := false }
def LawOnceSaid : Prop := lawOnceRow.holds Tryz.pinned (OpenSpec.ofChange lawOnceSpec)

/-- ITS FALSE NEIGHBOUR: 'it returns false'. Refute it at one input. -/
def lawOnceWrong : ChangeSpec := { name := "lawOnce", fn := fun _ => fun
  | [d1, d2, d3, d4, d5] => { results := [.lit (.bool false)], args := [d1, d2, d3, d4, d5] }
  | _ => none }
def LawOnceWrongFalsely : Prop := lawOnceRow.holds Tryz.pinned (OpenSpec.ofChange lawOnceWrong)

/-- 'pensionlaw15.LawArrival': WHATEVER THE INPUT: true; the input reads as it did. -/
def lawArrivalSpec : ChangeSpec := { name := "lawArrival", fn := fun _ => fun
  | [d1, d2, d3, d4, d5] => { results := [.lit (.bool true)], args := [d1, d2, d3, d4, d5] }
  | _ => none }
def lawArrivalRow : OpenClaim := { program := "ytnnblpijaoocaaagreat", sum := "440a4e09d0852197f1ec1e2466a6a86b61a809dd329f236471a0c28373b89a4c", func := "pension/pensionlaw15.LawArrival", spec := "lawArrival", inPlace := ["internal/bytealg.IndexByteString", "internal/bytealg.IndexString", "internal/reflectlite.ValueOf", "internal/reflectlite.Swapper", "(internal/reflectlite.Value).Len"], unfollowed := true, recurses := true, named := ["math/bits.divideError", "math/bits.overflowError", "internal/bytealg.MaxLen"], plainKeys := false, apart := false }
def LawArrivalSaid : Prop := lawArrivalRow.holds Tryz.pinned (OpenSpec.ofChange lawArrivalSpec)

/-- ITS FALSE NEIGHBOUR: 'it returns false'. Refute it at one input. -/
def lawArrivalWrong : ChangeSpec := { name := "lawArrival", fn := fun _ => fun
  | [d1, d2, d3, d4, d5] => { results := [.lit (.bool false)], args := [d1, d2, d3, d4, d5] }
  | _ => none }
def LawArrivalWrongFalsely : Prop := lawArrivalRow.holds Tryz.pinned (OpenSpec.ofChange lawArrivalWrong)

/- THE SECOND FORM. 'bulk': how many values and letters a reading holds, each counted each time it is reached (what is shared counts as often as it is met; a slice's spare places count too). A statement '..UptoSaid' is the law's where the arguments, and the package variables that the reading takes, are together of bulk at most 1048576: NARROWER than '..Said'. Prove '..Said' where nothing that the law and all that it calls make is longer than what came in: it says more and counts as full. Else prove '..UptoSaid'. A law counts once. -/
mutual
def uptoBulk {H : Type} : DataW H → Nat
  | .lit (.string bytes) => bytes.length + 1
  | .lit _ => 1
  | .nil => 1
  | .ptr d => uptoBulk d + 1
  | .slice elems spare => uptoBulkAll elems + uptoBulkAll spare + 1
  | .agg parts => uptoBulkAll parts + 1
  | .iface _ d => uptoBulk d + 1
  | .map entries => uptoBulkEntries entries + 1
  | .held _ => 1
def uptoBulkAll {H : Type} : List (DataW H) → Nat
  | [] => 0
  | d :: r => uptoBulk d + uptoBulkAll r
def uptoBulkEntries {H : Type} : List (Lit × DataW H) → Nat
  | [] => 0
  | x :: r => uptoBulkEntry x + uptoBulkEntries r
def uptoBulkEntry {H : Type} : Lit × DataW H → Nat
  | (.string bytes, d) => bytes.length + uptoBulk d + 1
  | (_, d) => uptoBulk d + 1
 end
def uptoSmall : (H : Type) → List (DataW H) → Bool := fun _ ds => decide (uptoBulkAll ds ≤ 1048576)
def OpenSpec.upto (s : _root_.Go.ChangeSpec) : _root_.Go.OpenSpec := { _root_.Go.OpenSpec.ofChange s with cond := some uptoSmall }

/-- 'pensionlaw15.LawPostings', WHERE WHAT IT READS IS OF BULK AT MOST 1048576: true; the input reads as it did. -/
def lawPostingsUptoRow : OpenClaim := { program := "ytnnblpijaoocaaagreat", sum := "440a4e09d0852197f1ec1e2466a6a86b61a809dd329f236471a0c28373b89a4c", func := "pension/pensionlaw15.LawPostings", spec := "lawPostings", inPlace := ["internal/bytealg.IndexByteString", "internal/bytealg.IndexString", "internal/reflectlite.ValueOf", "internal/reflectlite.Swapper", "(internal/reflectlite.Value).Len"], unfollowed := true, recurses := true, named := ["internal/bytealg.MaxLen"], plainKeys := false, apart := false, narrowed := true }
def LawPostingsUptoSaid : Prop := lawPostingsUptoRow.holds Tryz.pinned (OpenSpec.upto lawPostingsSpec)

/-- 'pensionlaw15.LawPosted', WHERE WHAT IT READS IS OF BULK AT MOST 1048576: true; the input reads as it did. -/
def lawPostedUptoRow : OpenClaim := { program := "ytnnblpijaoocaaagreat", sum := "440a4e09d0852197f1ec1e2466a6a86b61a809dd329f236471a0c28373b89a4c", func := "pension/pensionlaw15.LawPosted", spec := "lawPosted", inPlace := ["internal/bytealg.IndexByteString", "internal/bytealg.IndexString", "internal/reflectlite.ValueOf", "internal/reflectlite.Swapper", "(internal/reflectlite.Value).Len"], unfollowed := true, recurses := true, named := ["internal/bytealg.MaxLen"], plainKeys := false, apart := false, narrowed := true }
def LawPostedUptoSaid : Prop := lawPostedUptoRow.holds Tryz.pinned (OpenSpec.upto lawPostedSpec)

/-- 'pensionlaw15.LawDays', WHERE WHAT IT READS IS OF BULK AT MOST 1048576: true; the input reads as it did. -/
def lawDaysUptoRow : OpenClaim := { program := "ytnnblpijaoocaaagreat", sum := "440a4e09d0852197f1ec1e2466a6a86b61a809dd329f236471a0c28373b89a4c", func := "pension/pensionlaw15.LawDays", spec := "lawDays", inPlace := ["internal/bytealg.IndexByteString", "internal/bytealg.IndexString", "internal/reflectlite.ValueOf", "internal/reflectlite.Swapper", "(internal/reflectlite.Value).Len"], unfollowed := true, recurses := true, named := ["math/bits.divideError", "math/bits.overflowError", "internal/bytealg.MaxLen"], plainKeys := false, apart := false, narrowed := true }
def LawDaysUptoSaid : Prop := lawDaysUptoRow.holds Tryz.pinned (OpenSpec.upto lawDaysSpec)

/-- 'pensionlaw15.LawResidence', WHERE WHAT IT READS IS OF BULK AT MOST 1048576: true; the input reads as it did. -/
def lawResidenceUptoRow : OpenClaim := { program := "ytnnblpijaoocaaagreat", sum := "440a4e09d0852197f1ec1e2466a6a86b61a809dd329f236471a0c28373b89a4c", func := "pension/pensionlaw15.LawResidence", spec := "lawResidence", inPlace := ["internal/bytealg.IndexByteString", "internal/bytealg.IndexString", "internal/reflectlite.ValueOf", "internal/reflectlite.Swapper", "(internal/reflectlite.Value).Len"], unfollowed := true, recurses := true, named := ["math/bits.divideError", "math/bits.overflowError", "internal/bytealg.MaxLen"], plainKeys := false, apart := false, narrowed := true }
def LawResidenceUptoSaid : Prop := lawResidenceUptoRow.holds Tryz.pinned (OpenSpec.upto lawResidenceSpec)

/-- 'pensionlaw15.LawUnder', WHERE WHAT IT READS IS OF BULK AT MOST 1048576: true; the input reads as it did. -/
def lawUnderUptoRow : OpenClaim := { program := "ytnnblpijaoocaaagreat", sum := "440a4e09d0852197f1ec1e2466a6a86b61a809dd329f236471a0c28373b89a4c", func := "pension/pensionlaw15.LawUnder", spec := "lawUnder", inPlace := ["internal/bytealg.IndexByteString", "internal/bytealg.IndexString", "internal/reflectlite.ValueOf", "internal/reflectlite.Swapper", "(internal/reflectlite.Value).Len"], unfollowed := true, recurses := true, named := ["math/bits.divideError", "math/bits.overflowError", "internal/bytealg.MaxLen"], plainKeys := false, apart := false, narrowed := true }
def LawUnderUptoSaid : Prop := lawUnderUptoRow.holds Tryz.pinned (OpenSpec.upto lawUnderSpec)

/-- 'pensionlaw15.LawSegments', WHERE WHAT IT READS IS OF BULK AT MOST 1048576: true; the input reads as it did. -/
def lawSegmentsUptoRow : OpenClaim := { program := "ytnnblpijaoocaaagreat", sum := "440a4e09d0852197f1ec1e2466a6a86b61a809dd329f236471a0c28373b89a4c", func := "pension/pensionlaw15.LawSegments", spec := "lawSegments", inPlace := ["internal/bytealg.IndexByteString", "internal/bytealg.IndexString", "internal/reflectlite.ValueOf", "internal/reflectlite.Swapper", "(internal/reflectlite.Value).Len"], unfollowed := true, recurses := true, named := ["math/bits.divideError", "math/bits.overflowError", "internal/bytealg.MaxLen"], plainKeys := false, apart := false, narrowed := true }
def LawSegmentsUptoSaid : Prop := lawSegmentsUptoRow.holds Tryz.pinned (OpenSpec.upto lawSegmentsSpec)

/-- 'pensionlaw15.LawOnce', WHERE WHAT IT READS IS OF BULK AT MOST 1048576: true; the input reads as it did. -/
def lawOnceUptoRow : OpenClaim := { program := "ytnnblpijaoocaaagreat", sum := "440a4e09d0852197f1ec1e2466a6a86b61a809dd329f236471a0c28373b89a4c", func := "pension/pensionlaw15.LawOnce", spec := "lawOnce", inPlace := ["internal/bytealg.IndexByteString", "internal/bytealg.IndexString", "internal/reflectlite.ValueOf", "internal/reflectlite.Swapper", "(internal/reflectlite.Value).Len"], unfollowed := true, recurses := true, named := ["math/bits.divideError", "math/bits.overflowError", "internal/bytealg.MaxLen"], plainKeys := false, apart := false, narrowed := true }
def LawOnceUptoSaid : Prop := lawOnceUptoRow.holds Tryz.pinned (OpenSpec.upto lawOnceSpec)

/-- 'pensionlaw15.LawArrival', WHERE WHAT IT READS IS OF BULK AT MOST 1048576: true; the input reads as it did. -/
def lawArrivalUptoRow : OpenClaim := { program := "ytnnblpijaoocaaagreat", sum := "440a4e09d0852197f1ec1e2466a6a86b61a809dd329f236471a0c28373b89a4c", func := "pension/pensionlaw15.LawArrival", spec := "lawArrival", inPlace := ["internal/bytealg.IndexByteString", "internal/bytealg.IndexString", "internal/reflectlite.ValueOf", "internal/reflectlite.Swapper", "(internal/reflectlite.Value).Len"], unfollowed := true, recurses := true, named := ["math/bits.divideError", "math/bits.overflowError", "internal/bytealg.MaxLen"], plainKeys := false, apart := false, narrowed := true }
def LawArrivalUptoSaid : Prop := lawArrivalUptoRow.holds Tryz.pinned (OpenSpec.upto lawArrivalSpec)

end Rows
end Go.Proofs.YtnnblpijaoocaaaGreat
