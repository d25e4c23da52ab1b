/-
  No cell of these rows narrows 'for every input' (looked for: loops, veiled, ifaces, maps, wideKeys, modest, calm, conditions, laid).
  DERIVED. THE GIVEN ROWS OF THIS SEAT. 4 by the template 'for every input the law returns true; each argument reads behind the call as it read before'; 0 by the template 'total and deterministic' (their statements: YtokecajedkojlaaGreatTotals.lean).
  GIVEN WITH THE SEED: the statements are not yours to turn. If you find one false, say at which input.
  Laid BY PROGRAM, IN A SANDBOX (cutbox-rows.mjs): the forced cells as the released guide's own fill.sh prints them over the translation e04cdc7fb3c79c2f… (all of the seat's roots in one cut). By AI agents, Wed Nov 11 2026. No macro, syntax, notation, axiom, sorry.
-/
import Derived.Test.YtokecajedkojlaaGreatChecked
import GoSem.Claim
import GoSem.ClaimJoined
import GoSem.ClaimMapViews
import Derived.JoinedTies
import Derived.KernelRfl
namespace Go.Proofs.YtokecajedkojlaaGreat
/- THE CELL 'sum', in the pinned program and in every row, IS THE sha256 OF THE DUMP (.gsa) THAT YtokecajedkojlaaGreatProg.lean LOADS. Nothing in Lean hashes anything: it is a label: what it is worth is what the hold of that sum in a sandbox is worth. -/
noncomputable def Tryz.pinned : Pinned := { name := "ytokecajedkojlaagreat", sum := "e04cdc7fb3c79c2f2f37c5a79387086f01f48ec8a57ec836b90613346dad7aac", checked := Tryz.checked }
namespace Rows
def none {H : Type} : Left H := { results := [], args := [] }

/-- 'pensionlaw16.CoverageClaims': WHATEVER THE INPUT: true; the input reads as it did. -/
def coverageClaimsSpec : ChangeSpec := { name := "coverageClaims", fn := fun _ => fun
  | [d1, d2, d3, d4, d5] => { results := [.lit (.bool true)], args := [d1, d2, d3, d4, d5] }
  | _ => none }
def coverageClaimsRow : OpenClaim := { program := "ytokecajedkojlaagreat", sum := "e04cdc7fb3c79c2f2f37c5a79387086f01f48ec8a57ec836b90613346dad7aac", func := "pension/pensionlaw16.CoverageClaims", spec := "coverageClaims", inPlace := ["internal/reflectlite.ValueOf", "internal/reflectlite.Swapper", "(internal/reflectlite.Value).Len", "internal/bytealg.IndexByteString", "internal/bytealg.IndexString"], unfollowed := true, recurses := true, named := ["math/bits.divideError", "math/bits.overflowError", "internal/bytealg.MaxLen"], apart := false }
def CoverageClaimsSaid : Prop := coverageClaimsRow.holds Tryz.pinned (OpenSpec.ofChange coverageClaimsSpec)

/-- ITS FALSE NEIGHBOUR: 'it returns false'. Refute it at one input. -/
def coverageClaimsWrong : ChangeSpec := { name := "coverageClaims", fn := fun _ => fun
  | [d1, d2, d3, d4, d5] => { results := [.lit (.bool false)], args := [d1, d2, d3, d4, d5] }
  | _ => none }
def CoverageClaimsWrongFalsely : Prop := coverageClaimsRow.holds Tryz.pinned (OpenSpec.ofChange coverageClaimsWrong)

/-- 'pensionlaw16.CoverageBefore': WHATEVER THE INPUT: true; the input reads as it did. -/
def coverageBeforeSpec : ChangeSpec := { name := "coverageBefore", fn := fun _ => fun
  | [d1, d2, d3, d4, d5, d6, d7] => { results := [.lit (.bool true)], args := [d1, d2, d3, d4, d5, d6, d7] }
  | _ => none }
def coverageBeforeRow : OpenClaim := { program := "ytokecajedkojlaagreat", sum := "e04cdc7fb3c79c2f2f37c5a79387086f01f48ec8a57ec836b90613346dad7aac", func := "pension/pensionlaw16.CoverageBefore", spec := "coverageBefore", inPlace := ["internal/reflectlite.ValueOf", "internal/reflectlite.Swapper", "(internal/reflectlite.Value).Len", "internal/bytealg.IndexByteString", "internal/bytealg.IndexString"], unfollowed := true, recurses := true, named := ["math/bits.divideError", "math/bits.overflowError", "internal/bytealg.MaxLen"], apart := false }
def CoverageBeforeSaid : Prop := coverageBeforeRow.holds Tryz.pinned (OpenSpec.ofChange coverageBeforeSpec)

/-- ITS FALSE NEIGHBOUR: 'it returns false'. Refute it at one input. -/
def coverageBeforeWrong : ChangeSpec := { name := "coverageBefore", fn := fun _ => fun
  | [d1, d2, d3, d4, d5, d6, d7] => { results := [.lit (.bool false)], args := [d1, d2, d3, d4, d5, d6, d7] }
  | _ => none }
def CoverageBeforeWrongFalsely : Prop := coverageBeforeRow.holds Tryz.pinned (OpenSpec.ofChange coverageBeforeWrong)

/-- 'pensionlaw19.EarningsYears': WHATEVER THE INPUT: true; the input reads as it did. -/
def earningsYearsSpec : ChangeSpec := { name := "earningsYears", fn := fun _ => fun
  | [d1, d2, d3, d4, d5, d6] => { results := [.lit (.bool true)], args := [d1, d2, d3, d4, d5, d6] }
  | _ => none }
def earningsYearsRow : OpenClaim := { program := "ytokecajedkojlaagreat", sum := "e04cdc7fb3c79c2f2f37c5a79387086f01f48ec8a57ec836b90613346dad7aac", func := "pension/pensionlaw19.EarningsYears", spec := "earningsYears", inPlace := ["internal/bytealg.IndexByteString", "internal/bytealg.IndexString", "internal/reflectlite.ValueOf", "internal/reflectlite.Swapper", "(internal/reflectlite.Value).Len"], unfollowed := true, recurses := true, named := ["math/bits.divideError", "math/bits.overflowError", "internal/bytealg.MaxLen"], apart := false }
def EarningsYearsSaid : Prop := earningsYearsRow.holds Tryz.pinned (OpenSpec.ofChange earningsYearsSpec)

/-- ITS FALSE NEIGHBOUR: 'it returns false'. Refute it at one input. -/
def earningsYearsWrong : ChangeSpec := { name := "earningsYears", fn := fun _ => fun
  | [d1, d2, d3, d4, d5, d6] => { results := [.lit (.bool false)], args := [d1, d2, d3, d4, d5, d6] }
  | _ => none }
def EarningsYearsWrongFalsely : Prop := earningsYearsRow.holds Tryz.pinned (OpenSpec.ofChange earningsYearsWrong)

/-- 'pensionlaw19.EarningsOnce': WHATEVER THE INPUT: true; the input reads as it did. -/
def earningsOnceSpec : ChangeSpec := { name := "earningsOnce", fn := fun _ => fun
  | [d1, d2, d3] => { results := [.lit (.bool true)], args := [d1, d2, d3] }
  | _ => none }
def earningsOnceRow : OpenClaim := { program := "ytokecajedkojlaagreat", sum := "e04cdc7fb3c79c2f2f37c5a79387086f01f48ec8a57ec836b90613346dad7aac", func := "pension/pensionlaw19.EarningsOnce", spec := "earningsOnce", inPlace := ["internal/bytealg.IndexByteString", "internal/bytealg.IndexString", "internal/reflectlite.ValueOf", "internal/reflectlite.Swapper", "(internal/reflectlite.Value).Len"], unfollowed := true, recurses := true, named := ["math/bits.divideError", "math/bits.overflowError", "internal/bytealg.MaxLen"], apart := false }
def EarningsOnceSaid : Prop := earningsOnceRow.holds Tryz.pinned (OpenSpec.ofChange earningsOnceSpec)

/-- ITS FALSE NEIGHBOUR: 'it returns false'. Refute it at one input. -/
def earningsOnceWrong : ChangeSpec := { name := "earningsOnce", fn := fun _ => fun
  | [d1, d2, d3] => { results := [.lit (.bool false)], args := [d1, d2, d3] }
  | _ => none }
def EarningsOnceWrongFalsely : Prop := earningsOnceRow.holds Tryz.pinned (OpenSpec.ofChange earningsOnceWrong)

/- THE SECOND FORM. 'bulk': how many values and letters a reading holds, each counted each time it is reached (what is shared counts as often as it is met; a slice's spare places count too). A statement '..UptoSaid' is the law's where the arguments, and the package variables that the reading takes, are together of bulk at most 1048576: NARROWER than '..Said'. Prove '..Said' where nothing that the law and all that it calls make is longer than what came in: it says more and counts as full. Else prove '..UptoSaid'. A law counts once. -/
mutual
def uptoBulk {H : Type} : DataW H → Nat
  | .lit (.string bytes) => bytes.length + 1
  | .lit _ => 1
  | .nil => 1
  | .ptr d => uptoBulk d + 1
  | .slice elems spare => uptoBulkAll elems + uptoBulkAll spare + 1
  | .agg parts => uptoBulkAll parts + 1
  | .iface _ d => uptoBulk d + 1
  | .map entries => uptoBulkEntries entries + 1
  | .held _ => 1
def uptoBulkAll {H : Type} : List (DataW H) → Nat
  | [] => 0
  | d :: r => uptoBulk d + uptoBulkAll r
def uptoBulkEntries {H : Type} : List (Lit × DataW H) → Nat
  | [] => 0
  | x :: r => uptoBulkEntry x + uptoBulkEntries r
def uptoBulkEntry {H : Type} : Lit × DataW H → Nat
  | (.string bytes, d) => bytes.length + uptoBulk d + 1
  | (_, d) => uptoBulk d + 1
 end
def uptoSmall : (H : Type) → List (DataW H) → Bool := fun _ ds => decide (uptoBulkAll ds ≤ 1048576)
def OpenSpec.upto (s : _root_.Go.ChangeSpec) : _root_.Go.OpenSpec := { _root_.Go.OpenSpec.ofChange s with cond := some uptoSmall }

/-- 'pensionlaw16.CoverageClaims', WHERE WHAT IT READS IS OF BULK AT MOST 1048576: true; the input reads as it did. -/
def coverageClaimsUptoRow : OpenClaim := { program := "ytokecajedkojlaagreat", sum := "e04cdc7fb3c79c2f2f37c5a79387086f01f48ec8a57ec836b90613346dad7aac", func := "pension/pensionlaw16.CoverageClaims", spec := "coverageClaims", inPlace := ["internal/reflectlite.ValueOf", "internal/reflectlite.Swapper", "(internal/reflectlite.Value).Len", "internal/bytealg.IndexByteString", "internal/bytealg.IndexString"], unfollowed := true, recurses := true, named := ["math/bits.divideError", "math/bits.overflowError", "internal/bytealg.MaxLen"], apart := false, narrowed := true }
def CoverageClaimsUptoSaid : Prop := coverageClaimsUptoRow.holds Tryz.pinned (OpenSpec.upto coverageClaimsSpec)

/-- 'pensionlaw16.CoverageBefore', WHERE WHAT IT READS IS OF BULK AT MOST 1048576: true; the input reads as it did. -/
def coverageBeforeUptoRow : OpenClaim := { program := "ytokecajedkojlaagreat", sum := "e04cdc7fb3c79c2f2f37c5a79387086f01f48ec8a57ec836b90613346dad7aac", func := "pension/pensionlaw16.CoverageBefore", spec := "coverageBefore", inPlace := ["internal/reflectlite.ValueOf", "internal/reflectlite.Swapper", "(internal/reflectlite.Value).Len", "internal/bytealg.IndexByteString", "internal/bytealg.IndexString"], unfollowed := true, recurses := true, named := ["math/bits.divideError", "math/bits.overflowError", "internal/bytealg.MaxLen"], apart := false, narrowed := true }
def CoverageBeforeUptoSaid : Prop := coverageBeforeUptoRow.holds Tryz.pinned (OpenSpec.upto coverageBeforeSpec)

/-- 'pensionlaw19.EarningsYears', WHERE WHAT IT READS IS OF BULK AT MOST 1048576: true; the input reads as it did. -/
def earningsYearsUptoRow : OpenClaim := { program := "ytokecajedkojlaagreat", sum := "e04cdc7fb3c79c2f2f37c5a79387086f01f48ec8a57ec836b90613346dad7aac", func := "pension/pensionlaw19.EarningsYears", spec := "earningsYears", inPlace := ["internal/bytealg.IndexByteString", "internal/bytealg.IndexString", "internal/reflectlite.ValueOf", "internal/reflectlite.Swapper", "(internal/reflectlite.Value).Len"], unfollowed := true, recurses := true, named := ["math/bits.divideError", "math/bits.overflowError", "internal/bytealg.MaxLen"], apart := false, narrowed := true }
def EarningsYearsUptoSaid : Prop := earningsYearsUptoRow.holds Tryz.pinned (OpenSpec.upto earningsYearsSpec)

/-- 'pensionlaw19.EarningsOnce', WHERE WHAT IT READS IS OF BULK AT MOST 1048576: true; the input reads as it did. -/
def earningsOnceUptoRow : OpenClaim := { program := "ytokecajedkojlaagreat", sum := "e04cdc7fb3c79c2f2f37c5a79387086f01f48ec8a57ec836b90613346dad7aac", func := "pension/pensionlaw19.EarningsOnce", spec := "earningsOnce", inPlace := ["internal/bytealg.IndexByteString", "internal/bytealg.IndexString", "internal/reflectlite.ValueOf", "internal/reflectlite.Swapper", "(internal/reflectlite.Value).Len"], unfollowed := true, recurses := true, named := ["math/bits.divideError", "math/bits.overflowError", "internal/bytealg.MaxLen"], apart := false, narrowed := true }
def EarningsOnceUptoSaid : Prop := earningsOnceUptoRow.holds Tryz.pinned (OpenSpec.upto earningsOnceSpec)

end Rows
end Go.Proofs.YtokecajedkojlaaGreat
