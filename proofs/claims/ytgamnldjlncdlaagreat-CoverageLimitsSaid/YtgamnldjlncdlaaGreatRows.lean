/-
  No cell of these rows narrows 'for every input' (looked for: loops, veiled, ifaces, maps, wideKeys, modest, calm, conditions, laid).
  DERIVED. THE GIVEN ROWS OF THIS SEAT. 2 by the template 'for every input the law returns true; each argument reads behind the call as it read before'; 0 by the template 'total and deterministic' (their statements: YtgamnldjlncdlaaGreatTotals.lean).
  GIVEN WITH THE SEED: the statements are not yours to turn. If you find one false, say at which input.
  Laid BY PROGRAM, IN A SANDBOX (cutbox-rows.mjs): the forced cells as the released guide's own fill.sh prints them over the translation 4cad24f11dec8ddf… (all of the seat's roots in one cut). By AI agents, Wed Nov 11 2026. No macro, syntax, notation, axiom, sorry.
-/
import Derived.Test.YtgamnldjlncdlaaGreatChecked
import GoSem.Claim
import GoSem.ClaimJoined
import GoSem.ClaimMapViews
import Derived.JoinedTies
import Derived.KernelRfl
namespace Go.Proofs.YtgamnldjlncdlaaGreat
/- THE CELL 'sum', in the pinned program and in every row, IS THE sha256 OF THE DUMP (.gsa) THAT YtgamnldjlncdlaaGreatProg.lean LOADS. Nothing in Lean hashes anything: it is a label: what it is worth is what the hold of that sum in a sandbox is worth. -/
noncomputable def Tryz.pinned : Pinned := { name := "ytgamnldjlncdlaagreat", sum := "4cad24f11dec8ddf2d833449127ca5498c2b1c48f58cac47f47b8c4f74b0e994", checked := Tryz.checked }
namespace Rows
def none {H : Type} : Left H := { results := [], args := [] }

/-- 'pensionlaw16.CoverageRaw': WHATEVER THE INPUT: true; the input reads as it did. -/
def coverageRawSpec : ChangeSpec := { name := "coverageRaw", fn := fun _ => fun
  | [d1, d2, d3, d4] => { results := [.lit (.bool true)], args := [d1, d2, d3, d4] }
  | _ => none }
def coverageRawRow : OpenClaim := { program := "ytgamnldjlncdlaagreat", sum := "4cad24f11dec8ddf2d833449127ca5498c2b1c48f58cac47f47b8c4f74b0e994", func := "pension/pensionlaw16.CoverageRaw", spec := "coverageRaw", inPlace := ["internal/reflectlite.ValueOf", "internal/reflectlite.Swapper", "(internal/reflectlite.Value).Len", "internal/bytealg.IndexByteString", "internal/bytealg.IndexString"], unfollowed := true, recurses := true, named := ["math/bits.divideError", "math/bits.overflowError", "internal/bytealg.MaxLen"], apart := false }
def CoverageRawSaid : Prop := coverageRawRow.holds Tryz.pinned (OpenSpec.ofChange coverageRawSpec)

/-- ITS FALSE NEIGHBOUR: 'it returns false'. Refute it at one input. -/
def coverageRawWrong : ChangeSpec := { name := "coverageRaw", fn := fun _ => fun
  | [d1, d2, d3, d4] => { results := [.lit (.bool false)], args := [d1, d2, d3, d4] }
  | _ => none }
def CoverageRawWrongFalsely : Prop := coverageRawRow.holds Tryz.pinned (OpenSpec.ofChange coverageRawWrong)

/-- 'pensionlaw16.CoverageLimits': WHATEVER THE INPUT: true; the input reads as it did. -/
def coverageLimitsSpec : ChangeSpec := { name := "coverageLimits", fn := fun _ => fun
  | [d1, d2, d3] => { results := [.lit (.bool true)], args := [d1, d2, d3] }
  | _ => none }
def coverageLimitsRow : OpenClaim := { program := "ytgamnldjlncdlaagreat", sum := "4cad24f11dec8ddf2d833449127ca5498c2b1c48f58cac47f47b8c4f74b0e994", func := "pension/pensionlaw16.CoverageLimits", spec := "coverageLimits", inPlace := ["internal/reflectlite.ValueOf", "internal/reflectlite.Swapper", "(internal/reflectlite.Value).Len", "internal/bytealg.IndexByteString", "internal/bytealg.IndexString"], unfollowed := true, recurses := true, named := ["math/bits.divideError", "math/bits.overflowError", "internal/bytealg.MaxLen"], apart := false }
def CoverageLimitsSaid : Prop := coverageLimitsRow.holds Tryz.pinned (OpenSpec.ofChange coverageLimitsSpec)

/-- ITS FALSE NEIGHBOUR: 'it returns false'. Refute it at one input. -/
def coverageLimitsWrong : ChangeSpec := { name := "coverageLimits", fn := fun _ => fun
  | [d1, d2, d3] => { results := [.lit (.bool false)], args := [d1, d2, d3] }
  | _ => none }
def CoverageLimitsWrongFalsely : Prop := coverageLimitsRow.holds Tryz.pinned (OpenSpec.ofChange coverageLimitsWrong)

/- THE SECOND FORM. 'bulk': how many values and letters a reading holds, each counted each time it is reached (what is shared counts as often as it is met; a slice's spare places count too). A statement '..UptoSaid' is the law's where the arguments, and the package variables that the reading takes, are together of bulk at most 1048576: NARROWER than '..Said'. Prove '..Said' where nothing that the law and all that it calls make is longer than what came in: it says more and counts as full. Else prove '..UptoSaid'. A law counts once. -/
mutual
def uptoBulk {H : Type} : DataW H → Nat
  | .lit (.string bytes) => bytes.length + 1
  | .lit _ => 1
  | .nil => 1
  | .ptr d => uptoBulk d + 1
  | .slice elems spare => uptoBulkAll elems + uptoBulkAll spare + 1
  | .agg parts => uptoBulkAll parts + 1
  | .iface _ d => uptoBulk d + 1
  | .map entries => uptoBulkEntries entries + 1
  | .held _ => 1
def uptoBulkAll {H : Type} : List (DataW H) → Nat
  | [] => 0
  | d :: r => uptoBulk d + uptoBulkAll r
def uptoBulkEntries {H : Type} : List (Lit × DataW H) → Nat
  | [] => 0
  | x :: r => uptoBulkEntry x + uptoBulkEntries r
def uptoBulkEntry {H : Type} : Lit × DataW H → Nat
  | (.string bytes, d) => bytes.length + uptoBulk d + 1
  | (_, d) => uptoBulk d + 1
 end
def uptoSmall : (H : Type) → List (DataW H) → Bool := fun _ ds => decide (uptoBulkAll ds ≤ 1048576)
def OpenSpec.upto (s : _root_.Go.ChangeSpec) : _root_.Go.OpenSpec := { _root_.Go.OpenSpec.ofChange s with cond := some uptoSmall }

/-- 'pensionlaw16.CoverageRaw', WHERE WHAT IT READS IS OF BULK AT MOST 1048576: true; the input reads as it did. -/
def coverageRawUptoRow : OpenClaim := { program := "ytgamnldjlncdlaagreat", sum := "4cad24f11dec8ddf2d833449127ca5498c2b1c48f58cac47f47b8c4f74b0e994", func := "pension/pensionlaw16.CoverageRaw", spec := "coverageRaw", inPlace := ["internal/reflectlite.ValueOf", "internal/reflectlite.Swapper", "(internal/reflectlite.Value).Len", "internal/bytealg.IndexByteString", "internal/bytealg.IndexString"], unfollowed := true, recurses := true, named := ["math/bits.divideError", "math/bits.overflowError", "internal/bytealg.MaxLen"], apart := false, narrowed := true }
def CoverageRawUptoSaid : Prop := coverageRawUptoRow.holds Tryz.pinned (OpenSpec.upto coverageRawSpec)

/-- 'pensionlaw16.CoverageLimits', WHERE WHAT IT READS IS OF BULK AT MOST 1048576: true; the input reads as it did. -/
def coverageLimitsUptoRow : OpenClaim := { program := "ytgamnldjlncdlaagreat", sum := "4cad24f11dec8ddf2d833449127ca5498c2b1c48f58cac47f47b8c4f74b0e994", func := "pension/pensionlaw16.CoverageLimits", spec := "coverageLimits", inPlace := ["internal/reflectlite.ValueOf", "internal/reflectlite.Swapper", "(internal/reflectlite.Value).Len", "internal/bytealg.IndexByteString", "internal/bytealg.IndexString"], unfollowed := true, recurses := true, named := ["math/bits.divideError", "math/bits.overflowError", "internal/bytealg.MaxLen"], apart := false, narrowed := true }
def CoverageLimitsUptoSaid : Prop := coverageLimitsUptoRow.holds Tryz.pinned (OpenSpec.upto coverageLimitsSpec)

end Rows
end Go.Proofs.YtgamnldjlncdlaaGreat
