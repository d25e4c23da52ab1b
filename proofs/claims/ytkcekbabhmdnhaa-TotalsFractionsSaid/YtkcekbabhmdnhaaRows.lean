/-
  No cell of these rows narrows 'for every input' (looked for: loops, veiled, ifaces, maps, wideKeys, modest, calm, conditions, laid).
  DERIVED. THE GIVEN ROWS OF THIS SEAT. 5 by the template 'for every input the law returns true; each argument reads behind the call as it read before'; 0 by the template 'total and deterministic' (their statements: YtkcekbabhmdnhaaTotals.lean).
  GIVEN WITH THE SEED: the statements are not yours to turn. If you find one false, say at which input.
  Laid BY PROGRAM, IN A SANDBOX (cutbox-rows.mjs): the forced cells as the released guide's own fill.sh prints them over the translation 76a3c7f1ed154b0b… (all of the seat's roots in one cut). By AI agents, Wed Nov 11 2026. No macro, syntax, notation, axiom, sorry.
-/
import Derived.Test.YtkcekbabhmdnhaaChecked
import GoSem.Claim
import GoSem.ClaimJoined
import GoSem.ClaimMapViews
import Derived.JoinedTies
import Derived.KernelRfl
namespace Go.Proofs.Ytkcekbabhmdnhaa
/- THE CELL 'sum', in the pinned program and in every row, IS THE sha256 OF THE DUMP (.gsa) THAT YtkcekbabhmdnhaaProg.lean LOADS. Nothing in Lean hashes anything: it is a label: what it is worth is what the hold of that sum in a sandbox is worth. -/
noncomputable def Try.pinned : Pinned := { name := "ytkcekbabhmdnhaa", sum := "76a3c7f1ed154b0bfae41561db827be7b886be066dcbf3716e0f4e121d4e3e14", checked := Try.checked }
namespace Rows
def none {H : Type} : Left H := { results := [], args := [] }

/-- 'pensionlaw18.TotalsCompute': WHATEVER THE INPUT: true; the input reads as it did. -/
def totalsComputeSpec : ChangeSpec := { name := "totalsCompute", fn := fun _ => fun
  | [d1, d2, d3] => { results := [.lit (.bool true)], args := [d1, d2, d3] }
  | _ => none }
def totalsComputeRow : OpenClaim := { program := "ytkcekbabhmdnhaa", sum := "76a3c7f1ed154b0bfae41561db827be7b886be066dcbf3716e0f4e121d4e3e14", func := "pension/pensionlaw18.TotalsCompute", spec := "totalsCompute", inPlace := ["internal/reflectlite.ValueOf", "internal/reflectlite.Swapper", "(internal/reflectlite.Value).Len"], unfollowed := true, recurses := true, apart := false }
def TotalsComputeSaid : Prop := totalsComputeRow.holds Try.pinned (OpenSpec.ofChange totalsComputeSpec)

/-- ITS FALSE NEIGHBOUR: 'it returns false'. Refute it at one input. -/
def totalsComputeWrong : ChangeSpec := { name := "totalsCompute", fn := fun _ => fun
  | [d1, d2, d3] => { results := [.lit (.bool false)], args := [d1, d2, d3] }
  | _ => none }
def TotalsComputeWrongFalsely : Prop := totalsComputeRow.holds Try.pinned (OpenSpec.ofChange totalsComputeWrong)

/-- 'pensionlaw18.TotalsFractions': WHATEVER THE INPUT: true; the input reads as it did. -/
def totalsFractionsSpec : ChangeSpec := { name := "totalsFractions", fn := fun _ => fun
  | [d1, d2, d3, d4] => { results := [.lit (.bool true)], args := [d1, d2, d3, d4] }
  | _ => none }
def totalsFractionsRow : OpenClaim := { program := "ytkcekbabhmdnhaa", sum := "76a3c7f1ed154b0bfae41561db827be7b886be066dcbf3716e0f4e121d4e3e14", func := "pension/pensionlaw18.TotalsFractions", spec := "totalsFractions", inPlace := ["internal/reflectlite.ValueOf", "internal/reflectlite.Swapper", "(internal/reflectlite.Value).Len"], unfollowed := true, recurses := true, apart := false }
def TotalsFractionsSaid : Prop := totalsFractionsRow.holds Try.pinned (OpenSpec.ofChange totalsFractionsSpec)

/-- ITS FALSE NEIGHBOUR: 'it returns false'. Refute it at one input. -/
def totalsFractionsWrong : ChangeSpec := { name := "totalsFractions", fn := fun _ => fun
  | [d1, d2, d3, d4] => { results := [.lit (.bool false)], args := [d1, d2, d3, d4] }
  | _ => none }
def TotalsFractionsWrongFalsely : Prop := totalsFractionsRow.holds Try.pinned (OpenSpec.ofChange totalsFractionsWrong)

/-- 'pensionlaw18.TotalsSums': WHATEVER THE INPUT: true; the input reads as it did. -/
def totalsSumsSpec : ChangeSpec := { name := "totalsSums", fn := fun _ => fun
  | [d1, d2] => { results := [.lit (.bool true)], args := [d1, d2] }
  | _ => none }
def totalsSumsRow : OpenClaim := { program := "ytkcekbabhmdnhaa", sum := "76a3c7f1ed154b0bfae41561db827be7b886be066dcbf3716e0f4e121d4e3e14", func := "pension/pensionlaw18.TotalsSums", spec := "totalsSums", inPlace := ["internal/reflectlite.ValueOf", "internal/reflectlite.Swapper", "(internal/reflectlite.Value).Len"], unfollowed := true, recurses := true, apart := false }
def TotalsSumsSaid : Prop := totalsSumsRow.holds Try.pinned (OpenSpec.ofChange totalsSumsSpec)

/-- ITS FALSE NEIGHBOUR: 'it returns false'. Refute it at one input. -/
def totalsSumsWrong : ChangeSpec := { name := "totalsSums", fn := fun _ => fun
  | [d1, d2] => { results := [.lit (.bool false)], args := [d1, d2] }
  | _ => none }
def TotalsSumsWrongFalsely : Prop := totalsSumsRow.holds Try.pinned (OpenSpec.ofChange totalsSumsWrong)

/-- 'pensionlaw18.TotalsGrow': WHATEVER THE INPUT: true; the input reads as it did. -/
def totalsGrowSpec : ChangeSpec := { name := "totalsGrow", fn := fun _ => fun
  | [d1, d2, d3, d4] => { results := [.lit (.bool true)], args := [d1, d2, d3, d4] }
  | _ => none }
def totalsGrowRow : OpenClaim := { program := "ytkcekbabhmdnhaa", sum := "76a3c7f1ed154b0bfae41561db827be7b886be066dcbf3716e0f4e121d4e3e14", func := "pension/pensionlaw18.TotalsGrow", spec := "totalsGrow", inPlace := ["internal/reflectlite.ValueOf", "internal/reflectlite.Swapper", "(internal/reflectlite.Value).Len"], unfollowed := true, recurses := true, apart := false }
def TotalsGrowSaid : Prop := totalsGrowRow.holds Try.pinned (OpenSpec.ofChange totalsGrowSpec)

/-- ITS FALSE NEIGHBOUR: 'it returns false'. Refute it at one input. -/
def totalsGrowWrong : ChangeSpec := { name := "totalsGrow", fn := fun _ => fun
  | [d1, d2, d3, d4] => { results := [.lit (.bool false)], args := [d1, d2, d3, d4] }
  | _ => none }
def TotalsGrowWrongFalsely : Prop := totalsGrowRow.holds Try.pinned (OpenSpec.ofChange totalsGrowWrong)

/-- 'pensionlaw18.TotalsAddUp': WHATEVER THE INPUT: true; the input reads as it did. -/
def totalsAddUpSpec : ChangeSpec := { name := "totalsAddUp", fn := fun _ => fun
  | [d1, d2] => { results := [.lit (.bool true)], args := [d1, d2] }
  | _ => none }
def totalsAddUpRow : OpenClaim := { program := "ytkcekbabhmdnhaa", sum := "76a3c7f1ed154b0bfae41561db827be7b886be066dcbf3716e0f4e121d4e3e14", func := "pension/pensionlaw18.TotalsAddUp", spec := "totalsAddUp", inPlace := ["internal/reflectlite.ValueOf", "internal/reflectlite.Swapper", "(internal/reflectlite.Value).Len", "math/bits.Add64", "math/bits.Sub64"], unfollowed := true, recurses := true, named := ["math/bits.divideError", "math/bits.overflowError"], apart := false }
def TotalsAddUpSaid : Prop := totalsAddUpRow.holds Try.pinned (OpenSpec.ofChange totalsAddUpSpec)

/-- ITS FALSE NEIGHBOUR: 'it returns false'. Refute it at one input. -/
def totalsAddUpWrong : ChangeSpec := { name := "totalsAddUp", fn := fun _ => fun
  | [d1, d2] => { results := [.lit (.bool false)], args := [d1, d2] }
  | _ => none }
def TotalsAddUpWrongFalsely : Prop := totalsAddUpRow.holds Try.pinned (OpenSpec.ofChange totalsAddUpWrong)

/- THE SECOND FORM. 'bulk': how many values and letters a reading holds, each counted each time it is reached (what is shared counts as often as it is met; a slice's spare places count too). A statement '..UptoSaid' is the law's where the arguments, and the package variables that the reading takes, are together of bulk at most 1048576: NARROWER than '..Said'. Prove '..Said' where nothing that the law and all that it calls make is longer than what came in: it says more and counts as full. Else prove '..UptoSaid'. A law counts once. -/
mutual
def uptoBulk {H : Type} : DataW H → Nat
  | .lit (.string bytes) => bytes.length + 1
  | .lit _ => 1
  | .nil => 1
  | .ptr d => uptoBulk d + 1
  | .slice elems spare => uptoBulkAll elems + uptoBulkAll spare + 1
  | .agg parts => uptoBulkAll parts + 1
  | .iface _ d => uptoBulk d + 1
  | .map entries => uptoBulkEntries entries + 1
  | .held _ => 1
def uptoBulkAll {H : Type} : List (DataW H) → Nat
  | [] => 0
  | d :: r => uptoBulk d + uptoBulkAll r
def uptoBulkEntries {H : Type} : List (Lit × DataW H) → Nat
  | [] => 0
  | x :: r => uptoBulkEntry x + uptoBulkEntries r
def uptoBulkEntry {H : Type} : Lit × DataW H → Nat
  | (.string bytes, d) => bytes.length + uptoBulk d + 1
  | (_, d) => uptoBulk d + 1
 end
def uptoSmall : (H : Type) → List (DataW H) → Bool := fun _ ds => decide (uptoBulkAll ds ≤ 1048576)
def OpenSpec.upto (s : _root_.Go.ChangeSpec) : _root_.Go.OpenSpec := { _root_.Go.OpenSpec.ofChange s with cond := some uptoSmall }

/-- 'pensionlaw18.TotalsCompute', WHERE WHAT IT READS IS OF BULK AT MOST 1048576: true; the input reads as it did. -/
def totalsComputeUptoRow : OpenClaim := { program := "ytkcekbabhmdnhaa", sum := "76a3c7f1ed154b0bfae41561db827be7b886be066dcbf3716e0f4e121d4e3e14", func := "pension/pensionlaw18.TotalsCompute", spec := "totalsCompute", inPlace := ["internal/reflectlite.ValueOf", "internal/reflectlite.Swapper", "(internal/reflectlite.Value).Len"], unfollowed := true, recurses := true, apart := false, narrowed := true }
def TotalsComputeUptoSaid : Prop := totalsComputeUptoRow.holds Try.pinned (OpenSpec.upto totalsComputeSpec)

/-- 'pensionlaw18.TotalsFractions', WHERE WHAT IT READS IS OF BULK AT MOST 1048576: true; the input reads as it did. -/
def totalsFractionsUptoRow : OpenClaim := { program := "ytkcekbabhmdnhaa", sum := "76a3c7f1ed154b0bfae41561db827be7b886be066dcbf3716e0f4e121d4e3e14", func := "pension/pensionlaw18.TotalsFractions", spec := "totalsFractions", inPlace := ["internal/reflectlite.ValueOf", "internal/reflectlite.Swapper", "(internal/reflectlite.Value).Len"], unfollowed := true, recurses := true, apart := false, narrowed := true }
def TotalsFractionsUptoSaid : Prop := totalsFractionsUptoRow.holds Try.pinned (OpenSpec.upto totalsFractionsSpec)

/-- 'pensionlaw18.TotalsSums', WHERE WHAT IT READS IS OF BULK AT MOST 1048576: true; the input reads as it did. -/
def totalsSumsUptoRow : OpenClaim := { program := "ytkcekbabhmdnhaa", sum := "76a3c7f1ed154b0bfae41561db827be7b886be066dcbf3716e0f4e121d4e3e14", func := "pension/pensionlaw18.TotalsSums", spec := "totalsSums", inPlace := ["internal/reflectlite.ValueOf", "internal/reflectlite.Swapper", "(internal/reflectlite.Value).Len"], unfollowed := true, recurses := true, apart := false, narrowed := true }
def TotalsSumsUptoSaid : Prop := totalsSumsUptoRow.holds Try.pinned (OpenSpec.upto totalsSumsSpec)

/-- 'pensionlaw18.TotalsGrow', WHERE WHAT IT READS IS OF BULK AT MOST 1048576: true; the input reads as it did. -/
def totalsGrowUptoRow : OpenClaim := { program := "ytkcekbabhmdnhaa", sum := "76a3c7f1ed154b0bfae41561db827be7b886be066dcbf3716e0f4e121d4e3e14", func := "pension/pensionlaw18.TotalsGrow", spec := "totalsGrow", inPlace := ["internal/reflectlite.ValueOf", "internal/reflectlite.Swapper", "(internal/reflectlite.Value).Len"], unfollowed := true, recurses := true, apart := false, narrowed := true }
def TotalsGrowUptoSaid : Prop := totalsGrowUptoRow.holds Try.pinned (OpenSpec.upto totalsGrowSpec)

/-- 'pensionlaw18.TotalsAddUp', WHERE WHAT IT READS IS OF BULK AT MOST 1048576: true; the input reads as it did. -/
def totalsAddUpUptoRow : OpenClaim := { program := "ytkcekbabhmdnhaa", sum := "76a3c7f1ed154b0bfae41561db827be7b886be066dcbf3716e0f4e121d4e3e14", func := "pension/pensionlaw18.TotalsAddUp", spec := "totalsAddUp", inPlace := ["internal/reflectlite.ValueOf", "internal/reflectlite.Swapper", "(internal/reflectlite.Value).Len", "math/bits.Add64", "math/bits.Sub64"], unfollowed := true, recurses := true, named := ["math/bits.divideError", "math/bits.overflowError"], apart := false, narrowed := true }
def TotalsAddUpUptoSaid : Prop := totalsAddUpUptoRow.holds Try.pinned (OpenSpec.upto totalsAddUpSpec)

end Rows
end Go.Proofs.Ytkcekbabhmdnhaa
