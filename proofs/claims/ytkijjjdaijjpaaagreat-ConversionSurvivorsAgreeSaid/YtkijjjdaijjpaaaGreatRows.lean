/-
  No cell of these rows narrows 'for every input' (looked for: loops, veiled, ifaces, maps, wideKeys, modest, calm, conditions, laid).
  DERIVED. THE GIVEN ROWS OF THIS SEAT. 3 by the template 'for every input the law returns true; each argument reads behind the call as it read before'; 0 by the template 'total and deterministic' (their statements: YtkijjjdaijjpaaaGreatTotals.lean).
  GIVEN WITH THE SEED: the statements are not yours to turn. If you find one false, say at which input.
  Laid BY PROGRAM, IN A SANDBOX (cutbox-rows.mjs): the forced cells as the released guide's own fill.sh prints them over the translation 41eb39d231059367… (all of the seat's roots in one cut). By AI agents, Wed Nov 11 2026. No macro, syntax, notation, axiom, sorry.
-/
import Derived.Test.YtkijjjdaijjpaaaGreatChecked
import GoSem.Claim
import GoSem.ClaimJoined
import GoSem.ClaimMapViews
import Derived.JoinedTies
import Derived.KernelRfl
namespace Go.Proofs.YtkijjjdaijjpaaaGreat
/- THE CELL 'sum', in the pinned program and in every row, IS THE sha256 OF THE DUMP (.gsa) THAT YtkijjjdaijjpaaaGreatProg.lean LOADS. Nothing in Lean hashes anything: it is a label: what it is worth is what the hold of that sum in a sandbox is worth. -/
noncomputable def Tryz.pinned : Pinned := { name := "ytkijjjdaijjpaaagreat", sum := "41eb39d231059367d2c600f422db0a82e53365f81ff8832563533a8d82e1769c", checked := Tryz.checked }
namespace Rows
def none {H : Type} : Left H := { results := [], args := [] }

/-- 'pensionlaw22.ConversionSurvivorsAgree': WHATEVER THE INPUT: true; the input reads as it did. -/
def conversionSurvivorsAgreeSpec : ChangeSpec := { name := "conversionSurvivorsAgree", fn := fun _ => fun
  | [d1, d2, d3, d4] => { results := [.lit (.bool true)], args := [d1, d2, d3, d4] }
  | _ => none }
def conversionSurvivorsAgreeRow : OpenClaim := { program := "ytkijjjdaijjpaaagreat", sum := "41eb39d231059367d2c600f422db0a82e53365f81ff8832563533a8d82e1769c", func := "pension/pensionlaw22.ConversionSurvivorsAgree", spec := "conversionSurvivorsAgree", inPlace := ["slices.overlaps[pension/conversion.remainder]", "internal/bytealg.IndexByteString", "internal/bytealg.IndexString", "internal/bytealg.Compare", "internal/reflectlite.ValueOf", "internal/reflectlite.Swapper", "(internal/reflectlite.Value).Len"], unfollowed := true, recurses := true, named := ["internal/bytealg.MaxLen"], apart := false }
def ConversionSurvivorsAgreeSaid : Prop := conversionSurvivorsAgreeRow.holds Tryz.pinned (OpenSpec.ofChange conversionSurvivorsAgreeSpec)

/-- ITS FALSE NEIGHBOUR: 'it returns false'. Refute it at one input. -/
def conversionSurvivorsAgreeWrong : ChangeSpec := { name := "conversionSurvivorsAgree", fn := fun _ => fun
  | [d1, d2, d3, d4] => { results := [.lit (.bool false)], args := [d1, d2, d3, d4] }
  | _ => none }
def ConversionSurvivorsAgreeWrongFalsely : Prop := conversionSurvivorsAgreeRow.holds Tryz.pinned (OpenSpec.ofChange conversionSurvivorsAgreeWrong)

/-- 'pensionlaw22.ConversionSurvivorsIgnoreOrder': WHATEVER THE INPUT: true; the input reads as it did. -/
def conversionSurvivorsIgnoreOrderSpec : ChangeSpec := { name := "conversionSurvivorsIgnoreOrder", fn := fun _ => fun
  | [d1, d2, d3, d4, d5] => { results := [.lit (.bool true)], args := [d1, d2, d3, d4, d5] }
  | _ => none }
def conversionSurvivorsIgnoreOrderRow : OpenClaim := { program := "ytkijjjdaijjpaaagreat", sum := "41eb39d231059367d2c600f422db0a82e53365f81ff8832563533a8d82e1769c", func := "pension/pensionlaw22.ConversionSurvivorsIgnoreOrder", spec := "conversionSurvivorsIgnoreOrder", inPlace := ["slices.overlaps[pension/conversion.remainder]", "internal/bytealg.IndexByteString", "internal/bytealg.IndexString", "internal/bytealg.Compare", "internal/reflectlite.ValueOf", "internal/reflectlite.Swapper", "(internal/reflectlite.Value).Len"], unfollowed := true, recurses := true, named := ["internal/bytealg.MaxLen"], apart := false }
def ConversionSurvivorsIgnoreOrderSaid : Prop := conversionSurvivorsIgnoreOrderRow.holds Tryz.pinned (OpenSpec.ofChange conversionSurvivorsIgnoreOrderSpec)

/-- ITS FALSE NEIGHBOUR: 'it returns false'. Refute it at one input. -/
def conversionSurvivorsIgnoreOrderWrong : ChangeSpec := { name := "conversionSurvivorsIgnoreOrder", fn := fun _ => fun
  | [d1, d2, d3, d4, d5] => { results := [.lit (.bool false)], args := [d1, d2, d3, d4, d5] }
  | _ => none }
def ConversionSurvivorsIgnoreOrderWrongFalsely : Prop := conversionSurvivorsIgnoreOrderRow.holds Tryz.pinned (OpenSpec.ofChange conversionSurvivorsIgnoreOrderWrong)

/-- 'pensionlaw22.ConversionSurvivorsAreValid': WHATEVER THE INPUT: true; the input reads as it did. -/
def conversionSurvivorsAreValidSpec : ChangeSpec := { name := "conversionSurvivorsAreValid", fn := fun _ => fun
  | [d1, d2, d3, d4] => { results := [.lit (.bool true)], args := [d1, d2, d3, d4] }
  | _ => none }
def conversionSurvivorsAreValidRow : OpenClaim := { program := "ytkijjjdaijjpaaagreat", sum := "41eb39d231059367d2c600f422db0a82e53365f81ff8832563533a8d82e1769c", func := "pension/pensionlaw22.ConversionSurvivorsAreValid", spec := "conversionSurvivorsAreValid", inPlace := ["internal/bytealg.IndexByteString", "internal/bytealg.IndexString", "internal/bytealg.Compare", "internal/reflectlite.ValueOf", "internal/reflectlite.Swapper", "(internal/reflectlite.Value).Len", "slices.overlaps[pension/conversion.remainder]"], unfollowed := true, recurses := true, named := ["internal/bytealg.MaxLen"], apart := false }
def ConversionSurvivorsAreValidSaid : Prop := conversionSurvivorsAreValidRow.holds Tryz.pinned (OpenSpec.ofChange conversionSurvivorsAreValidSpec)

/-- ITS FALSE NEIGHBOUR: 'it returns false'. Refute it at one input. -/
def conversionSurvivorsAreValidWrong : ChangeSpec := { name := "conversionSurvivorsAreValid", fn := fun _ => fun
  | [d1, d2, d3, d4] => { results := [.lit (.bool false)], args := [d1, d2, d3, d4] }
  | _ => none }
def ConversionSurvivorsAreValidWrongFalsely : Prop := conversionSurvivorsAreValidRow.holds Tryz.pinned (OpenSpec.ofChange conversionSurvivorsAreValidWrong)

/- THE SECOND FORM. 'bulk': how many values and letters a reading holds, each counted each time it is reached (what is shared counts as often as it is met; a slice's spare places count too). A statement '..UptoSaid' is the law's where the arguments, and the package variables that the reading takes, are together of bulk at most 1048576: NARROWER than '..Said'. Prove '..Said' where nothing that the law and all that it calls make is longer than what came in: it says more and counts as full. Else prove '..UptoSaid'. A law counts once. -/
mutual
def uptoBulk {H : Type} : DataW H → Nat
  | .lit (.string bytes) => bytes.length + 1
  | .lit _ => 1
  | .nil => 1
  | .ptr d => uptoBulk d + 1
  | .slice elems spare => uptoBulkAll elems + uptoBulkAll spare + 1
  | .agg parts => uptoBulkAll parts + 1
  | .iface _ d => uptoBulk d + 1
  | .map entries => uptoBulkEntries entries + 1
  | .held _ => 1
def uptoBulkAll {H : Type} : List (DataW H) → Nat
  | [] => 0
  | d :: r => uptoBulk d + uptoBulkAll r
def uptoBulkEntries {H : Type} : List (Lit × DataW H) → Nat
  | [] => 0
  | x :: r => uptoBulkEntry x + uptoBulkEntries r
def uptoBulkEntry {H : Type} : Lit × DataW H → Nat
  | (.string bytes, d) => bytes.length + uptoBulk d + 1
  | (_, d) => uptoBulk d + 1
 end
def uptoSmall : (H : Type) → List (DataW H) → Bool := fun _ ds => decide (uptoBulkAll ds ≤ 1048576)
def OpenSpec.upto (s : _root_.Go.ChangeSpec) : _root_.Go.OpenSpec := { _root_.Go.OpenSpec.ofChange s with cond := some uptoSmall }

/-- 'pensionlaw22.ConversionSurvivorsAgree', WHERE WHAT IT READS IS OF BULK AT MOST 1048576: true; the input reads as it did. -/
def conversionSurvivorsAgreeUptoRow : OpenClaim := { program := "ytkijjjdaijjpaaagreat", sum := "41eb39d231059367d2c600f422db0a82e53365f81ff8832563533a8d82e1769c", func := "pension/pensionlaw22.ConversionSurvivorsAgree", spec := "conversionSurvivorsAgree", inPlace := ["slices.overlaps[pension/conversion.remainder]", "internal/bytealg.IndexByteString", "internal/bytealg.IndexString", "internal/bytealg.Compare", "internal/reflectlite.ValueOf", "internal/reflectlite.Swapper", "(internal/reflectlite.Value).Len"], unfollowed := true, recurses := true, named := ["internal/bytealg.MaxLen"], apart := false, narrowed := true }
def ConversionSurvivorsAgreeUptoSaid : Prop := conversionSurvivorsAgreeUptoRow.holds Tryz.pinned (OpenSpec.upto conversionSurvivorsAgreeSpec)

/-- 'pensionlaw22.ConversionSurvivorsIgnoreOrder', WHERE WHAT IT READS IS OF BULK AT MOST 1048576: true; the input reads as it did. -/
def conversionSurvivorsIgnoreOrderUptoRow : OpenClaim := { program := "ytkijjjdaijjpaaagreat", sum := "41eb39d231059367d2c600f422db0a82e53365f81ff8832563533a8d82e1769c", func := "pension/pensionlaw22.ConversionSurvivorsIgnoreOrder", spec := "conversionSurvivorsIgnoreOrder", inPlace := ["slices.overlaps[pension/conversion.remainder]", "internal/bytealg.IndexByteString", "internal/bytealg.IndexString", "internal/bytealg.Compare", "internal/reflectlite.ValueOf", "internal/reflectlite.Swapper", "(internal/reflectlite.Value).Len"], unfollowed := true, recurses := true, named := ["internal/bytealg.MaxLen"], apart := false, narrowed := true }
def ConversionSurvivorsIgnoreOrderUptoSaid : Prop := conversionSurvivorsIgnoreOrderUptoRow.holds Tryz.pinned (OpenSpec.upto conversionSurvivorsIgnoreOrderSpec)

/-- 'pensionlaw22.ConversionSurvivorsAreValid', WHERE WHAT IT READS IS OF BULK AT MOST 1048576: true; the input reads as it did. -/
def conversionSurvivorsAreValidUptoRow : OpenClaim := { program := "ytkijjjdaijjpaaagreat", sum := "41eb39d231059367d2c600f422db0a82e53365f81ff8832563533a8d82e1769c", func := "pension/pensionlaw22.ConversionSurvivorsAreValid", spec := "conversionSurvivorsAreValid", inPlace := ["internal/bytealg.IndexByteString", "internal/bytealg.IndexString", "internal/bytealg.Compare", "internal/reflectlite.ValueOf", "internal/reflectlite.Swapper", "(internal/reflectlite.Value).Len", "slices.overlaps[pension/conversion.remainder]"], unfollowed := true, recurses := true, named := ["internal/bytealg.MaxLen"], apart := false, narrowed := true }
def ConversionSurvivorsAreValidUptoSaid : Prop := conversionSurvivorsAreValidUptoRow.holds Tryz.pinned (OpenSpec.upto conversionSurvivorsAreValidSpec)

end Rows
end Go.Proofs.YtkijjjdaijjpaaaGreat
