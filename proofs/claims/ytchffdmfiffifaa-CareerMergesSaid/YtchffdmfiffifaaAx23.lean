import Derived.Test.YtchffdmfiffifaaAx22
/- The closed facts of a row, one by one. -/
namespace Go.Ax
open Go.RowKit

theorem joined_mk {P : Program} {f : FuncId} {fn : Func} {s : ChangeSpec} {c : OpenClaim}
    (a1 : c.wf (OpenSpec.ofChange s) = true) (a2 : laidOutB P = true) (a3 : mapsRowed P = true) (a4 : fn.params.all (P.readableRec ·) = true) (a5 : namedTie P c.named s.vars = true)
    (a6 : (c.stops == []) = true) (a7 : (P.stops == []) = true) (a8 : (c.knobs == []) = true) (a9 : (P.stopKnobs == []) = true)
    (b1 : (c.inPlace == P.inPlace f) = true) (b2 : (c.unfollowed == P.unfollowed f) = true) (b3 : (c.recurses == P.recurses f) = true) (b4 : (c.named == P.varsNamed f) = true)
    (b5 : (c.maps == (fn.params.toList ++ s.plain.varTypes P).any (P.mapsRec ·)) = true) (b6 : (c.ifaces == (fn.params.toList ++ s.plain.varTypes P).any (P.ifacesRec ·)) = true) (b7 : (c.mapsOut == P.mapsAmong fn.resultTypes.toList) = true)
    (b8 : (c.loops == (fn.params.toList ++ s.plain.varTypes P).any (P.loopsFrom ·)) = true) (b9 : (c.wideKeys == (fn.params.toList ++ s.plain.varTypes P ++ fn.resultTypes.toList).any (P.wideKeysFrom ·)) = true)
    (c1 : s.vars.all (P.varReadable ·) = true) (c2 : fn.resultTypes.all (fun t => P.readableRec t && decide (t < P.types.size)) = true) (c3 : (c.ifacesOut == fn.resultTypes.toList.any (P.ifacesRec ·)) = true) (c4 : (c.loopsOut == fn.resultTypes.toList.any (P.loopsFrom ·)) = true)
    (c5 : (c.plainKeys == P.plainKeys) = true) (c6 : c.shortTexts.isNone = true) (c7 : P.stopsHeard = true) (c8 : P.mayEnter = true) (c9 : (c.lifted == P.liftsFinal) = true)
    (d1 : (P.make == some c.make) = true) (d2 : (c.kinds == (if c.domain.isEmpty then [] else fn.params.toList.map fun t => match P.underlying t with | some (.int k) => some k | _ => none)) = true) (d3 : (c.pinned == c.pinnedBy) = true)
    (d4 : (c.veiled == (fn.params.toList ++ s.plain.varTypes P ++ fn.resultTypes.toList).any (P.veiledRec ·)) = true) (d5 : c.veiledFits P fn.params.toList (fn.params.toList ++ s.plain.varTypes P ++ fn.resultTypes.toList) = true) : joinedFacts P f fn s c = true := by
  unfold joinedFacts
  simp only [Bool.and_eq_true]
  exact ⟨⟨⟨⟨⟨⟨⟨⟨⟨⟨⟨⟨⟨⟨⟨⟨⟨⟨⟨⟨⟨⟨⟨⟨⟨⟨⟨⟨⟨⟨⟨a1, a2⟩, a3⟩, a4⟩, a5⟩, a6⟩, a7⟩, a8⟩, a9⟩, b1⟩, b2⟩, b3⟩, b4⟩, b5⟩, b6⟩, b7⟩, b8⟩, b9⟩, c1⟩, c2⟩, c3⟩, c4⟩, c5⟩, c6⟩, c7⟩, c8⟩, c9⟩, d1⟩, d2⟩, d3⟩, d4⟩, d5⟩

/-- The first word of a line. -/
theorem ws_word : ∀ (a r : List Char), a.all (fun c => c != Char.ofNat 32) = true → wordsSigns (a ++ Char.ofNat 32 :: r) = a :: wordsSigns r
  | [], r, _ => rfl
  | c :: a, r, h => by
    simp only [List.all_cons, Bool.and_eq_true, bne_iff_ne, ne_eq] at h
    have ih := ws_word a r h.2
    rw [List.cons_append, wordsSigns.eq_3, ih]
    exact h.1

/-- The word that says that the program is a cut. -/
def cutW : List Char := List.map Char.ofNat [99, 117, 116]
section
variable {P : Program} {r : List (List Char)}
theorem strip_cut (r : List (List Char)) : stripLifts liftWords (cutW :: r) = ([], cutW :: r) := by kernel_rfl
theorem make_mk (h : behindMainWord (wordsSigns P.initOrder.toList) = cutW :: r) : P.make = some .cut := by
  unfold Program.make
  rw [h]
  have a : (cutW == "gc".toList) = false := by kernel_rfl
  have b : (cutW == "spec".toList) = false := by kernel_rfl
  have c : (cutW == "cut".toList) = true := by kernel_rfl
  simp only [a, b, c, Bool.or_self, Bool.false_eq_true, if_false, Bool.true_or, if_true]
theorem lifts_mk (h : behindMainWord (wordsSigns P.initOrder.toList) = cutW :: r) : P.liftsFinal = false := by
  unfold Program.liftsFinal Program.headLifts
  rw [h, strip_cut]
  have a : (some cutW == some "carried".toList) = false := by kernel_rfl
  have c : (some cutW == some "cut".toList) = true := by kernel_rfl
  simp only [List.head?_cons, a, c, Bool.false_and, Bool.false_or, if_true]
  rfl
theorem enter_mk (h : behindMainWord (wordsSigns P.initOrder.toList) = cutW :: r) (h1 : P.laysLater = false) (h2 : P.bearsReflect = false) (h3 : P.doorFits [] = true) : P.mayEnter = true := by
  unfold Program.mayEnter
  rw [h]
  have a : (cutW == "gc".toList) = false := by kernel_rfl
  have b : (cutW == "spec".toList) = false := by kernel_rfl
  have d : (cutW == "carried".toList) = false := by kernel_rfl
  have c : (some cutW == some "cut".toList) = true := by kernel_rfl
  simp only [strip_cut, a, b, c, d, h1, h2, h3, List.head?_cons, Bool.or_self, Bool.false_and, Bool.false_or, Bool.true_and, Bool.not_false, Bool.or_true, Bool.and_true]
  rfl
end
end Go.Ax
