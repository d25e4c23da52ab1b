import Derived.Test.YtokecajedkojlaaGreatZP28
import Derived.Test.YtokecajedkojlaaGreatZT
import Derived.Test.YtokecajedkojlaaGreatZQ1
/- The law EarningsYears, for every input. -/
set_option linter.all false
set_option maxRecDepth 100000
namespace Go.Ax
open Go.Proofs Go.Proofs.YtokecajedkojlaaGreat
open Go.ChangeShapes Go.WideShapes Go.ChangeAt Go.RowKit
theorem tV (w:World) (xs:List Value) (a:HP f5.ins.tys) (hwf:∀ n,xL (vr n) f5.ins.tys a) (h:aF (gY fun b=>b < w.heap.size) w xs ((im f5.ins.tys a).map TV.v)):od Tb.P 5 xs.toArray w fun v w'=>Below w.heap.size w w'∧v = .bool true :=
  Td (fi:=f5) (a:=a) VY ah (by kernel_rfl) rfl (by kernel_rfl) (by
    have e:Xc Tb f5 a = some true:=CF a.1 a.2.1 a.2.2.1 a.2.2.2.1 a.2.2.2.2.1 a.2.2.2.2.2
    rw [e]
    first | exact .inl rfl | exact .inr rfl) w xs h
theorem sE (os:Os) (started:os.Started) (H:Type) (enc:TypeId × Value→H) :
    ReturnsInHanded {} Tryz.checked os 5 .any (Rows.earningsYearsSpec.pre6 enc Tryz.prog Tryz.f5 Rows.earningsYearsRow.domain false) (Rows.earningsYearsSpec.post enc Tryz.prog Tryz.f5 false true false false):=by
  refine returnsInHanded_of_change (C:=Tryz.checked) V4 started (by kernel_rfl) Tryz.func5
    (ChangeSpec.witness6 (enc:=enc) (C:=Tryz.checked) false ⟨#[], #[.slice none 0 0, .slice none 0 0, .int .i64 0, .int .i64 0, .int .i64 0, .int .i64 0],[]⟩ 8 (by kernel_rfl) (by kernel_rfl) (by kernel_rfl) (by kernel_rfl)) ?_
  intro W base args ds gs before hval hW _ _
  exact Ri (P:=Tryz.prog) (f:=5) (fn:=Tryz.f5) f5.ins.tys tV ⟨tY Tryz.f5,by kernel_rfl⟩ Tryz.func5 (by kernel_rfl) VD 12 (by kernel_rfl) (by kernel_rfl) (by kernel_rfl) (tb:=4) (by kernel_rfl) Tryz.underlying4
    (fun ds gs h1 h2=>by
      have h1':ds.length = 6:=h1.trans (by kernel_rfl)
      have h2':gs.length = 0:=h2
      match ds,gs,h1',h2' with
      | [d0,d1,d2,d3,d4,d5],[],_,_=>exact ⟨rfl,rfl,rfl⟩) W base args ds gs before hval hW
end Go.Ax
