import Derived.Test.YtokecajedkojlaaGreatZP18
import Derived.Test.YtokecajedkojlaaGreatZT
import Derived.Test.YtokecajedkojlaaGreatZQ3
/- The law CoverageClaims, for every input. -/
set_option linter.all false
set_option maxRecDepth 100000
namespace Go.Ax
open Go.Proofs Go.Proofs.YtokecajedkojlaaGreat
open Go.ChangeShapes Go.WideShapes Go.ChangeAt Go.RowKit
theorem pW (w:World) (xs:List Value) (a:HP f3.ins.tys) (hwf:∀ n,tJ (ss n) f3.ins.tys a) (h:aF (fI fun b=>b < w.heap.size) w xs ((fN f3.ins.tys a).map TV.v)):lV Tb.P 3 xs.toArray w fun v w'=>Below w.heap.size w w'∧v = .bool true :=
  NE (fi:=f3) (a:=a) PZ ai (by kernel_rfl) rfl (by kernel_rfl) (by
    have e:Xc Tb f3 a = some true:=yn a.1 a.2.1 a.2.2.1 a.2.2.2.1 a.2.2.2.2
    rw [e]
    first | exact .inl rfl | exact .inr rfl) w xs h
theorem oU (os:Os) (started:os.Started) (H:Type) (enc:TypeId × Value→H) :
    ReturnsInHanded {} Tryz.checked os 3 .any (Rows.coverageClaimsSpec.pre6 enc Tryz.prog Tryz.f3 Rows.coverageClaimsRow.domain false) (Rows.coverageClaimsSpec.post enc Tryz.prog Tryz.f3 false true false false):=by
  refine returnsInHanded_of_change (C:=Tryz.checked) PV started (by kernel_rfl) Tryz.func3
    (ChangeSpec.witness6 (enc:=enc) (C:=Tryz.checked) false ⟨#[], #[.slice none 0 0, .slice none 0 0, .slice none 0 0, .int .i64 0, .int .i64 0],[]⟩ 8 (by kernel_rfl) (by kernel_rfl) (by kernel_rfl) (by kernel_rfl)) ?_
  intro W base args ds gs before hval hW _ _
  exact Mc (P:=Tryz.prog) (f:=3) (fn:=Tryz.f3) f3.ins.tys pW ⟨G2 Tryz.f3,by kernel_rfl⟩ Tryz.func3 (by kernel_rfl) Pq 12 (by kernel_rfl) (by kernel_rfl) (by kernel_rfl) (tb:=4) (by kernel_rfl) Tryz.underlying4
    (fun ds gs h1 h2=>by
      have h1':ds.length = 5:=h1.trans (by kernel_rfl)
      have h2':gs.length = 0:=h2
      match ds,gs,h1',h2' with
      | [d0,d1,d2,d3,d4],[],_,_=>exact ⟨rfl,rfl,rfl⟩) W base args ds gs before hval hW
end Go.Ax
