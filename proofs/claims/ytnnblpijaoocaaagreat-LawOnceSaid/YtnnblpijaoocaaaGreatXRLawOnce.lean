import Derived.Test.YtnnblpijaoocaaaGreatXP30
import Derived.Test.YtnnblpijaoocaaaGreatXT
import Derived.Test.YtnnblpijaoocaaaGreatXQ1
/- The law LawOnce, for every input. -/
set_option linter.all false
set_option maxRecDepth 100000
namespace Go.Ax
open Go.Proofs Go.Proofs.YtnnblpijaoocaaaGreat
open Go.ChangeShapes Go.WideShapes Go.ChangeAt Go.RowKit
theorem AO (w:World) (xs:List Value) (a:HP f9.ins.tys) (hwf:∀ n,uO (sN n) f9.ins.tys a) (h:aN (gw fun b=>b < w.heap.size) w xs ((gU f9.ins.tys a).map TV.v)):j8 Tb.P 9 xs.toArray w fun v w'=>Below w.heap.size w w'∧v = .bool true :=
  Lz (fi:=f9) (a:=a) S6 aj (by kernel_rfl) rfl (by kernel_rfl) (by
    have e:Xc Tb f9 a = some true:=MQ a.1 a.2.1 a.2.2.1 a.2.2.2.1 a.2.2.2.2
    rw [e]
    first | exact .inl rfl | exact .inr rfl) w xs h
theorem xH (os:Os) (started:os.Started) (H:Type) (enc:TypeId × Value→H) :
    ReturnsInHanded {} Tryz.checked os 9 .any (Rows.lawOnceSpec.pre6 enc Tryz.prog Tryz.f9 Rows.lawOnceRow.domain false) (Rows.lawOnceSpec.post enc Tryz.prog Tryz.f9 false true false false):=by
  refine returnsInHanded_of_change (C:=Tryz.checked) S9 started (by kernel_rfl) Tryz.func9
    (ChangeSpec.witness6 (enc:=enc) (C:=Tryz.checked) false ⟨#[], #[.slice none 0 0, .slice none 0 0, .bool false, .int .i64 0, .int .i64 0],[]⟩ 8 (by kernel_rfl) (by kernel_rfl) (by kernel_rfl) (by kernel_rfl)) ?_
  intro W base args ds gs before hval hW _ _
  exact I7 (P:=Tryz.prog) (f:=9) (fn:=Tryz.f9) f9.ins.tys AO ⟨jx Tryz.f9,by kernel_rfl⟩ Tryz.func9 (by kernel_rfl) Py 12 (by kernel_rfl) (by kernel_rfl) (by kernel_rfl) (tb:=4) (by kernel_rfl) Tryz.underlying4
    (fun ds gs h1 h2=>by
      have h1':ds.length = 5:=h1.trans (by kernel_rfl)
      have h2':gs.length = 0:=h2
      match ds,gs,h1',h2' with
      | [d0,d1,d2,d3,d4],[],_,_=>exact ⟨rfl,rfl,rfl⟩) W base args ds gs before hval hW
end Go.Ax
