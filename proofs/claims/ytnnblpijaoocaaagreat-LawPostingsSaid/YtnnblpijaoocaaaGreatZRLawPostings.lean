import Derived.Test.YtnnblpijaoocaaaGreatZP30
import Derived.Test.YtnnblpijaoocaaaGreatZT
import Derived.Test.YtnnblpijaoocaaaGreatZQ1
/- The law LawPostings, for every input. -/
set_option linter.all false
set_option maxRecDepth 100000
namespace Go.Ax
open Go.Proofs Go.Proofs.YtnnblpijaoocaaaGreat
open Go.ChangeShapes Go.WideShapes Go.ChangeAt Go.RowKit
theorem ot (w:World) (xs:List Value) (a:HP f3.ins.tys) (hwf:∀ n,oW (mM n) f3.ins.tys a) (h:av (dU fun b=>b < w.heap.size) w xs ((et f3.ins.tys a).map TV.v)):gw Tb.P 3 xs.toArray w fun v w'=>Below w.heap.size w w'∧v = .bool true :=
  Hu (fi:=f3) (a:=a) KC ak (by kernel_rfl) rfl (by kernel_rfl) (by
    have e:Xc Tb f3 a = some true:=vN a.1 a.2.1 a.2.2 (fun n=>(hwf n).2.1)
    rw [e]
    first | exact .inl rfl | exact .inr rfl) w xs h
theorem mA (os:Os) (started:os.Started) (H:Type) (enc:TypeId × Value→H) :
    ReturnsInHanded {} Tryz.checked os 3 .any (Rows.lawPostingsSpec.pre6 enc Tryz.prog Tryz.f3 Rows.lawPostingsRow.domain false) (Rows.lawPostingsSpec.post enc Tryz.prog Tryz.f3 false true false false):=by
  refine returnsInHanded_of_change (C:=Tryz.checked) KH started (by kernel_rfl) Tryz.func3
    (ChangeSpec.witness6 (enc:=enc) (C:=Tryz.checked) false ⟨#[], #[.slice none 0 0, .slice none 0 0, .bool false],[]⟩ 8 (by kernel_rfl) (by kernel_rfl) (by kernel_rfl) (by kernel_rfl)) ?_
  intro W base args ds gs before hval hW _ _
  exact Fx (P:=Tryz.prog) (f:=3) (fn:=Tryz.f3) f3.ins.tys ot ⟨gi Tryz.f3,by kernel_rfl⟩ Tryz.func3 (by kernel_rfl) JS 12 (by kernel_rfl) (by kernel_rfl) (by kernel_rfl) (tb:=4) (by kernel_rfl) Tryz.underlying4
    (fun ds gs h1 h2=>by
      have h1':ds.length = 3:=h1.trans (by kernel_rfl)
      have h2':gs.length = 0:=h2
      match ds,gs,h1',h2' with
      | [d0,d1,d2],[],_,_=>exact ⟨rfl,rfl,rfl⟩) W base args ds gs before hval hW
end Go.Ax
