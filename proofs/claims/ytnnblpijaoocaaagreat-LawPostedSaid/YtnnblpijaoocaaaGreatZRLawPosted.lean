import Derived.Test.YtnnblpijaoocaaaGreatZP30
import Derived.Test.YtnnblpijaoocaaaGreatZT
import Derived.Test.YtnnblpijaoocaaaGreatZQ1
/- The law LawPosted, for every input. -/
set_option linter.all false
set_option maxRecDepth 100000
namespace Go.Ax
open Go.Proofs Go.Proofs.YtnnblpijaoocaaaGreat
open Go.ChangeShapes Go.WideShapes Go.ChangeAt Go.RowKit
theorem vJ (w:World) (xs:List Value) (a:HP f4.ins.tys) (hwf:∀ n,tO (sG n) f4.ins.tys a) (h:aJ (gg fun b=>b < w.heap.size) w xs ((gV f4.ins.tys a).map TV.v)):jE Tb.P 4 xs.toArray w fun v w'=>Below w.heap.size w w'∧v = .bool true :=
  IX (fi:=f4) (a:=a) Rw aj (by kernel_rfl) rfl (by kernel_rfl) (by
    have e:Xc Tb f4 a = some true:=Ib a.1 a.2.1 a.2.2.1 a.2.2.2.1 a.2.2.2.2.1 a.2.2.2.2.2
    rw [e]
    first | exact .inl rfl | exact .inr rfl) w xs h
theorem ul (os:Os) (started:os.Started) (H:Type) (enc:TypeId × Value→H) :
    ReturnsInHanded {} Tryz.checked os 4 .any (Rows.lawPostedSpec.pre6 enc Tryz.prog Tryz.f4 Rows.lawPostedRow.domain false) (Rows.lawPostedSpec.post enc Tryz.prog Tryz.f4 false true false false):=by
  refine returnsInHanded_of_change (C:=Tryz.checked) RL started (by kernel_rfl) Tryz.func4
    (ChangeSpec.witness6 (enc:=enc) (C:=Tryz.checked) false ⟨#[], #[.slice none 0 0, .slice none 0 0, .int .i64 0, .int .i64 0, .int .i64 0, .int .i64 0],[]⟩ 8 (by kernel_rfl) (by kernel_rfl) (by kernel_rfl) (by kernel_rfl)) ?_
  intro W base args ds gs before hval hW _ _
  exact GW (P:=Tryz.prog) (f:=4) (fn:=Tryz.f4) f4.ins.tys vJ ⟨i8 Tryz.f4,by kernel_rfl⟩ Tryz.func4 (by kernel_rfl) Ng 12 (by kernel_rfl) (by kernel_rfl) (by kernel_rfl) (tb:=4) (by kernel_rfl) Tryz.underlying4
    (fun ds gs h1 h2=>by
      have h1':ds.length = 6:=h1.trans (by kernel_rfl)
      have h2':gs.length = 0:=h2
      match ds,gs,h1',h2' with
      | [d0,d1,d2,d3,d4,d5],[],_,_=>exact ⟨rfl,rfl,rfl⟩) W base args ds gs before hval hW
end Go.Ax
