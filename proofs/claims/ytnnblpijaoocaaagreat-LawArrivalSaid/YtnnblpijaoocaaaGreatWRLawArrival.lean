import Derived.Test.YtnnblpijaoocaaaGreatWP30
import Derived.Test.YtnnblpijaoocaaaGreatWT
import Derived.Test.YtnnblpijaoocaaaGreatWQ1
/- The law LawArrival, for every input. -/
set_option linter.all false
set_option maxRecDepth 100000
namespace Go.Ax
open Go.Proofs Go.Proofs.YtnnblpijaoocaaaGreat
open Go.ChangeShapes Go.WideShapes Go.ChangeAt Go.RowKit
theorem tn (w:World) (xs:List Value) (a:HP f10.ins.tys) (hwf:∀ n,ua (sE n) f10.ins.tys a) (h:aF (fL fun b=>b < w.heap.size) w xs ((gE f10.ins.tys a).map TV.v)):jI Tb.P 10 xs.toArray w fun v w'=>Below w.heap.size w w'∧v = .bool true :=
  N9 (fi:=f10) (a:=a) Rv ak (by kernel_rfl) rfl (by kernel_rfl) (by
    have e:Xc Tb f10 a = some true:=DD a.1 a.2.1 a.2.2.1 a.2.2.2.1 a.2.2.2.2
    rw [e]
    first | exact .inl rfl | exact .inr rfl) w xs h
theorem rD (os:Os) (started:os.Started) (H:Type) (enc:TypeId × Value→H) :
    ReturnsInHanded {} Tryz.checked os 10 .any (Rows.lawArrivalSpec.pre6 enc Tryz.prog Tryz.f10 Rows.lawArrivalRow.domain false) (Rows.lawArrivalSpec.post enc Tryz.prog Tryz.f10 false true false false):=by
  refine returnsInHanded_of_change (C:=Tryz.checked) Ro started (by kernel_rfl) Tryz.func10
    (ChangeSpec.witness6 (enc:=enc) (C:=Tryz.checked) false ⟨#[], #[.slice none 0 0, .slice none 0 0, .bool false, .int .i64 0, .slice none 0 0],[]⟩ 8 (by kernel_rfl) (by kernel_rfl) (by kernel_rfl) (by kernel_rfl)) ?_
  intro W base args ds gs before hval hW _ _
  exact NI (P:=Tryz.prog) (f:=10) (fn:=Tryz.f10) f10.ins.tys tn ⟨jw Tryz.f10,by kernel_rfl⟩ Tryz.func10 (by kernel_rfl) QM 12 (by kernel_rfl) (by kernel_rfl) (by kernel_rfl) (tb:=4) (by kernel_rfl) Tryz.underlying4
    (fun ds gs h1 h2=>by
      have h1':ds.length = 5:=h1.trans (by kernel_rfl)
      have h2':gs.length = 0:=h2
      match ds,gs,h1',h2' with
      | [d0,d1,d2,d3,d4],[],_,_=>exact ⟨rfl,rfl,rfl⟩) W base args ds gs before hval hW
end Go.Ax
