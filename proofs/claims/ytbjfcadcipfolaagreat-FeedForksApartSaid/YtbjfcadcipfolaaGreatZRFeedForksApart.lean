import Derived.Test.YtbjfcadcipfolaaGreatZP64
import Derived.Test.YtbjfcadcipfolaaGreatZT
import Derived.Test.YtbjfcadcipfolaaGreatZQ1
/- The law FeedForksApart, for every input. -/
set_option linter.all false
set_option maxRecDepth 100000
namespace Go.Ax
open Go.Proofs Go.Proofs.YtbjfcadcipfolaaGreat
open Go.ChangeShapes Go.WideShapes Go.ChangeAt Go.RowKit
theorem oV (w:World) (xs:List Value) (a:HP f11.ins.tys) (hwf:∀ n,sh (qA n) f11.ins.tys a) (h:aI (dw fun b=>b < w.heap.size) w xs ((fE f11.ins.tys a).map TV.v)):ik Tb.P 11 xs.toArray w fun v w'=>Below w.heap.size w w'∧v = .bool true :=
  Lz (fi:=f11) (a:=a) LJ al (by kernel_rfl) rfl (by kernel_rfl) (by
    have e:Xc Tb f11 a = some true:=u6 a.1 a.2
    rw [e]
    first | exact .inl rfl | exact .inr rfl) w xs h
theorem od (os:Os) (started:os.Started) (H:Type) (enc:TypeId × Value→H) :
    ReturnsInHanded {} Tryz.checked os 11 .any (Rows.feedForksApartSpec.pre6 enc Tryz.prog Tryz.f11 Rows.feedForksApartRow.domain false) (Rows.feedForksApartSpec.post enc Tryz.prog Tryz.f11 false true false false):=by
  refine returnsInHanded_of_change (C:=Tryz.checked) Nv started (by kernel_rfl) Tryz.func11
    (ChangeSpec.witness6 (enc:=enc) (C:=Tryz.checked) false ⟨#[], #[.slice none 0 0, .slice none 0 0],[]⟩ 8 (by kernel_rfl) (by kernel_rfl) (by kernel_rfl) (by kernel_rfl)) ?_
  intro W base args ds gs before hval hW _ _
  exact Jq (P:=Tryz.prog) (f:=11) (fn:=Tryz.f11) f11.ins.tys oV ⟨nX Tryz.f11,by kernel_rfl⟩ Tryz.func11 (by kernel_rfl) M8 12 (by kernel_rfl) (by kernel_rfl) (by kernel_rfl) (tb:=4) (by kernel_rfl) Tryz.underlying4
    (fun ds gs h1 h2=>by
      have h1':ds.length = 2:=h1.trans (by kernel_rfl)
      have h2':gs.length = 0:=h2
      match ds,gs,h1',h2' with
      | [d0,d1],[],_,_=>exact ⟨rfl,rfl,rfl⟩) W base args ds gs before hval hW
end Go.Ax
