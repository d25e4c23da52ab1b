import Derived.Test.YtbjfcadcipfolaaGreatZP67
import Derived.Test.YtbjfcadcipfolaaGreatZT
import Derived.Test.YtbjfcadcipfolaaGreatZQ1
/- The law FeedReconciles, for every input. -/
set_option linter.all false
set_option maxRecDepth 100000
namespace Go.Ax
open Go.Proofs Go.Proofs.YtbjfcadcipfolaaGreat
open Go.ChangeShapes Go.WideShapes Go.ChangeAt Go.RowKit
theorem sa (w:World) (xs:List Value) (a:HP f7.ins.tys) (hwf:∀ n,nD (kO n) f7.ins.tys a) (h:aJ (dc fun b=>b < w.heap.size) w xs ((dZ f7.ins.tys a).map TV.v)):fy Tb.P 7 xs.toArray w fun v w'=>Below w.heap.size w w'∧v = .bool true :=
  mS (fi:=f7) (a:=a) xq al (by kernel_rfl) rfl (by kernel_rfl) (by
    have e:Xc Tb f7 a = some true:=y4 a.1 a.2.1 a.2.2
    rw [e]
    first | exact .inl rfl | exact .inr rfl) w xs h
theorem rb (os:Os) (started:os.Started) (H:Type) (enc:TypeId × Value→H) :
    ReturnsInHanded {} Tryz.checked os 7 .any (Rows.feedReconcilesSpec.pre6 enc Tryz.prog Tryz.f7 Rows.feedReconcilesRow.domain false) (Rows.feedReconcilesSpec.post enc Tryz.prog Tryz.f7 false true false false):=by
  refine returnsInHanded_of_change (C:=Tryz.checked) yg started (by kernel_rfl) Tryz.func7
    (ChangeSpec.witness6 (enc:=enc) (C:=Tryz.checked) false ⟨#[], #[.slice none 0 0, .slice none 0 0, .slice none 0 0],[]⟩ 8 (by kernel_rfl) (by kernel_rfl) (by kernel_rfl) (by kernel_rfl)) ?_
  intro W base args ds gs before hval hW _ _
  exact nm (P:=Tryz.prog) (f:=7) (fn:=Tryz.f7) f7.ins.tys sa ⟨jp Tryz.f7,by kernel_rfl⟩ Tryz.func7 (by kernel_rfl) pi 12 (by kernel_rfl) (by kernel_rfl) (by kernel_rfl) (tb:=4) (by kernel_rfl) Tryz.underlying4
    (fun ds gs h1 h2=>by
      have h1':ds.length = 3:=h1.trans (by kernel_rfl)
      have h2':gs.length = 0:=h2
      match ds,gs,h1',h2' with
      | [d0,d1,d2],[],_,_=>exact ⟨rfl,rfl,rfl⟩) W base args ds gs before hval hW
end Go.Ax
