import Derived.Test.YtbjfcadcipfolaaGreatZP63
import Derived.Test.YtbjfcadcipfolaaGreatZT
import Derived.Test.YtbjfcadcipfolaaGreatZQ1
/- The law FeedMissingAgrees, for every input. -/
set_option linter.all false
set_option maxRecDepth 100000
namespace Go.Ax
open Go.Proofs Go.Proofs.YtbjfcadcipfolaaGreat
open Go.ChangeShapes Go.WideShapes Go.ChangeAt Go.RowKit
theorem pJ (w:World) (xs:List Value) (a:HP f5.ins.tys) (hwf:∀ n,nD (kO n) f5.ins.tys a) (h:aJ (dc fun b=>b < w.heap.size) w xs ((dZ f5.ins.tys a).map TV.v)):fy Tb.P 5 xs.toArray w fun v w'=>Below w.heap.size w w'∧v = .bool true :=
  mS (fi:=f5) (a:=a) xq al (by kernel_rfl) rfl (by kernel_rfl) (by
    have e:Xc Tb f5 a = some true:=wV a.1 a.2.1 a.2.2.1 a.2.2.2 (fun n=>(hwf n).2.2.2)
    rw [e]
    first | exact .inl rfl | exact .inr rfl) w xs h
theorem oR (os:Os) (started:os.Started) (H:Type) (enc:TypeId × Value→H) :
    ReturnsInHanded {} Tryz.checked os 5 .any (Rows.feedMissingAgreesSpec.pre6 enc Tryz.prog Tryz.f5 Rows.feedMissingAgreesRow.domain false) (Rows.feedMissingAgreesSpec.post enc Tryz.prog Tryz.f5 false true false false):=by
  refine returnsInHanded_of_change (C:=Tryz.checked) yg started (by kernel_rfl) Tryz.func5
    (ChangeSpec.witness6 (enc:=enc) (C:=Tryz.checked) false ⟨#[], #[.slice none 0 0, .slice none 0 0, .slice none 0 0, .slice none 0 0],[]⟩ 8 (by kernel_rfl) (by kernel_rfl) (by kernel_rfl) (by kernel_rfl)) ?_
  intro W base args ds gs before hval hW _ _
  exact nm (P:=Tryz.prog) (f:=5) (fn:=Tryz.f5) f5.ins.tys pJ ⟨jp Tryz.f5,by kernel_rfl⟩ Tryz.func5 (by kernel_rfl) pi 12 (by kernel_rfl) (by kernel_rfl) (by kernel_rfl) (tb:=4) (by kernel_rfl) Tryz.underlying4
    (fun ds gs h1 h2=>by
      have h1':ds.length = 4:=h1.trans (by kernel_rfl)
      have h2':gs.length = 0:=h2
      match ds,gs,h1',h2' with
      | [d0,d1,d2,d3],[],_,_=>exact ⟨rfl,rfl,rfl⟩) W base args ds gs before hval hW
end Go.Ax
