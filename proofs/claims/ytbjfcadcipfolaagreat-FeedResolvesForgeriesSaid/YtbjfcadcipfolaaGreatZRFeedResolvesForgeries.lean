import Derived.Test.YtbjfcadcipfolaaGreatZP66
import Derived.Test.YtbjfcadcipfolaaGreatZT
import Derived.Test.YtbjfcadcipfolaaGreatZQ1
/- The law FeedResolvesForgeries, for every input. -/
set_option linter.all false
set_option maxRecDepth 100000
namespace Go.Ax
open Go.Proofs Go.Proofs.YtbjfcadcipfolaaGreat
open Go.ChangeShapes Go.WideShapes Go.ChangeAt Go.RowKit
theorem mW (w:World) (xs:List Value) (a:HP f6.ins.tys) (hwf:∀ n,nD (kO n) f6.ins.tys a) (h:aJ (dc fun b=>b < w.heap.size) w xs ((dZ f6.ins.tys a).map TV.v)):fy Tb.P 6 xs.toArray w fun v w'=>Below w.heap.size w w'∧v = .bool true :=
  mS (fi:=f6) (a:=a) xq al (by kernel_rfl) rfl (by kernel_rfl) (by
    have e:Xc Tb f6 a = some true:=sk a.1 a.2
    rw [e]
    first | exact .inl rfl | exact .inr rfl) w xs h
theorem mr (os:Os) (started:os.Started) (H:Type) (enc:TypeId × Value→H) :
    ReturnsInHanded {} Tryz.checked os 6 .any (Rows.feedResolvesForgeriesSpec.pre6 enc Tryz.prog Tryz.f6 Rows.feedResolvesForgeriesRow.domain false) (Rows.feedResolvesForgeriesSpec.post enc Tryz.prog Tryz.f6 false true false false):=by
  refine returnsInHanded_of_change (C:=Tryz.checked) yg started (by kernel_rfl) Tryz.func6
    (ChangeSpec.witness6 (enc:=enc) (C:=Tryz.checked) false ⟨#[], #[.slice none 0 0, .slice none 0 0],[]⟩ 8 (by kernel_rfl) (by kernel_rfl) (by kernel_rfl) (by kernel_rfl)) ?_
  intro W base args ds gs before hval hW _ _
  exact nm (P:=Tryz.prog) (f:=6) (fn:=Tryz.f6) f6.ins.tys mW ⟨jp Tryz.f6,by kernel_rfl⟩ Tryz.func6 (by kernel_rfl) pi 12 (by kernel_rfl) (by kernel_rfl) (by kernel_rfl) (tb:=4) (by kernel_rfl) Tryz.underlying4
    (fun ds gs h1 h2=>by
      have h1':ds.length = 2:=h1.trans (by kernel_rfl)
      have h2':gs.length = 0:=h2
      match ds,gs,h1',h2' with
      | [d0,d1],[],_,_=>exact ⟨rfl,rfl,rfl⟩) W base args ds gs before hval hW
end Go.Ax
