import Derived.Test.YtbjfcadcipfolaaGreatYP71
import Derived.Test.YtbjfcadcipfolaaGreatYT
import Derived.Test.YtbjfcadcipfolaaGreatYQ1
/- The law FeedIgnoresOrder, for every input. -/
set_option linter.all false
set_option maxRecDepth 100000
namespace Go.Ax
open Go.Proofs Go.Proofs.YtbjfcadcipfolaaGreat
open Go.ChangeShapes Go.WideShapes Go.ChangeAt Go.RowKit
theorem qj (w:World) (xs:List Value) (a:HP f12.ins.tys) (hwf:∀ n,tY (ta n) f12.ins.tys a) (h:aL (dR fun b=>b < w.heap.size) w xs ((gc f12.ins.tys a).map TV.v)):i7 Tb.P 12 xs.toArray w fun v w'=>Below w.heap.size w w'∧v = .bool true :=
  IV (fi:=f12) (a:=a) Px al (by kernel_rfl) rfl (by kernel_rfl) (by
    have e:Xc Tb f12 a = some true:=w9 a.1 a.2.1 a.2.2
    rw [e]
    first | exact .inl rfl | exact .inr rfl) w xs h
theorem oI (os:Os) (started:os.Started) (H:Type) (enc:TypeId × Value→H) :
    ReturnsInHanded {} Tryz.checked os 12 .any (Rows.feedIgnoresOrderSpec.pre6 enc Tryz.prog Tryz.f12 Rows.feedIgnoresOrderRow.domain false) (Rows.feedIgnoresOrderSpec.post enc Tryz.prog Tryz.f12 false true false false):=by
  refine returnsInHanded_of_change (C:=Tryz.checked) PL started (by kernel_rfl) Tryz.func12
    (ChangeSpec.witness6 (enc:=enc) (C:=Tryz.checked) false ⟨#[], #[.slice none 0 0, .slice none 0 0, .slice none 0 0],[]⟩ 8 (by kernel_rfl) (by kernel_rfl) (by kernel_rfl) (by kernel_rfl)) ?_
  intro W base args ds gs before hval hW _ _
  exact Ft (P:=Tryz.prog) (f:=12) (fn:=Tryz.f12) f12.ins.tys qj ⟨qB Tryz.f12,by kernel_rfl⟩ Tryz.func12 (by kernel_rfl) LJ 12 (by kernel_rfl) (by kernel_rfl) (by kernel_rfl) (tb:=4) (by kernel_rfl) Tryz.underlying4
    (fun ds gs h1 h2=>by
      have h1':ds.length = 3:=h1.trans (by kernel_rfl)
      have h2':gs.length = 0:=h2
      match ds,gs,h1',h2' with
      | [d0,d1,d2],[],_,_=>exact ⟨rfl,rfl,rfl⟩) W base args ds gs before hval hW
end Go.Ax
