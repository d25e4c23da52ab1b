import Derived.Test.YtbjfcadcipfolaaGreatYP71
import Derived.Test.YtbjfcadcipfolaaGreatYT
import Derived.Test.YtbjfcadcipfolaaGreatYQ1
/- The law FeedFactsAgree, for every input. -/
set_option linter.all false
set_option maxRecDepth 100000
namespace Go.Ax
open Go.Proofs Go.Proofs.YtbjfcadcipfolaaGreat
open Go.ChangeShapes Go.WideShapes Go.ChangeAt Go.RowKit
theorem rA (w:World) (xs:List Value) (a:HP f10.ins.tys) (hwf:∀ n,tY (ta n) f10.ins.tys a) (h:aL (dR fun b=>b < w.heap.size) w xs ((gc f10.ins.tys a).map TV.v)):i7 Tb.P 10 xs.toArray w fun v w'=>Below w.heap.size w w'∧v = .bool true :=
  IV (fi:=f10) (a:=a) Px al (by kernel_rfl) rfl (by kernel_rfl) (by
    have e:Xc Tb f10 a = some true:=zz a.1 a.2
    rw [e]
    first | exact .inl rfl | exact .inr rfl) w xs h
theorem qb (os:Os) (started:os.Started) (H:Type) (enc:TypeId × Value→H) :
    ReturnsInHanded {} Tryz.checked os 10 .any (Rows.feedFactsAgreeSpec.pre6 enc Tryz.prog Tryz.f10 Rows.feedFactsAgreeRow.domain false) (Rows.feedFactsAgreeSpec.post enc Tryz.prog Tryz.f10 false true false false):=by
  refine returnsInHanded_of_change (C:=Tryz.checked) PL started (by kernel_rfl) Tryz.func10
    (ChangeSpec.witness6 (enc:=enc) (C:=Tryz.checked) false ⟨#[], #[.slice none 0 0, .slice none 0 0],[]⟩ 8 (by kernel_rfl) (by kernel_rfl) (by kernel_rfl) (by kernel_rfl)) ?_
  intro W base args ds gs before hval hW _ _
  exact Ft (P:=Tryz.prog) (f:=10) (fn:=Tryz.f10) f10.ins.tys rA ⟨qB Tryz.f10,by kernel_rfl⟩ Tryz.func10 (by kernel_rfl) LJ 12 (by kernel_rfl) (by kernel_rfl) (by kernel_rfl) (tb:=4) (by kernel_rfl) Tryz.underlying4
    (fun ds gs h1 h2=>by
      have h1':ds.length = 2:=h1.trans (by kernel_rfl)
      have h2':gs.length = 0:=h2
      match ds,gs,h1',h2' with
      | [d0,d1],[],_,_=>exact ⟨rfl,rfl,rfl⟩) W base args ds gs before hval hW
end Go.Ax
