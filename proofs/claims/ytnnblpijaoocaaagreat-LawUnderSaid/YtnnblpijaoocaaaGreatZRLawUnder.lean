import Derived.Test.YtnnblpijaoocaaaGreatZP30
import Derived.Test.YtnnblpijaoocaaaGreatZT
import Derived.Test.YtnnblpijaoocaaaGreatZQ1
/- The law LawUnder, for every input. -/
set_option linter.all false
set_option maxRecDepth 100000
namespace Go.Ax
open Go.Proofs Go.Proofs.YtnnblpijaoocaaaGreat
open Go.ChangeShapes Go.WideShapes Go.ChangeAt Go.RowKit
theorem uQ (w:World) (xs:List Value) (a:HP f7.ins.tys) (hwf:∀ n,rS (qy n) f7.ins.tys a) (h:aC (eI fun b=>b < w.heap.size) w xs ((fq f7.ins.tys a).map TV.v)):kf Tb.P 7 xs.toArray w fun v w'=>Below w.heap.size w w'∧v = .bool true :=
  Md (fi:=f7) (a:=a) N7 aj (by kernel_rfl) rfl (by kernel_rfl) (by
    have e:Xc Tb f7 a = some true:=Fp a.1 a.2.1 a.2.2.1 a.2.2.2.1 a.2.2.2.2.1 a.2.2.2.2.2
    rw [e]
    first | exact .inl rfl | exact .inr rfl) w xs h
theorem rV (os:Os) (started:os.Started) (H:Type) (enc:TypeId × Value→H) :
    ReturnsInHanded {} Tryz.checked os 7 .any (Rows.lawUnderSpec.pre6 enc Tryz.prog Tryz.f7 Rows.lawUnderRow.domain false) (Rows.lawUnderSpec.post enc Tryz.prog Tryz.f7 false true false false):=by
  refine returnsInHanded_of_change (C:=Tryz.checked) N9 started (by kernel_rfl) Tryz.func7
    (ChangeSpec.witness6 (enc:=enc) (C:=Tryz.checked) false ⟨#[], #[.slice none 0 0, .slice none 0 0, .bool false, .slice none 0 0, .int .i64 0, .int .i64 0],[]⟩ 8 (by kernel_rfl) (by kernel_rfl) (by kernel_rfl) (by kernel_rfl)) ?_
  intro W base args ds gs before hval hW _ _
  exact Ku (P:=Tryz.prog) (f:=7) (fn:=Tryz.f7) f7.ins.tys uQ ⟨jw Tryz.f7,by kernel_rfl⟩ Tryz.func7 (by kernel_rfl) Nk 12 (by kernel_rfl) (by kernel_rfl) (by kernel_rfl) (tb:=4) (by kernel_rfl) Tryz.underlying4
    (fun ds gs h1 h2=>by
      have h1':ds.length = 6:=h1.trans (by kernel_rfl)
      have h2':gs.length = 0:=h2
      match ds,gs,h1',h2' with
      | [d0,d1,d2,d3,d4,d5],[],_,_=>exact ⟨rfl,rfl,rfl⟩) W base args ds gs before hval hW
end Go.Ax
