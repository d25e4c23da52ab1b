import Derived.Test.YtbjfcadcipfolaaGreatZP68
import Derived.Test.YtbjfcadcipfolaaGreatZB22
import Derived.Test.YtbjfcadcipfolaaGreatZT
import Derived.Test.YtbjfcadcipfolaaGreatZQ1
/- The law FeedAddRejects, for every input. -/
set_option linter.all false
set_option maxRecDepth 100000
namespace Go.Ax
open Go.Proofs Go.Proofs.YtbjfcadcipfolaaGreat
open Go.ChangeShapes Go.WideShapes Go.ChangeAt Go.RowKit
theorem sG (w:World) (xs:List Value) (a:HP f9.ins.tys) (hwf:∀ n,nD (kO n) f9.ins.tys a) (hz:∀ (j:Nat) (t e:TypeId) (τ:Ty) (l:List τ.T),Tryz.f9.params.toList[j]? = some t→Tryz.prog.underlying t = some (.slice e)→((dZ f9.ins.tys a).map TV.v)[j]? = some (.c (.sl τ l))→l.length*Tryz.prog.bytesOf e≤reachBytes) (h:aJ (dc fun b=>b < w.heap.size) w xs ((dZ f9.ins.tys a).map TV.v)):fy Tb.P 9 xs.toArray w fun v w'=>Below w.heap.size w w'∧v = .bool true :=
  mS (fi:=f9) (a:=a) xq al (by kernel_rfl) rfl (by kernel_rfl) (by
    have e:Xc Tb f9 a = some true:=Ae a.1 a.2.1 a.2.2.1 a.2.2.2 (fun n=>(hwf n).2.1) (by have:=hz 1 32 5 _ a.2.1 (by kernel_rfl) (by kernel_rfl) rfl;rw [show Tryz.prog.bytesOf 5 = 1 from by kernel_rfl] at this;unfold reachBytes at this;omega)
    rw [e]
    first | exact .inl rfl | exact .inr rfl) w xs h
theorem qM (os:Os) (started:os.Started) (H:Type) (enc:TypeId × Value→H) :
    ReturnsInHanded {} Tryz.checked os 9 .any (Rows.feedAddRejectsSpec.pre6 enc Tryz.prog Tryz.f9 Rows.feedAddRejectsRow.domain false) (Rows.feedAddRejectsSpec.post enc Tryz.prog Tryz.f9 false true false false):=by
  refine returnsInHanded_of_change_sized (C:=Tryz.checked) yg started (by kernel_rfl) Tryz.func9
    (ChangeSpec.witness6 (enc:=enc) (C:=Tryz.checked) false ⟨#[], #[.slice none 0 0, .slice none 0 0, .int .i64 0, .int .i64 0],[]⟩ 8 (by kernel_rfl) (by kernel_rfl) (by kernel_rfl) (by kernel_rfl)) ?_
  intro W base args ds gs before hval hW _ hsz _
  exact Dh (P:=Tryz.prog) (f:=9) (fn:=Tryz.f9) f9.ins.tys sG ⟨jp Tryz.f9,by kernel_rfl⟩ Tryz.func9 (by kernel_rfl) pi 12 (by kernel_rfl) (by kernel_rfl) (by kernel_rfl) (tb:=4) (by kernel_rfl) Tryz.underlying4
    (fun ds gs h1 h2=>by
      have h1':ds.length = 4:=h1.trans (by kernel_rfl)
      have h2':gs.length = 0:=h2
      match ds,gs,h1',h2' with
      | [d0,d1,d2,d3],[],_,_=>exact ⟨rfl,rfl,rfl⟩) W base args ds gs before hval hW hsz
end Go.Ax
