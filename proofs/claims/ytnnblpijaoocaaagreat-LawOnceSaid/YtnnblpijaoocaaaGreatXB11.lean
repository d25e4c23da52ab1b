import Derived.Test.YtnnblpijaoocaaaGreatXB10
set_option linter.all false
/- Tables of functions. -/
namespace Go.Ax
open Go.RowKit
def ML (P:Program) (f:FuncId):List FI→Prop
 | []=>True
 | fi :: r=>(fi.fid = f∧Hk P fi)∧ML P f r
def fx (P:Program):List (FuncId × List FI)→Prop
 | []=>True
 | (f,l) :: r=>ML P f l∧fx P r
theorem ML.mem {P:Program} {f:FuncId}:∀ {l:List FI},ML P f l→∀ fi∈l,fi.fid = f∧Hk P fi
 | fi :: r,h,g,hg=>by
  rcases List.mem_cons.1 hg with rfl | hg
  ·exact h.1
  ·exact ML.mem h.2 g hg
theorem fx.get {P:Program}:∀ {t:List (FuncId × List FI)},fx P t→∀ f l,cX t f = some l→∀ fi∈l,fi.fid = f∧Hk P fi
 | [],_,f,l,h=>by simp [cX] at h
 | (g,l0) :: r,ht,f,l,h=>by
  unfold cX at h
  cases hb:Nat.beq g f with
  | true =>
   rw [hb] at h;cases h
   have:=Nat.eq_of_beq_eq_true hb
   subst this
   exact ht.1.mem
  | false=>rw [hb] at h;exact fx.get ht.2 f l h
theorem fx.app {P:Program}:∀ {s t:List (FuncId × List FI)},fx P s→fx P t→fx P (s++t)
 | [],_,_,h=>h
 | (_,_) :: _,_,h,h'=>⟨h.1,fx.app h.2 h'⟩
def VR:FuncId→Sp:=fun _=>.none
def ai (f:Func):Code:=match f.body with | some c=>c | none=>.skip
end Go.Ax
