import Derived.Test.YtnnblpijaoocaaaGreatWB10
set_option linter.all false
/- Tables of functions. -/
namespace Go.Ax
open Go.RowKit
def G8 (P:Program) (f:FuncId):List FI→Prop
 | []=>True
 | fi :: r=>(fi.fid = f∧Dm P fi)∧G8 P f r
def gi (P:Program):List (FuncId × List FI)→Prop
 | []=>True
 | (f,l) :: r=>G8 P f l∧gi P r
theorem G8.mem {P:Program} {f:FuncId}:∀ {l:List FI},G8 P f l→∀ fi∈l,fi.fid = f∧Dm P fi
 | fi :: r,h,g,hg=>by
  rcases List.mem_cons.1 hg with rfl | hg
  ·exact h.1
  ·exact G8.mem h.2 g hg
theorem gi.get {P:Program}:∀ {t:List (FuncId × List FI)},gi P t→∀ f l,cA t f = some l→∀ fi∈l,fi.fid = f∧Dm P fi
 | [],_,f,l,h=>by simp [cA] at h
 | (g,l0) :: r,ht,f,l,h=>by
  unfold cA at h
  cases hb:Nat.beq g f with
  | true =>
   rw [hb] at h;cases h
   have:=Nat.eq_of_beq_eq_true hb
   subst this
   exact ht.1.mem
  | false=>rw [hb] at h;exact gi.get ht.2 f l h
theorem gi.app {P:Program}:∀ {s t:List (FuncId × List FI)},gi P s→gi P t→gi P (s++t)
 | [],_,_,h=>h
 | (_,_) :: _,_,h,h'=>⟨h.1,gi.app h.2 h'⟩
def Si:FuncId→Sp:=fun _=>.none
def aj (f:Func):Code:=match f.body with | some c=>c | none=>.skip
end Go.Ax
