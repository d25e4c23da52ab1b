import Derived.Test.YtbjfcadcipfolaaGreatZB10
set_option linter.all false
/- Tables of functions. -/
namespace Go.Ax
open Go.RowKit
def FK (P:Program) (f:FuncId):List FI→Prop
 | []=>True
 | fi :: r=>(fi.fid = f∧BJ P fi)∧FK P f r
def gp (P:Program):List (FuncId × List FI)→Prop
 | []=>True
 | (f,l) :: r=>FK P f l∧gp P r
theorem FK.mem {P:Program} {f:FuncId}:∀ {l:List FI},FK P f l→∀ fi∈l,fi.fid = f∧BJ P fi
 | fi :: r,h,g,hg=>by
  rcases List.mem_cons.1 hg with rfl | hg
  ·exact h.1
  ·exact FK.mem h.2 g hg
theorem gp.get {P:Program}:∀ {t:List (FuncId × List FI)},gp P t→∀ f l,bK t f = some l→∀ fi∈l,fi.fid = f∧BJ P fi
 | [],_,f,l,h=>by simp [bK] at h
 | (g,l0) :: r,ht,f,l,h=>by
  unfold bK at h
  cases hb:Nat.beq g f with
  | true =>
   rw [hb] at h;cases h
   have:=Nat.eq_of_beq_eq_true hb
   subst this
   exact ht.1.mem
  | false=>rw [hb] at h;exact gp.get ht.2 f l h
theorem gp.app {P:Program}:∀ {s t:List (FuncId × List FI)},gp P s→gp P t→gp P (s++t)
 | [],_,_,h=>h
 | (_,_) :: _,_,h,h'=>⟨h.1,gp.app h.2 h'⟩
def ai (f:Func):Code:=match f.body with | some c=>c | none=>.skip
end Go.Ax
