import Derived.Test.YtokecajedkojlaaGreatZB10
set_option linter.all false
/- Tables of functions. -/
namespace Go.Ax
open Go.RowKit
def IY (P:Program) (f:FuncId):List FI→Prop
  | []=>True
  | fi :: r=>(fi.fid = f∧CZ P fi)∧IY P f r
def dV (P:Program):List (FuncId × List FI)→Prop
  | []=>True
  | (f,l) :: r=>IY P f l∧dV P r
theorem IY.mem {P:Program} {f:FuncId}:∀ {l:List FI},IY P f l→∀ fi∈l,fi.fid = f∧CZ P fi
  | fi :: r,h,g,hg=>by
    rcases List.mem_cons.1 hg with rfl | hg
    · exact h.1
    · exact IY.mem h.2 g hg
theorem dV.get {P:Program}:∀ {t:List (FuncId × List FI)},dV P t→∀ f l,cR t f = some l→∀ fi∈l,fi.fid = f∧CZ P fi
  | [],_,f,l,h=>by simp [cR] at h
  | (g,l0) :: r,ht,f,l,h=>by
    unfold cR at h
    cases hb:Nat.beq g f with
    | true =>
      rw [hb] at h; cases h
      have:=Nat.eq_of_beq_eq_true hb
      subst this
      exact ht.1.mem
    | false=>rw [hb] at h; exact dV.get ht.2 f l h
theorem dV.app {P:Program}:∀ {s t:List (FuncId × List FI)},dV P s→dV P t→dV P (s++t)
  | [],_,_,h=>h
  | (_,_) :: _,_,h,h'=>⟨h.1,dV.app h.2 h'⟩
def aj (f:Func):Code:=match f.body with | some c=>c | none=>.skip
end Go.Ax
