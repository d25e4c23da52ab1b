import Derived.Test.YtokecajedkojlaaGreatYB10
set_option linter.all false
/- Tables of functions. -/
namespace Go.Ax
open Go.RowKit
def GG (P:Program) (f:FuncId):List FI→Prop
  | []=>True
  | fi :: r=>(fi.fid = f∧BS P fi)∧GG P f r
def dL (P:Program):List (FuncId × List FI)→Prop
  | []=>True
  | (f,l) :: r=>GG P f l∧dL P r
theorem GG.mem {P:Program} {f:FuncId}:∀ {l:List FI},GG P f l→∀ fi∈l,fi.fid = f∧BS P fi
  | fi :: r,h,g,hg=>by
    rcases List.mem_cons.1 hg with rfl | hg
    · exact h.1
    · exact GG.mem h.2 g hg
theorem dL.get {P:Program}:∀ {t:List (FuncId × List FI)},dL P t→∀ f l,cN t f = some l→∀ fi∈l,fi.fid = f∧BS P fi
  | [],_,f,l,h=>by simp [cN] at h
  | (g,l0) :: r,ht,f,l,h=>by
    unfold cN at h
    cases hb:Nat.beq g f with
    | true =>
      rw [hb] at h; cases h
      have:=Nat.eq_of_beq_eq_true hb
      subst this
      exact ht.1.mem
    | false=>rw [hb] at h; exact dL.get ht.2 f l h
theorem dL.app {P:Program}:∀ {s t:List (FuncId × List FI)},dL P s→dL P t→dL P (s++t)
  | [],_,_,h=>h
  | (_,_) :: _,_,h,h'=>⟨h.1,dL.app h.2 h'⟩
def ai (f:Func):Code:=match f.body with | some c=>c | none=>.skip
end Go.Ax
