import Derived.Test.YtnnblpijaoocaaaGreatZB10
set_option linter.all false
/- Tables of functions. -/
namespace Go.Ax
open Go.RowKit
def Gu (P:Program) (f:FuncId):List FI→Prop
  | []=>True
  | fi :: r=>(fi.fid = f∧BF P fi)∧Gu P f r
def dG (P:Program):List (FuncId × List FI)→Prop
  | []=>True
  | (f,l) :: r=>Gu P f l∧dG P r
theorem Gu.mem {P:Program} {f:FuncId}:∀ {l:List FI},Gu P f l→∀ fi∈l,fi.fid = f∧BF P fi
  | fi :: r,h,g,hg=>by
    rcases List.mem_cons.1 hg with rfl | hg
    · exact h.1
    · exact Gu.mem h.2 g hg
theorem dG.get {P:Program}:∀ {t:List (FuncId × List FI)},dG P t→∀ f l,cB t f = some l→∀ fi∈l,fi.fid = f∧BF P fi
  | [],_,f,l,h=>by simp [cB] at h
  | (g,l0) :: r,ht,f,l,h=>by
    unfold cB at h
    cases hb:Nat.beq g f with
    | true =>
      rw [hb] at h; cases h
      have:=Nat.eq_of_beq_eq_true hb
      subst this
      exact ht.1.mem
    | false=>rw [hb] at h; exact dG.get ht.2 f l h
theorem dG.app {P:Program}:∀ {s t:List (FuncId × List FI)},dG P s→dG P t→dG P (s++t)
  | [],_,_,h=>h
  | (_,_) :: _,_,h,h'=>⟨h.1,dG.app h.2 h'⟩
def ah (f:Func):Code:=match f.body with | some c=>c | none=>.skip
end Go.Ax
