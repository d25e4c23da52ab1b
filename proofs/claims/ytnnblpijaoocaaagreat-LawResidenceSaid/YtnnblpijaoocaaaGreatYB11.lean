import Derived.Test.YtnnblpijaoocaaaGreatYB10
set_option linter.all false
/- Tables of functions. -/
namespace Go.Ax
open Go.RowKit
def GU (P:Program) (f:FuncId):List FI→Prop
  | []=>True
  | fi :: r=>(fi.fid = f∧DR P fi)∧GU P f r
def ek (P:Program):List (FuncId × List FI)→Prop
  | []=>True
  | (f,l) :: r=>GU P f l∧ek P r
theorem GU.mem {P:Program} {f:FuncId}:∀ {l:List FI},GU P f l→∀ fi∈l,fi.fid = f∧DR P fi
  | fi :: r,h,g,hg=>by
    rcases List.mem_cons.1 hg with rfl | hg
    · exact h.1
    · exact GU.mem h.2 g hg
theorem ek.get {P:Program}:∀ {t:List (FuncId × List FI)},ek P t→∀ f l,co t f = some l→∀ fi∈l,fi.fid = f∧DR P fi
  | [],_,f,l,h=>by simp [co] at h
  | (g,l0) :: r,ht,f,l,h=>by
    unfold co at h
    cases hb:Nat.beq g f with
    | true =>
      rw [hb] at h; cases h
      have:=Nat.eq_of_beq_eq_true hb
      subst this
      exact ht.1.mem
    | false=>rw [hb] at h; exact ek.get ht.2 f l h
theorem ek.app {P:Program}:∀ {s t:List (FuncId × List FI)},ek P s→ek P t→ek P (s++t)
  | [],_,_,h=>h
  | (_,_) :: _,_,h,h'=>⟨h.1,ek.app h.2 h'⟩
def Rn:FuncId→Sp:=fun _=>.none
def af (f:Func):Code:=match f.body with | some c=>c | none=>.skip
end Go.Ax
