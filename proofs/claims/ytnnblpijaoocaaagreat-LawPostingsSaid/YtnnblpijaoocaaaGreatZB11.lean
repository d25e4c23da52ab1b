import Derived.Test.YtnnblpijaoocaaaGreatZB10
set_option linter.all false
/- Tables of functions. -/
namespace Go.Ax
open Go.RowKit
def Bf (P:Program) (f:FuncId):List FI→Prop
  | []=>True
  | fi :: r=>(fi.fid = f∧xS P fi)∧Bf P f r
def dw (P:Program):List (FuncId × List FI)→Prop
  | []=>True
  | (f,l) :: r=>Bf P f l∧dw P r
theorem Bf.mem {P:Program} {f:FuncId}:∀ {l:List FI},Bf P f l→∀ fi∈l,fi.fid = f∧xS P fi
  | fi :: r,h,g,hg=>by
    rcases List.mem_cons.1 hg with rfl | hg
    · exact h.1
    · exact Bf.mem h.2 g hg
theorem dw.get {P:Program}:∀ {t:List (FuncId × List FI)},dw P t→∀ f l,bI t f = some l→∀ fi∈l,fi.fid = f∧xS P fi
  | [],_,f,l,h=>by simp [bI] at h
  | (g,l0) :: r,ht,f,l,h=>by
    unfold bI at h
    cases hb:Nat.beq g f with
    | true =>
      rw [hb] at h; cases h
      have:=Nat.eq_of_beq_eq_true hb
      subst this
      exact ht.1.mem
    | false=>rw [hb] at h; exact dw.get ht.2 f l h
theorem dw.app {P:Program}:∀ {s t:List (FuncId × List FI)},dw P s→dw P t→dw P (s++t)
  | [],_,_,h=>h
  | (_,_) :: _,_,h,h'=>⟨h.1,dw.app h.2 h'⟩
def Lj:FuncId→Sp:=fun _=>.none
def ac (f:Func):Code:=match f.body with | some c=>c | none=>.skip
end Go.Ax
