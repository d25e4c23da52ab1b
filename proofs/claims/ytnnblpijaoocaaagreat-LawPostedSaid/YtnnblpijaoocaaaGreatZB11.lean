import Derived.Test.YtnnblpijaoocaaaGreatZB10
set_option linter.all false
/- Tables of functions. -/
namespace Go.Ax
open Go.RowKit
def KZ (P:Program) (f:FuncId):List FI→Prop
  | []=>True
  | fi :: r=>(fi.fid = f∧F4 P fi)∧KZ P f r
def fa (P:Program):List (FuncId × List FI)→Prop
  | []=>True
  | (f,l) :: r=>KZ P f l∧fa P r
theorem KZ.mem {P:Program} {f:FuncId}:∀ {l:List FI},KZ P f l→∀ fi∈l,fi.fid = f∧F4 P fi
  | fi :: r,h,g,hg=>by
    rcases List.mem_cons.1 hg with rfl | hg
    · exact h.1
    · exact KZ.mem h.2 g hg
theorem fa.get {P:Program}:∀ {t:List (FuncId × List FI)},fa P t→∀ f l,cR t f = some l→∀ fi∈l,fi.fid = f∧F4 P fi
  | [],_,f,l,h=>by simp [cR] at h
  | (g,l0) :: r,ht,f,l,h=>by
    unfold cR at h
    cases hb:Nat.beq g f with
    | true =>
      rw [hb] at h;cases h
      have:=Nat.eq_of_beq_eq_true hb
      subst this
      exact ht.1.mem
    | false=>rw [hb] at h;exact fa.get ht.2 f l h
theorem fa.app {P:Program}:∀ {s t:List (FuncId × List FI)},fa P s→fa P t→fa P (s++t)
  | [],_,_,h=>h
  | (_,_) :: _,_,h,h'=>⟨h.1,fa.app h.2 h'⟩
def Up:FuncId→Sp:=fun _=>.none
def ai (f:Func):Code:=match f.body with | some c=>c | none=>.skip
end Go.Ax
