import Derived.Test.YtbjfcadcipfolaaGreatYB10
import Derived.Lib.Bytealg
set_option linter.all false
/- Tables of functions. -/
namespace Go.Ax
open Go.RowKit
def Ie (P:Program) (f:FuncId):List FI→Prop
 | []=>True
 | fi :: r=>(fi.fid = f∧Fe P fi)∧Ie P f r
def gj (P:Program):List (FuncId × List FI)→Prop
 | []=>True
 | (f,l) :: r=>Ie P f l∧gj P r
theorem Ie.mem {P:Program} {f:FuncId}:∀ {l:List FI},Ie P f l→∀ fi∈l,fi.fid = f∧Fe P fi
 | fi :: r,h,g,hg=>by
  rcases List.mem_cons.1 hg with rfl | hg
  ·exact h.1
  ·exact Ie.mem h.2 g hg
theorem gj.get {P:Program}:∀ {t:List (FuncId × List FI)},gj P t→∀ f l,cB t f = some l→∀ fi∈l,fi.fid = f∧Fe P fi
 | [],_,f,l,h=>by simp [cB] at h
 | (g,l0) :: r,ht,f,l,h=>by
  unfold cB at h
  cases hb:Nat.beq g f with
  | true =>
   rw [hb] at h;cases h
   have:=Nat.eq_of_beq_eq_true hb
   subst this
   exact ht.1.mem
  | false=>rw [hb] at h;exact gj.get ht.2 f l h
theorem gj.app {P:Program}:∀ {s t:List (FuncId × List FI)},gj P s→gj P t→gj P (s++t)
 | [],_,_,h=>h
 | (_,_) :: _,_,h,h'=>⟨h.1,gj.app h.2 h'⟩
def ah (f:Func):Code:=match f.body with | some c=>c | none=>.skip
end Go.Ax
set_option linter.all false
/- Keys of a map, sorted. -/
namespace Go.Ax
open Go.RowKit
def EY (x:Int):List Int→List Int
 | []=>[x]
 | y :: r=>bif aa (x≤y) then x :: y :: r else y :: EY x r
def jf:List Int→List Int
 | []=>[]
 | x :: r=>EY x (jf r)
def G6 (H:ae) (_:Nat) (args:List V):Option aH :=
 match args with
 | [.row o k]=>match H.get o with
  | some (.row e (.i .i64) l)=>bif Nat.beq k 1 then some { pre:=[l.length≤1000000],val:=.tup [],eff:=[(o,some (.row e (.i .i64) (jf l)))] } else none
  | _=>none
 | _=>none
def dm (a b:List Int):Int:=Lib.compareBytes (a.map fun x=>UInt8.ofNat x.toNat) (b.map fun x=>UInt8.ofNat x.toNat)
def zC (l:List Int):Option (List Int):=gb (aa (l.length≤140737488355328)) (some l)
def qZ (t g:Nat) (e:TypeId) (ty:Ty) (F:List ty.T→List ty.T) (H:ae) (_:Nat) (args:List V):Option aH :=
 match args with
 | [.fn t_ [.row o k], .fn g_ [.ptr ob kb ib jb]]=>(match ae.get H o,ae.get H ob with
  | some (.row e' ty' l),some (.box [.row o2 k2]) =>
   bif Nat.beq t_ (1000000000+t)&&(Nat.beq g_ g&&(Nat.beq e' e&&(Nat.beq k ty.k&&(Nat.beq kb 1&&(Nat.beq ib 0&&(Nat.beq jb 0&&(Nat.beq o2 o&&Nat.beq k2 ty.k))))))) then
    (match lu ty' ty l with
    | some l=>some { pre:=[l.length≤4611686018427387903],val:=.tup [],eff:=[(o,some (.row e ty (F l)))] }
    | none=>none) else none
  | _,_=>none)
 | _=>none
theorem xI.cnd {b:Bool} {x y:Sp} (h:xI x) (h':xI y):xI (bif b then x else y):=by cases b <;> assumption
theorem xI.m (m:ae→Nat→List V→Option aH):xI (.mut fun _=>m):=fun _ _ _ _ _ _=>.const _
theorem xI.h {fi:FI} (h:HP fi.ins.tys→Option (HP fi.out.tys)):xI (.hand fi fun _=>h):=fun _ _ _ _=>.const _
end Go.Ax
