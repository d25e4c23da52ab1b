import Derived.Test.YtokecajedkojlaaGreatZB10
set_option linter.all false
/- Tables of functions. -/
namespace Go.Ax
open Go.RowKit
def Ma (P:Program) (f:FuncId):List FI→Prop
  | []=>True
  | fi :: r=>(fi.fid = f∧Ia P fi)∧Ma P f r
def dU (P:Program):List (FuncId × List FI)→Prop
  | []=>True
  | (f,l) :: r=>Ma P f l∧dU P r
theorem Ma.mem {P:Program} {f:FuncId}:∀ {l:List FI},Ma P f l→∀ fi∈l,fi.fid = f∧Ia P fi
  | fi :: r,h,g,hg=>by
    rcases List.mem_cons.1 hg with rfl | hg
    · exact h.1
    · exact Ma.mem h.2 g hg
theorem dU.get {P:Program}:∀ {t:List (FuncId × List FI)},dU P t→∀ f l,dB t f = some l→∀ fi∈l,fi.fid = f∧Ia P fi
  | [],_,f,l,h=>by simp [dB] at h
  | (g,l0) :: r,ht,f,l,h=>by
    unfold dB at h
    cases hb:Nat.beq g f with
    | true =>
      rw [hb] at h; cases h
      have:=Nat.eq_of_beq_eq_true hb
      subst this
      exact ht.1.mem
    | false=>rw [hb] at h; exact dU.get ht.2 f l h
theorem dU.app {P:Program}:∀ {s t:List (FuncId × List FI)},dU P s→dU P t→dU P (s++t)
  | [],_,_,h=>h
  | (_,_) :: _,_,h,h'=>⟨h.1,dU.app h.2 h'⟩
def aj (f:Func):Code:=match f.body with | some c=>c | none=>.skip
end Go.Ax
set_option linter.all false
/- Keys of a map, sorted. -/
namespace Go.Ax
open Go.RowKit
def GV (x:Int):List Int→List Int
  | []=>[x]
  | y :: r=>bif aa (x≤y) then x :: y :: r else y :: GV x r
def fZ:List Int→List Int
  | []=>[]
  | x :: r=>GV x (fZ r)
def Se (ks:List Int):Bool:=ks.all fun k=>aa (-9223372036854775808≤k)&&aa (k < 9223372036854775808)
def K4 (g:FuncId) (H:ak) (nid:Nat) (args:List V):Option aA :=
  match args with
  | [m]=>match tB H m with
    | some (o, .map ..)=>some { val:=.fn g [.ptr nid 1 0 0],eff:=[(nid,some (.box [P7 o]))] }
    | _=>none
  | _=>none
def Co (g:FuncId) (e:TypeId) (H:ak) (nid:Nat) (args:List V):Option aA :=
  match args with
  | [.fn f [.ptr b k i j]]=>bif Nat.beq f g&&(Nat.beq k 1&&(Nat.beq i 0&&Nat.beq j 0)) then (match H.get b with
    | some (.box [m])=>(match tB H m with
      | some (_, .map _ (.i .i64) _ ks _)=>some { pre:=[Se ks = true,ks.length≤1000000],val:=.row nid 1,eff:=[(nid,some (.row e (.i .i64) (fZ ks)))] }
      | _=>none)
    | _=>none) else none
  | _=>none
def ti (t g:Nat) (e:TypeId) (ty:Ty) (F:List ty.T→List ty.T) (H:ak) (_:Nat) (args:List V):Option aA :=
  match args with
  | [.fn t_ [.row o k], .fn g_ [.ptr ob kb ib jb]]=>(match ak.get H o,ak.get H ob with
    | some (.row e' ty' l),some (.box [.row o2 k2]) =>
      bif Nat.beq t_ (1000000000+t)&&(Nat.beq g_ g&&(Nat.beq e' e&&(Nat.beq k ty.k&&(Nat.beq kb 1&&(Nat.beq ib 0&&(Nat.beq jb 0&&(Nat.beq o2 o&&Nat.beq k2 ty.k))))))) then
        (match nM ty' ty l with
        | some l=>some { pre:=[l.length≤4611686018427387903],val:=.tup [],eff:=[(o,some (.row e ty (F l)))] }
        | none=>none) else none
    | _,_=>none)
  | _=>none
theorem yf.cnd {b:Bool} {x y:Sp} (h:yf x) (h':yf y):yf (bif b then x else y):=by cases b <;> assumption
theorem yf.m (m:ak→Nat→List V→Option aA):yf (.mut fun _=>m):=fun _ _ _ _ _ _=>.const _
theorem yf.h {fi:FI} (h:HP fi.ins.tys→Option (HP fi.out.tys)):yf (.hand fi fun _=>h):=fun _ _ _ _=>.const _
end Go.Ax
