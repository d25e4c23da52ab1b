import Derived.Test.YtokecajedkojlaaGreatZB10
set_option linter.all false
/- Tables of functions. -/
namespace Go.Ax
open Go.RowKit
def MG (P:Program) (f:FuncId):List FI→Prop
  | []=>True
  | fi :: r=>(fi.fid = f∧Jq P fi)∧MG P f r
def dX (P:Program):List (FuncId × List FI)→Prop
  | []=>True
  | (f,l) :: r=>MG P f l∧dX P r
theorem MG.mem {P:Program} {f:FuncId}:∀ {l:List FI},MG P f l→∀ fi∈l,fi.fid = f∧Jq P fi
  | fi :: r,h,g,hg=>by
    rcases List.mem_cons.1 hg with rfl | hg
    · exact h.1
    · exact MG.mem h.2 g hg
theorem dX.get {P:Program}:∀ {t:List (FuncId × List FI)},dX P t→∀ f l,dB t f = some l→∀ fi∈l,fi.fid = f∧Jq P fi
  | [],_,f,l,h=>by simp [dB] at h
  | (g,l0) :: r,ht,f,l,h=>by
    unfold dB at h
    cases hb:Nat.beq g f with
    | true =>
      rw [hb] at h; cases h
      have:=Nat.eq_of_beq_eq_true hb
      subst this
      exact ht.1.mem
    | false=>rw [hb] at h; exact dX.get ht.2 f l h
theorem dX.app {P:Program}:∀ {s t:List (FuncId × List FI)},dX P s→dX P t→dX P (s++t)
  | [],_,_,h=>h
  | (_,_) :: _,_,h,h'=>⟨h.1,dX.app h.2 h'⟩
def aj (f:Func):Code:=match f.body with | some c=>c | none=>.skip
end Go.Ax
set_option linter.all false
/- Keys of a map, sorted. -/
namespace Go.Ax
open Go.RowKit
def Hj (x:Int):List Int→List Int
  | []=>[x]
  | y :: r=>bif aa (x≤y) then x :: y :: r else y :: Hj x r
def gj:List Int→List Int
  | []=>[]
  | x :: r=>Hj x (gj r)
def SP (ks:List Int):Bool:=ks.all fun k=>aa (-9223372036854775808≤k)&&aa (k < 9223372036854775808)
def Ly (g:FuncId) (H:ak) (nid:Nat) (args:List V):Option aA :=
  match args with
  | [m]=>match tA H m with
    | some (o, .map ..)=>some { val:=.fn g [.ptr nid 1 0 0],eff:=[(nid,some (.box [RB o]))] }
    | _=>none
  | _=>none
def CF (g:FuncId) (e:TypeId) (H:ak) (nid:Nat) (args:List V):Option aA :=
  match args with
  | [.fn f [.ptr b k i j]]=>bif Nat.beq f g&&(Nat.beq k 1&&(Nat.beq i 0&&Nat.beq j 0)) then (match H.get b with
    | some (.box [m])=>(match tA H m with
      | some (_, .map _ (.i .i64) _ ks _)=>some { pre:=[SP ks = true,ks.length≤1000000],val:=.row nid 1,eff:=[(nid,some (.row e (.i .i64) (gj ks)))] }
      | _=>none)
    | _=>none) else none
  | _=>none
def ua (t g:Nat) (e:TypeId) (ty:Ty) (F:List ty.T→List ty.T) (H:ak) (_:Nat) (args:List V):Option aA :=
  match args with
  | [.fn t_ [.row o k], .fn g_ [.ptr ob kb ib jb]]=>(match ak.get H o,ak.get H ob with
    | some (.row e' ty' l),some (.box [.row o2 k2]) =>
      bif Nat.beq t_ (1000000000+t)&&(Nat.beq g_ g&&(Nat.beq e' e&&(Nat.beq k ty.k&&(Nat.beq kb 1&&(Nat.beq ib 0&&(Nat.beq jb 0&&(Nat.beq o2 o&&Nat.beq k2 ty.k))))))) then
        (match nO ty' ty l with
        | some l=>some { pre:=[l.length≤4611686018427387903],val:=.tup [],eff:=[(o,some (.row e ty (F l)))] }
        | none=>none) else none
    | _,_=>none)
  | _=>none
theorem yB.cnd {b:Bool} {x y:Sp} (h:yB x) (h':yB y):yB (bif b then x else y):=by cases b <;> assumption
theorem yB.m (m:ak→Nat→List V→Option aA):yB (.mut fun _=>m):=fun _ _ _ _ _ _=>.const _
theorem yB.h {fi:FI} (h:HP fi.ins.tys→Option (HP fi.out.tys)):yB (.hand fi fun _=>h):=fun _ _ _ _=>.const _
end Go.Ax
