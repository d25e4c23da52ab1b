import Derived.Test.YtnnblpijaoocaaaGreatZB11
set_option linter.all false
/- Keys of a map, sorted. -/
namespace Go.Ax
open Go.RowKit
def Gn (x:Int):List Int→List Int
  | []=>[x]
  | y :: r=>bif aa (x≤y) then x :: y :: r else y :: Gn x r
def br:List Int→List Int
  | []=>[]
  | x :: r=>Gn x (br r)
def MI (ks:List Int):Bool:=ks.all fun k=>aa (-9223372036854775808≤k)&&aa (k < 9223372036854775808)
def IA (g:FuncId) (H:af) (nid:Nat) (args:List V):Option ay :=
  match args with
  | [m]=>match mo H m with
    | some (o, .map ..)=>some { val:=.fn g [.ptr nid 1 0 0],eff:=[(nid,some (.box [Fo o]))] }
    | _=>none
  | _=>none
def Au (g:FuncId) (e:TypeId) (H:af) (nid:Nat) (args:List V):Option ay :=
  match args with
  | [.fn f [.ptr b k i j]]=>bif Nat.beq f g&&(Nat.beq k 1&&(Nat.beq i 0&&Nat.beq j 0)) then (match H.get b with
    | some (.box [m])=>(match mo H m with
      | some (_, .map _ (.i .i64) _ ks _)=>some { pre:=[MI ks = true,ks.length≤1000000],val:=.row nid 1,eff:=[(nid,some (.row e (.i .i64) (br ks)))] }
      | _=>none)
    | _=>none) else none
  | _=>none
def cb:List Int→List Int
  | []=>[]
  | [x]=>[x]
  | x :: y :: r=>bif ae x y then cb (y :: r) else x :: cb (y :: r)
def IG (H:af) (_:Nat) (args:List V):Option ay :=
  match args with
  | [.row o k]=>match H.get o with
    | some (.row e (.i .i64) l)=>bif Nat.beq k 1 then some { pre:=[l.length≤1000000],val:=.tup [],eff:=[(o,some (.row e (.i .i64) (br l)))] } else none
    | _=>none
  | _=>none
def vE (H:af) (nid:Nat) (args:List V):Option ay :=
  match args with
  | [.row o k]=>match H.get o with
    | some (.row e (.i .i64) l)=>bif Nat.beq k 1 then some { pre:=[l.length≤1000000],val:=.row o 1,eff:=[(o,some (.row e (.i .i64) (cb l)))],kill:=[o] } else none
    | _=>none
  | _=>none
def qZ (t g:Nat) (e:TypeId) (ty:Ty) (F:List ty.T→List ty.T) (H:af) (_:Nat) (args:List V):Option ay :=
  match args with
  | [.fn t_ [.row o k], .fn g_ [.ptr ob kb ib jb]]=>(match af.get H o,af.get H ob with
    | some (.row e' ty' l),some (.box [.row o2 k2]) =>
      bif Nat.beq t_ (1000000000+t)&&(Nat.beq g_ g&&(Nat.beq e' e&&(Nat.beq k ty.k&&(Nat.beq kb 1&&(Nat.beq ib 0&&(Nat.beq jb 0&&(Nat.beq o2 o&&Nat.beq k2 ty.k))))))) then
        (match lu ty' ty l with
        | some l=>some { pre:=[l.length≤4611686018427387903],val:=.tup [],eff:=[(o,some (.row e ty (F l)))] }
        | none=>none) else none
    | _,_=>none)
  | _=>none
theorem wm.cnd {b:Bool} {x y:Sp} (h:wm x) (h':wm y):wm (bif b then x else y):=by cases b <;> assumption
theorem wm.m (m:af→Nat→List V→Option ay):wm (.mut fun _=>m):=fun _ _ _ _ _ _=>.const _
theorem wm.h {fi:FI} (h:HP fi.ins.tys→Option (HP fi.out.tys)):wm (.hand fi fun _=>h):=fun _ _ _ _=>.const _
end Go.Ax
