import Derived.Test.YtnnblpijaoocaaaGreatWB11
set_option linter.all false
/- Keys of a map, sorted. -/
namespace Go.Ax
open Go.RowKit
def DZ (x:Int):List Int→List Int
 | []=>[x]
 | y :: r=>bif aa (x≤y) then x :: y :: r else y :: DZ x r
def aT:List Int→List Int
 | []=>[]
 | x :: r=>DZ x (aT r)
def Kb (ks:List Int):Bool:=ks.all fun k=>aa (-9223372036854775808≤k)&&aa (k < 9223372036854775808)
def GK (g:FuncId) (H:ae) (nid:Nat) (args:List V):Option av :=
 match args with
 | [m]=>match lK H m with
  | some (o, .map ..)=>some { val:=.fn g [.ptr nid 1 0 0],eff:=[(nid,some (.box [Dl o]))] }
  | _=>none
 | _=>none
def yZ (g:FuncId) (e:TypeId) (H:ae) (nid:Nat) (args:List V):Option av :=
 match args with
 | [.fn f [.ptr b k i j]]=>bif Nat.beq f g&&(Nat.beq k 1&&(Nat.beq i 0&&Nat.beq j 0)) then (match H.get b with
  | some (.box [m])=>(match lK H m with
   | some (_, .map _ (.i .i64) _ ks _)=>some { pre:=[Kb ks = true,ks.length≤1000000],val:=.row nid 1,eff:=[(nid,some (.row e (.i .i64) (aT ks)))] }
   | _=>none)
  | _=>none) else none
 | _=>none
def bB:List Int→List Int
 | []=>[]
 | [x]=>[x]
 | x :: y :: r=>bif af x y then bB (y :: r) else x :: bB (y :: r)
def GL (H:ae) (_:Nat) (args:List V):Option av :=
 match args with
 | [.row o k]=>match H.get o with
  | some (.row e (.i .i64) l)=>bif Nat.beq k 1 then some { pre:=[l.length≤1000000],val:=.tup [],eff:=[(o,some (.row e (.i .i64) (aT l)))] } else none
  | _=>none
 | _=>none
def uh (H:ae) (nid:Nat) (args:List V):Option av :=
 match args with
 | [.row o k]=>match H.get o with
  | some (.row e (.i .i64) l)=>bif Nat.beq k 1 then some { pre:=[l.length≤1000000],val:=.row o 1,eff:=[(o,some (.row e (.i .i64) (bB l)))],kill:=[o] } else none
  | _=>none
 | _=>none
def pU (t g:Nat) (e:TypeId) (ty:Ty) (F:List ty.T→List ty.T) (H:ae) (_:Nat) (args:List V):Option av :=
 match args with
 | [.fn t_ [.row o k], .fn g_ [.ptr ob kb ib jb]]=>(match ae.get H o,ae.get H ob with
  | some (.row e' ty' l),some (.box [.row o2 k2]) =>
   bif Nat.beq t_ (1000000000+t)&&(Nat.beq g_ g&&(Nat.beq e' e&&(Nat.beq k ty.k&&(Nat.beq kb 1&&(Nat.beq ib 0&&(Nat.beq jb 0&&(Nat.beq o2 o&&Nat.beq k2 ty.k))))))) then
    (match kL ty' ty l with
    | some l=>some { pre:=[l.length≤4611686018427387903],val:=.tup [],eff:=[(o,some (.row e ty (F l)))] }
    | none=>none) else none
  | _,_=>none)
 | _=>none
theorem vh.cnd {b:Bool} {x y:Sp} (h:vh x) (h':vh y):vh (bif b then x else y):=by cases b <;> assumption
theorem vh.m (m:ae→Nat→List V→Option av):vh (.mut fun _=>m):=fun _ _ _ _ _ _=>.const _
theorem vh.h {fi:FI} (h:HP fi.ins.tys→Option (HP fi.out.tys)):vh (.hand fi fun _=>h):=fun _ _ _ _=>.const _
end Go.Ax
