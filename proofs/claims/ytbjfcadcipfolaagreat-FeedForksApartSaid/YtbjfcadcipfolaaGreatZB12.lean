import Derived.Test.YtbjfcadcipfolaaGreatZB11
import Derived.Lib.Bytealg
set_option linter.all false
/- Keys of a map, sorted. -/
namespace Go.Ax
open Go.RowKit
def AY (x:Int):List Int→List Int
 | []=>[x]
 | y :: r=>bif aa (x≤y) then x :: y :: r else y :: AY x r
def gH:List Int→List Int
 | []=>[]
 | x :: r=>AY x (gH r)
def DE (H:ab) (_:Nat) (args:List V):Option aB :=
 match args with
 | [.row o k]=>match H.get o with
  | some (.row e (.i .i64) l)=>bif Nat.beq k 1 then some { pre:=[l.length≤1000000],val:=.tup [],eff:=[(o,some (.row e (.i .i64) (gH l)))] } else none
  | _=>none
 | _=>none
def Ab (H:ab) (nid:Nat) (args:List V):Option aB :=
 match args with
 | [m]=>match kS H m with
  | some (_, .map t kt vt ks vs)=>some { val:=MB nid,eff:=[(nid,some (.map t kt vt ks vs))] }
  | _=>none
 | _=>none
def fm (a b:List Int):Int:=Lib.compareBytes (a.map fun x=>UInt8.ofNat x.toNat) (b.map fun x=>UInt8.ofNat x.toNat)
def vJ (l:List Int):Option (List Int):=gb (aa (l.length≤140737488355328)) (some l)
def oY (t g:Nat) (e:TypeId) (ty:Ty) (F:List ty.T→List ty.T) (H:ab) (_:Nat) (args:List V):Option aB :=
 match args with
 | [.fn t_ [.row o k], .fn g_ [.ptr ob kb ib jb]]=>(match ab.get H o,ab.get H ob with
  | some (.row e' ty' l),some (.box [.row o2 k2]) =>
   bif Nat.beq t_ (1000000000+t)&&(Nat.beq g_ g&&(Nat.beq e' e&&(Nat.beq k ty.k&&(Nat.beq kb 1&&(Nat.beq ib 0&&(Nat.beq jb 0&&(Nat.beq o2 o&&Nat.beq k2 ty.k))))))) then
    (match kL ty' ty l with
    | some l=>some { pre:=[l.length≤4611686018427387903],val:=.tup [],eff:=[(o,some (.row e ty (F l)))] }
    | none=>none) else none
  | _,_=>none)
 | _=>none
theorem tx.cnd {b:Bool} {x y:Sp} (h:tx x) (h':tx y):tx (bif b then x else y):=by cases b <;> assumption
theorem tx.m (m:ab→Nat→List V→Option aB):tx (.mut fun _=>m):=fun _ _ _ _ _ _=>.const _
theorem tx.h {fi:FI} (h:HP fi.ins.tys→Option (HP fi.out.tys)):tx (.hand fi fun _=>h):=fun _ _ _ _=>.const _
end Go.Ax
