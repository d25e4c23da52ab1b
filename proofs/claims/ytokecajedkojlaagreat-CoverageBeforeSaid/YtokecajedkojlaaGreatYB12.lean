import Derived.Test.YtokecajedkojlaaGreatYB11
set_option linter.all false
/- Keys of a map, sorted. -/
namespace Go.Ax
open Go.RowKit
def pt (t g:Nat) (e:TypeId) (ty:Ty) (F:List ty.T→List ty.T) (H:af) (_:Nat) (args:List V):Option aA :=
  match args with
  | [.fn t_ [.row o k], .fn g_ [.ptr ob kb ib jb]]=>(match af.get H o,af.get H ob with
    | some (.row e' ty' l),some (.box [.row o2 k2]) =>
      bif Nat.beq t_ (1000000000+t)&&(Nat.beq g_ g&&(Nat.beq e' e&&(Nat.beq k ty.k&&(Nat.beq kb 1&&(Nat.beq ib 0&&(Nat.beq jb 0&&(Nat.beq o2 o&&Nat.beq k2 ty.k))))))) then
        (match lg ty' ty l with
        | some l=>some { pre:=[l.length≤4611686018427387903],val:=.tup [],eff:=[(o,some (.row e ty (F l)))] }
        | none=>none) else none
    | _,_=>none)
  | _=>none
theorem ug.cnd {b:Bool} {x y:Sp} (h:ug x) (h':ug y):ug (bif b then x else y):=by cases b <;> assumption
theorem ug.m (m:af→Nat→List V→Option aA):ug (.mut fun _=>m):=fun _ _ _ _ _ _=>.const _
theorem ug.h {fi:FI} (h:HP fi.ins.tys→Option (HP fi.out.tys)):ug (.hand fi fun _=>h):=fun _ _ _ _=>.const _
end Go.Ax
