import Derived.Below
import Derived.Orders
import Derived.KernelRfl
import Derived.WalkKit
import Derived.ChangeKeysEq
set_option linter.all false
/- Abstract values, abstract heaps and an abstract interpreter for the model's code. -/
namespace Go.Ax
inductive D where
  | unk
  | nil
  | lit (v:Value)
  | sl (k n:Nat) (el:Nat→List D)
  | opt (b:Bool) (us:List Value)
  | any
inductive V where
  | c (d:D)
  | agg (vs:List V)
  | tup (vs:List V)
  | ptr (o k i j:Nat)
  | row (o k off n:Nat)
  | dptr (k:Nat) (cs:List D) (j:Nat)
  | fn (f:FuncId) (caps:List V)
inductive Ob where
  | box (cs:List V)
  | row (t:TypeId) (k n:Nat) (el:Nat→List D)
  | raw (x:Obj)
abbrev am:=List (Nat × Option Ob)
def am.get:am→Nat→Option Ob
  | [],_=>none
  | (o',b) :: r,o=>bif Nat.beq o' o then b else am.get r o
abbrev i64 (n:Int):V:=.c (.lit (.int .i64 n))
abbrev bl (b:Bool):V:=.c (.lit (.bool b))
abbrev aX (s:ByteArray):V:=.c (.lit (.string s))
def D.ofCell:Value→D
  | .slice none 0 0=>.nil
  | v=>.lit v
def V.ofValue:Value→V
  | .agg cs=>.agg (cs.toList.map fun v=>.c (D.ofCell v))
  | .tuple vs=>match vs.toList with | []=>.c .unk | _=>.c (.lit (.tuple vs))
  | v=>.c (D.ofCell v)
def V.isCell:V→Bool
  | .c .unk=>false
  | .c (.lit (.agg _))=>false
  | .c (.lit (.tuple _))=>false
  | .c (.opt ..)=>false
  | .c _=>true
  | .ptr ..=>true
  | .row ..=>true
  | .fn ..=>true
  | _=>false
def V.cells:V→List V
  | .agg vs=>vs
  | v=>[v]
def V.toD:V→Option D
  | .c .unk=>none
  | .c (.lit (.agg _))=>none
  | .c (.lit (.tuple _))=>none
  | .c (.opt ..)=>none
  | .c d=>some d
  | _=>none
def Gv (H:am) (o k off n:Nat):V :=
  match H.get o with
  | some (.row _ k' _ el)=>bif Nat.beq k' k then .c (.sl k n fun i=>el (off+i)) else .c .unk
  | _=>.c .unk
def xv (H:am):V→D
  | .c d=>d
  | .row o k off n=>match Gv H o k off n with | .c d=>d | _=>.unk
  | _=>.unk
def Qp (H:am) (o k i j:Nat):V :=
  match H.get o with
  | some (.row _ k' _ el)=>bif Nat.beq k' k then .dptr k (el i) j else .c .unk
  | some (.box cs)=>bif Nat.beq cs.length k then .dptr k (cs.map (xv H)) j else .c .unk
  | some (.raw _)=>.c .unk
  | none=>.c .unk
def aP (x:Int):List D:=[.lit (.int .i64 x)]
def bh:List D→Int
  | [.lit (.int .i64 x)]=>x
  | _=>0
def lS (x:Int):List D:=[.lit (.int .u8 x)]
def nH:List D→Int
  | [.lit (.int .u8 x)]=>x
  | _=>0
def ak (l:List Nat):ByteArray:=⟨(l.map UInt8.ofNat).toArray⟩
def Dd (x:ByteArray):List D:=[.lit (.string x)]
def lst {T:Type} (dec:List D→T) (n:Nat) (el:Nat→List D):List T:=(List.range n).map fun i=>dec (el i)
def oy (l:List Int):ByteArray:=⟨(l.map fun x=>UInt8.ofNat x.toNat).toArray⟩
def JJ (s:ByteArray) (pos:Nat):Int:=(Utf8.decode s pos).1
def JU (s:ByteArray) (pos:Nat):Nat:=(Utf8.decode s pos).2
mutual
def V.view (H:am):V→V
  | .c .nil=>.c (.sl 0 0 fun _=>[])
  | .c d=>.c d
  | .agg vs=>.agg (V.views H vs)
  | .tup vs=>.tup (V.views H vs)
  | .ptr o k i j=>Qp H o k i j
  | .row o k off n=>Gv H o k off n
  | .dptr k cs j=>.dptr k cs j
  | .fn f caps=>.fn f (V.views H caps)
def V.views (H:am):List V→List V
  | []=>[]
  | v :: r=>V.view H v :: V.views H r
end
mutual
def V.refs:V→List Nat
  | .c _=>[]
  | .agg vs=>V.refss vs
  | .tup vs=>V.refss vs
  | .ptr o _ _ _=>[o]
  | .row o _ _ _=>[o]
  | .dptr ..=>[]
  | .fn _ caps=>V.refss caps
def V.refss:List V→List Nat
  | []=>[]
  | v :: r=>V.refs v++V.refss r
end
mutual
def V.kill (o:Nat):V→V
  | .c d=>.c d
  | .agg vs=>.agg (V.kills o vs)
  | .tup vs=>.tup (V.kills o vs)
  | .ptr o' k i j=>bif Nat.beq o' o then .c .unk else .ptr o' k i j
  | .row o' k off n=>bif Nat.beq o' o then .c .unk else .row o' k off n
  | .dptr k cs j=>.dptr k cs j
  | .fn f caps=>.fn f (V.kills o caps)
def V.kills (o:Nat):List V→List V
  | []=>[]
  | v :: r=>V.kill o v :: V.kills o r
end
inductive bK where
  | data (v:V)
  | new (v:V)
  | own (fresh:Bool) (t:TypeId) (k n:Nat) (el:Nat→List D)
abbrev bU:=List V→Option (List Prop × bK)
structure cM where
  pre:List Prop:=[]
  val:V
  eff:am:=[]
  kill:List Nat:=[]
inductive CC where
  | pure (c:bU)
  | mut (m:am→Nat→List V→Option cM)
def dE (H:am) (vs:List V):List Nat :=
  V.refss vs++(V.refss vs).flatMap fun o=>match H.get o with | some (.box cs)=>V.refss cs | _=>[]
def eH:List Nat→am→am
  | [],_=>[]
  | o :: r,H=>match am.get H o with | some b=>(o,some b) :: eH r H | none=>eH r H
def qq:Option Ob→Bool
  | some (.row ..)=>true
  | _=>false
mutual
def V.noUnk:V→Bool
  | .c .unk=>false
  | .c _=>true
  | .agg vs=>V.noUnks vs
  | .tup vs=>V.noUnks vs
  | .ptr ..=>true
  | .row ..=>true
  | .dptr ..=>true
  | .fn _ vs=>V.noUnks vs
def V.noUnks:List V→Bool
  | []=>true
  | v :: r=>V.noUnk v&&V.noUnks r
end
def Oa:Option Ob→Bool
  | some (.row ..)=>true
  | some (.raw _)=>true
  | some (.box cs)=>V.noUnks cs
  | none=>false
def tL:Option Ob→List Nat
  | some (.box cs)=>V.refss cs
  | _=>[]
def xG (H:am) (vs:List V):Bool × List Nat:=((dE H vs).all fun o=>Oa (H.get o),(dE H vs).flatMap fun o=>tL (H.get o))
def Hr (H:am):List Nat:=H.flatMap fun x=>tL x.2
section
variable (P:Program)
def sz (t:TypeId):Nat:=match P.underlying t,P.info? t with | some _,some i=>i.size | _,_=>0
def w4 (t:TypeId):Nat:=match P.info? t with | some i=>i.bytes | none=>0
def eO (t:TypeId):Bool:=match P.underlying t with | some (.struct _)=>true | some (.array _ _)=>true | _=>false
def it (t:TypeId):Bool:=eO P t||Nat.blt 0 (sz P t)
def Dc (t:TypeId):Option V:=match P.info? t with | some i=>(match i.zero with | some (.tuple _)=>none | some v=>some (V.ofValue v) | none=>none) | none=>none
def kA (t:TypeId):Bool:=match P.underlying t with | some _=>true | none=>false
def jj (ag:Bool) (cs:List V) (j n:Nat):V :=
  bif ag then .agg ((cs.drop j).take n) else (cs.drop j).headD (.c .unk)
def NV (ag:Bool) (cs:List D) (j n:Nat):V :=
  bif ag then .agg ((List.range n).map fun q=>.c (cs.getD (j+q) .unk)) else .c (cs.getD j .unk)
def setL {α:Type}:List α→Nat→List α→List α
  | cs,_,[]=>cs
  | cs,off,x :: r=>setL (cs.set off x) (off+1) r
def rZ (H:am) (t:TypeId) (a:V):Option cM :=
  match a with
  | .ptr o k i j =>
    match H.get o with
    | some (.box cs)=>bif Nat.beq cs.length k&&Nat.ble (j+sz P t) k&&it P t then some { val:=jj (eO P t) cs j (sz P t) } else none
    | some (.row _ k' m el) =>
      bif Nat.beq k' k&&Nat.ble (j+sz P t) k&&it P t then some { val:=NV (eO P t) (el i) j (sz P t) }
      else bif Nat.beq k' k&&Nat.beq i 0&&Nat.beq j 0&&Nat.beq (m*k) (sz P t)&&eO P t then
        some { val:=.agg ((List.range m).flatMap fun i=>(List.range k).map fun q=>.c ((el i).getD q .unk)) }
      else none
    | some (.raw _)=>none
    | none=>none
  | .dptr k cs j=>bif Nat.ble (j+sz P t) k&&it P t then some { val:=NV (eO P t) cs j (sz P t) } else none
  | _=>none
def vS (H:am) (t:TypeId) (a x:V):Option cM :=
  bif Nat.beq x.cells.length (sz P t)&&x.cells.all V.isCell&&kA P t then
    match a with
    | .ptr o k i j =>
      match H.get o with
      | some (.box cs)=>bif Nat.beq cs.length k&&Nat.ble (j+sz P t) k then some { val:=.c .unk,eff:=[(o,some (.box (setL cs j x.cells)))] } else none
      | some (.row e k' n el) =>
        match x.cells.mapM V.toD with
        | some ds=>bif Nat.beq k' k&&Nat.ble (j+sz P t) k then some { val:=.c .unk,eff:=[(o,some (.row e k n fun q=>bif Nat.beq q i then setL (el i) j ds else el q))] } else none
        | none=>none
      | some (.raw _)=>none
      | none=>none
    | _=>none
  else none
def anO:V→Int
  | .c (.lit (.int _ n))=>n
  | _=>0
def ami:V→Bool
  | .c (.lit (.bool b))=>b
  | _=>false
def jN:V→V→Bool
  | .c (.lit (.int k _)), .c (.lit (.int k' _))=>decide (k = k')
  | .c (.lit (.bool _)), .c (.lit (.bool _))=>true
  | _,_=>false
def Hh (cs:List V) (ix:Nat):Option V :=
  match cs with
  | .c (.lit (.int k n)) :: _=>bif cs.all (jN (.c (.lit (.int k n)))) then some (.c (.lit (.int k ((cs.map anO).getD ix 0)))) else none
  | .c (.lit (.bool b)) :: _=>bif cs.all (jN (.c (.lit (.bool b)))) then some (bl ((cs.map ami).getD ix false)) else none
  | _=>none
def aoj (b:Bool) (x c:V):V :=
  match x,c with
  | .c (.lit (.int k a)), .c (.lit (.int _ d))=>.c (.lit (.int k (bif b then a else d)))
  | .c (.lit (.bool a)), .c (.lit (.bool d))=>bl (bif b then a else d)
  | _,_=>.c .unk
def II (x:V) (ix:Nat):List V→Nat→List V
  | [],_=>[]
  | c :: r,p=>aoj (Nat.beq p ix) x c :: II x ix r (p+1)
def G3 (f:Nat):Bool:=Nat.ble 1000000000 f
def BF (t:TypeId) (cs:List V) (len k j:Nat):Bool:=Nat.beq cs.length k&&Nat.ble (j+len) k&&Nat.beq (sz P t) 1&&!(eO P t)&&it P t
def N5 (H:am) (t:TypeId) (a:V):Option cM :=
  match a with
  | .fn f [.ptr o k i j, .c (.lit (.int _ ix)), .c (.lit (.int _ n))]=>match H.get o with
    | some (.box cs)=>bif G3 f&&BF P t cs (n.toNat) k j then
        (match Hh ((cs.drop j).take (n.toNat)) ix.toNat with | some v=>some { pre:=[0≤ix,ix < ((n.toNat:Nat):Int)],val:=v } | none=>none) else none
    | _=>none
  | a=>rZ P H t a
def KV (H:am) (t:TypeId) (a x:V):Option cM :=
  match a with
  | .fn f [.ptr o k i j, .c (.lit (.int _ ix)), .c (.lit (.int _ n))]=>match H.get o with
    | some (.box cs)=>bif G3 f&&BF P t cs (n.toNat) k j&&kA P t&&((cs.drop j).take (n.toNat)).all (jN x) then
        some { pre:=[0≤ix,ix < ((n.toNat:Nat):Int)],val:=.c .unk,eff:=[(o,some (.box (setL cs j (II x ix.toNat ((cs.drop j).take (n.toNat)) 0))))] } else none
    | _=>none
  | a=>vS P H t a x
def Ed (t:TypeId) (f:Nat):Option (Nat × TypeId) :=
  match P.underlying t with
  | some (.struct fs)=>(match fs[f]? with | some fl=>some (fl.offset,fl.type) | none=>none)
  | _=>none
def PQ (op:BinOp) (k:IntKind) (a b:Int):Option cM :=
  match op with
  | .add=>some { val:=.c (.lit (.int k (k.wrap (a+b)))) }
  | .sub=>some { val:=.c (.lit (.int k (k.wrap (a - b)))) }
  | .mul=>some { val:=.c (.lit (.int k (k.wrap (a*b)))) }
  | .quo=>some { pre:=[b≠0],val:=.c (.lit (.int k (k.wrap (a.tdiv b)))) }
  | .rem=>some { pre:=[b≠0],val:=.c (.lit (.int k (a.tmod b))) }
  | .and=>some { val:=.c (.lit (.int k (k.wrap (BitVec.ofInt k.bits a &&& BitVec.ofInt k.bits b).toNat))) }
  | .or=>some { val:=.c (.lit (.int k (k.wrap (BitVec.ofInt k.bits a ||| BitVec.ofInt k.bits b).toNat))) }
  | .xor=>some { val:=.c (.lit (.int k (k.wrap (BitVec.ofInt k.bits a ^^^ BitVec.ofInt k.bits b).toNat))) }
  | .andNot=>some { val:=.c (.lit (.int k (k.wrap (BitVec.ofInt k.bits a &&& ~~~(BitVec.ofInt k.bits b)).toNat))) }
  | .eql=>some { val:=bl (a == b) }
  | .neq=>some { val:=bl (a != b) }
  | .lss=>some { val:=bl (decide (a < b)) }
  | .leq=>some { val:=bl (decide (a≤b)) }
  | .gtr=>some { val:=bl (decide (b < a)) }
  | .geq=>some { val:=bl (decide (b≤a)) }
  | _=>none
def Dw (op:BinOp) (k:IntKind) (a y:Int):Option cM :=
  match op with
  | .shl=>some { pre:=[0≤y],val:=.c (.lit (.int k (k.wrap (a*2 ^ min y.toNat k.bits)))) }
  | .shr=>some { pre:=[0≤y],val:=.c (.lit (.int k (a.fdiv (2 ^ min y.toNat k.bits)))) }
  | _=>none
def O3 (op:BinOp) (x y:ByteArray):Option cM :=
  match op with
  | .add=>some { pre:=[x.size+y.size≤9223372036854775807],val:=aX (x++y) }
  | .eql=>some { val:=bl (x.toList == y.toList) }
  | .neq=>some { val:=bl (!(x.toList == y.toList)) }
  | .lss=>some { val:=bl (Op.bytesLess x.toList y.toList) }
  | .leq=>some { val:=bl (Op.bytesLess x.toList y.toList||x.toList == y.toList) }
  | .gtr=>some { val:=bl (!(Op.bytesLess x.toList y.toList||x.toList == y.toList)) }
  | .geq=>some { val:=bl (!(Op.bytesLess x.toList y.toList)) }
  | _=>none
def PJ:Nat→TypeId→V→V→Option Bool
  | 0,_,_,_=>none
  | d+1,t,x,y =>
    match P.underlying t,x,y with
    | some (.int _), .c (.lit (.int k a)), .c (.lit (.int k' b))=>if k = k' then some (a == b) else none
    | some .bool, .c (.lit (.bool a)), .c (.lit (.bool b))=>some (a == b)
    | some .string, .c (.lit (.string a)), .c (.lit (.string b))=>some (a.toList == b.toList)
    | some (.struct fs), .agg xs, .agg ys =>
      bif P.stoodInHeld t then none else
      fs.toList.foldr (fun f acc=>bif f.name == "_" then none else
        bif Nat.ble (f.offset+sz P f.type) xs.length&&Nat.ble (f.offset+sz P f.type) ys.length&&it P f.type then
        match PJ d f.type (jj (eO P f.type) xs f.offset (sz P f.type)) (jj (eO P f.type) ys f.offset (sz P f.type)),acc with
        | some a,some b=>some (a&&b)
        | _,_=>none
        else none) (some true)
    | some (.array len e), .agg xs, .agg ys =>
      bif Nat.ble (len*sz P e) xs.length&&Nat.ble (len*sz P e) ys.length&&it P e then
      (List.range len).foldr (fun i acc =>
        match PJ d e (jj (eO P e) xs (i*sz P e) (sz P e)) (jj (eO P e) ys (i*sz P e) (sz P e)),acc with
        | some a,some b=>some (a&&b)
        | _,_=>none) (some true)
      else none
    | _,_,_=>none
def YC (op:BinOp) (t:TypeId) (x y:V):Option cM :=
  match x,y with
  | .c (.lit (.int k a)), .c (.lit (.int k' b)) =>
    match op with
    | .shl=>Dw op k a b
    | .shr=>Dw op k a b
    | op=>if k = k' then PQ op k a b else none
  | .c (.lit (.string a)), .c (.lit (.string b))=>O3 op a b
  | .c (.lit (.bool a)), .c (.lit (.bool b)) =>
    match P.underlying t,op with
    | some .bool, .eql=>some { val:=bl (a == b) }
    | some .bool, .neq=>some { val:=bl (!(a == b)) }
    | _,_=>none
  | .agg xs, .agg ys =>
    bif P.eqGuardType P.depth t then none else
    match op,PJ P 10 t (.agg xs) (.agg ys) with
    | .eql,some b=>some { val:=bl b }
    | .neq,some b=>some { val:=bl (!b) }
    | _,_=>none
  | _,_=>none
def unV (op:UnOp) (x:V):Option cM :=
  match op,x with
  | .neg, .c (.lit (.int k n))=>some { val:=.c (.lit (.int k (k.wrap (0 - n)))) }
  | .not, .c (.lit (.bool b))=>some { val:=bl (!b) }
  | _,_=>none
def SS (src dst:TypeId) (x:V):Option cM :=
  match P.underlying src,P.underlying dst,x with
  | some (.int _),some (.int k), .c (.lit (.int _ n))=>some { val:=.c (.lit (.int k (k.wrap n))) }
  | some .string,some .string, .c (.lit (.string s))=>some { val:=aX s }
  | _,_,_=>none
def jX (H:am):V→Option (Nat × Nat × (Nat→List D))
  | .c .nil=>some (0,0,fun _=>[])
  | .c (.sl k n el)=>some (k,n,el)
  | .row o k off n=>match H.get o with | some (.row _ k' _ el)=>bif Nat.beq k' k then some (k,n,fun i=>el (off+i)) else none | _=>none
  | _=>none
def K9 (H:am) (x:V):Option cM :=
  match jX H x with
  | some (k,n,el)=>some { pre:=[0 < n→k = 1, ∀ i,i < n→el i = lS (nH (el i))],val:=aX (oy (lst nH n el)) }
  | none=>none
def Sq (t:TypeId) (x:V):Option cM :=
  match P.underlying t,x with
  | some (.slice _), .c .nil=>some { val:=i64 0 }
  | some (.slice _), .c (.sl _ n _)=>some { val:=i64 n }
  | some (.slice _), .row _ _ _ n=>some { val:=i64 n }
  | some .string, .c (.lit (.string s))=>some { val:=i64 s.size }
  | _,_=>none
def Lw (m x:V):Option V :=
  match m,x with | .c (.lit (.int k a)), .c (.lit (.int _ b))=>some (V.c (.lit (.int k (if b < a then b else a)))) | _,_=>none
def L7 (m x:V):Option V :=
  match m,x with | .c (.lit (.int k a)), .c (.lit (.int _ b))=>some (V.c (.lit (.int k (if a < b then b else a)))) | _,_=>none
def Ue:List V→Option V
  | []=>none
  | x :: r=>r.foldlM Lw x
def Uc:List V→Option V
  | []=>none
  | x :: r=>r.foldlM L7 x
def um (t:TypeId):Option (List D):=match Dc P t with | some v=>v.cells.mapM V.toD | none=>none
def xJ (H:am) (nid:Nat) (t:TypeId) (s x:V):Option cM :=
  match P.underlying t,jX H x with
  | some (.slice e),some (k2,n2,el2) =>
    match um P e with
    | some z =>
    bif Nat.beq z.length (sz P e)&&Nat.blt 0 (sz P e)&&(Nat.beq k2 (sz P e)||Nat.beq k2 0&&Nat.beq n2 0) then
    match s with
    | .c .nil=>some { pre:=[n2*w4 P e≤140737488355328,n2≤140737488355328],val:=.row nid (sz P e) 0 n2,eff:=[(nid,some (.row e (sz P e) n2 el2))] }
    | .row o k off n =>
      match H.get o with
      | some (.row e' k' m el)=>bif Nat.beq off 0&&Nat.beq e' e&&Nat.beq k' k&&Nat.beq k (sz P e) then some { pre:=[n = m,(n+n2)*w4 P e≤140737488355328,n+n2≤140737488355328],val:=.row o k 0 (n+n2),eff:=[(o,some (.row e k (n+n2) fun i=>bif Nat.blt i n then el i else el2 (i - n)))],kill:=[o] } else none
      | _=>none
    | _=>none
    else none
    | none=>none
  | _,_=>none
def qR (place:Nat→Option (Nat × Nat)) (cs:List V) (p:Nat × V):Option (List V) :=
  match place p.1 with
  | some (off,size)=>bif Nat.beq p.2.cells.length size&&p.2.cells.all V.isCell&&Nat.ble (off+size) cs.length then some (setL cs off p.2.cells) else none
  | none=>none
def Bu (fs:Array Field) (i:Nat):Option (Nat × Nat):=match fs[i]? with | some f=>some (f.offset,sz P f.type) | none=>none
def Pj (t:TypeId) (parts:List (Nat × V)):Option cM :=
  match P.underlying t,Dc P t with
  | some (.struct fs),some z=>bif fs.toList.all (fun f=>kA P f.type) then (match parts.foldlM (qR (Bu P fs)) z.cells with | some cs=>some { val:=.agg cs } | none=>none) else none
  | some (.array _ e),some z=>bif kA P e then (match parts.foldlM (qR fun i=>some (i*sz P e,sz P e)) z.cells with | some cs=>some { val:=.agg cs } | none=>none) else none
  | _,_=>none
def uN (z:List V) (k n:Nat):List V:=(List.range (n*k)).map fun q=>z.getD (q % k) (.c .unk)
def Sz:D→Int
  | .lit (.int _ n)=>n
  | _=>0
def N3:D→Bool
  | .lit (.int .i64 _)=>true
  | _=>false
def Ua:D→ByteArray
  | .lit (.string s)=>s
  | _=>ak []
def NY:D→Bool
  | .lit (.string _)=>true
  | _=>false
def Hi (k:Nat) (ds:List D):Nat→List D :=
  bif Nat.beq k 1&&Nat.blt 0 ds.length&&ds.all N3 then (fun i=>[.lit (.int .i64 ((ds.map Sz).getD i 0))])
  else bif Nat.beq k 1&&Nat.blt 0 ds.length&&ds.all NY then (fun i=>[.lit (.string ((ds.map Ua).getD i (ak [])))])
  else fun i=>(ds.drop (i*k)).take k
theorem UK {k len:Nat} {ds:List D} (h:ds.length = len*k) {i:Nat} (hi:i < len):(Hi k ds i).length = k:=by
  unfold Hi
  cases h1:(Nat.beq k 1&&Nat.blt 0 ds.length&&ds.all N3) with
  | true =>
    simp only [Bool.and_eq_true,Nat.beq_eq] at h1
    rw [cond_true,h1.1.1]; rfl
  | false =>
    rw [cond_false]
    cases h2:(Nat.beq k 1&&Nat.blt 0 ds.length&&ds.all NY) with
    | true =>
      simp only [Bool.and_eq_true,Nat.beq_eq] at h2
      rw [cond_true,h2.1.1]; rfl
    | false =>
      rw [cond_false]
      have:(i+1)*k≤len*k:=Nat.mul_le_mul_right _ (by omega)
      rw [Nat.add_mul,Nat.one_mul] at this
      simp; omega
theorem U5 {k len:Nat} {ds:List D} (h:ds.length = len*k) {i j:Nat} (hi:i < len) {d:D} (hd:(Hi k ds i)[j]? = some d):j < k∧ds[i*k+j]? = some d:=by
  unfold Hi at hd
  cases h1:(Nat.beq k 1&&Nat.blt 0 ds.length&&ds.all N3) with
  | true =>
    rw [h1,cond_true] at hd
    simp only [Bool.and_eq_true,Nat.beq_eq] at h1
    obtain ⟨⟨rfl,_⟩,h1⟩:=h1
    cases j with
    | succ j=>simp at hd
    | zero =>
      have hl:i < ds.length:=by omega
      have hx:=List.all_eq_true.1 h1 ds[i] (List.getElem_mem hl)
      refine ⟨by omega, ?_⟩
      simp only [List.getElem?_cons_zero,Option.some.injEq] at hd
      rw [Nat.mul_one,Nat.add_zero,List.getElem?_eq_getElem hl, ← hd]
      congr 1
      have e:(ds.map Sz).getD i 0 = Sz ds[i]:=by
        rw [List.getD_eq_getElem?_getD,List.getElem?_map,List.getElem?_eq_getElem hl]; rfl
      rw [e]
      generalize ds[i] = x at hx
      unfold N3 at hx
      split at hx
      · rfl
      · cases hx
  | false =>
    rw [h1,cond_false] at hd
    cases h2:(Nat.beq k 1&&Nat.blt 0 ds.length&&ds.all NY) with
    | true =>
      rw [h2,cond_true] at hd
      simp only [Bool.and_eq_true,Nat.beq_eq] at h2
      obtain ⟨⟨rfl,_⟩,h2⟩:=h2
      cases j with
      | succ j=>simp at hd
      | zero =>
        have hl:i < ds.length:=by omega
        have hx:=List.all_eq_true.1 h2 ds[i] (List.getElem_mem hl)
        refine ⟨by omega, ?_⟩
        simp only [List.getElem?_cons_zero,Option.some.injEq] at hd
        rw [Nat.mul_one,Nat.add_zero,List.getElem?_eq_getElem hl, ← hd]
        congr 1
        have e:(ds.map Ua).getD i (ak []) = Ua ds[i]:=by
          rw [List.getD_eq_getElem?_getD,List.getElem?_map,List.getElem?_eq_getElem hl]; rfl
        rw [e]
        generalize ds[i] = x at hx
        unfold NY at hx
        split at hx
        · rfl
        · cases hx
    | false =>
      rw [h2,cond_false,List.getElem?_take] at hd
      split at hd
      · next hj=>rw [List.getElem?_drop] at hd; exact ⟨hj,hd⟩
      · cases hd
def Ar (nid:Nat) (t:TypeId) (len:Nat) (parts:List (Nat × V)):Option cM :=
  match P.underlying t with
  | some (.slice e) =>
    match Dc P e with
    | some z =>
      bif Nat.beq z.cells.length (sz P e)&&Nat.blt 0 (sz P e)&&Nat.ble (len*sz P e) 16777216&&kA P e then
      match parts.foldlM (qR fun i=>some (i*sz P e,sz P e)) (uN z.cells (sz P e) len) with
      | some cs=>match cs.mapM V.toD with
        | some ds=>some { val:=.row nid (sz P e) 0 len,eff:=[(nid,some (.row e (sz P e) len (Hi (sz P e) ds)))] }
        | none=>none
      | none=>none
      else none
    | none=>none
  | _=>none
def vv (o:Nat):Option Ob→Option Ob
  | some (.box cs)=>some (.box (V.kills o cs))
  | b=>b
def gX (os:List Nat) (H:am):am :=
  match os with
  | []=>H
  | o :: r=>gX r (H.map fun x=>(x.1,vv o x.2))
mutual
def V.fz (o:Nat) (el:Nat→List D) (kk:Nat):V→V
  | .c d=>.c d
  | .agg vs=>.agg (V.fzs o el kk vs)
  | .tup vs=>.tup (V.fzs o el kk vs)
  | .ptr o' k i j=>bif Nat.beq o' o then .c .unk else .ptr o' k i j
  | .row o' k off n=>bif Nat.beq o' o then (bif Nat.beq kk k then .c (.sl k n fun i=>el (off+i)) else .c .unk) else .row o' k off n
  | .dptr k cs j=>.dptr k cs j
  | .fn f vs=>.fn f (V.fzs o el kk vs)
def V.fzs (o:Nat) (el:Nat→List D) (kk:Nat):List V→List V
  | []=>[]
  | v :: r=>V.fz o el kk v :: V.fzs o el kk r
end
def sL (nid:Nat) (t:TypeId) (len:Nat) (ps:List Nat):List Nat→am→List V→Option cM
  | [],_,vs=>Ar P nid t len (ps.zip vs)
  | o :: fl,H,vs=>match H.get o with
    | some (.row e k _ el)=>(sL nid t len ps fl ((o,some (.row e k 0 el)) :: gX [o] H) (V.fzs o el k vs)).map fun r=>{ r with eff:=r.eff++[(o,some (.row e k 0 el))],kill:=o :: r.kill }
    | _=>none
def DH (nid:Nat) (t:TypeId) (l c:V):Option cM :=
  match P.underlying t,l,c with
  | some (.slice e), .c (.lit (.int .i64 a)), .c (.lit (.int .i64 b)) =>
    match um P e with
    | some z=>bif Nat.beq z.length (sz P e)&&Nat.blt 0 (sz P e)&&Nat.blt 0 (w4 P e)&&kA P e then some { pre:=[0≤a,a≤b,b*w4 P e≤140737488355328],val:=.row nid (sz P e) 0 a.toNat,eff:=[(nid,some (.row e (sz P e) a.toNat fun _=>z))] } else none
    | none=>none
  | _,_,_=>none
def KY:V→Option (Int)
  | .c (.lit (.int _ n))=>some n
  | _=>none
def Vz:Option V→Option Int
  | none=>some 0
  | some v=>KY v
def WH (n:Int):Option V→Option Int
  | none=>some n
  | some v=>KY v
def C1 (t:TypeId) (x:V) (lo hi:Option V):Option cM :=
  match P.underlying t,x with
  | some (.slice e), .c .nil=>match P.underlying e,Vz lo,WH 0 hi with | some _,some l,some h=>some { pre:=[l = 0,h = 0],val:=.c .nil } | _,_,_=>none
  | some (.slice e), .c (.sl k n el)=>bif Nat.beq (sz P e) k then (match P.underlying e,Vz lo,WH n hi with | some _,some l,some h=>some { pre:=[0≤l,l≤h,h≤n],val:=.c (.sl k (h - l).toNat fun i=>el (l.toNat+i)) } | _,_,_=>none) else none
  | some (.slice e), .row o k off n=>bif Nat.beq (sz P e) k then (match P.underlying e,Vz lo,WH n hi with | some _,some l,some h=>some { pre:=[0≤l,l≤h,h≤n],val:=.row o k (off+l.toNat) (h - l).toNat } | _,_,_=>none) else none
  | some .string, .c (.lit (.string s))=>match Vz lo,WH s.size hi with | some l,some h=>some { pre:=[0≤l,l≤h,h≤s.size],val:=aX (s.extract l.toNat h.toNat) } | _,_=>none
  | _,_=>none
def pi (H:am) (t:TypeId) (x ix:V):Option cM :=
  match P.underlying t,x,ix with
  | some (.slice e), .c (.sl k n el), .c (.lit (.int _ i))=>bif Nat.beq (sz P e) k then (match P.underlying e with | some _=>some { pre:=[0≤i,i < n],val:=.dptr k (el i.toNat) 0 } | none=>none) else none
  | some (.slice e), .c .nil, .c (.lit (.int _ _))=>some { pre:=[False],val:=.dptr (sz P e) (match um P e with | some z=>z | none=>[]) 0 }
  | some (.slice e), .row o k off n, .c (.lit (.int _ i))=>bif Nat.beq (sz P e) k then (match P.underlying e with | some _=>some { pre:=[0≤i,i < n],val:=.ptr o k (off+i.toNat) 0 } | none=>none) else none
  | some (.array len e), .ptr o k q j, .c (.lit (.int kk i)) =>
    (match H.get o with
    | some (.row _ k' m _)=>bif Nat.beq q 0&&Nat.beq j 0&&Nat.beq k' k&&Nat.beq k (sz P e) then (match P.underlying e with | some _=>some { pre:=[m = len,0≤i,i < len],val:=.ptr o k i.toNat 0 } | none=>none) else none
    | some (.box _)=>bif Nat.beq (sz P e) 1&&!(eO P e) then some { pre:=[0≤i,i < len],val:=.fn 1000000000 [.ptr o k q j, .c (.lit (.int kk i)),i64 len] } else
      (match P.underlying e with | some _=>some { pre:=[0≤i,i < len],val:=.ptr o k q (j+i.toNat*sz P e) } | none=>none)
    | some (.raw _)=>none
    | none=>none)
  | some (.array len e), .dptr k cs j, .c (.lit (.int _ i))=>(match P.underlying e with | some _=>some { pre:=[0≤i,i < len],val:=.dptr k cs (j+i.toNat*sz P e) } | none=>none)
  | _,_,_=>none
def Oy (t:TypeId) (x ix:V):Option cM :=
  match P.underlying t,x,ix with
  | some .string, .c (.lit (.string s)), .c (.lit (.int _ i))=>some { pre:=[0≤i,i < s.size],val:=.c (.lit (.int .u8 (s.data.getD i.toNat 0).toNat)) }
  | some (.array len e), .agg cs, .c (.lit (.int _ i))=>bif Nat.ble (len*sz P e) cs.length&&it P e then some { pre:=[0≤i,i < len],val:=(match bif Nat.beq (sz P e) 1&&!(eO P e) then Hh (cs.take len) i.toNat else none with | some v=>v | none=>jj (eO P e) cs (i.toNat*sz P e) (sz P e)) } else none
  | _,_,_=>none
def wm (nid:Nat) (t:TypeId) (v:V):Option cM :=
  bif v.cells.all V.isCell&&Nat.beq v.cells.length (sz P t) then
    match P.underlying t,v.cells.mapM V.toD with
    | some (.array len e),some ds =>
      bif Nat.beq (len*sz P e) (sz P t)&&Nat.blt 0 (sz P e)&&Nat.blt 0 len&&Nat.ble len 1000000 then
        some { val:=.ptr nid (sz P e) 0 0,eff:=[(nid,some (.row t (sz P e) len fun i=>(ds.drop (i*sz P e)).take (sz P e)))] }
      else none
    | _,_=>some { val:=.ptr nid v.cells.length 0 0,eff:=[(nid,some (.box v.cells))] }
  else none
variable (C:FuncId→Option CC)
def o8 (vs:List V):Bool:=match V.refss vs with | []=>false | _=>true
mutual
def V.scalar:V→Bool
  | .c (.lit (.int _ _))=>true
  | .c (.lit (.bool _))=>true
  | .c (.lit (.string _))=>true
  | .c .nil=>true
  | .c .unk=>true
  | .c .any=>true
  | .agg vs=>V.scalars vs
  | .tup vs=>V.scalars vs
  | _=>false
def V.scalars:List V→Bool
  | []=>true
  | v :: r=>V.scalar v&&V.scalars r
end
def N1 (H:am) (nid:Nat) (f:FuncId) (args:List V):Option cM :=
  match C f with
  | none=>none
  | some (.mut m)=>m (eH (dE H args) H) nid args
  | some (.pure con)=>match con (V.views H args) with
    | none=>none
    | some (p, .data v)=>bif (!o8 args)||v.scalar then some { pre:=p,val:=v } else none
    | some (p, .new v)=>some { pre:=p,val:=v }
    | some (p, .own fr t k n el)=>bif (!o8 args)||fr then some { pre:=p,val:=.row nid k 0 n,eff:=[(nid,some (.row t k n el))] } else none
def vE (x:V):Option cM:=match x with | .ptr ..=>some { val:=x } | .dptr ..=>some { val:=x } | .fn f _=>bif Nat.blt f 1000000000 then some { val:=x } else none | _=>none
def DE (t:TypeId) (f:Nat) (a:V):Option cM :=
  match Ed P t f with
  | some (off,ft)=>bif Nat.beq (sz P ft) 0 then none else (match a with | .ptr o k i j=>some { val:=.ptr o k i (j+off) } | .dptr k cs j=>some { val:=.dptr k cs (j+off) } | _=>none)
  | none=>none
def OM (t:TypeId) (f:Nat) (x:V):Option cM :=
  match x,Ed P t f with
  | .agg cs,some (off,ft)=>bif Nat.ble (off+sz P ft) cs.length&&it P ft then some { val:=jj (eO P ft) cs off (sz P ft) } else none
  | _,_=>none
def IF (ix:Nat) (x:V):Option cM :=
  match x with
  | .tup vs=>match vs[ix]? with | some v=>some { val:=v } | none=>none
  | .c (.opt b us)=>(match ix with
    | 0=>some { val:=bl b }
    | i+1=>match us[i]? with | some v=>some { pre:=[b = true],val:=.c (.lit v) } | none=>none)
  | _=>none
def O8 (nid:Nat) (t:TypeId) (x:V):Option cM :=
  match P.underlying t,x with
  | some .string, .c (.lit (.string s))=>some { val:=.ptr nid 1 0 0,eff:=[(nid,some (.raw (.stringIter s 0)))] }
  | _,_=>none
def N4 (H:am) (x:V):Option cM :=
  match x with
  | .ptr o k i j=>match H.get o with
    | some (.raw (.stringIter s pos))=>bif Nat.beq (i*k+j) 0 then
        some { val:=.c (.opt (Nat.blt pos s.size) [.int .i64 pos, .int .i32 (JJ s pos)]),eff:=[(o,some (.raw (.stringIter s (bif Nat.blt pos s.size then pos+JU s pos else pos))))] } else none
    | _=>none
  | _=>none
def vt (H:am) (t:TypeId) (x:V):Option cM :=
  match P.underlying t,x with
  | some (.slice e), .row o k off n=>match H.get o,um P e with
    | some (.row e' k' m el),some z=>bif Nat.beq e' e&&Nat.beq k' k&&Nat.beq k (sz P e)&&Nat.beq z.length k&&Nat.blt 0 k&&kA P e then
        some { val:=.c .unk,eff:=[(o,some (.row e' k m fun q=>bif Nat.ble off q&&Nat.blt q (off+n) then z else el q))] } else none
    | _,_=>none
  | _,_=>none
def Ju (H:am) (nid:Nat) (o:Oper) (vs:List V):Option cM :=
  match o.op,vs with
  | .move _,[x]=>some { val:=x }
  | .assign _,[x]=>some { val:=x }
  | .alloc t,[]=>match Dc P t with | some z=>wm P nid t z | none=>none
  | .box t _,[x]=>wm P nid t x
  | .build t parts,vs=>Pj P t ((parts.toList.map (·.1)).zip vs)
  | .buildSlice t len parts,vs=>sL P nid t len (parts.toList.map (·.1)) (V.refss vs) H vs
  | .load t _,[a]=>N5 P H t a
  | .store t _ _,[a,x]=>KV P H t a x
  | .nilCheck _,[x]=>vE x
  | .binOp op t _ _ _,[x,y]=>YC P op t x y
  | .unOp op _ _,[x]=>unV op x
  | .convert s d _,[x]=>(match P.underlying s,P.underlying d with
    | some (.slice e),some .string=>(match P.underlying e with | some (.int .u8)=>K9 H x | _=>none)
    | _,_=>SS P s d x)
  | .fieldAddr t _ f,[a]=>DE P t f a
  | .field t _ f,[x]=>OM P t f x
  | .indexAddr t _ _,[x,i]=>pi P H t x i
  | .index t _ _,[x,i]=>Oy P t x i
  | .slice t _ none none none,[x]=>C1 P t x none none
  | .slice t _ (some _) none none,[x,l]=>C1 P t x (some l) none
  | .slice t _ none (some _) none,[x,h]=>C1 P t x none (some h)
  | .slice t _ (some _) (some _) none,[x,l,h]=>C1 P t x (some l) (some h)
  | .makeSlice t _ _,[l,c]=>DH P nid t l c
  | .makeFunc (.func f) first _,vs=>bif first.isEmpty&&Nat.blt f 1000000000 then some { val:=.fn f vs } else none
  | .makeInterface t _,[x]=>(match P.underlying t with | some (.slice _)=>bif V.isCell x then some { val:=.fn (1000000000+t) [x] } else none | _=>none)
  | .extract _ ix,[x]=>IF ix x
  | .range t _,[x]=>O8 P nid t x
  | .next _ true,[x]=>N4 H x
  | .call { callee:=.builtin .len,argTypes, .. },[x]=>(match argTypes[0]? with | some t=>Sq P t x | none=>none)
  | .call { callee:=.builtin .clear,argTypes, .. },[x]=>(match argTypes[0]? with | some t=>vt P H t x | none=>none)
  | .call { callee:=.builtin .min, .. },vs=>(Ue vs).map fun v=>{ val:=v }
  | .call { callee:=.builtin .max, .. },vs=>(Uc vs).map fun v=>{ val:=v }
  | .call { callee:=.builtin .append,argTypes, .. },[s,x]=>(match argTypes.toList with | [t,t']=>bif Nat.beq t t' then xJ P H nid t s x else none | _=>none)
  | .call { callee:=.value _, .. }, .fn f caps :: vs=>bif Nat.blt f 1000000000 then N1 C H nid f (vs++caps) else none
  | _,_=>none
end
abbrev cJ:=List (Nat × Bool)
structure bz where
  ch:cJ
  v:V
structure St where
  tm:List (Nat × bz)
  hp:am
  nx:Nat
def bv:List (Nat × bz)→Nat→Option bz
  | [],_=>none
  | (t',s) :: r,t=>bif Nat.beq t' t then some s else bv r t
def mi:List (Nat × bz)→Nat→bz→List (Nat × bz)
  | [],t,s=>[(t,s)]
  | (t',s') :: r,t,s=>bif Nat.beq t' t then (t,s) :: r else bif Nat.blt t t' then (t,s) :: (t',s') :: r else (t',s') :: mi r t s
def Xp (x:Nat × Bool) (ch:cJ):Bool:=ch.any fun y=>Nat.beq x.1 y.1&&(x.2 == y.2)
def xf (a b:cJ):Bool:=a.all fun x=>Xp x b
def gj (σ:St) (ch:cJ):Operand→Option V
  | .tmp t=>bif Nat.blt t 1000000 then (match bv σ.tm t with | some s=>bif xf s.ch ch then some s.v else none | none=>none) else none
  | .const v=>some (V.ofValue v)
  | .func f=>bif Nat.blt f 1000000000 then some (.fn f []) else none
  | .global _=>none
def holds (tm:List (Nat × bz)):cJ→Bool
  | []=>true
  | (t,w) :: r=>(match bv tm t with | some { v:=.c (.lit (.bool b)), .. }=>(bif w then b else !b) | _=>false)&&holds tm r
def jx (ops:List Oper) (tm:List (Nat × bz)):Option (Nat × Bool)→Option cJ
  | none=>some []
  | some (j,w)=>match ops[j]? with
    | some o=>match o.dst with
      | some t=>bif Nat.blt t 1000000 then (match bv tm t with | some { ch,v:=.c (.lit (.bool _)) }=>some ((t,w) :: ch) | _=>none) else none
      | none=>none
    | none=>none
def sN (σ:St) (ch:cJ) (xs:List Operand):Option (List V):=xs.mapM (gj σ ch)
def D2 (c:Operand) (w:Bool) (ch:cJ):cJ:=match c with | .tmp t=>(t,w) :: ch | _=>ch
def uE (σ:St) (ch:cJ) (c a b:Operand):Option V :=
  match gj σ ch c with
  | some (.c (.lit (.bool x))) =>
    match gj σ (D2 c true ch) a,gj σ (D2 c false ch) b with
    | some (.c (.lit (.bool y))),some (.c (.lit (.bool z)))=>some (bl (bif x then y else z))
    | _,_=>none
  | _=>none
def jf:Op→List Operand
  | .call c=>(match c.callee with | .value f=>f :: c.args.toList | _=>c.args.toList)
  | op=>op.operands.toList
def B1 (P:Program) (C:FuncId→Option CC) (σ:St) (nid:Nat) (ch:cJ) (o:Oper):Option (List V × cM) :=
  match o.op with
  | .pick c a b=>(uE σ ch c a b).map fun v=>([],{ val:=v })
  | op=>match sN σ ch (jf op) with
    | some vs=>(Ju P C σ.hp nid o vs).map fun r=>(vs,r)
    | none=>none
def xt (os:List Nat) (tm:List (Nat × bz)):List (Nat × bz) :=
  match os with
  | []=>tm
  | o :: r=>xt r (tm.map fun x=>(x.1,{ ch:=x.2.ch,v:=x.2.v.kill o }))
def V.isBool:V→Bool
  | .c (.lit (.bool _))=>true
  | _=>false
def GT (tm:List (Nat × bz)) (ch:cJ) (ps:List Prop):List Prop :=
  match ch with
  | []=>ps
  | ch=>ps.map fun p=>(holds tm ch = true→p)
def qY (d:Nat) (tm:List (Nat × bz)):List (Nat × bz):=tm.map fun x=>(x.1,bif x.2.ch.any (fun y=>Nat.beq y.1 d) then ⟨[], .c .unk⟩ else x.2)
def p7:List Operand→List Nat
  | []=>[]
  | .tmp t :: r=>t :: p7 r
  | _ :: r=>p7 r
structure fw where
  dst:Option Nat
  rds:List Nat
  ch:cJ
  nid:Nat
  vs:List V
  reach:List Nat
  rws:Bool × List Nat
  res:cM
def after (σ:St) (r:fw):St :=
  let tm:=xt r.res.kill σ.tm
  { tm:=match r.dst with | some t=>mi (qY t tm) t { ch:=r.ch,v:=r.res.val } | none=>tm
    hp:=r.res.eff++gX r.res.kill σ.hp
    nx:=σ.nx }
def uA (dst:Option Nat) (ch:cJ):Bool:=match dst with | some t=>ch.all fun y=>!(Nat.beq y.1 t) | none=>true
def uZ (N:Nat) (dst:Option Nat):Bool:=match dst with | some t=>Nat.blt t N | none=>true
def fk (tm:List (Nat × bz)) (t:Nat):Bool:=match bv tm t with | some s=>s.v.isBool | none=>false
def lA (tm:List (Nat × bz)) (ch:cJ) (t:Nat):Bool:=match bv tm t with | some s=>s.v.isBool&&xf s.ch ch | none=>false
def recOf (P:Program) (C:FuncId→Option CC) (N:Nat) (ops:List Oper) (σ:St) (nid:Nat) (o:Oper):Option fw :=
  bif uZ N o.dst then
    match jx ops σ.tm o.guard with
    | some ch =>
      bif ch.all fun x=>lA σ.tm ch x.1 then
      match B1 P C σ nid ch o with
      | some (vs,r)=>bif ch.isEmpty||(r.eff.isEmpty&&r.kill.isEmpty&&uA o.dst ch) then
          some { dst:=o.dst,rds:=p7 (jf o.op)++ch.map (·.1),ch,nid,vs,reach:=dE σ.hp vs,rws:=xG σ.hp vs,res:=r } else none
      | none=>none
      else none
    | none=>none
  else none
def CL (tm:List (Nat × bz)):List (Nat × bz):=tm.map fun x=>(x.1,bif x.2.ch.isEmpty then x.2 else ⟨[], .c .unk⟩)
def Hg (P:Program) (C:FuncId→Option CC) (N:Nat) (all:List Oper):List Oper→St→Option (List Prop × St)
  | [],σ=>some ([],{ σ with tm:=CL σ.tm })
  | o :: r,σ=>match recOf P C N all σ σ.nx o with
    | some rc=>match Hg P C N all r { after σ rc with nx:=σ.nx+1 } with
      | some (qs,σ'')=>some (GT σ.tm rc.ch rc.res.pre++qs,σ'')
      | none=>none
    | none=>none
def Aw:List Prop→Prop→Prop
  | [],k=>k
  | p :: r,k=>p∧Aw r k
def zo (P:Program) (C:FuncId→Option CC) (N:Nat) (all:List Oper) (σ:St) (o:Oper) (k:St→Prop):Prop :=
  match recOf P C N all σ σ.nx { o with guard:=none } with
  | some rc=>Aw rc.res.pre (k { after σ rc with nx:=σ.nx+1 })
  | none=>False
def RV (o:Oper) (ch:cJ) (nid:Nat):fw:={ dst:=o.dst,rds:=[],ch:=ch,nid:=nid,vs:=[],reach:=[],rws:=(true,[]),res:={ val:=bl false } }
def zl (N:Nat) (σ:St) (o:Oper) (ch:cJ) (k:St→Prop):Prop :=
  bif uZ N o.dst&&uA o.dst ch then k { after σ (RV o ch σ.nx) with nx:=σ.nx+1 } else False
def s7 (P:Program) (C:FuncId→Option CC) (N:Nat) (all:List Oper):List Oper→St→(St→Prop)→Prop
  | [],σ,K=>K { σ with tm:=CL σ.tm }
  | o :: r,σ,K =>
    match o.guard with
    | none=>zo P C N all σ o fun σ'=>s7 P C N all r σ' K
    | some g =>
      match jx all σ.tm (some g) with
      | some ((t,w) :: ch)=>bif ((t,w) :: ch).all (fun x=>lA σ.tm ((t,w) :: ch) x.1) then
          (match bv σ.tm t with
          | some ⟨c0, .c (.lit (.bool b))⟩ =>
            bif holds σ.tm ch then
              (bif b then
                (bif w then zo P C N all { σ with tm:=mi σ.tm t ⟨c0,bl true⟩ } o fun σ'=>s7 P C N all r σ' K
                else zl N { σ with tm:=mi σ.tm t ⟨c0,bl true⟩ } o ((t,w) :: ch) fun σ'=>s7 P C N all r σ' K)
              else
                (bif w then zl N { σ with tm:=mi σ.tm t ⟨c0,bl false⟩ } o ((t,w) :: ch) fun σ'=>s7 P C N all r σ' K
                else zo P C N all { σ with tm:=mi σ.tm t ⟨c0,bl false⟩ } o fun σ'=>s7 P C N all r σ' K))
            else zl N σ o ((t,w) :: ch) fun σ'=>s7 P C N all r σ' K
          | _=>False) else False
      | _=>False
def SY (a b:List Nat):Bool:=a.all fun x=>!(b.any fun y=>Nat.beq x y)
def pI (d:Option Nat):List Nat:=match d with | some t=>[t] | none=>[]
def hT (H:am):List Nat:=H.map (·.1)
def N7 (a b:fw):Bool :=
  SY (pI a.dst) (b.rds++pI b.dst)&&SY (hT a.res.eff) (b.reach++hT b.res.eff) &&
  (a.res.kill.isEmpty||(b.rws.1&&SY a.res.kill (b.reach++(b.rws.2++(V.refs b.res.val++Hr b.res.eff)))&&b.res.kill.isEmpty))
def xl (a b:fw):Bool:=N7 a b&&N7 b a&&V.noUnks a.vs&&V.noUnks b.vs
def RO (P:Program) (C:FuncId→Option CC) (N:Nat) (all:List Oper):List Oper→Nat→St→Option (List Prop × List fw × St)
  | [],_,σ=>some ([],[],{ σ with tm:=CL σ.tm })
  | o :: r,nid,σ=>match recOf P C N all σ nid o with
    | some rc=>match RO P C N all r (nid+1) (after σ rc) with
      | some (qs,rcs,σ'')=>some (GT σ.tm rc.ch rc.res.pre++qs,rc :: rcs,σ'')
      | none=>none
    | none=>none
def Oz (acc:List Nat) (o:Oper):Nat:=o.after.toList.foldl (fun s e=>bif Region.binds .any e then s ||| (2 ^ e.on ||| acc.getD e.on 0) else s) 0
def D8:List Oper→List Nat→List Nat
  | [],acc=>acc
  | o :: r,acc=>D8 r (acc++[Oz acc o])
def Js (m:Nat) (r:fw):Nat→List fw→Bool
  | _,[]=>true
  | j,q :: l=>(m.testBit j||xl q r)&&Js m r (j+1) l
def adR (n:Nat) (o:Oper):Bool:=o.after.toList.all fun e=>!(Region.binds .any e)||Nat.blt e.on n
def qG:Nat→List Oper→Bool
  | _,[]=>true
  | n,o :: r=>adR n o&&qG (n+1) r
def xT (ms:List Nat):List fw→List fw→Bool
  | _,[]=>true
  | done,r :: l=>Js (ms.getD done.length 0) r 0 done&&xT ms (done++[r]) l
end Go.Ax
namespace Go.Ax
open Go.RowKit
structure br where
  conc:Nat→Option Nat
  cap:Nat→Nat
  len:Nat→Nat
  live:Nat→Prop
  ok:Nat→Prop
def LF:Value→Value→Value
  | .pointer (some a), .int _ i=>.pointer (some (a.add i.toNat))
  | _,_=>.pointer none
def qp (f:Nat) (vs:List Value):Value:=bif Nat.blt f 1000000000 then .func (.func f) #[] vs.toArray else match vs with | [a,i,_]=>LF a i | vs=>.iface (f - 1000000000) (vs.headD undef)
theorem yA {f:Nat} (h:Nat.blt f 1000000000 = true) (vs:List Value):qp f vs = .func (.func f) #[] vs.toArray:=by unfold qp; rw [h]; rfl
theorem V3 (f:Nat) (vs:List Value):(qp f vs).oneCell' = true:=by
  unfold qp
  cases Nat.blt f 1000000000 with
  | true=>rfl
  | false =>
    rw [cond_false]
    split
    · unfold LF; split <;> rfl
    · rfl
theorem KA {f:Nat} (h:Nat.ble 1000000000 f = true) (a i n:Value):qp f [a,i,n] = LF a i:=by
  unfold qp
  have:Nat.blt f 1000000000 = false:=by
    cases h2:Nat.blt f 1000000000 with
    | false=>rfl
    | true=>rw [Nat.blt_eq] at h2; rw [Nat.ble_eq] at h; omega
  rw [this]; rfl
def JI (b:Bool) (us:List Value):Value:=bif b then .tuple (.bool true :: us).toArray else .tuple #[.bool false]
inductive cx (ok:Nat→Prop) (w:World):Value→D→Prop
  | unk (v:Value):cx ok w v .unk
  | nil:cx ok w (.slice none 0 0) .nil
  | lit (v:Value):cx ok w v (.lit v)
  | opt (b:Bool) (us:List Value):cx ok w (JI b us) (.opt b us)
  | any (v:Value) (h1:v.oneCell' = true):cx ok w v .any
  | sl (a:Option Addr) (n c k:Nat) (el:Nat→List D) (u:Nat→Nat→Value)
      (hc:n≤c) (hm:c≤maxLen)
      (ha:0 < n→∃ ad,a = some ad∧ok ad.block∧∀ i j,i < n→j < k→w.cell? (ad.add (i*k+j)) = some (u i j))
      (ho:∀ i j,i < n→j < k→(u i j).oneCell' = true)
      (hl:∀ i,i < n→(el i).length = k)
      (hu:∀ i j d,i < n→(el i)[j]? = some d→cx ok w (u i j) d):cx ok w (.slice a n c) (.sl k n el)
inductive aK (E:br) (w:World):Value→V→Prop
  | c (v:Value) (d:D) (h:cx E.ok w v d):aK E w v (.c d)
  | agg (vs:List Value) (ds:List V) (hl:vs.length = ds.length) (h:∀ (i:Nat) (v:Value) (d:V),vs[i]? = some v→ds[i]? = some d→aK E w v d):aK E w (.agg vs.toArray) (.agg ds)
  | tup (vs:List Value) (ds:List V) (hl:vs.length = ds.length) (h:∀ (i:Nat) (v:Value) (d:V),vs[i]? = some v→ds[i]? = some d→aK E w v d):aK E w (.tuple vs.toArray) (.tup ds)
  | ptr (o k i j b:Nat) (hn:E.live o) (hb:E.conc o = some b) (hi:i < E.len o):aK E w (.pointer (some ⟨b,i*k+j,none⟩)) (.ptr o k i j)
  | row (o k off n:Nat) (a:Option Addr) (c:Nat) (hn:E.live o) (hc:n≤c) (hm:c≤maxLen) (hl:off+n≤E.len o)
      (ha:0 < n→∃ b,E.conc o = some b∧a = some ⟨b,off*k,none⟩)
      (h0:off = 0→(a = none∧c = 0∧E.conc o = none)∨∃ b,E.conc o = some b∧a = some ⟨b,0,none⟩∧c = E.cap o):aK E w (.slice a n c) (.row o k off n)
  | dptr (k:Nat) (cs:List D) (j:Nat) (ad:Addr) (u:Nat→Value) (hok:E.ok ad.block)
      (hcell:∀ i,i < k→w.cell? (ad.add i) = some (u i)) (hl:cs.length = k) (hu:∀ i d,cs[i]? = some d→cx E.ok w (u i) d):aK E w (.pointer (some (ad.add j))) (.dptr k cs j)
  | fn (f:FuncId) (vs:List Value) (ds:List V) (hl:vs.length = ds.length) (h:∀ (i:Nat) (v:Value) (d:V),vs[i]? = some v→ds[i]? = some d→aK E w v d):aK E w (qp f vs) (.fn f ds)
def cq (E:br) (w:World) (vs:List Value) (ds:List V):Prop :=
  vs.length = ds.length∧∀ (i:Nat) (v:Value) (d:V),vs[i]? = some v→ds[i]? = some d→aK E w v d
def ly (E:br) (w:World) (o:Nat):Ob→Prop
  | .box cs=>E.len o = 1∧∃ b C t,E.conc o = some b∧w.heap[b]? = some (.cells C t (0,0))∧cq E w C.toList cs
  | .raw x=>E.len o = 1∧∃ b,E.conc o = some b∧w.heap[b]? = some x
  | .row t k n el=>E.len o = n∧((E.conc o = none∧n = 0) ∨
      ∃ b C,E.conc o = some b∧w.heap[b]? = some (.cells C t (0,0))∧C.size = E.cap o*k∧n≤E.cap o∧E.cap o≤maxLen ∧
        (∀ i,i < n→(el i).length = k)∧(∀ i j u,i < n→j < k→C[i*k+j]? = some u→u.oneCell' = true)∧∀ i j d u,i < n→(el i)[j]? = some d→C[i*k+j]? = some u→cx E.ok w u d)
structure bG (E:br) (w:World) (H:am):Prop where
  at_:∀ o ob,H.get o = some ob→E.live o∧ly E w o ob
  inj:∀ o o' b,E.live o→E.live o'→E.conc o = some b→E.conc o' = some b→o = o'
  sep:∀ o b,E.live o→E.conc o = some b→¬ E.ok b
  lt:∀ o b,E.live o→E.conc o = some b→b < w.heap.size
  oklt:∀ b,E.ok b→b < w.heap.size
theorem lu {w:World} {b:Nat} {x:Obj} (h:w.heap[b]? = some x):b < w.heap.size:=(Array.getElem?_eq_some_iff.1 h).1
theorem tC (a:Addr) (i j:Nat):(a.add i).add j = a.add (i+j):=by
  unfold Addr.add
  by_cases hi:i = 0 <;> by_cases hj:j = 0 <;> simp [hi,hj,Nat.add_assoc]
theorem oA (a:Addr) (n:Nat):(a.add n).block = a.block:=by unfold Addr.add; split <;> rfl
theorem dS (b o n:Nat):(Addr.add ⟨b,o,none⟩ n) = ⟨b,o+n,none⟩:=by
  unfold Addr.add; split
  · next h=>subst h; rfl
  · rfl
structure gz (E:br) (w:World) (kl:List Nat) (E':br) (w':World):Prop where
  os:w'.os = w.os
  tape:w'.tape = w.tape
  output:w'.output = w.output
  size:w.heap.size≤w'.heap.size
  live:∀ o,E.live o→E'.live o
  blk:∀ b,b < w.heap.size→(∀ o,E.live o→E.conc o≠some b)→w'.heap[b]? = w.heap[b]?
  ok:∀ b,E.ok b→E'.ok b
  okold:∀ b,E'.ok b→E.ok b∨w.heap.size≤b∨∃ o,E.live o∧E.conc o = some b
  conc:∀ o,E.live o→o ∉ kl→E'.conc o = E.conc o∧E'.cap o = E.cap o∧E'.len o = E.len o
  concnew:∀ o b,E'.live o→E'.conc o = some b→(∃ q,E.live q∧E.conc q = some b)∨w.heap.size≤b
theorem sM {w w':World} {a:Addr} (h:w'.heap[a.block]? = w.heap[a.block]?):w'.cell? a = w.cell? a:=by simp [World.cell?,h]
theorem cx.mono {ok ok':Nat→Prop} {w w':World} (hok:∀ b,ok b→ok' b) (hw:∀ b,ok b→w'.heap[b]? = w.heap[b]?) {v:Value} {d:D} (h:cx ok w v d):cx ok' w' v d:=by
  induction h with
  | unk v=>exact .unk v
  | nil=>exact .nil
  | lit v=>exact .lit v
  | opt b us=>exact .opt b us
  | any v h1=>exact .any v h1
  | sl a n c k el u hc hm ha ho hl hu ih =>
    refine .sl a n c k el u hc hm (fun hn=>?_) ho hl ih
    obtain ⟨ad,h1,h2,h3⟩:=ha hn
    exact ⟨ad,h1,hok _ h2,fun i j hi hj=>(sM (by rw [oA]; exact hw _ h2)).trans (h3 i j hi hj)⟩
theorem lv (o:Nat):∀ vs:List V,(V.kills o vs).length = vs.length
  | []=>rfl
  | _ :: r=>by simp [V.kills,lv o r]
theorem qX (o:Nat):∀ (vs:List V) (i:Nat),(V.kills o vs)[i]? = (vs[i]?).map (V.kill o)
  | [],i=>by simp [V.kills]
  | v :: r,0=>by simp [V.kills]
  | v :: r,i+1=>by simp [V.kills,qX o r i]
def V.killAll:List Nat→V→V
  | [],v=>v
  | o :: r,v=>V.killAll r (v.kill o)
theorem aK.kill1 {E:br} {w:World} (o:Nat) {v:Value} {d:V} (h:aK E w v d):aK E w v (d.kill o):=by
  induction h with
  | c v d h=>exact .c v d h
  | agg vs ds hl h ih =>
    rw [V.kill]
    refine .agg _ _ (by rw [lv,hl]) fun i v d hv hd=>?_
    rw [qX] at hd
    cases hx:ds[i]? with
    | none=>rw [hx] at hd; cases hd
    | some x=>rw [hx] at hd; cases hd; exact ih i v x hv hx
  | tup vs ds hl h ih =>
    rw [V.kill]
    refine .tup _ _ (by rw [lv,hl]) fun i v d hv hd=>?_
    rw [qX] at hd
    cases hx:ds[i]? with
    | none=>rw [hx] at hd; cases hd
    | some x=>rw [hx] at hd; cases hd; exact ih i v x hv hx
  | ptr o' k i j b hn hb hi =>
    rw [V.kill]
    cases Nat.beq o' o
    · exact .ptr o' k i j b hn hb hi
    · exact .c _ _ (.unk _)
  | row o' k off n a c hn hc hm hl ha h0 =>
    rw [V.kill]
    cases Nat.beq o' o
    · exact .row o' k off n a c hn hc hm hl ha h0
    · exact .c _ _ (.unk _)
  | dptr k cs j ad u hok hcell hl hu=>exact .dptr k cs j ad u hok hcell hl hu
  | fn f vs ds hl h ih =>
    rw [V.kill]
    refine .fn _ _ _ (by rw [lv,hl]) fun i v d hv hd=>?_
    rw [qX] at hd
    cases hx:ds[i]? with
    | none=>rw [hx] at hd; cases hd
    | some x=>rw [hx] at hd; cases hd; exact ih i v x hv hx
theorem aK.killAll {E:br} {w:World} {v:Value}:∀ (kl:List Nat) {d:V},aK E w v d→aK E w v (d.killAll kl)
  | [],_,h=>h
  | o :: r,_,h=>aK.killAll r (h.kill1 o)
def Ty (kl:List Nat) (d:V):Prop:=∀ o∈d.refs,o ∉ kl
theorem dx {o:Nat}:∀ {vs:List V} {i:Nat} {v:V},vs[i]? = some v→o∈v.refs→o∈V.refss vs
  | [],i,v,h,_=>by simp at h
  | x :: r,0,v,h,ho=>by simp at h; subst h; simp [V.refss,ho]
  | x :: r,i+1,v,h,ho=>by
    simp only [V.refss,List.mem_append]
    exact .inr (dx (by simpa using h) ho)
theorem aK.mono {E E':br} {w w':World} {kl:List Nat} (hok:∀ b,E.ok b→E'.ok b) (hw:∀ b,E.ok b→w'.heap[b]? = w.heap[b]?) (hlive:∀ o,E.live o→E'.live o)
    (hc:∀ o,E.live o→o ∉ kl→E'.conc o = E.conc o∧E'.cap o = E.cap o∧E'.len o = E.len o) {v:Value} {d:V} (h:aK E w v d) (hd:Ty kl d):aK E' w' v d:=by
  induction h with
  | c v d h=>exact .c v d (h.mono hok hw)
  | agg vs ds hl h ih=>exact .agg _ _ hl fun i v d hv hd'=>ih i v d hv hd' fun o ho=>hd o (by rw [V.refs]; exact dx hd' ho)
  | tup vs ds hl h ih=>exact .tup _ _ hl fun i v d hv hd'=>ih i v d hv hd' fun o ho=>hd o (by rw [V.refs]; exact dx hd' ho)
  | ptr o k i j b hn hb hi =>
    obtain ⟨h1,_,h3⟩:=hc o hn (hd o (by simp [V.refs]))
    exact .ptr o k i j b (hlive o hn) (h1.trans hb) (by rw [h3]; exact hi)
  | row o k off n a c hn hcc hm hl ha h0 =>
    obtain ⟨h1,h2,h3⟩:=hc o hn (hd o (by simp [V.refs]))
    refine .row o k off n a c (hlive o hn) hcc hm (by rw [h3]; exact hl) (by rw [h1]; exact ha) (by rw [h1,h2]; exact h0)
  | dptr k cs j ad u hok' hcell hl hu =>
    exact .dptr k cs j ad u (hok _ hok') (fun i hi=>(sM (by rw [oA]; exact hw _ hok')).trans (hcell i hi)) hl fun i d hd'=>(hu i d hd').mono hok hw
  | fn f vs ds hl h ih=>exact .fn _ _ _ hl fun i v d hv hd'=>ih i v d hv hd' fun o ho=>hd o (by rw [V.refs]; exact dx hd' ho)
mutual
theorem kill_refs (o:Nat):∀ d:V, ∀ x∈(d.kill o).refs,x∈d.refs∧x≠o
  | .c _=>by simp [V.kill,V.refs]
  | .agg vs=>by simp only [V.kill,V.refs]; exact kills_refs o vs
  | .tup vs=>by simp only [V.kill,V.refs]; exact kills_refs o vs
  | .ptr o' k i j=>by
    intro x hx
    rw [V.kill] at hx
    cases h:Nat.beq o' o
    · rw [h] at hx
      simp [V.refs] at hx ⊢
      subst hx
      exact ⟨rfl,fun e=>by subst e; simp at h⟩
    · rw [h] at hx; simp [V.refs] at hx
  | .row o' k i j=>by
    intro x hx
    rw [V.kill] at hx
    cases h:Nat.beq o' o
    · rw [h] at hx
      simp [V.refs] at hx ⊢
      subst hx
      exact ⟨rfl,fun e=>by subst e; simp at h⟩
    · rw [h] at hx; simp [V.refs] at hx
  | .dptr ..=>by simp [V.kill,V.refs]
  | .fn _ vs=>by simp only [V.kill,V.refs]; exact kills_refs o vs
theorem kills_refs (o:Nat):∀ vs:List V, ∀ x∈V.refss (V.kills o vs),x∈V.refss vs∧x≠o
  | []=>by simp [V.kills,V.refss]
  | v :: r=>by
    intro x hx
    simp only [V.kills,V.refss,List.mem_append] at hx ⊢
    rcases hx with hx | hx
    · exact ⟨.inl (kill_refs o v x hx).1,(kill_refs o v x hx).2⟩
    · exact ⟨.inr (kills_refs o r x hx).1,(kills_refs o r x hx).2⟩
end
theorem EZ:∀ (kl:List Nat) (d:V),(∀ x∈(d.killAll kl).refs,x∈d.refs)∧Ty kl (d.killAll kl)
  | [],d=>⟨fun _ h=>h,fun _ _=>by simp⟩
  | o :: r,d=>by
    obtain ⟨h1,h2⟩:=EZ r (d.kill o)
    refine ⟨fun x hx=>(kill_refs o d x (h1 x hx)).1,fun x hx=>?_⟩
    have:=(kill_refs o d x (h1 x hx)).2
    simp [this,h2 x hx]
theorem aK.step {E E':br} {w w':World} {kl:List Nat} (H:gz E w kl E' w') (hsep:∀ o b,E.live o→E.conc o = some b→¬ E.ok b) (hlt:∀ b,E.ok b→b < w.heap.size)
    {v:Value} {d:V} (h:aK E w v d):aK E' w' v (d.killAll kl) :=
  (h.killAll kl).mono H.ok (fun b hb=>H.blk b (hlt b hb) fun o ho hc=>hsep o b ho hc hb) H.live H.conc (EZ kl d).2
end Go.Ax
namespace Go.Ax
open Go.RowKit
theorem aK.lit_inv {E:br} {w:World} {v u:Value} (h:aK E w v (.c (.lit u))):v = u:=by
  cases h with | c _ _ h=>cases h; rfl
theorem aK.nil_inv {E:br} {w:World} {v:Value} (h:aK E w v (.c .nil)):v = .slice none 0 0:=by
  cases h with | c _ _ h=>cases h; rfl
theorem aK.lit {E:br} {w:World} (v:Value):aK E w v (.c (.lit v)):=.c _ _ (.lit v)
theorem aK.unk {E:br} {w:World} (v:Value):aK E w v (.c .unk):=.c _ _ (.unk v)
theorem aK.agg_inv {E:br} {w:World} {v:Value} {ds:List V} (h:aK E w v (.agg ds)):∃ vs:List Value,v = .agg vs.toArray∧cq E w vs ds:=by
  cases h with | agg vs _ hl h=>exact ⟨vs,rfl,hl,h⟩
def zS (P:Program) (ρ:Operand→Value) (o:Oper) (E:br) (w:World) (d:V):Prop :=
  ∃ v,(execOp ρ o).run P w = .ok (.value v) w∧aK E w v d
section
variable {P:Program} {ρ:Operand→Value} {E:br} {w:World}
theorem SH {o:Oper} {x:Operand} (ho:o.op = .move x) {d:V} (h:aK E w (ρ x) d):zS P ρ o E w d :=
  ⟨ρ x,by simp [execOp,ho],h⟩
theorem O9 {o:Oper} {x:Operand} (ho:o.op = .assign x) {d:V} (h:aK E w (ρ x) d):zS P ρ o E w d :=
  ⟨ρ x,by simp [execOp,ho],h⟩
theorem Sk {op:BinOp} {k:IntKind} {a b:Int} {t:TypeId} {r:cM} (h:PQ op k a b = some r) (hp:∀ p∈r.pre,p) :
    ∃ u,r.val = .c (.lit u)∧r.eff = []∧r.kill = []∧(binOp op t (.int k a) (.int k b)).run P w = .ok u w:=by
  cases op <;> simp only [PQ,Option.some.injEq,reduceCtorEq] at h <;> subst h <;> refine ⟨_,rfl,rfl,rfl, ?_⟩ <;>
    first
      | (have hb:b≠0:=hp _ (List.mem_singleton.2 rfl); simp [binOp,Op.intDiv,hb]; done)
      | (simp [binOp,Op.intArith,Op.intCmp,Op.intBits]; done)
theorem FP {op:BinOp} {k k':IntKind} {a b:Int} {t:TypeId} {r:cM} (h:Dw op k a b = some r) (hp:∀ p∈r.pre,p) :
    ∃ u,r.val = .c (.lit u)∧r.eff = []∧r.kill = []∧(binOp op t (.int k a) (.int k' b)).run P w = .ok u w:=by
  cases op <;> simp only [Dw,Option.some.injEq,reduceCtorEq] at h <;> subst h <;> refine ⟨_,rfl,rfl,rfl, ?_⟩ <;>
    (have hb:0≤b:=hp _ (List.mem_singleton.2 rfl); have hb':¬ b < 0:=by omega
     simp [binOp,Op.shift,hb'])
theorem S1 {op:BinOp} {a b:ByteArray} {t:TypeId} {r:cM} (h:O3 op a b = some r) (hp:∀ p∈r.pre,p) :
    ∃ u,r.val = .c (.lit u)∧r.eff = []∧r.kill = []∧(binOp op t (.string a) (.string b)).run P w = .ok u w:=by
  cases op <;> simp only [O3,Option.some.injEq,reduceCtorEq] at h <;> subst h <;> refine ⟨_,rfl,rfl,rfl, ?_⟩ <;>
    first
      | (have hb:a.size+b.size≤9223372036854775807:=hp _ (List.mem_singleton.2 rfl)
         have hb':¬ (((a.size+b.size:Nat):Int) > IntKind.i64.max):=by
           have:IntKind.i64.max = 9223372036854775807:=by decide
           rw [this]; omega
         simp only [binOp,Op.stringOp]; rw [if_neg hb']; simp; done)
      | (simp [binOp,Op.stringOp]; done)
theorem yF {t:TypeId} (h:it P t = true):∃ d,P.underlying t = some d:=by
  unfold it eO sz at h
  cases hu:P.underlying t with
  | some d=>exact ⟨d,rfl⟩
  | none=>rw [hu] at h; simp at h
theorem M6 {t:TypeId} (h:it P t = true):(isAgg t).run P w = .ok (eO P t) w:=by
  obtain ⟨d,hd⟩:=yF h
  unfold isAgg eO
  simp only [Sem.run_bind,run_underlying hd,Result.andThen_ok,hd]
  cases d <;> simp
theorem MS {t:TypeId} {d:TypeDesc} (h:P.underlying t = some d):∃ i,P.info? t = some i:=by
  cases hi:P.info? t with
  | some i=>exact ⟨i,rfl⟩
  | none=>simp [Program.underlying,hi] at h
theorem SZ {t:TypeId} {d:TypeDesc} {i:TypeInfo} (h:P.underlying t = some d) (hi:P.info? t = some i):sz P t = i.size:=by simp [sz,h,hi]
theorem dn {t:TypeId} {d:TypeDesc} (h:P.underlying t = some d):(sizeOf t).run P w = .ok (sz P t) w:=by
  obtain ⟨i,hi⟩:=MS h
  simp [sizeOf,typeInfo,hi,SZ h hi]
theorem Fq (cs:Array Value) (a n:Nat):(cs.extract a (a+n)).toList = (cs.toList.drop a).take n:=by
  rw [Array.toList_extract,List.extract_eq_take_drop]; congr 1; omega
theorem cq.get {vs:List Value} {ds:List V} (h:cq E w vs ds) {i:Nat} {d:V} (hd:ds[i]? = some d):∃ v,vs[i]? = some v∧aK E w v d:=by
  have hl:i < vs.length:=by rw [h.1]; exact (List.getElem?_eq_some_iff.1 hd).1
  exact ⟨vs[i],List.getElem?_eq_getElem hl,h.2 i _ _ (List.getElem?_eq_getElem hl) hd⟩
theorem cq.take {vs:List Value} {ds:List V} (h:cq E w vs ds) (a n:Nat):cq E w ((vs.drop a).take n) ((ds.drop a).take n):=by
  refine ⟨by simp [h.1],fun i v d hv hd=>?_⟩
  rw [List.getElem?_take] at hv hd
  split at hv
  · next hi =>
    rw [if_pos hi] at hd
    rw [List.getElem?_drop] at hv hd
    exact h.2 _ _ _ hv hd
  · cases hv
theorem tK {t:TypeId} {cs:Array Value} {ds:List V} {off:Nat} (h:cq E w cs.toList ds) (ht:it P t = true) (hl:off+sz P t≤ds.length) :
    ∃ v,(part t cs off).run P w = .ok v w∧aK E w v (jj (eO P t) ds off (sz P t)):=by
  obtain ⟨d,hd⟩:=yF ht
  unfold part jj
  simp only [Sem.run_bind,M6 ht,Result.andThen_ok]
  cases hag:eO P t with
  | true =>
    simp only [if_true,Sem.run_bind,dn hd,Result.andThen_ok,Sem.run_pure,cond_true]
    refine ⟨_,rfl, ?_⟩
    have:=cq.take h off (sz P t)
    rw [← Fq] at this
    exact .agg _ _ this.1 this.2
  | false =>
    have hs:0 < sz P t:=by simp [it,hag] at ht; omega
    have hlt:off < ds.length:=by omega
    obtain ⟨v,hv,hr⟩:=h.get (List.getElem?_eq_getElem hlt)
    have hv':cs[off]? = some v:=by rw [← Array.getElem?_toList]; exact hv
    simp only [Bool.false_eq_true,if_false,hv',Sem.run_pure,cond_false]
    refine ⟨_,rfl, ?_⟩
    rw [List.drop_eq_getElem_cons hlt]
    exact hr
theorem RG:∀ (d m:Nat) (t:TypeId) (x y:V) (b:Bool) (vx vy:Value),PJ P d t x y = some b→aK E w vx x→aK E w vy y →
    (Op.equalIn (d+m) t vx vy).run P w = .ok b w:=by
  intro d
  induction d with
  | zero=>intro m t x y b vx vy h; simp [PJ] at h
  | succ d ih =>
    intro m t x y b vx vy h hx hy
    rw [show d+1+m = (d+m)+1 by omega]
    unfold PJ at h
    split at h
    · next hu =>
      cases hx.lit_inv; cases hy.lit_inv
      split at h
      · next hk=>subst hk; cases h; exact run_equalIn_int w _ t _ _ _ _ hu
      · cases h
    · next hu=>cases hx.lit_inv; cases hy.lit_inv; cases h; exact run_equalIn_bool' w _ t _ _ hu
    · next hu=>cases hx.lit_inv; cases hy.lit_inv; cases h; exact run_equalIn_string w _ t _ _ hu
    · next fs xs ys hu =>
      obtain ⟨us,rfl,hus⟩:=hx.agg_inv
      obtain ⟨zs,rfl,hzs⟩:=hy.agg_inv
      cases hst:P.stoodInHeld t with
      | true=>simp [hst] at h
      | false =>
        simp only [hst,cond_false] at h
        have hf:P.fieldsOf t = fs:=by simp [Program.fieldsOf,hu]
        rw [run_equalIn_struct w _ t _ _ (by rw [hf]; exact hu) hst,hf]
        generalize fs.toList = L at h
        clear hf hu
        induction L generalizing b with
        | nil=>simp at h; subst h; simp [Op.eqFields]
        | cons f L ihL =>
          rw [List.foldr_cons] at h
          cases hn:f.name == "_" with
          | true=>simp [hn] at h
          | false =>
            simp only [hn,cond_false] at h
            cases hc:(Nat.ble (f.offset+sz P f.type) xs.length&&Nat.ble (f.offset+sz P f.type) ys.length&&it P f.type) with
            | false=>simp [hc] at h
            | true =>
              simp only [hc,cond_true] at h
              simp only [Bool.and_eq_true,Nat.ble_eq] at hc
              split at h
              · next a c ha hr =>
                cases h
                obtain ⟨p,hp,rp⟩:=tK (cs:=us.toArray) (by simpa using hus) hc.2 hc.1.1
                obtain ⟨q,hq,rq⟩:=tK (cs:=zs.toArray) (by simpa using hzs) hc.2 hc.1.2
                have hne:f.name ≠ "_" := by simpa using hn
                have:=ih m f.type _ _ _ p q ha rp rq
                unfold Op.eqFields
                rw [if_pos hne]
                simp only [Sem.run_bind,hp,hq,this,Result.andThen_ok]
                cases a
                · simp
                · simp [ihL _ hr]
              · cases h
    · next len e xs ys hu =>
      obtain ⟨us,rfl,hus⟩:=hx.agg_inv
      obtain ⟨zs,rfl,hzs⟩:=hy.agg_inv
      cases hc:(Nat.ble (len*sz P e) xs.length&&Nat.ble (len*sz P e) ys.length&&it P e) with
      | false=>rw [hc] at h; cases h
      | true =>
        simp only [hc,cond_true] at h
        simp only [Bool.and_eq_true,Nat.ble_eq] at hc
        obtain ⟨de,hde⟩:=yF hc.2
        obtain ⟨i,hi⟩:=MS hde
        have hcells:P.cellsOf e = sz P e:=by rw [SZ hde hi]; simp [Program.cellsOf,hi]
        rw [run_equalIn_array w _ _ _ hu hi,hcells]
        have key:∀ (L:List Nat) (b:Bool),(∀ q∈L,q < len)→L.foldr (fun i acc =>
            match PJ P d e (jj (eO P e) xs (i*sz P e) (sz P e)) (jj (eO P e) ys (i*sz P e) (sz P e)),acc with
            | some a,some b=>some (a&&b)
            | _,_=>none) (some true) = some b→(Op.eqItems (d+m) e (sz P e) us.toArray zs.toArray L).run P w = .ok b w:=by
          intro L
          induction L with
          | nil=>intro b _ h; simp at h; subst h; simp [Op.eqItems]
          | cons j L ihL =>
            intro b hL h
            rw [List.foldr_cons] at h
            split at h
            · next a c ha hr =>
              cases h
              have hj:=hL j (by simp)
              have hle:j*sz P e+sz P e≤len*sz P e:=by
                have:=Nat.mul_le_mul_right (sz P e) (show j+1≤len from hj)
                rw [Nat.add_mul,Nat.one_mul] at this; exact this
              obtain ⟨p,hp,rp⟩:=tK (cs:=us.toArray) (by simpa using hus) hc.2 (Nat.le_trans hle hc.1.1)
              obtain ⟨q,hq,rq⟩:=tK (cs:=zs.toArray) (by simpa using hzs) hc.2 (Nat.le_trans hle hc.1.2)
              have:=ih m e _ _ _ p q ha rp rq
              unfold Op.eqItems
              simp only [Sem.run_bind,hp,hq,this,Result.andThen_ok]
              cases a
              · simp
              · simp [ihL _ (fun q hq=>hL q (by simp [hq])) hr]
            · cases h
        exact key _ _ (fun q hq=>List.mem_range.1 hq) h
    · cases h
end
end Go.Ax
namespace Go.Ax
open Go.RowKit
def m8 (P:Program) (ρ:Operand→Value) (o:Oper) (E:br) (w:World) (r:cM):Prop :=
  r.eff = []∧r.kill = []∧zS P ρ o E w r.val
section
variable {P:Program} {ρ:Operand→Value} {E:br} {w:World} {o:Oper} {r:cM}
def V9:Value→Bool
  | .int _ _=>true
  | .bool _=>true
  | .string _=>true
  | _=>false
theorem pE (op:BinOp) (t:TypeId) (x y:Operand) (a b:Value) (h:V9 a = true) :
    (eqGuard op t x y a b).run P w = .ok () w:=by
  cases a <;> simp [V9] at h <;> cases op <;> simp [eqGuard]
theorem KI (op:BinOp) (t:TypeId) (x y:Operand) (xs ys:Array Value) (h:P.eqGuardType P.depth t = false) :
    (eqGuard op t x y (.agg xs) (.agg ys)).run P w = .ok () w:=by
  cases op <;> simp [eqGuard,h]
theorem VV {op:BinOp} {t ty:TypeId} {x y:Operand} (ho:o.op = .binOp op t x y ty) {vx vy:V} (hx:aK E w (ρ x) vx) (hy:aK E w (ρ y) vy)
    (h:YC P op t vx vy = some r) (hp:∀ p∈r.pre,p):m8 P ρ o E w r:=by
  have key:∀ u,(eqGuard op t x y (ρ x) (ρ y)).run P w = .ok () w→(binOp op t (ρ x) (ρ y)).run P w = .ok u w→(execOp ρ o).run P w = .ok (.value u) w:=by
    intro u h1 h2
    simp only [execOp,ho,Sem.run_bind,h1,h2,Result.andThen_ok,Sem.run_pure]
  unfold YC at h
  split at h
  · next k a k' b =>
    have ex:=hx.lit_inv; have ey:=hy.lit_inv
    have hg:(eqGuard op t x y (ρ x) (ρ y)).run P w = .ok () w:=pE _ _ _ _ _ _ (by rw [ex]; rfl)
    have fin:(∃ u,r.val = .c (.lit u)∧r.eff = []∧r.kill = []∧(binOp op t (.int k a) (.int k' b)).run P w = .ok u w)→m8 P ρ o E w r:=by
      rintro ⟨u,h1,h2,h3,h4⟩
      rw [← ex, ← ey] at h4
      exact ⟨h2,h3,u,key u hg h4,by rw [h1]; exact .lit u⟩
    split at h
    · exact fin (FP h hp)
    · exact fin (FP h hp)
    · next op h1 h2 =>
      split at h
      · next hk=>subst hk; exact fin (Sk h hp)
      · cases h
  · next a b =>
    have ex:=hx.lit_inv; have ey:=hy.lit_inv
    have hg:(eqGuard op t x y (ρ x) (ρ y)).run P w = .ok () w:=pE _ _ _ _ _ _ (by rw [ex]; rfl)
    obtain ⟨u,h1,h2,h3,h4⟩:=S1 (P:=P) (w:=w) (t:=t) h hp
    rw [← ex, ← ey] at h4
    exact ⟨h2,h3,u,key u hg h4,by rw [h1]; exact .lit u⟩
  · next a b =>
    have ex:=hx.lit_inv; have ey:=hy.lit_inv
    have hg:(eqGuard op t x y (ρ x) (ρ y)).run P w = .ok () w:=pE _ _ _ _ _ _ (by rw [ex]; rfl)
    split at h
    · next hu =>
      cases h
      refine ⟨rfl,rfl,_,key _ hg ?_, .lit _⟩
      rw [ex,ey]
      simp [binOp,Op.equal,Op.maxDepth,run_equalIn_bool' w _ t _ _ hu]
    · next hu =>
      cases h
      refine ⟨rfl,rfl,_,key _ hg ?_, .lit _⟩
      rw [ex,ey]
      simp [binOp,Op.equal,Op.maxDepth,run_equalIn_bool' w _ t _ _ hu]
    · cases h
  · next xs ys =>
    obtain ⟨us,ex,hus⟩:=hx.agg_inv
    obtain ⟨zs,ey,hzs⟩:=hy.agg_inv
    cases hgt:P.eqGuardType P.depth t with
    | true=>simp [hgt] at h
    | false =>
      simp only [hgt,cond_false] at h
      have hg:(eqGuard op t x y (ρ x) (ρ y)).run P w = .ok () w:=by rw [ex,ey]; exact KI _ _ _ _ _ _ hgt
      split at h
      · next b hb =>
        cases h
        have:=RG (P:=P) (w:=w) 10 9990 t _ _ b _ _ hb hx hy
        refine ⟨rfl,rfl,_,key _ hg ?_, .lit _⟩
        rw [ex,ey] at this ⊢
        simp only [binOp,Op.equal,Op.maxDepth,Sem.run_bind]
        rw [show (10000:Nat) = 10+9990 from rfl,this]
        rfl
      · next b hb =>
        cases h
        have:=RG (P:=P) (w:=w) 10 9990 t _ _ b _ _ hb hx hy
        refine ⟨rfl,rfl,_,key _ hg ?_, .lit _⟩
        rw [ex,ey] at this ⊢
        simp only [binOp,Op.equal,Op.maxDepth,Sem.run_bind]
        rw [show (10000:Nat) = 10+9990 from rfl,this]
        rfl
      · cases h
  · cases h
theorem XR {op:UnOp} {t:TypeId} {x:Operand} (ho:o.op = .unOp op t x) {vx:V} (hx:aK E w (ρ x) vx) (h:unV op vx = some r):m8 P ρ o E w r:=by
  unfold unV at h
  split at h
  · cases h
    have ex:=hx.lit_inv
    exact ⟨rfl,rfl,_,by simp [execOp,ho,ex,Op.unary,Op.intArith], .lit _⟩
  · cases h
    have ex:=hx.lit_inv
    exact ⟨rfl,rfl,_,by simp [execOp,ho,ex,Op.unary], .lit _⟩
  · cases h
theorem Tp {s d:TypeId} {x:Operand} (ho:o.op = .convert s d x) {vx:V} (hx:aK E w (ρ x) vx) (h:SS P s d vx = some r):m8 P ρ o E w r:=by
  unfold SS at h
  split at h
  · next hs hd =>
    cases h
    have ex:=hx.lit_inv
    exact ⟨rfl,rfl,_,by simp [execOp,ho,ex,convert,run_underlying hs,run_underlying hd,Conv.intToInt], .lit _⟩
  · next hs hd =>
    cases h
    have ex:=hx.lit_inv
    exact ⟨rfl,rfl,_,by simp [execOp,ho,ex,convert,run_underlying hs,run_underlying hd], .lit _⟩
  · cases h
theorem Le {x:Operand} (ho:o.op = .nilCheck x) {vx:V} (hx:aK E w (ρ x) vx)
    (h:vE vx = some r):m8 P ρ o E w r:=by
  have hx':=hx
  generalize hv:ρ x = v at hx
  cases hx with
  | fn f vs ds hl hh =>
    cases hlt:Nat.blt f 1000000000 with
    | false=>simp [vE,hlt] at h
    | true =>
      simp only [vE,hlt,cond_true,Option.some.injEq] at h
      subst h
      rw [yA hlt] at hv
      exact ⟨rfl,rfl,ρ x,by simp [execOp,ho,hv],hx'⟩
  | _=>simp only [vE,Option.some.injEq,reduceCtorEq] at h <;> subst h <;> exact ⟨rfl,rfl,ρ x,by simp [execOp,ho,hv],hx'⟩
theorem EV {t:TypeId} {f off:Nat} {ft:TypeId} (h:Ed P t f = some (off,ft)):∃ fs fl,P.underlying t = some (.struct fs)∧fs[f]? = some fl∧fl.offset = off∧fl.type = ft:=by
  unfold Ed at h
  split at h
  · next fs hu =>
    split at h
    · next fl hf=>cases h; exact ⟨fs,fl,hu,hf,rfl,rfl⟩
    · cases h
  · cases h
theorem Oh {t:TypeId} (h:sz P t≠0):∃ d,P.underlying t = some d:=by
  cases hu:P.underlying t with
  | some d=>exact ⟨d,rfl⟩
  | none=>simp [sz,hu] at h
theorem Km {t:TypeId} {x:Operand} {f:Nat} (ho:o.op = .fieldAddr t x f) {vx:V} (hx:aK E w (ρ x) vx)
    (h:DE P t f vx = some r):m8 P ρ o E w r:=by
  unfold DE at h
  split at h
  · next off ft hf =>
    obtain ⟨fs,fl,hu,hfl,rfl,rfl⟩:=EV hf
    cases hs:Nat.beq (sz P fl.type) 0 with
    | true=>simp [hs] at h
    | false =>
      simp only [hs,cond_false] at h
      have hs':sz P fl.type≠0:=fun e=>by rw [e] at hs; simp at hs
      obtain ⟨d,hd⟩:=Oh hs'
      have key:∀ a:Addr,ρ x = .pointer (some a)→(execOp ρ o).run P w = .ok (.value (.pointer (some (a.add fl.offset)))) w:=by
        intro a ha
        simp [execOp,ho,ha,Instr.fieldAt,run_underlying hu,hfl,Instr.sureAddr,fieldPlace,dn hd,hs']
      generalize hv:ρ x = v at hx
      cases hx <;> simp only [Option.some.injEq,reduceCtorEq] at h <;> subst h
      · next o' k i j b hn hb hi =>
        refine ⟨rfl,rfl,_,key _ hv, ?_⟩
        rw [dS,Nat.add_assoc]
        exact .ptr o' k i _ b hn hb hi
      · next k cs j ad u hok hcell hl hu' =>
        refine ⟨rfl,rfl,_,key _ hv, ?_⟩
        rw [tC]
        exact .dptr k cs _ ad u hok hcell hl hu'
  · cases h
theorem QH {t:TypeId} {x:Operand} {f:Nat} (ho:o.op = .field t x f) {vx:V} (hx:aK E w (ρ x) vx) (h:OM P t f vx = some r):m8 P ρ o E w r:=by
  unfold OM at h
  split at h
  · next cs off ft hf =>
    obtain ⟨fs,fl,hu,hfl,rfl,rfl⟩:=EV hf
    cases hc:(Nat.ble (fl.offset+sz P fl.type) cs.length&&it P fl.type) with
    | false=>simp [hc] at h
    | true =>
      simp only [hc,cond_true] at h
      cases h
      simp only [Bool.and_eq_true,Nat.ble_eq] at hc
      obtain ⟨us,ex,hus⟩:=hx.agg_inv
      obtain ⟨v,hv,rv⟩:=tK (P:=P) (cs:=us.toArray) (by simpa using hus) hc.2 hc.1
      exact ⟨rfl,rfl,v,by simp [execOp,ho,ex,Instr.field,run_underlying hu,hfl,asAgg,hv],rv⟩
  · cases h
theorem Nx {x:Operand} {ix:Nat} (ho:o.op = .extract x ix) {vx:V} (hx:aK E w (ρ x) vx) (hr:IF ix vx = some r) (hp:∀ p∈r.pre,p):m8 P ρ o E w r:=by
  unfold IF at hr
  split at hr
  · next vs =>
    split at hr
    · next d hd =>
      cases hr
      generalize hv:ρ x = v at hx
      cases hx with
      | tup us _ hl' h =>
        obtain ⟨u,hu,ru⟩:=cq.get ⟨hl',h⟩ hd
        exact ⟨rfl,rfl,u,by simp [execOp,ho,hv,Instr.extract,hu],ru⟩
    · cases hr
  · next b us =>
    generalize hv:ρ x = v at hx
    cases hx with
    | c _ _ hx =>
    cases hx
    split at hr
    · cases hr
      refine ⟨rfl,rfl, .bool b, ?_, .lit _⟩
      cases b <;> simp [execOp,ho,hv,JI,Instr.extract]
    · next i =>
      split at hr
      · next u hu =>
        cases hr
        have hb:b = true:=hp _ (by simp)
        subst hb
        refine ⟨rfl,rfl,u, ?_, .lit _⟩
        simp [execOp,ho,hv,JI,Instr.extract,hu]
      · cases hr
  · cases hr
theorem Mc {f:FuncId} {first caps:Array Operand} (ho:o.op = .makeFunc (.func f) first caps) (hf:first.isEmpty = true) (hlt:Nat.blt f 1000000000 = true) {vs:List V}
    (hv:cq E w (caps.toList.map ρ) vs):zS P ρ o E w (.fn f vs):=by
  have h0:first = #[]:=by simpa using hf
  refine ⟨.func (.func f) #[] (caps.map ρ),by simp [execOp,ho,Instr.makeFunc,h0], ?_⟩
  have:caps.map ρ = (caps.toList.map ρ).toArray:=by rw [← Array.toList_map,Array.toArray_toList]
  rw [this, ← yA hlt]
  exact .fn f _ _ hv.1 hv.2
theorem Fw {t e:TypeId} {x:Operand} (ho:o.op = .makeInterface t x) (hu:P.underlying t = some (.slice e)) {v:V} (hv:aK E w (ρ x) v):zS P ρ o E w (.fn (1000000000+t) [v]):=by
  refine ⟨.iface t (ρ x),by simp [execOp,ho,Instr.makeInterface,run_underlying hu], ?_⟩
  have e:qp (1000000000+t) [ρ x] = .iface t (ρ x):=by
    unfold qp
    have:Nat.blt (1000000000+t) 1000000000 = false:=by
      cases h:Nat.blt (1000000000+t) 1000000000 with
      | false=>rfl
      | true=>rw [Nat.blt_eq] at h; omega
    rw [this,cond_false,Nat.add_sub_cancel_left]
    rfl
  rw [← e]
  refine .fn (1000000000+t) [ρ x] [v] rfl fun i u d hu hd=>?_
  match i with
  | 0=>simp at hu hd; subst hu hd; exact hv
  | i+1=>simp at hu
theorem Wb {c:Call} (ho:o.op = .call c) (hc:c.callee = .builtin .len) {x:Operand} (ha:c.args = #[x]) {t:TypeId} {d:TypeDesc} (ht:c.argTypes[0]? = some t) (hu:P.underlying t = some d)
    {vx:V} (hx:aK E w (ρ x) vx) (h:Sq P t vx = some r):m8 P ρ o E w r:=by
  have key:∀ n:Int,(Builtin.len_ c.argTypes o.type #[ρ x]).run P w = .ok (.int .i64 n) w→(execOp ρ o).run P w = .ok (.value (.int .i64 n)) w:=by
    intro n hn
    simp [execOp,ho,resolve,hc,ha,invoke,builtin,hn]
  unfold Sq at h
  split at h
  · next hu' =>
    cases h
    have ex:=hx.nil_inv
    refine ⟨rfl,rfl,_,key 0 ?_, .lit _⟩
    simp [Builtin.len_,ht,run_underlying hu',ex,goInt]
  · next k n el hu' =>
    cases h
    generalize hv:ρ x = v at hx key
    cases hx with
    | c _ _ h =>
      cases h
      refine ⟨rfl,rfl,_,key _ ?_, .lit _⟩
      simp [Builtin.len_,ht,run_underlying hu',goInt]
  · next hu' =>
    cases h
    generalize hv:ρ x = v at hx key
    cases hx
    refine ⟨rfl,rfl,_,key _ ?_, .lit _⟩
    simp [Builtin.len_,ht,run_underlying hu',goInt]
  · next s hu' =>
    cases h
    have ex:=hx.lit_inv
    refine ⟨rfl,rfl,_,key _ ?_, .lit _⟩
    simp [Builtin.len_,ht,run_underlying hu',ex,goInt]
  · cases h
theorem Iu:∀ (vs:List Value) (ds:List V) (x:Value) (d:V) (m:V),cq E w vs ds→aK E w x d→ds.foldlM Lw d = some m→(∃ u,(vs.foldlM Builtin.min2 x).run P w = .ok u w∧aK E w u m)
  | [],ds,x,d,m,h,hx,hm=>by
    have:ds = []:=List.eq_nil_of_length_eq_zero h.1.symm
    subst this
    simp at hm
    subst hm
    exact ⟨x,by simp,hx⟩
  | v :: vs,[],x,d,m,h,hx,hm=>by have:=h.1; simp at this
  | v :: vs,e :: ds,x,d,m,h,hx,hm=>by
    have hv:=h.2 0 v e rfl rfl
    have ht:cq E w vs ds:=⟨by have:=h.1; simpa using this,fun i v d a b=>h.2 (i+1) v d a b⟩
    simp only [List.foldlM_cons,Option.bind_eq_bind,Option.bind_eq_some_iff] at hm
    obtain ⟨a,ha,hm⟩:=hm
    unfold Lw at ha
    split at ha
    · cases ha
      cases hx.lit_inv; cases hv.lit_inv
      obtain ⟨u,hu,ru⟩:=Iu vs ds _ _ m ht (.lit _) hm
      exact ⟨u,by simpa [List.foldlM_cons,Builtin.min2] using hu,ru⟩
    · cases ha
theorem Im:∀ (vs:List Value) (ds:List V) (x:Value) (d:V) (m:V),cq E w vs ds→aK E w x d→ds.foldlM L7 d = some m→(∃ u,(vs.foldlM Builtin.max2 x).run P w = .ok u w∧aK E w u m)
  | [],ds,x,d,m,h,hx,hm=>by
    have:ds = []:=List.eq_nil_of_length_eq_zero h.1.symm
    subst this
    simp at hm
    subst hm
    exact ⟨x,by simp,hx⟩
  | v :: vs,[],x,d,m,h,hx,hm=>by have:=h.1; simp at this
  | v :: vs,e :: ds,x,d,m,h,hx,hm=>by
    have hv:=h.2 0 v e rfl rfl
    have ht:cq E w vs ds:=⟨by have:=h.1; simpa using this,fun i v d a b=>h.2 (i+1) v d a b⟩
    simp only [List.foldlM_cons,Option.bind_eq_bind,Option.bind_eq_some_iff] at hm
    obtain ⟨a,ha,hm⟩:=hm
    unfold L7 at ha
    split at ha
    · cases ha
      cases hx.lit_inv; cases hv.lit_inv
      obtain ⟨u,hu,ru⟩:=Im vs ds _ _ m ht (.lit _) hm
      exact ⟨u,by simpa [List.foldlM_cons,Builtin.max2] using hu,ru⟩
    · cases ha
theorem WJ {c:Call} (ho:o.op = .call c) (hc:c.callee = .builtin .min) {vs:List V} (hx:cq E w (c.args.toList.map ρ) vs) {m:V} (h:Ue vs = some m):zS P ρ o E w m:=by
  unfold Ue at h
  split at h
  · cases h
  · next d ds =>
    cases ha:c.args.toList with
    | nil=>rw [ha] at hx; have:=hx.1; simp at this
    | cons x xs =>
      rw [ha] at hx
      obtain ⟨u,hu,ru⟩:=Iu (P:=P) (xs.map ρ) ds (ρ x) d m ⟨by have:=hx.1; simpa using this,fun i v d a b=>hx.2 (i+1) v d (by simpa using a) (by simpa using b)⟩ (hx.2 0 _ _ rfl rfl) h
      refine ⟨u, ?_,ru⟩
      have:(c.args.map ρ).toList = ρ x :: xs.map ρ:=by rw [Array.toList_map,ha]; rfl
      simp only [execOp,ho,resolve,hc,invoke,builtin,Builtin.min_,this,Sem.run_bind,Sem.run_pure,Result.andThen_ok,hu]
theorem UY {c:Call} (ho:o.op = .call c) (hc:c.callee = .builtin .max) {vs:List V} (hx:cq E w (c.args.toList.map ρ) vs) {m:V} (h:Uc vs = some m):zS P ρ o E w m:=by
  unfold Uc at h
  split at h
  · cases h
  · next d ds =>
    cases ha:c.args.toList with
    | nil=>rw [ha] at hx; have:=hx.1; simp at this
    | cons x xs =>
      rw [ha] at hx
      obtain ⟨u,hu,ru⟩:=Im (P:=P) (xs.map ρ) ds (ρ x) d m ⟨by have:=hx.1; simpa using this,fun i v d a b=>hx.2 (i+1) v d (by simpa using a) (by simpa using b)⟩ (hx.2 0 _ _ rfl rfl) h
      refine ⟨u, ?_,ru⟩
      have:(c.args.map ρ).toList = ρ x :: xs.map ρ:=by rw [Array.toList_map,ha]; rfl
      simp only [execOp,ho,resolve,hc,invoke,builtin,Builtin.max_,this,Sem.run_bind,Sem.run_pure,Result.andThen_ok,hu]
end
end Go.Ax
namespace Go.Ax
open Go.RowKit
section
variable {P:Program} {ρ:Operand→Value} {E:br} {w:World} {o:Oper} {r:cM}
theorem cq.nil:cq E w [] []:=⟨rfl,fun i v d h=>by simp at h⟩
structure ai5 (lo hi:Option Value) (l h:Int) (n:Int):Prop where
  lo:(∃ k,lo = some (.int k l))∨(lo = none∧l = 0)
  hi:(∃ k,hi = some (.int k h))∨(hi = none∧h = n)
theorem Ke {v:Value} {d:V} {n:Int} (h:KY d = some n) (hr:aK E w v d):∃ k,v = .int k n:=by
  unfold KY at h
  split at h
  · cases h; exact ⟨_,hr.lit_inv⟩
  · cases h
theorem Hw {lo hi:Option Operand} {dlo dhi:Option V} {l h n:Int} (hl:Vz dlo = some l) (hh:WH n dhi = some h)
    (rl:∀ x,lo = some x→∃ d,dlo = some d∧aK E w (ρ x) d) (nl:lo = none→dlo = none) (rh:∀ x,hi = some x→∃ d,dhi = some d∧aK E w (ρ x) d) (nh:hi = none→dhi = none) :
    ai5 (lo.map ρ) (hi.map ρ) l h n:=by
  constructor
  · cases lo with
    | none=>rw [nl rfl] at hl; cases hl; exact .inr ⟨rfl,rfl⟩
    | some x =>
      obtain ⟨d,rfl,hr⟩:=rl x rfl
      obtain ⟨k,hk⟩:=Ke hl hr
      exact .inl ⟨k,by simp [hk]⟩
  · cases hi with
    | none=>rw [nh rfl] at hh; cases hh; exact .inr ⟨rfl,rfl⟩
    | some x =>
      obtain ⟨d,rfl,hr⟩:=rh x rfl
      obtain ⟨k,hk⟩:=Ke hh hr
      exact .inl ⟨k,by simp [hk]⟩
theorem xw {isSlice:Bool} {n cap:Nat} {lo hi:Option Value} {l h:Int} (hb:ai5 lo hi l h n) (h0:0≤l) (h1:l≤h) (h2:h≤n) (hc:n≤cap) :
    (Instr.sliceBounds isSlice n cap lo hi none).run P w = .ok (l.toNat,h.toNat,cap) w:=by
  unfold Instr.sliceBounds
  rcases hb.lo with ⟨k,rfl⟩ | ⟨rfl,rfl⟩ <;> rcases hb.hi with ⟨k',rfl⟩ | ⟨rfl,rfl⟩
  · simp only [Sem.run_bind,Sem.run_pure,Result.andThen_ok,run_sliceBound w k' h cap _ (by omega) (by omega),run_sliceBound w k l h.toNat _ h0 (by omega)]
  · simp only [Sem.run_bind,Sem.run_pure,Result.andThen_ok,run_sliceBound w k l n _ h0 (by omega)]; simp
  · simp only [Sem.run_bind,Sem.run_pure,Result.andThen_ok,run_sliceBound w k' h cap _ (by omega) (by omega)]; simp
  · simp
theorem vg {t:TypeId} {x:Operand} {lo hi:Option Operand} (ho:o.op = .slice t x lo hi none) {vx:V} {dlo dhi:Option V} (hx:aK E w (ρ x) vx)
    (rl:∀ x,lo = some x→∃ d,dlo = some d∧aK E w (ρ x) d) (nl:lo = none→dlo = none) (rh:∀ x,hi = some x→∃ d,dhi = some d∧aK E w (ρ x) d) (nh:hi = none→dhi = none)
    (h:C1 P t vx dlo dhi = some r) (hp:∀ p∈r.pre,p):m8 P ρ o E w r:=by
  have key:∀ v,(Instr.slice t (ρ x) (lo.map ρ) (hi.map ρ) none).run P w = .ok v w→(∀ n e,P.underlying t≠some (.array n e))→(∃ d,P.underlying t = some d)→(execOp ρ o).run P w = .ok (.value v) w:=by
    intro v hv hna ⟨d,hd⟩
    have:(Instr.sliceAt t (ρ x) (lo.map ρ) (hi.map ρ) none).run P w = .ok v w:=by
      unfold Instr.sliceAt
      simp only [Sem.run_bind,run_underlying hd,Result.andThen_ok]
      cases d <;> first | exact (hna _ _ hd).elim | exact hv
    simp [execOp,ho,this]
  unfold C1 at h
  split at h
  · next e hu =>
    split at h
    · next d l hh he h1 h2 =>
      cases h
      have p1:l = 0:=hp _ (by simp)
      have p2:hh = 0:=hp _ (by simp)
      subst p1; subst p2
      have hb:=Hw (n:=((0:Nat):Int)) h1 h2 rl nl rh nh
      refine ⟨rfl,rfl, .slice none 0 0,key _ ?_ (by rw [hu]; simp) ⟨_,hu⟩, .c _ _ .nil⟩
      rw [hx.nil_inv]
      simp [Instr.slice,run_underlying hu,xw (P:=P) (w:=w) (isSlice:=true) hb (by omega) (by omega) (by omega) (Nat.le_refl 0),dn he]
    · cases h
  · next e k n el hu =>
    cases hs:Nat.beq (sz P e) k with
    | false=>simp [hs] at h
    | true =>
      have hs':sz P e = k:=by simpa using hs
      simp only [hs,cond_true] at h
      split at h
      · next d l hh he h1 h2 =>
        cases h
        have p1:0≤l:=hp _ (by simp)
        have p2:l≤hh:=hp _ (by simp)
        have p3:hh≤(n:Int):=hp _ (by simp)
        have hb:=Hw h1 h2 rl nl rh nh
        generalize hv:ρ x = v at hx key
        cases hx with
        | c _ _ hx =>
          cases hx with
          | sl a _ c _ _ u hc hm ha hone hl hu' =>
            refine ⟨rfl,rfl, .slice (if c = l.toNat then a else a.map (·.add (l.toNat*k))) (hh.toNat - l.toNat) (c - l.toNat),key _ ?_ (by rw [hu]; simp) ⟨_,hu⟩, .c _ _ ?_⟩
            · simp [Instr.slice,run_underlying hu,xw (P:=P) (w:=w) (isSlice:=true) hb p1 p2 p3 hc,dn he,hs']
            · have e1:hh.toNat - l.toNat = (hh - l).toNat:=by omega
              rw [e1]
              refine .sl _ _ _ _ _ (fun i j=>u (l.toNat+i) j) (by omega) (by omega) (fun hn=>?_) (fun i j hi hj=>hone _ _ (by omega) hj) (fun i hi=>hl _ (by omega)) (fun i j d hi hd=>hu' _ j d (by omega) hd)
              obtain ⟨ad,rfl,hok,hcell⟩:=ha (by omega)
              rw [if_neg (by omega)]
              refine ⟨ad.add (l.toNat*k),rfl,by rw [oA]; exact hok,fun i j hi hj=>?_⟩
              rw [tC, ← hcell (l.toNat+i) j (by omega) hj]
              congr 2
              rw [Nat.add_mul,Nat.add_assoc]
      · cases h
  · next e o' k off n hu =>
    cases hs:Nat.beq (sz P e) k with
    | false=>simp [hs] at h
    | true =>
      have hs':sz P e = k:=by simpa using hs
      simp only [hs,cond_true] at h
      split at h
      · next d l hh he h1 h2 =>
        cases h
        have p1:0≤l:=hp _ (by simp)
        have p2:l≤hh:=hp _ (by simp)
        have p3:hh≤(n:Int):=hp _ (by simp)
        have hb:=Hw h1 h2 rl nl rh nh
        generalize hv:ρ x = v at hx key
        cases hx with
        | row _ _ _ _ a c hn hc hm hl ha h0 =>
          refine ⟨rfl,rfl, .slice (if c = l.toNat then a else a.map (·.add (l.toNat*k))) (hh.toNat - l.toNat) (c - l.toNat),key _ ?_ (by rw [hu]; simp) ⟨_,hu⟩, ?_⟩
          · simp [Instr.slice,run_underlying hu,xw (P:=P) (w:=w) (isSlice:=true) hb p1 p2 p3 hc,dn he,hs']
          · have e1:hh.toNat - l.toNat = (hh - l).toNat:=by omega
            rw [e1]
            refine .row _ _ _ _ _ _ hn (by omega) (by omega) (by omega) (fun hn=>?_) (fun hoff=>?_)
            · obtain ⟨b,hb1,rfl⟩:=ha (by omega)
              rw [if_neg (by omega)]
              refine ⟨b,hb1, ?_⟩
              simp only [Option.map_some]
              rw [dS, ← Nat.add_mul]
            · have hl0:l.toNat = 0:=by omega
              have hoff0:off = 0:=by omega
              rw [hl0]
              rcases h0 hoff0 with ⟨rfl,rfl,h3⟩ | ⟨b,h3,rfl,rfl⟩
              · exact .inl ⟨by simp,rfl,h3⟩
              · refine .inr ⟨b,h3, ?_,by omega⟩
                split
                · rfl
                · simp [Addr.add]
      · cases h
  · next s hu =>
    split at h
    · next l hh h1 h2 =>
      cases h
      have p1:0≤l:=hp _ (by simp)
      have p2:l≤hh:=hp _ (by simp)
      have p3:hh≤(s.size:Int):=hp _ (by simp)
      have hb:=Hw h1 h2 rl nl rh nh
      refine ⟨rfl,rfl, .string (s.extract l.toNat hh.toNat),key _ ?_ (by rw [hu]; simp) ⟨_,hu⟩, .lit _⟩
      rw [hx.lit_inv]
      simp [Instr.slice,run_underlying hu,xw (P:=P) (w:=w) (isSlice:=false) hb p1 p2 p3 (Nat.le_refl _)]
    · cases h
  · cases h
theorem KR {H:am} (hH:bG E w H) {t:TypeId} {x ix:Operand} (ho:o.op = .indexAddr t x ix) {vx vi:V} (hx:aK E w (ρ x) vx) (hi:aK E w (ρ ix) vi)
    (h:pi P H t vx vi = some r) (hp:∀ p∈r.pre,p):m8 P ρ o E w r:=by
  have key:∀ v,(Instr.indexAt t (ρ x) (ρ ix)).run P w = .ok v w→(execOp ρ o).run P w = .ok (.value v) w:=by
    intro v hv
    simp [execOp,ho,hv]
  unfold pi at h
  split at h
  · next e k n el kk i hu =>
    cases hs:Nat.beq (sz P e) k with
    | false=>simp [hs] at h
    | true =>
      have hs':sz P e = k:=by simpa using hs
      simp only [hs,cond_true] at h
      split at h
      · next d he =>
        cases h
        have p1:0≤i:=hp _ (by simp)
        have p2:i < (n:Int):=hp _ (by simp)
        have ei:=hi.lit_inv
        generalize hv:ρ x = v at hx key
        cases hx with
        | c _ _ hx =>
          cases hx with
          | sl a _ c _ _ u hc hm ha hone hl hu' =>
            obtain ⟨ad,rfl,hok,hcell⟩:=ha (by omega)
            refine ⟨rfl,rfl, .pointer (some (ad.add (i.toNat*k))),key _ ?_, ?_⟩
            · simp [Instr.indexAt,ei,asIntOf,run_underlying hu,p1,p2,dn he,hs']
            · have:=aK.dptr (E:=E) (w:=w) k (el i.toNat) 0 (ad.add (i.toNat*k)) (u i.toNat) (by rw [oA]; exact hok) (fun j hj=>by rw [tC]; exact hcell _ _ (by omega) hj) (hl _ (by omega)) (fun j d hd=>hu' _ _ _ (by omega) hd)
              rwa [tC,Nat.add_zero] at this
      · cases h
  · next =>
    cases h
    exact (hp False (by simp)).elim
  · next e o' k off n kk i hu =>
    cases hs:Nat.beq (sz P e) k with
    | false=>simp [hs] at h
    | true =>
      have hs':sz P e = k:=by simpa using hs
      simp only [hs,cond_true] at h
      split at h
      · next d he =>
        cases h
        have p1:0≤i:=hp _ (by simp)
        have p2:i < (n:Int):=hp _ (by simp)
        have ei:=hi.lit_inv
        generalize hv:ρ x = v at hx key
        cases hx with
        | row _ _ _ _ a c hn hc hm hl ha h0 =>
          obtain ⟨b,hb,rfl⟩:=ha (by omega)
          refine ⟨rfl,rfl, .pointer (some (Addr.add ⟨b,off*k,none⟩ (i.toNat*k))),key _ ?_, ?_⟩
          · simp [Instr.indexAt,ei,asIntOf,run_underlying hu,p1,p2,dn he,hs']
          · rw [dS, ← Nat.add_mul]
            have:=aK.ptr (w:=w) o' k (off+i.toNat) 0 b hn hb (by omega)
            simpa using this
      · cases h
  · next len e o' k q j kk i hu =>
    have ei:=hi.lit_inv
    split at h
    · next e' k' m el hg =>
      cases hs:(Nat.beq q 0&&Nat.beq j 0&&Nat.beq k' k&&Nat.beq k (sz P e)) with
      | false=>simp [hs] at h
      | true =>
        simp only [hs,cond_true] at h
        simp only [Bool.and_eq_true,Nat.beq_eq] at hs
        obtain ⟨⟨⟨rfl,rfl⟩,hk1⟩,hk2⟩:=hs
        split at h
        · next d he =>
          cases h
          have p0:m = len:=hp _ (by simp)
          subst p0
          have p1:0≤i:=hp _ (by simp)
          have p2:i < (m:Int):=hp _ (by simp)
          generalize hv:ρ x = v at hx key
          cases hx with
          | ptr _ _ _ _ b hn hb hi' =>
            refine ⟨rfl,rfl, .pointer (some (Addr.add ⟨b,0*k+0,none⟩ (i.toNat*k))),key _ ?_, ?_⟩
            · simp [Instr.indexAt,ei,asIntOf,run_underlying hu,p1,p2,dn he,hk2,Instr.sureAddr]
            · rw [dS]
              obtain ⟨_,hob⟩:=hH.at_ _ _ hg
              have hlen:E.len o' = m:=hob.1
              have:=aK.ptr (w:=w) o' k i.toNat 0 b hn hb (by omega)
              simpa using this
        · cases h
    · next cs hg =>
      cases hse:(Nat.beq (sz P e) 1&&!(eO P e)) with
      | true =>
        simp only [hse,cond_true] at h
        cases h
        have p1:0≤i:=hp _ (by simp)
        have p2:i < (len:Int):=hp _ (by simp)
        simp only [Bool.and_eq_true,Nat.beq_eq] at hse
        obtain ⟨d,he⟩:=Oh (P:=P) (t:=e) (by omega)
        generalize hv:ρ x = v at hx key
        have hx0:=hx
        cases hx with
        | ptr _ _ _ _ b hn hb hi' =>
          refine ⟨rfl,rfl, .pointer (some (Addr.add ⟨b,q*k+j,none⟩ i.toNat)),key _ ?_, ?_⟩
          · simp [Instr.indexAt,ei,asIntOf,run_underlying hu,p1,p2,dn he,Instr.sureAddr,hse.1]
          · have e1:=KA (f:=1000000000) rfl (.pointer (some ⟨b,q*k+j,none⟩)) (.int kk i) (.int .i64 len)
            rw [show (Value.pointer (some (Addr.add ⟨b,q*k+j,none⟩ i.toNat))) = qp 1000000000 [.pointer (some ⟨b,q*k+j,none⟩), .int kk i, .int .i64 len] from e1.symm]
            refine .fn _ _ _ rfl fun p u d hu' hd'=>?_
            match p with
            | 0=>simp at hu' hd'; subst hu' hd'; exact hx0
            | 1=>simp at hu' hd'; subst hu' hd'; exact .lit _
            | 2=>simp at hu' hd'; subst hu' hd'; exact .lit _
            | p+3=>simp at hu'
      | false =>
      simp only [hse,cond_false] at h
      split at h
      · next d he =>
        cases h
        have p1:0≤i:=hp _ (by simp)
        have p2:i < (len:Int):=hp _ (by simp)
        generalize hv:ρ x = v at hx key
        cases hx with
        | ptr _ _ _ _ b hn hb hi' =>
          refine ⟨rfl,rfl, .pointer (some (Addr.add ⟨b,q*k+j,none⟩ (i.toNat*sz P e))),key _ ?_, ?_⟩
          · simp [Instr.indexAt,ei,asIntOf,run_underlying hu,p1,p2,dn he,Instr.sureAddr]
          · rw [dS,Nat.add_assoc]
            exact aK.ptr (w:=w) o' k q _ b hn hb hi'
      · cases h
    · cases h
    · cases h
  · next len e k cs j kk i hu =>
    have ei:=hi.lit_inv
    split at h
    · next d he =>
      cases h
      have p1:0≤i:=hp _ (by simp)
      have p2:i < (len:Int):=hp _ (by simp)
      generalize hv:ρ x = v at hx key
      cases hx with
      | dptr _ _ _ ad u hok hcell hl hu' =>
        refine ⟨rfl,rfl, .pointer (some ((ad.add j).add (i.toNat*sz P e))),key _ ?_, ?_⟩
        · simp [Instr.indexAt,ei,asIntOf,run_underlying hu,p1,p2,dn he,Instr.sureAddr]
        · rw [tC]
          exact .dptr k cs _ ad u hok hcell hl hu'
    · cases h
  · cases h
theorem lJ {x c:V} (h:jN x c = true):(∃ k a d,x = .c (.lit (.int k a))∧c = .c (.lit (.int k d)))∨∃ a d,x = bl a∧c = bl d:=by
  unfold jN at h
  split at h
  · next k a k' d=>exact .inl ⟨k,a,d,rfl,by rw [of_decide_eq_true h]⟩
  · next a d=>exact .inr ⟨a,d,rfl,rfl⟩
  · cases h
theorem P5 {cs:List V} {j len ix:Nat} {v:V} (hl:j+len≤cs.length) (hi:ix < len) (h:Hh ((cs.drop j).take len) ix = some v):v = jj false cs (j+ix) 1:=by
  have hlt:j+ix < cs.length:=by omega
  have hx:((cs.drop j).take len)[ix]? = some cs[j+ix]:=by
    rw [List.getElem?_take,if_pos hi,List.getElem?_drop,List.getElem?_eq_getElem hlt]
  have ht:jj false cs (j+ix) 1 = cs[j+ix]:=by
    unfold jj
    rw [cond_false,List.drop_eq_getElem_cons hlt]; rfl
  rw [ht]
  generalize hc:cs[j+ix] = c at hx
  generalize (cs.drop j).take len = l at h hx
  unfold Hh at h
  split at h
  · next k n r =>
    cases ha:(List.all (.c (.lit (.int k n)) :: r) (jN (.c (.lit (.int k n))))) with
    | false=>rw [ha] at h; cases h
    | true =>
      rw [ha] at h
      cases h
      have hm:=List.all_eq_true.1 ha c (List.mem_of_getElem? hx)
      rcases lJ hm with ⟨k',a,d,e1,rfl⟩ | ⟨a,d,e1,rfl⟩
      · cases e1
        rw [List.getD_eq_getElem?_getD,List.getElem?_map,hx]; rfl
      · cases e1
  · next b r =>
    cases ha:(List.all (.c (.lit (.bool b)) :: r) (jN (.c (.lit (.bool b))))) with
    | false=>rw [ha] at h; cases h
    | true =>
      rw [ha] at h
      cases h
      have hm:=List.all_eq_true.1 ha c (List.mem_of_getElem? hx)
      rcases lJ hm with ⟨k',a,d,e1,rfl⟩ | ⟨a,d,e1,rfl⟩
      · cases e1
      · rw [List.getD_eq_getElem?_getD,List.getElem?_map,hx]; rfl
  · cases h
theorem QA {t:TypeId} {x ix:Operand} (ho:o.op = .index t x ix) {vx vi:V} (hx:aK E w (ρ x) vx) (hi:aK E w (ρ ix) vi)
    (h:Oy P t vx vi = some r) (hp:∀ p∈r.pre,p):m8 P ρ o E w r:=by
  unfold Oy at h
  split at h
  · next s kk i hu =>
    cases h
    have p1:0≤i:=hp _ (by simp)
    have p2:i < (s.size:Int):=hp _ (by simp)
    have ei:=hi.lit_inv
    have ex:=hx.lit_inv
    have hlt:i.toNat < s.size:=by omega
    refine ⟨rfl,rfl, .int .u8 (s.data.getD i.toNat 0).toNat, ?_, .lit _⟩
    have hg:s[i.toNat]? = some (s.data.getD i.toNat 0):=by
      have h2:i.toNat < s.data.size:=hlt
      rw [Array.getD_eq_getD_getElem?,Array.getElem?_eq_getElem h2]
      rw [getElem?_pos s i.toNat hlt]
      rfl
    simp [execOp,ho,ex,ei,Instr.index,asIntOf,run_underlying hu,p1,hg]
  · next len e cs kk i hu =>
    cases hs:(Nat.ble (len*sz P e) cs.length&&it P e) with
    | false=>simp [hs] at h
    | true =>
      simp only [hs,cond_true] at h
      simp only [Bool.and_eq_true,Nat.ble_eq] at hs
      cases h
      have p1:0≤i:=hp _ (by simp)
      have p2:i < (len:Int):=hp _ (by simp)
      have ei:=hi.lit_inv
      obtain ⟨us,ex,hus⟩:=hx.agg_inv
      obtain ⟨d,hd⟩:=yF hs.2
      have hle:i.toNat*sz P e+sz P e≤cs.length:=by
        have h1:(i.toNat+1)*sz P e≤len*sz P e:=Nat.mul_le_mul_right _ (by omega)
        rw [Nat.add_mul,Nat.one_mul] at h1
        omega
      obtain ⟨v,hv,rv⟩:=tK (P:=P) (cs:=us.toArray) (by simpa using hus) hs.2 hle
      have epick:∀ z,(bif Nat.beq (sz P e) 1&&!(eO P e) then Hh (cs.take len) i.toNat else none) = some z→z = jj (eO P e) cs (i.toNat*sz P e) (sz P e):=by
        intro z hz
        cases hse:(Nat.beq (sz P e) 1&&!(eO P e)) with
        | false=>rw [hse] at hz; cases hz
        | true =>
          rw [hse,cond_true] at hz
          simp only [Bool.and_eq_true,Nat.beq_eq,Bool.not_eq_true'] at hse
          rw [hse.1] at hle hs ⊢
          rw [hse.2,Nat.mul_one]
          have:=P5 (j:=0) (len:=len) (by simpa using hs.1) (ix:=i.toNat) (by omega) (by simpa using hz)
          simpa using this
      have eval:(match bif Nat.beq (sz P e) 1&&!(eO P e) then Hh (cs.take len) i.toNat else none with | some v=>v | none=>jj (eO P e) cs (i.toNat*sz P e) (sz P e)) = jj (eO P e) cs (i.toNat*sz P e) (sz P e):=by
        split
        · next z hz=>exact epick z hz
        · rfl
      refine ⟨rfl,rfl, ?_⟩
      show zS P ρ o E w _
      rw [eval]
      exact ⟨v,by simp [execOp,ho,ex,ei,Instr.index,asIntOf,run_underlying hu,p1,p2,dn hd,hv],rv⟩
  · cases h
theorem lc {t:TypeId} {a:Addr} {n:Nat} (ht:it P t = true) (hn:n = sz P t) (f:Nat→Value) (hc:∀ j,j < n→w.cell? (a.add j) = some (f j)) :
    (loadVar t a).run P w = .ok (if eO P t then .agg ((List.range n).map f).toArray else f 0) w:=by
  obtain ⟨d,hd⟩:=yF ht
  subst hn
  unfold loadVar
  simp only [Sem.run_bind,M6 ht,Result.andThen_ok]
  cases hag:eO P t with
  | true =>
    simp only [if_true,Sem.run_bind,dn hd,Result.andThen_ok,Sem.run_pure]
    rw [run_loadCells w a _ f hc]
    simp
  | false =>
    have hs:0 < sz P t:=by simp [it,hag] at ht; omega
    have h0:w.cell? a = some (f 0):=by have:=hc 0 hs; simpa [Addr.add] using this
    simp [h0]
theorem Ms {cs:List D} {j n:Nat} {f:Nat→Value} {ag:Bool} (h:∀ i d,i < n→cs[j+i]? = some d→cx E.ok w (f i) d) (hl:j+n≤cs.length) (hag:ag = true∨0 < n) :
    aK E w (if ag then .agg ((List.range n).map f).toArray else f 0) (NV ag cs j n):=by
  unfold NV
  cases ag with
  | true =>
    simp only [if_true,cond_true]
    refine .agg _ _ (by simp) fun i v d hv hd=>?_
    rw [List.getElem?_map] at hv hd
    cases hr:(List.range n)[i]? with
    | none=>rw [hr] at hv; cases hv
    | some q =>
      rw [hr] at hv hd
      cases hv; cases hd
      have hq:q = i∧i < n:=by
        obtain ⟨h1,h2⟩:=List.getElem?_eq_some_iff.1 hr
        simp at h1 h2; omega
      refine .c _ _ (h q _ (by omega) ?_)
      rw [List.getD_eq_getElem?_getD,List.getElem?_eq_getElem (by omega)]
      rfl
  | false =>
    have hn:0 < n:=by simpa using hag
    simp only [Bool.false_eq_true,if_false,cond_false]
    refine .c _ _ (h 0 _ hn ?_)
    rw [Nat.add_zero,List.getD_eq_getElem?_getD,List.getElem?_eq_getElem (by omega)]
    rfl
theorem Ld {t:TypeId} (h:it P t = true):eO P t = true∨0 < sz P t:=by
  unfold it at h
  cases ha:eO P t
  · simp [ha] at h; exact .inr h
  · exact .inl rfl
theorem Wo {α:Type} (f:Nat→Nat→α) (m k:Nat):((List.range m).flatMap fun i=>(List.range k).map (f i)).length = m*k:=by
  induction m with
  | zero=>simp
  | succ m ih=>rw [List.range_succ,List.flatMap_append,List.length_append,ih,Nat.add_mul,Nat.one_mul]; simp
theorem akP {α:Type} (f:Nat→Nat→α):∀ (m k q:Nat),0 < k→q < m*k→((List.range m).flatMap fun i=>(List.range k).map (f i))[q]? = some (f (q / k) (q % k)):=by
  intro m k
  induction m with
  | zero=>intro q _ h; simp at h
  | succ m ih =>
    intro q hk hq
    rw [List.range_succ,List.flatMap_append]
    have hlen:=Wo f m k
    by_cases h:q < m*k
    · rw [List.getElem?_append_left (by omega)]
      exact ih q hk h
    · rw [List.getElem?_append_right (by omega),hlen]
      rw [Nat.add_mul,Nat.one_mul] at hq
      have e1:q / k = m:=by
        have h1:q = k*m+(q - m*k):=by rw [Nat.mul_comm]; omega
        rw [h1,Nat.mul_add_div hk,Nat.div_eq_of_lt (by omega)]; omega
      have e2:q % k = q - m*k:=by
        have h1:q = (q - m*k)+k*m:=by rw [Nat.mul_comm k m]; omega
        rw [h1,Nat.add_mul_mod_self_left,Nat.mod_eq_of_lt (by omega)]; rw [Nat.mul_comm k m]; omega
      simp only [List.flatMap_cons,List.flatMap_nil,List.append_nil,List.getElem?_map]
      rw [List.getElem?_eq_getElem (by simp; omega)]
      simp [e1,e2]
theorem xZ {H:am} (hH:bG E w H) {o':Nat} {e:TypeId} {k n:Nat} {el:Nat→List D} (hg:H.get o' = some (.row e k n el)) {b:Nat} (hb:E.conc o' = some b) :
    ∃ C:Array Value,w.heap[b]? = some (.cells C e (0,0))∧C.size = E.cap o'*k∧n≤E.cap o'∧(∀ i,i < n→(el i).length = k)∧(∀ i j u,i < n→j < k→C[i*k+j]? = some u→u.oneCell' = true)∧∀ i j d u,i < n→(el i)[j]? = some d→C[i*k+j]? = some u→cx E.ok w u d:=by
  obtain ⟨_,hlen,hob⟩:=hH.at_ _ _ hg
  rcases hob with ⟨h1,_⟩ | ⟨b',C,h1,h2,h3,h4,_,h6,h6',h7⟩
  · rw [h1] at hb; cases hb
  · rw [h1] at hb; cases hb
    exact ⟨C,h2,h3,h4,h6,h6',h7⟩
theorem DC {H:am} (hH:bG E w H) {t:TypeId} {x:Operand} (ho:o.op = .load t x) {vx:V} (hx:aK E w (ρ x) vx)
    (h:rZ P H t vx = some r):m8 P ρ o E w r:=by
  have key:∀ a v,ρ x = .pointer (some a)→(loadVar t a).run P w = .ok v w→(execOp ρ o).run P w = .ok (.value v) w:=by
    intro a v ha hv
    simp [execOp,ho,ha,Instr.loadAt,Instr.sureAddr,hv]
  unfold rZ at h
  split at h
  · next o' k i j =>
    generalize hv:ρ x = v at hx
    cases hx with
    | ptr _ _ _ _ b hn hb hi =>
      split at h
      · next cs hg =>
        cases hs:(Nat.beq cs.length k&&Nat.ble (j+sz P t) k&&it P t) with
        | false=>simp [hs] at h
        | true =>
          simp only [hs,cond_true] at h
          simp only [Bool.and_eq_true,Nat.ble_eq,Nat.beq_eq] at hs
          obtain ⟨⟨hk,hle⟩,ht⟩:=hs
          cases h
          obtain ⟨_,hlen,b',C,te,h1,h2,h3⟩:=hH.at_ _ _ hg
          rw [h1] at hb; cases hb
          have hi0:i = 0:=by omega
          subst hi0
          have hcell:∀ q,q < sz P t→w.cell? (Addr.add ⟨b,0*k+j,none⟩ q) = some (C.toList.getD (j+q) undef):=by
            intro q hq
            rw [dS,cell_of_row w b _ C te (0,0) h2]
            have:j+q < C.toList.length:=by rw [h3.1]; omega
            rw [List.getD_eq_getElem?_getD, ← Array.getElem?_toList,Nat.zero_mul,Nat.zero_add,List.getElem?_eq_getElem this]
            rfl
          refine ⟨rfl,rfl,_,key _ _ hv (lc ht rfl _ hcell), ?_⟩
          have ht':=cq.take h3 j (sz P t)
          unfold jj
          cases hag:eO P t with
          | true =>
            simp only [if_true,cond_true]
            have e1:(List.range (sz P t)).map (fun q=>C.toList.getD (j+q) undef) = (C.toList.drop j).take (sz P t):=by
              apply List.ext_getElem?
              intro q
              rw [List.getElem?_map,List.getElem?_take,List.getElem?_drop]
              by_cases hq:q < sz P t
              · rw [if_pos hq,List.getElem?_eq_getElem (by simpa using hq)]
                have:j+q < C.toList.length:=by rw [h3.1]; omega
                rw [List.getElem_range,Option.map_some,List.getD_eq_getElem?_getD,List.getElem?_eq_getElem this]
                rfl
              · rw [if_neg hq,List.getElem?_eq_none (by simpa using hq)]; rfl
            rw [e1]
            exact .agg _ _ ht'.1 ht'.2
          | false =>
            have hsz:0 < sz P t:=(Ld ht).resolve_left (by simp [hag])
            have hlt:j < cs.length:=by omega
            obtain ⟨u,hu,ru⟩:=h3.get (List.getElem?_eq_getElem hlt)
            simp only [Bool.false_eq_true,if_false,cond_false,Nat.add_zero]
            rw [List.getD_eq_getElem?_getD,hu,List.drop_eq_getElem_cons hlt]
            exact ru
      · next e k' m el hg =>
        obtain ⟨C,h2,h3,h4,h6,_,h7⟩:=xZ hH hg hb
        obtain ⟨_,hlen,_⟩:=hH.at_ _ _ hg
        cases hs:(Nat.beq k' k&&Nat.ble (j+sz P t) k&&it P t) with
        | false =>
          simp only [hs,cond_false] at h
          cases hs2:(Nat.beq k' k&&Nat.beq i 0&&Nat.beq j 0&&Nat.beq (m*k) (sz P t)&&eO P t) with
          | false=>simp [hs2] at h
          | true =>
            simp only [hs2,cond_true] at h
            simp only [Bool.and_eq_true,Nat.beq_eq] at hs2
            obtain ⟨⟨⟨⟨hk,rfl⟩,rfl⟩,hmk⟩,hag⟩:=hs2
            subst hk
            cases h
            have ht:it P t = true:=by simp [it,hag]
            have hle:m*k'≤C.size:=by rw [h3]; exact Nat.mul_le_mul_right _ h4
            have hcell:∀ q,q < sz P t→w.cell? (Addr.add ⟨b,0*k'+0,none⟩ q) = some (C.getD q undef):=by
              intro q hq
              rw [dS,cell_of_row w b _ C e (0,0) h2]
              have hq':q < C.size:=by omega
              simp [Array.getD,hq']
            refine ⟨rfl,rfl,_,key _ _ hv (lc ht rfl _ hcell), ?_⟩
            rw [hag,if_pos rfl, ← hmk]
            refine .agg _ _ ?_ fun q v d hv' hd'=>?_
            · rw [Wo (fun i q=>V.c ((el i).getD q .unk))]; simp
            · rw [List.getElem?_map] at hv'
              cases hr:(List.range (m*k'))[q]? with
              | none=>rw [hr] at hv'; cases hv'
              | some q' =>
                rw [hr] at hv'; cases hv'
                obtain ⟨hq1,hq2⟩:=List.getElem?_eq_some_iff.1 hr
                simp at hq1 hq2; subst hq2
                have hk0:0 < k':=by
                  rcases Nat.eq_zero_or_pos k' with h0 | h0
                  · subst h0; simp at hq1
                  · exact h0
                have hdec:=akP (fun i q=>V.c ((el i).getD q .unk)) m k' q hk0 hq1
                rw [hdec] at hd'; cases hd'
                refine .c _ _ ?_
                have hi1:q / k' < m:=Nat.div_lt_of_lt_mul (by rw [Nat.mul_comm]; exact hq1)
                have hl:=h6 _ hi1
                have hj1:q % k' < (el (q / k')).length:=by rw [hl]; exact Nat.mod_lt _ hk0
                rw [List.getD_eq_getElem?_getD,List.getElem?_eq_getElem hj1]
                have hq':q < C.size:=by omega
                refine h7 (q / k') (q % k') _ _ hi1 (List.getElem?_eq_getElem hj1) ?_
                rw [Nat.div_add_mod' q k']
                simp [Array.getD,hq']
        | true =>
          simp only [hs,cond_true] at h
          simp only [Bool.and_eq_true,Nat.ble_eq,Nat.beq_eq] at hs
          obtain ⟨⟨rfl,hle⟩,ht⟩:=hs
          cases h
          have him:i < m:=by omega
          have hik:(i+1)*k'≤E.cap o'*k':=Nat.mul_le_mul_right _ (by omega)
          rw [Nat.add_mul,Nat.one_mul] at hik
          have hcell:∀ q,q < sz P t→w.cell? (Addr.add ⟨b,i*k'+j,none⟩ q) = some (C.getD (i*k'+(j+q)) undef):=by
            intro q hq
            rw [dS,cell_of_row w b _ C e (0,0) h2,Nat.add_assoc]
            have hq':i*k'+(j+q) < C.size:=by omega
            simp [Array.getD,hq']
          refine ⟨rfl,rfl,_,key _ _ hv (lc ht rfl _ hcell), ?_⟩
          refine Ms (f:=fun q=>C.getD (i*k'+(j+q)) undef) (fun q d hq hd=>?_) (by rw [h6 _ him]; exact hle) (Ld ht)
          have hq':i*k'+(j+q) < C.size:=by omega
          exact h7 i (j+q) d _ him hd (by simp [Array.getD,hq'])
      · cases h
      · cases h
  · next k cs j =>
    cases hs:(Nat.ble (j+sz P t) k&&it P t) with
    | false=>simp [hs] at h
    | true =>
      simp only [hs,cond_true] at h
      simp only [Bool.and_eq_true,Nat.ble_eq] at hs
      obtain ⟨hle,ht⟩:=hs
      cases h
      generalize hv:ρ x = v at hx
      cases hx with
      | dptr _ _ _ ad u hok hcell hl hu =>
        refine ⟨rfl,rfl,_,key _ _ hv (lc ht rfl (fun q=>u (j+q)) fun q hq=>by rw [tC]; exact hcell _ (by omega)), ?_⟩
        exact Ms (f:=fun q=>u (j+q)) (fun q d hq hd=>hu _ _ hd) (by omega) (Ld ht)
  · cases h
theorem Pk {v:Value} {f k i j o':Nat} {kk kn:IntKind} {ix n:Int} (hf:G3 f = true) (hx:aK E w v (.fn f [.ptr o' k i j, .c (.lit (.int kk ix)), .c (.lit (.int kn n))])):aK E w v (.ptr o' k i (j+ix.toNat)):=by
  cases hx with
  | fn _ vs _ hl h =>
    match vs,hl with
    | [a,b,_],_ =>
      have h0:=h 0 a _ rfl rfl
      have h1:=(h 1 b _ rfl rfl).lit_inv
      subst h1
      rw [KA hf]
      cases h0 with
      | ptr _ _ _ _ b hn hb hi =>
        show aK E w (.pointer (some (Addr.add ⟨b,i*k+j,none⟩ ix.toNat))) _
        rw [dS,Nat.add_assoc]
        exact .ptr _ _ _ _ _ hn hb hi
theorem JR {t:TypeId} {cs:List V} {len k j:Nat} (h:BF P t cs len k j = true):cs.length = k∧j+len≤k∧sz P t = 1∧eO P t = false∧it P t = true:=by
  unfold BF at h
  simp only [Bool.and_eq_true,Nat.beq_eq,Nat.ble_eq,Bool.not_eq_true'] at h
  exact ⟨h.1.1.1.1,h.1.1.1.2,h.1.1.2,h.1.2,h.2⟩
theorem QX {H:am} (hH:bG E w H) {t:TypeId} {x:Operand} (ho:o.op = .load t x) {vx:V} (hx:aK E w (ρ x) vx)
    (h:N5 P H t vx = some r) (hp:∀ p∈r.pre,p):m8 P ρ o E w r:=by
  unfold N5 at h
  split at h
  · next f o' k i j kk ix kn n =>
    split at h
    · next cs hg =>
      cases hs:(G3 f&&BF P t cs (n.toNat) k j) with
      | false=>simp [hs] at h
      | true =>
        simp only [hs,cond_true] at h
        rw [Bool.and_eq_true] at hs
        obtain ⟨hk,hle,h1,hag,hty⟩:=JR hs.2
        split at h
        · next v hv =>
          cases h
          have p1:0≤ix:=hp _ (by simp)
          have p2:ix < ((n.toNat:Nat):Int):=hp _ (by simp)
          have e:=P5 (by omega) (ix:=ix.toNat) (by omega) hv
          have hl:rZ P H t (.ptr o' k i (j+ix.toNat)) = some { val:=jj false cs (j+ix.toNat) 1 }:=by
            unfold rZ
            simp only [hg,h1,hag,hty,hk,Nat.beq_refl,Bool.and_true,Bool.true_and]
            rw [show Nat.ble (j+ix.toNat+1) k = true from by rw [Nat.ble_eq]; omega]
            rfl
          obtain ⟨_,_,q⟩:=DC hH ho (Pk hs.1 hx) hl
          refine ⟨rfl,rfl, ?_⟩
          rw [e]
          exact q
        · cases h
    · cases h
  · exact DC hH ho hx h
end
end Go.Ax
namespace Go.Ax
open Go.RowKit
section
variable {P:Program} {ρ:Operand→Value} {E:br} {w:World} {o:Oper} {r:cM}
theorem mX {α:Type}:∀ (xs cs:List α) (off:Nat),(setL cs off xs).length = cs.length
  | [],cs,off=>rfl
  | x :: r,cs,off=>by rw [setL,mX]; simp
theorem nO {α:Type}:∀ (xs cs:List α) (off q:Nat),(setL cs off xs)[q]? = if off≤q∧q < off+xs.length∧q < cs.length then xs[q - off]? else cs[q]?
  | [],cs,off,q=>by simp [setL]; intro _ _ ; omega
  | x :: r,cs,off,q=>by
    rw [setL,nO r]
    simp only [List.length_set,List.length_cons]
    by_cases h:off = q
    · subst h
      rw [if_neg (by omega)]
      by_cases hl:off < cs.length
      · rw [if_pos ⟨by omega,by omega,hl⟩]; simp [hl]
      · rw [if_neg (by omega)]; rw [List.getElem?_eq_none (by simp; omega),List.getElem?_eq_none (by omega)]
    · rw [List.getElem?_set_ne h]
      by_cases h2:off+1≤q∧q < off+1+r.length∧q < cs.length
      · rw [if_pos h2,if_pos (by omega),show q - off = (q - (off+1))+1 by omega,List.getElem?_cons_succ]
      · rw [if_neg h2,if_neg (by omega)]
theorem cq.setL {vs xs:List Value} {ds ys:List V} (h:cq E w vs ds) (h':cq E w xs ys) (off:Nat):cq E w (setL vs off xs) (setL ds off ys):=by
  refine ⟨by rw [mX,mX,h.1],fun i v d hv hd=>?_⟩
  rw [nO] at hv hd
  rw [← h'.1, ← h.1] at hd
  split at hv
  · next hc=>rw [if_pos hc] at hd; exact h'.2 _ _ _ hv hd
  · next hc=>rw [if_neg hc] at hd; exact h.2 _ _ _ hv hd
theorem xE {v:Value} {d:V} (h:aK E w v d) (hc:d.isCell = true):v.oneCell' = true:=by
  cases h with
  | c _ d h =>
    cases h with
    | unk v=>simp [V.isCell] at hc
    | nil=>rfl
    | lit v=>cases v <;> first | rfl | simp [V.isCell] at hc
    | opt b us=>simp [V.isCell] at hc
    | any v h1=>exact h1
    | sl=>rfl
  | agg=>simp [V.isCell] at hc
  | tup=>simp [V.isCell] at hc
  | ptr=>rfl
  | row=>rfl
  | dptr=>simp [V.isCell] at hc
  | fn=>exact V3 _ _
theorem U7 {v:Value} (h:v.oneCell' = true):v.cells = #[v]:=by cases v <;> simp [Value.oneCell',Value.cells] at *
theorem GC {v:Value} {d:V} (h:aK E w v d) (hc:d.cells.all V.isCell = true):cq E w v.cells.toList d.cells∧∀ u∈v.cells.toList,u.oneCell' = true:=by
  have single:d.cells = [d]→cq E w v.cells.toList d.cells∧∀ u∈v.cells.toList,u.oneCell' = true:=by
    intro e
    rw [e] at hc ⊢
    have h1:=xE h (by simpa using hc)
    rw [U7 h1]
    refine ⟨⟨rfl,fun i v' d' a b=>?_⟩,by simpa using h1⟩
    match i with
    | 0=>simp at a b; subst a; subst b; exact h
    | i+1=>simp at a
  cases d with
  | agg ds =>
    obtain ⟨vs,rfl,hl⟩:=h.agg_inv
    have e:(Value.agg vs.toArray).cells.toList = vs:=by simp [Value.cells]
    rw [e]
    refine ⟨hl,fun u hu=>?_⟩
    obtain ⟨i,hi⟩:=List.getElem?_of_mem hu
    have hlt:i < ds.length:=by rw [← hl.1]; exact (List.getElem?_eq_some_iff.1 hi).1
    exact xE (hl.2 i u _ hi (List.getElem?_eq_getElem hlt)) (List.all_eq_true.1 hc _ (List.getElem_mem hlt))
  | c d=>exact single rfl
  | tup ds=>exact single rfl
  | ptr o k i j=>exact single rfl
  | row o k i j=>exact single rfl
  | dptr k cs j=>exact single rfl
  | fn f cs=>exact single rfl
theorem Kd (off:Nat):∀ (l:List Value) (k:Nat) (cells:Array Value),((l.zipIdx k).foldl (fun (cs:Array Value) (p:Value × Nat)=>cs.setIfInBounds (off+p.2) p.1) cells).toList = setL cells.toList (off+k) l
  | [],k,cells=>rfl
  | x :: r,k,cells=>by
    rw [List.zipIdx_cons,List.foldl_cons,Kd off r (k+1),setL]
    simp [Nat.add_assoc]
theorem Uk (off:Nat) (v:Value) (cells:Array Value):(v.cells.zipIdx.foldl (fun cs (c,j)=>cs.setIfInBounds (off+j) c) cells).toList = setL cells.toList off v.cells.toList:=by
  have:=Kd off v.cells.toList 0 cells
  rw [Nat.add_zero] at this
  rw [← this, ← Array.foldl_toList,Array.toList_zipIdx]
theorem Do (place:Nat→Option (Nat × Nat)):∀ (parts:List (Nat × Value)) (dparts:List (Nat × V)) (cells:Array Value) (ds ds':List V),cq E w cells.toList ds →
    parts.map (·.1) = dparts.map (·.1)→cq E w (parts.map (·.2)) (dparts.map (·.2))→dparts.foldlM (qR place) ds = some ds' →
    ∃ cells',Instr.fill place cells parts = some cells'∧cq E w cells'.toList ds'
  | [],dparts,cells,ds,ds',h,h1,h2,h3=>by
    have:dparts = []:=by simpa using h1.symm
    subst this
    simp at h3; subst h3
    exact ⟨cells,rfl,h⟩
  | (i,v) :: parts,[],cells,ds,ds',h,h1,h2,h3=>by simp at h1
  | (i,v) :: parts,(i',d) :: dparts,cells,ds,ds',h,h1,h2,h3=>by
    simp only [List.map_cons,List.cons.injEq] at h1
    obtain ⟨rfl,h1⟩:=h1
    have hv:aK E w v d:=h2.2 0 _ _ rfl rfl
    have ht:cq E w (parts.map (·.2)) (dparts.map (·.2)):=⟨by have:=h2.1; simpa using this,fun i v d a b=>h2.2 (i+1) v d a b⟩
    simp only [List.foldlM_cons,Option.bind_eq_bind,Option.bind_eq_some_iff] at h3
    obtain ⟨ds1,hs,h3⟩:=h3
    unfold qR at hs
    simp only at hs
    split at hs
    · next off size hp =>
      cases hc:(Nat.beq d.cells.length size&&d.cells.all V.isCell&&Nat.ble (off+size) ds.length) with
      | false=>simp [hc] at hs
      | true =>
        simp only [hc,cond_true,Option.some.injEq] at hs
        subst hs
        simp only [Bool.and_eq_true,Nat.beq_eq,Nat.ble_eq] at hc
        obtain ⟨⟨c1,c2⟩,c3⟩:=hc
        obtain ⟨r1,_⟩:=GC hv c2
        have s1:v.cells.size = size:=by rw [← c1, ← r1.1]; simp
        have s2:off+v.cells.size≤cells.size:=by rw [s1]; have:=h.1; simp at this; omega
        have:=Do place parts dparts (v.cells.zipIdx.foldl (fun cs (c,j)=>cs.setIfInBounds (off+j) c) cells) _ ds' (by rw [Uk]; exact h.setL r1 off) h1 ht h3
        obtain ⟨cells',e1,e2⟩:=this
        refine ⟨cells', ?_,e2⟩
        rw [Instr.fill,hp]
        simp only
        rw [if_neg (by simp [s1]; omega)]
        exact e1
    · cases hs
theorem qI {t:TypeId} {z:V} (h:Dc P t = some z):∃ (i:TypeInfo) (v:Value),P.info? t = some i∧i.zero = some v∧z = V.ofValue v∧∀ vs,v≠.tuple vs:=by
  unfold Dc at h
  split at h
  · next i hi =>
    split at h
    · cases h
    · next v hn hv=>cases h; exact ⟨i,v,hi,hv,rfl,fun vs e=>hn vs e⟩
    · cases h
  · cases h
theorem DM (v:Value):aK E w v (.c (D.ofCell v)):=by
  unfold D.ofCell
  split
  · exact .c _ _ .nil
  · exact .lit v
theorem In (v:Value):aK E w v (V.ofValue v):=by
  unfold V.ofValue
  split
  · next cs =>
    have:cs = cs.toList.toArray:=by simp
    rw [this]
    refine .agg _ _ (by simp) fun i v d hv hd=>?_
    simp only [List.getElem?_map] at hv hd
    rw [hv] at hd
    simp at hd; subst hd
    exact DM v
  · next vs=>split <;> first | exact .unk _ | exact .lit _
  · exact DM v
theorem lD {t:TypeId} {i:TypeInfo} {v:Value} (h:P.info? t = some i) (hz:i.zero = some v):(zeroValue t).run P w = .ok v w:=by
  simp [zeroValue,typeInfo,h,hz]
theorem xk {t:TypeId} (h:kA P t = true):∃ d,P.underlying t = some d:=by
  unfold kA at h
  cases hu:P.underlying t with
  | some d=>exact ⟨d,rfl⟩
  | none=>rw [hu] at h; simp at h
theorem Kw:∀ (fs:List Field),fs.all (fun f=>kA P f.type) = true →
    (fs.mapM (fun f=>do pure (f.offset, ← sizeOf f.type):Field→Sem (Nat × Nat))).run P w = .ok (fs.map fun f=>(f.offset,sz P f.type)) w
  | [],_=>by simp
  | f :: fs,h=>by
    simp only [List.all_cons,Bool.and_eq_true] at h
    obtain ⟨d,hd⟩:=xk h.1
    have ih:=Kw fs h.2
    simp only [bind_pure_comp] at ih
    simp [List.mapM_cons,dn hd,ih]
theorem em (v:Value) (hn:∀ vs,v≠.tuple vs):cq E w v.cells.toList (V.ofValue v).cells:=by
  have hr:aK E w v (V.ofValue v):=In v
  cases v with
  | agg cs =>
    have h2:aK E w (.agg cs) (.agg (cs.toList.map fun v=>.c (D.ofCell v))):=hr
    obtain ⟨vs,e,hl⟩:=h2.agg_inv
    cases e
    simpa [Value.cells,V.ofValue,V.cells] using hl
  | tuple vs=>exact (hn vs rfl).elim
  | _ =>
    refine ⟨rfl,fun i v' d' a b=>?_⟩
    match i with
    | 0=>simp [Value.cells,V.ofValue,V.cells] at a b; subst a; subst b; exact DM _
    | i+1=>simp [Value.cells] at a
theorem QJ {t:TypeId} {parts:Array (Nat × Operand)} (ho:o.op = .build t parts) {vs:List V} (hv:cq E w (parts.toList.map fun p=>ρ p.2) vs)
    (h:Pj P t ((parts.toList.map (·.1)).zip vs) = some r):m8 P ρ o E w r:=by
  have hlen:(parts.toList.map (·.1)).length = vs.length:=by have:=hv.1; simpa using this
  have e1:(parts.map fun (i,x)=>(i,ρ x)).toList.map (·.1) = ((parts.toList.map (·.1)).zip vs).map (·.1):=by
    rw [List.map_fst_zip (by omega)]
    simp
  have e2:cq E w ((parts.map fun (i,x)=>(i,ρ x)).toList.map (·.2)) (((parts.toList.map (·.1)).zip vs).map (·.2)):=by
    rw [List.map_snd_zip (by omega)]
    have:(parts.map fun (i,x)=>(i,ρ x)).toList.map (·.2) = parts.toList.map fun p=>ρ p.2:=by simp
    rw [this]
    exact hv
  unfold Pj at h
  split at h
  · next fs z hu hz =>
    cases hk:fs.toList.all (fun f=>kA P f.type) with
    | false=>simp [hk] at h
    | true =>
      simp only [hk,cond_true] at h
      split at h
      · next cs hcs =>
        cases h
        obtain ⟨i,v,hi,hz',rfl,hnt⟩:=qI hz
        obtain ⟨cells',f1,f2⟩:=Do (Bu P fs) _ _ v.cells _ cs (em v hnt) e1 e2 hcs
        refine ⟨rfl,rfl, .agg cells', ?_, ?_⟩
        · have hp:=Kw (w:=w) _ hk
          have hpl:(fun i=>(fs.map fun f=>(f.offset,sz P f.type))[i]?) = Bu P fs:=by
            funext i
            simp [Bu]
            cases fs[i]? <;> rfl
          simp only [execOp,ho,Sem.run_bind,Instr.build,lD hi hz',Result.andThen_ok,run_underlying hu,Array.mapM_eq_mapM_toList,Sem.run_map]
          simp only [bind_pure_comp] at hp ⊢
          rw [hp]
          have hpl':(fun x=>((fs.toList.map fun f=>(f.offset,sz P f.type)).toArray)[x]?) = Bu P fs:=by
            rw [← hpl]; funext x; simp
          simp only [Result.andThen_ok,hpl']
          have f1':Instr.fill (Bu P fs) v.cells (parts.map fun x=>(x.fst,ρ x.snd)).toList = some cells':=f1
          rw [f1']
          rfl
        · have:cells' = cells'.toList.toArray:=by simp
          rw [this]
          exact .agg _ _ f2.1 f2.2
      · cases h
  · next n e z hu hz =>
    cases hk:kA P e with
    | false=>simp [hk] at h
    | true =>
      simp only [hk,cond_true] at h
      split at h
      · next cs hcs =>
        cases h
        obtain ⟨i,v,hi,hz',rfl,hnt⟩:=qI hz
        obtain ⟨d,hd⟩:=xk hk
        obtain ⟨cells',f1,f2⟩:=Do _ _ _ v.cells _ cs (em v hnt) e1 e2 hcs
        refine ⟨rfl,rfl, .agg cells', ?_, ?_⟩
        · simp only [execOp,ho,Sem.run_bind,Instr.build,lD hi hz',Result.andThen_ok,run_underlying hu,dn hd,f1,Sem.run_pure]
        · have:cells' = cells'.toList.toArray:=by simp
          rw [this]
          exact .agg _ _ f2.1 f2.2
      · cases h
  · cases h
end
end Go.Ax
namespace Go.Ax
open Go.RowKit
def br.next (E:br) (nid:Nat) (c:Option Nat) (cap len:Nat) (ok':Nat→Prop):br where
  conc o:=if o = nid then c else E.conc o
  cap o:=if o = nid then cap else E.cap o
  len o:=if o = nid then len else E.len o
  live o:=o = nid∨E.live o
  ok:=ok'
structure gn (E:br) (w:World) (H:am) (nid:Nat) (r:cM) (E':br) (w':World) (v':Value):Prop where
  st:gz E w r.kill E' w'
  heap:bG E' w' (r.eff++gX r.kill H)
  val:aK E' w' v' r.val
  live:∀ q,E'.live q→E.live q∨q = nid
section
variable {P:Program} {ρ:Operand→Value} {E:br} {w w':World} {o:Oper} {r:cM} {H:am} {nid:Nat}
theorem iF {c:Option Nat} {cap len:Nat} {ok':Nat→Prop} {q:Nat} (hf:¬ E.live nid) (h:E.live q):(E.next nid c cap len ok').conc q = E.conc q∧(E.next nid c cap len ok').cap q = E.cap q∧(E.next nid c cap len ok').len q = E.len q:=by
  have:q≠nid:=fun e=>hf (e ▸ h)
  simp [br.next,this]
theorem iH {c:Option Nat} {cap len:Nat} {ok':Nat→Prop} {q b:Nat} (hq:(E.next nid c cap len ok').live q) (h:(E.next nid c cap len ok').conc q = some b):(q≠nid∧E.live q∧E.conc q = some b)∨(q = nid∧c = some b):=by
  by_cases e:q = nid
  · subst e; simp [br.next] at h; exact .inr ⟨rfl,h⟩
  · simp [br.next,e] at hq h; exact .inl ⟨e,hq,h⟩
theorem gL (hf:¬ E.live nid) (c:Option Nat) (cap len:Nat) (ok':Nat→Prop) (hb:Below w.heap.size w w') (hc:∀ b,c = some b→w.heap.size≤b) (hok:∀ b,E.ok b→ok' b) (hold:∀ b,ok' b→E.ok b∨w.heap.size≤b) :
    gz E w [] (E.next nid c cap len ok') w' where
  os:=hb.os
  tape:=hb.tape
  output:=hb.output
  size:=hb.size
  live:=fun _ h=>.inr h
  blk:=fun b hlt _=>hb.block b hlt
  ok:=hok
  okold:=fun b h=>(hold b h).imp id .inl
  conc:=fun q hq _=>iF hf hq
  concnew:=fun q b hq h=>by
    rcases iH hq h with ⟨_,h1,h2⟩ | ⟨_,h2⟩
    · exact .inl ⟨_,h1,h2⟩
    · exact .inr (hc b h2)
theorem MR (d:V):Ty [] d:=fun _ _=>by simp
theorem cq.mono {E':br} {vs:List Value} {ds:List V} (h:cq E w vs ds) (hr:∀ v d,aK E w v d→aK E' w' v d):cq E' w' vs ds :=
  ⟨h.1,fun i v d a b=>hr v d (h.2 i v d a b)⟩
theorem rm {E':br} {q:Nat} {ob:Ob} (h:ly E w q ob) (hc:E'.conc q = E.conc q∧E'.cap q = E.cap q∧E'.len q = E.len q) (hb:∀ b,E.conc q = some b→w'.heap[b]? = w.heap[b]?)
    (hr:∀ v d,aK E w v d→aK E' w' v d) (hd:∀ v d,cx E.ok w v d→cx E'.ok w' v d):ly E' w' q ob:=by
  obtain ⟨c1,c2,c3⟩:=hc
  cases ob with
  | box cs =>
    obtain ⟨hl,b,C,t,h1,h2,h3⟩:=h
    exact ⟨c3.trans hl,b,C,t,c1.trans h1,(hb b h1).trans h2,h3.mono hr⟩
  | raw x =>
    obtain ⟨hl,b,h1,h2⟩:=h
    exact ⟨c3.trans hl,b,c1.trans h1,(hb b h1).trans h2⟩
  | row t k n el =>
    obtain ⟨hl,h⟩:=h
    refine ⟨c3.trans hl, ?_⟩
    rcases h with ⟨h1,h2⟩ | ⟨b,C,h1,h2,h3,h4,h5,h6,h7,h8⟩
    · exact .inl ⟨c1.trans h1,h2⟩
    · exact .inr ⟨b,C,c1.trans h1,(hb b h1).trans h2,by rw [c2]; exact h3,by rw [c2]; exact h4,by rw [c2]; exact h5,h6,h7,fun i j d u a b c=>hd _ _ (h8 i j d u a b c)⟩
theorem kJ {c:Option Nat} {cap len:Nat} {ok':Nat→Prop} (hH:bG E w H) (hS:gz E w [] (E.next nid c cap len ok') w') {v:Value} {d:V} (h:aK E w v d):aK (E.next nid c cap len ok') w' v d :=
  h.step hS hH.sep hH.oklt
theorem rG {c:Option Nat} {cap len:Nat} {ok':Nat→Prop} (hH:bG E w H) (hS:gz E w [] (E.next nid c cap len ok') w') {v:Value} {d:D} (h:cx E.ok w v d):cx (E.next nid c cap len ok').ok w' v d :=
  h.mono hS.ok fun b hb=>hS.blk b (hH.oklt b hb) fun o ho hc=>hH.sep o b ho hc hb
theorem iJ (hf:¬ E.live nid) {c:Option Nat} {cap len:Nat} {ok':Nat→Prop} (hH:bG E w H) (hb:Below w.heap.size w w') (hc:∀ b,c = some b→w.heap.size≤b∧b < w'.heap.size∧¬ ok' b) (hok:∀ b,E.ok b→ok' b)
    (hold:∀ b,ok' b→E.ok b∨w.heap.size≤b) (hlt:∀ b,ok' b→b < w'.heap.size):bG (E.next nid c cap len ok') w' H:=by
  have hS:gz E w [] (E.next nid c cap len ok') w':=gL hf c cap len ok' hb (fun b h=>(hc b h).1) hok hold
  refine ⟨fun q ob hq=>?_,fun q q' b hq hq' h h'=>?_,fun q b hq h=>?_,fun q b hq h=>?_,hlt⟩
  · obtain ⟨h1,h2⟩:=hH.at_ q ob hq
    refine ⟨.inr h1,rm h2 (iF hf h1) (fun b hb'=>hb.block b (hH.lt q b h1 hb')) (fun v d h=>kJ hH hS h) fun v d h=>rG hH hS h⟩
  · rcases iH hq h with ⟨_,a1,a2⟩ | ⟨a1,a2⟩ <;> rcases iH hq' h' with ⟨_,b1,b2⟩ | ⟨b1,b2⟩
    · exact hH.inj q q' b a1 b1 a2 b2
    · have:=hH.lt q b a1 a2; have:=(hc b b2).1; omega
    · have:=hH.lt q' b b1 b2; have:=(hc b a2).1; omega
    · omega
  · rcases iH hq h with ⟨_,a1,a2⟩ | ⟨a1,a2⟩
    · intro hk
      rcases hold b hk with h3 | h3
      · exact hH.sep q b a1 a2 h3
      · have:=hH.lt q b a1 a2; omega
    · exact (hc b a2).2.2
  · rcases iH hq h with ⟨_,a1,a2⟩ | ⟨a1,a2⟩
    · have:=hH.lt q b a1 a2; have:=hb.size; omega
    · exact (hc b a2).2.1
theorem am.get_cons (q q':Nat) (b:Option Ob):am.get ((q,b) :: H) q' = if q = q' then b else am.get H q':=by
  rw [am.get]
  by_cases h:q = q'
  · subst h; simp
  · have:Nat.beq q q' = false:=by cases hb:Nat.beq q q'; rfl; exact (h (Nat.eq_of_beq_eq_true hb)).elim
    rw [this]; simp [h]
theorem vw (hH:bG E w H) {q:Nat} {ob:Ob} (hq:E.live q) (h:ly E w q ob):bG E w ((q,some ob) :: H):=by
  refine ⟨fun p x hp=>?_,hH.inj,hH.sep,hH.lt,hH.oklt⟩
  rw [am.get_cons] at hp
  split at hp
  · next e=>subst e; cases hp; exact ⟨hq,h⟩
  · exact hH.at_ p x hp
theorem eM {c:Option Nat} {cap len:Nat} {ok':Nat→Prop}:∀ q,(E.next nid c cap len ok').live q→E.live q∨q = nid:=fun _ h=>h.symm
theorem S8 (hH:bG E w H) (hf:¬ E.live nid) (hr:m8 P ρ o E w r):∃ v',(execOp ρ o).run P w = .ok (.value v') w∧gn E w H nid r (E.next nid none 0 0 E.ok) w v':=by
  obtain ⟨h1,h2,v,h3,h4⟩:=hr
  have hS:gz E w [] (E.next nid none 0 0 E.ok) w:=gL hf none 0 0 E.ok (.refl _ _) (by simp) (fun _ h=>h) (fun _ h=>.inl h)
  refine ⟨v,h3, ?_, ?_,kJ hH hS h4,eM⟩
  · rw [h2]; exact hS
  · rw [h1,h2]
    exact iJ hf hH (.refl _ _) (by simp) (fun _ h=>h) (fun _ h=>.inl h) hH.oklt
theorem Jo (hH:bG E w H) (hf:¬ E.live nid) (t:TypeId) (C:Array Value) (cap len:Nat) {ob:Ob} (he:r.eff = [(nid,some ob)]) (hk:r.kill = [])
    (hob:∀ (E':br) (w':World),E'.ok = E.ok→E'.conc nid = some w.heap.size→E'.cap nid = cap→E'.len nid = len→w'.heap[w.heap.size]? = some (.cells C t (0,0)) →
      (∀ v d,aK E w v d→aK E' w' v d)→(∀ v d,cx E.ok w v d→cx E'.ok w' v d)→ly E' w' nid ob)
    {v':Value} (hv:∀ (E':br) (w':World),E'.live nid→E'.conc nid = some w.heap.size→E'.cap nid = cap→E'.len nid = len→aK E' w' v' r.val) :
    gn E w H nid r (E.next nid (some w.heap.size) cap len E.ok) (w.alloc (.cells C t)) v':=by
  have hb:Below w.heap.size w (w.alloc (.cells C t)):=(Below.refl _ _).alloc (Nat.le_refl _) _
  have hcc:∀ b,some w.heap.size = some b→w.heap.size≤b∧b < (w.alloc (.cells C t)).heap.size∧¬ E.ok b:=by
    intro b e; cases e
    exact ⟨Nat.le_refl _,by simp,fun h=>by have:=hH.oklt _ h; omega⟩
  have hS:gz E w [] (E.next nid (some w.heap.size) cap len E.ok) (w.alloc (.cells C t)):=gL hf _ cap len E.ok hb (fun b h=>(hcc b h).1) (fun _ h=>h) (fun _ h=>.inl h)
  have hN:=iJ (cap:=cap) (len:=len) hf hH hb hcc (fun _ h=>h) (fun _ h=>.inl h) (fun b h=>by have:=hH.oklt b h; simp; omega)
  have e1:(E.next nid (some w.heap.size) cap len E.ok).conc nid = some w.heap.size:=by simp [br.next]
  have e2:(E.next nid (some w.heap.size) cap len E.ok).cap nid = cap:=by simp [br.next]
  have e3:(E.next nid (some w.heap.size) cap len E.ok).len nid = len:=by simp [br.next]
  refine ⟨by rw [hk]; exact hS, ?_,hv _ _ (.inl rfl) e1 e2 e3,eM⟩
  rw [he,hk]
  exact vw hN (.inl rfl) (hob _ _ rfl e1 e2 e3 (heap_alloc_new w _) (fun v d h=>kJ hH hS h) fun v d h=>rG hH hS h)
theorem qJ:∀ {cs:List V} {ds:List D},cs.mapM V.toD = some ds→ds.length = cs.length∧∀ (i:Nat) (d:D),ds[i]? = some d→cs[i]? = some (.c d)
  | [],ds,h=>by simp at h; subst h; simp
  | v :: cs,ds,h=>by
    rw [List.mapM_cons] at h
    simp only [Option.bind_eq_bind,Option.pure_def,Option.bind_eq_some_iff,Option.some.injEq] at h
    obtain ⟨d,hd,ds',hds,rfl⟩:=h
    obtain ⟨h1,h2⟩:=qJ hds
    refine ⟨by simp [h1],fun i e he=>?_⟩
    match i with
    | 0 =>
      simp at he ⊢; subst he
      unfold V.toD at hd
      split at hd <;> simp_all
    | i+1=>simpa using h2 i e (by simpa using he)
theorem yW {cs:List V} {ds:List D} {vs:List Value} (h:cs.mapM V.toD = some ds) (hr:cq E w vs cs) {i:Nat} {d:D} {u:Value} (hd:ds[i]? = some d) (hu:vs[i]? = some u):cx E.ok w u d:=by
  have:=hr.2 i u _ hu ((qJ h).2 i d hd)
  cases this with | c _ _ h=>exact h
theorem Nn {α:Type} (ds:List α) (k i j:Nat) (d:α) (h:((ds.drop (i*k)).take k)[j]? = some d):j < k∧ds[i*k+j]? = some d:=by
  rw [List.getElem?_take] at h
  split at h
  · next hj=>exact ⟨hj,by rwa [List.getElem?_drop] at h⟩
  · cases h
theorem J6 (hH:bG E w H) (hf:¬ E.live nid) {t:TypeId} {C:Array Value} {v:V} (hc:cq E w C.toList v.cells) (h1:∀ u∈C.toList,u.oneCell' = true) (h:wm P nid t v = some r) :
    ∃ E',gn E w H nid r E' (w.alloc (.cells C t)) (.pointer (some ⟨w.heap.size,0,none⟩)):=by
  unfold wm at h
  cases hs:(v.cells.all V.isCell&&Nat.beq v.cells.length (sz P t)) with
  | false=>simp [hs] at h
  | true =>
    simp only [hs,cond_true] at h
    simp only [Bool.and_eq_true,Nat.beq_eq] at hs
    split at h
    · next len e ds hu hds =>
      cases hs2:(Nat.beq (len*sz P e) (sz P t)&&Nat.blt 0 (sz P e)&&Nat.blt 0 len&&Nat.ble len 1000000) with
      | false=>simp [hs2] at h
      | true =>
        simp only [hs2,cond_true] at h
        simp only [Bool.and_eq_true,Nat.beq_eq,Nat.blt_eq,Nat.ble_eq] at hs2
        obtain ⟨⟨⟨s1,s2⟩,s3⟩,s4⟩:=hs2
        cases h
        have hC:C.size = len*sz P e:=by rw [s1, ← hs.2, ← hc.1]; simp
        have hds':=(qJ hds).1
        refine ⟨_,Jo (ob:=.row t (sz P e) len fun i=>(ds.drop (i*sz P e)).take (sz P e)) hH hf t C len len rfl rfl (fun E' w' hok hco hca hle hh hr hd=>⟨hle, .inr ⟨_,C,hco,hh,by rw [hca,hC],by omega, ?_, ?_, ?_, ?_⟩⟩) fun E' w' hnx hco hca hle=>?_⟩
        · rw [hca]; unfold maxLen; omega
        · intro i hi
          have:(i+1)*sz P e≤len*sz P e:=Nat.mul_le_mul_right _ (by omega)
          rw [Nat.add_mul,Nat.one_mul] at this
          have:ds.length = len*sz P e:=by rw [hds', ← hc.1]; simpa using hC
          simp; omega
        · intro i j u hi hj hu'
          exact h1 u (by rw [← Array.getElem?_toList] at hu'; exact List.mem_of_getElem? hu')
        · intro i j d u hi hd' hu'
          obtain ⟨_,hd''⟩:=Nn _ _ _ _ _ hd'
          exact hd _ _ (yW hds hc hd'' (by rw [← Array.getElem?_toList] at hu'; exact hu'))
        · have:=aK.ptr (w:=w') nid (sz P e) 0 0 w.heap.size hnx hco (by omega)
          simpa using this
    · cases h
      refine ⟨_,Jo (ob:=.box v.cells) hH hf t C 1 1 rfl rfl (fun E' w' hok hco hca hle hh hr hd=>⟨hle,_,C,t,hco,hh,hc.mono hr⟩) fun E' w' hnx hco hca hle=>?_⟩
      have:=aK.ptr (w:=w') nid v.cells.length 0 0 w.heap.size hnx hco (by omega)
      simpa using this
theorem Pc {z:V} (v:Value) (hz:z = V.ofValue v) (hn:∀ vs,v≠.tuple vs) (h:z.cells.all V.isCell = true):∀ u∈v.cells.toList,u.oneCell' = true:=by
  subst hz
  have hr:=em (E:=⟨fun _=>none,fun _=>0,fun _=>0,fun _=>False,fun _=>False⟩) (w:=default) v hn
  intro u hu
  obtain ⟨i,hi⟩:=List.getElem?_of_mem hu
  have hlt:i < (V.ofValue v).cells.length:=by rw [← hr.1]; exact (List.getElem?_eq_some_iff.1 hi).1
  exact xE (hr.2 i u _ hi (List.getElem?_eq_getElem hlt)) (List.all_eq_true.1 h _ (List.getElem_mem hlt))
theorem Jr {t:TypeId} {v:V} (h:wm P nid t v = some r):v.cells.all V.isCell = true:=by
  unfold wm at h
  cases hs:v.cells.all V.isCell with
  | true=>rfl
  | false=>simp [hs] at h
theorem TS (hH:bG E w H) (hf:¬ E.live nid) {t:TypeId} (ho:o.op = .alloc t) {z:V} (hz:Dc P t = some z) (h:wm P nid t z = some r) :
    ∃ E' w' v',(execOp ρ o).run P w = .ok (.value v') w'∧gn E w H nid r E' w' v':=by
  obtain ⟨i,v,hi,hz',hzv,hnt⟩:=qI hz
  obtain ⟨E',hp⟩:=J6 hH hf (C:=v.cells) (by rw [hzv]; exact em v hnt) (Pc v hzv hnt (Jr h)) h
  refine ⟨E',_,_, ?_,hp⟩
  simp [execOp,ho,Instr.alloc,lD hi hz',newVar,newRow]
theorem YL (hH:bG E w H) (hf:¬ E.live nid) {t:TypeId} {x:Operand} (ho:o.op = .box t x) {vx:V} (hx:aK E w (ρ x) vx) (h:wm P nid t vx = some r) :
    ∃ E' w' v',(execOp ρ o).run P w = .ok (.value v') w'∧gn E w H nid r E' w' v':=by
  obtain ⟨h1,h2⟩:=GC hx (Jr h)
  obtain ⟨E',hp⟩:=J6 hH hf h1 h2 h
  refine ⟨E',_,_, ?_,hp⟩
  simp [execOp,ho,Instr.box,newVar,newRow]
theorem H5 {α:Type} (cs xs:List α) (off:Nat) (h:off+xs.length≤cs.length):cs.take off++xs++cs.drop (off+xs.length) = setL cs off xs:=by
  apply List.ext_getElem?
  intro q
  rw [nO]
  by_cases h1:q < off
  · rw [if_neg (by omega),List.append_assoc,List.getElem?_append_left (by simp; omega),List.getElem?_take,if_pos h1]
  · by_cases h2:q < off+xs.length
    · rw [if_pos ⟨by omega,h2,by omega⟩,List.append_assoc,List.getElem?_append_right (by simp; omega),List.getElem?_append_left (by simp; omega)]
      simp [Nat.min_eq_left (show off≤cs.length by omega)]
    · rw [if_neg (by omega),List.getElem?_append_right (by simp; omega),List.getElem?_drop]
      congr 1
      simp
      omega
theorem JN (hH:bG E w H) (hf:¬ E.live nid) {t:TypeId} {a x:Operand} (ho:o.op = .store t a x) {va vx:V} (ha:aK E w (ρ a) va) (hx:aK E w (ρ x) vx) (h:vS P H t va vx = some r) :
    ∃ E' w',(execOp ρ o).run P w = .ok .skip w'∧gn E w H nid r E' w' undef:=by
  unfold vS at h
  cases hs:(Nat.beq vx.cells.length (sz P t)&&vx.cells.all V.isCell&&kA P t) with
  | false=>simp [hs] at h
  | true =>
    simp only [hs,cond_true] at h
    simp only [Bool.and_eq_true,Nat.beq_eq] at hs
    obtain ⟨hs,hkn⟩:=hs
    have hpos:=xk hkn
    obtain ⟨r1,r2⟩:=GC hx hs.2
    have hsz:(ρ x).cells.size = sz P t:=by rw [← hs.1, ← r1.1]; simp
    split at h
    · next o' k i j =>
      generalize hv:ρ a = v at ha
      cases ha with
      | ptr _ _ _ _ b hn hb hi =>
        have store:∀ (C:Array Value) (te:TypeId),w.heap[b]? = some (.cells C te (0,0))→i*k+j+sz P t≤C.size→(∃ d,P.underlying t = some d) →
            ∃ C':Array Value,(execOp ρ o).run P w = .ok .skip (w.setRow b C')∧C'.toList = setL C.toList (i*k+j) (ρ x).cells.toList:=by
          intro C te hh hle ⟨d,hd⟩
          have hst:=run_storeCells_at P b (i*k+j) te (ρ x).cells.toList 0 C w hh (by simp [hsz]; omega) r2
          rw [Nat.add_zero] at hst
          refine ⟨(C.toList.take (i*k+j)++(ρ x).cells.toList++C.toList.drop (i*k+j+(ρ x).cells.toList.length)).toArray, ?_, ?_⟩
          · simp only [execOp,ho,hv,Instr.storeAt,Instr.sureAddr,Sem.run_bind,Sem.run_pure,Result.andThen_ok,storeVar,dn hd]
            rw [if_neg (by rw [hsz]; simp)]
            rw [hst]
            rfl
          · rw [H5 _ _ _ (by simp [hsz]; omega)]
        have stays:∀ (C C':Array Value) (te:TypeId),w.heap[b]? = some (.cells C te (0,0))→gz E w [] (E.next nid none 0 0 E.ok) (w.setRow b C') ∧
            (∀ ob,(∀ (E':br),E'.ok = E.ok→E'.conc o' = some b→E'.cap o' = E.cap o'→E'.len o' = E.len o'→(∀ v d,aK E w v d→aK E' (w.setRow b C') v d)→(∀ v d,cx E.ok w v d→cx E'.ok (w.setRow b C') v d)→ly E' (w.setRow b C') o' ob) →
              bG (E.next nid none 0 0 E.ok) (w.setRow b C') ([(o',some ob)]++H)):=by
          intro C C' te hh
          have hS:gz E w [] (E.next nid none 0 0 E.ok) (w.setRow b C'):=by
            refine ⟨rfl,rfl,rfl,by simp,fun _ h=>.inr h,fun b' hlt hno=>setRow_other w b b' C' (fun e=>hno o' hn (by rw [hb,e])),fun _ h=>h,fun _ h=>.inl h,fun q hq _=>iF hf hq,fun q b' hq h'=>?_⟩
            rcases iH hq h' with ⟨_,h1,h2⟩ | ⟨_,h2⟩
            · exact .inl ⟨_,h1,h2⟩
            · cases h2
          have hr:∀ v d,aK E w v d→aK (E.next nid none 0 0 E.ok) (w.setRow b C') v d:=fun v d h=>kJ hH hS h
          have hd:∀ v d,cx E.ok w v d→cx (E.next nid none 0 0 E.ok).ok (w.setRow b C') v d:=fun v d h=>rG hH hS h
          refine ⟨hS,fun ob hob=>?_⟩
          have hcase:∀ q b,(E.next nid none 0 0 E.ok).live q→(E.next nid none 0 0 E.ok).conc q = some b→E.live q∧E.conc q = some b:=by
            intro q b hq h
            rcases iH hq h with ⟨_,h1,h2⟩ | ⟨_,h2⟩
            · exact ⟨h1,h2⟩
            · cases h2
          refine ⟨fun q x hq=>?_,fun q q' b hq hq' h h'=>?_,fun q b hq h=>?_,fun q b' hq h=>?_,fun b' h=>by simp; exact hH.oklt b' h⟩
          · rw [List.cons_append,List.nil_append,am.get_cons] at hq
            split at hq
            · next e =>
              subst e; cases hq
              obtain ⟨c1,c2,c3⟩:=iF (c:=none) (cap:=0) (len:=0) (ok':=E.ok) hf hn
              exact ⟨.inr hn,hob _ rfl (c1.trans hb) c2 c3 hr hd⟩
            · next hne =>
              obtain ⟨h1,h2⟩:=hH.at_ q x hq
              refine ⟨.inr h1,rm h2 (iF hf h1) (fun b' hb'=>setRow_other w b b' C' fun e=>?_) hr hd⟩
              subst e
              exact hne (hH.inj _ _ _ hn h1 hb hb')
          · obtain ⟨a1,a2⟩:=hcase q b hq h
            obtain ⟨b1,b2⟩:=hcase q' b hq' h'
            exact hH.inj q q' b a1 b1 a2 b2
          · obtain ⟨a1,a2⟩:=hcase q b hq h
            exact hH.sep q b a1 a2
          · obtain ⟨a1,a2⟩:=hcase q b' hq h
            simp; exact hH.lt q b' a1 a2
        split at h
        · next cs hg =>
          cases hs2:(Nat.beq cs.length k&&Nat.ble (j+sz P t) k) with
          | false=>simp [hs2] at h
          | true =>
            simp only [hs2,cond_true] at h
            simp only [Bool.and_eq_true,Nat.beq_eq,Nat.ble_eq] at hs2
            cases h
            obtain ⟨_,hlen,b',C,te,h1,h2,h3⟩:=hH.at_ _ _ hg
            rw [h1] at hb; cases hb
            have hi0:i = 0:=by omega
            subst hi0
            have hCs:C.size = k:=by rw [← hs2.1, ← h3.1]; simp
            obtain ⟨C',e1,e2⟩:=store C te h2 (by omega) hpos
            obtain ⟨hS,hN⟩:=stays C C' te h2
            refine ⟨_,_,e1,hS,hN _ fun E' hok hco hca hle hr hd=>⟨hle.trans hlen,b,C',te,hco,setRow_heap w b C C' te _ h2, ?_⟩, .unk _,eM⟩
            rw [e2,Nat.zero_mul,Nat.zero_add]
            exact (h3.setL r1 j).mono hr
        · next e k' n el hg =>
          split at h
          · next ds hds =>
            cases hs2:(Nat.beq k' k&&Nat.ble (j+sz P t) k) with
            | false=>simp [hs2] at h
            | true =>
              simp only [hs2,cond_true] at h
              simp only [Bool.and_eq_true,Nat.beq_eq,Nat.ble_eq] at hs2
              cases h
              obtain ⟨rfl,hle⟩:=hs2
              obtain ⟨C,h2,h3,h4,h6,h7,h8⟩:=xZ hH hg hb
              obtain ⟨_,hlen,hob⟩:=hH.at_ _ _ hg
              have hcm:E.cap o'≤maxLen:=by
                rcases hob with ⟨q1,_⟩ | ⟨_,_,_,_,_,_,q6,_⟩
                · rw [q1] at hb; cases hb
                · exact q6
              have him:i < n:=by omega
              have hik:(i+1)*k'≤E.cap o'*k':=Nat.mul_le_mul_right _ (by omega)
              rw [Nat.add_mul,Nat.one_mul] at hik
              obtain ⟨C',e1,e2⟩:=store C e h2 (by omega) hpos
              obtain ⟨hS,hN⟩:=stays C C' e h2
              have hdl:=(qJ hds).1
              have hxs:(ρ x).cells.toList.length = sz P t:=by simpa using hsz
              have hCl:C'.size = C.size:=by
                have:=congrArg List.length e2
                rw [mX] at this
                simpa using this
              have hget:∀ q,C'[q]? = if i*k'+j≤q∧q < i*k'+j+sz P t∧q < C.size then (ρ x).cells.toList[q - (i*k'+j)]? else C[q]?:=by
                intro q
                rw [← Array.getElem?_toList,e2,nO,hxs]
                simp
              refine ⟨_,_,e1,hS,hN _ fun E' hok hco hca hle' hr hd=>⟨hle'.trans hlen, .inr ⟨b,C',hco,setRow_heap w b C C' e _ h2,by rw [hca,hCl]; exact h3,by rw [hca]; exact h4,by rw [hca]; exact hcm, ?_, ?_, ?_⟩⟩, .unk _,eM⟩
              · intro q hq
                cases hqi:Nat.beq q i with
                | true=>simp only [hqi,cond_true]; rw [mX]; exact h6 i him
                | false=>simp only [hqi,cond_false]; exact h6 q hq
              · intro q j' u hq hj hu
                rw [hget] at hu
                split at hu
                · exact r2 u (List.mem_of_getElem? hu)
                · exact h7 q j' u hq hj hu
              · intro q j' d u hq hd' hu
                rw [hget] at hu
                cases hqi:Nat.beq q i with
                | true =>
                  simp only [hqi,cond_true] at hd'
                  have hqi':q = i:=Nat.eq_of_beq_eq_true hqi
                  subst hqi'
                  rw [nO,h6 q hq,hdl,hs.1] at hd'
                  have hj':j' < k':=by
                    split at hd'
                    · next hc=>omega
                    · have:=(List.getElem?_eq_some_iff.1 hd').1; rw [h6 q hq] at this; exact this
                  split at hd'
                  · next hc =>
                    rw [if_pos (by omega)] at hu
                    rw [show q*k'+j' - (q*k'+j) = j' - j by omega] at hu
                    exact hd _ _ (yW hds r1 hd' hu)
                  · next hc =>
                    rw [if_neg (by omega)] at hu
                    exact hd _ _ (h8 q j' d u hq hd' hu)
                | false =>
                  simp only [hqi,cond_false] at hd'
                  have hqi':q≠i:=fun e=>by subst e; simp at hqi
                  have hj':j' < k':=by have:=(List.getElem?_eq_some_iff.1 hd').1; rw [h6 q hq] at this; exact this
                  have hne:¬ (i*k'+j≤q*k'+j'∧q*k'+j' < i*k'+j+sz P t∧q*k'+j' < C.size):=by
                    rcases Nat.lt_or_gt_of_ne hqi' with hlt | hgt
                    · have:(q+1)*k'≤i*k':=Nat.mul_le_mul_right _ hlt
                      rw [Nat.add_mul,Nat.one_mul] at this
                      omega
                    · have:(i+1)*k'≤q*k':=Nat.mul_le_mul_right _ hgt
                      rw [Nat.add_mul,Nat.one_mul] at this
                      omega
                  rw [if_neg hne] at hu
                  exact hd _ _ (h8 q j' d u hq hd' hu)
          · cases h
        · cases h
        · cases h
    · cases h
theorem Rj {x:V} {ix:Nat}:∀ (l:List V) (p:Nat),(l.all (jN x)) = true→p≤ix→ix < p+l.length→II x ix l p = l.set (ix - p) x
  | [],p,_,h1,h2=>by simp at h2; omega
  | c :: r,p,ha,h1,h2=>by
    rw [List.all_cons,Bool.and_eq_true] at ha
    unfold II
    have hne:∀ (r:List V) (p:Nat),r.all (jN x) = true→ix < p→II x ix r p = r:=by
      intro r
      induction r with
      | nil=>intro p _ _; rfl
      | cons c r ih =>
        intro p ha hp
        rw [List.all_cons,Bool.and_eq_true] at ha
        unfold II
        rw [ih (p+1) ha.2 (by omega)]
        have:Nat.beq p ix = false:=by
          cases hb:Nat.beq p ix with
          | false=>rfl
          | true=>have:=Nat.eq_of_beq_eq_true hb; omega
        rw [this]
        rcases lJ ha.1 with ⟨k,a,d,rfl,rfl⟩ | ⟨a,d,rfl,rfl⟩ <;> rfl
    by_cases e:p = ix
    · subst e
      rw [Nat.sub_self,List.set_cons_zero,hne r (p+1) ha.2 (by omega),show Nat.beq p p = true from Nat.beq_refl p]
      rcases lJ ha.1 with ⟨k,a,d,rfl,rfl⟩ | ⟨a,d,rfl,rfl⟩ <;> rfl
    · have hb:Nat.beq p ix = false:=by
        cases hb:Nat.beq p ix with
        | false=>rfl
        | true=>exact (e (Nat.eq_of_beq_eq_true hb)).elim
      rw [hb,Rj r (p+1) ha.2 (by omega) (by simp only [List.length_cons] at h2; omega),show ix - p = (ix - (p+1))+1 by omega,List.set_cons_succ]
      congr 1
      rcases lJ ha.1 with ⟨k,a,d,rfl,rfl⟩ | ⟨a,d,rfl,rfl⟩ <;> rfl
theorem XA {x:V} {cs:List V} {j len ix:Nat} (ha:((cs.drop j).take len).all (jN x) = true) (hl:j+len≤cs.length) (hi:ix < len) :
    setL cs j (II x ix ((cs.drop j).take len) 0) = setL cs (j+ix) [x]:=by
  have hlen:((cs.drop j).take len).length = len:=by rw [List.length_take,List.length_drop]; omega
  rw [Rj _ 0 ha (Nat.zero_le _) (by rw [hlen]; omega),Nat.sub_zero]
  apply List.ext_getElem?
  intro q
  rw [nO,nO,List.length_set,hlen]
  by_cases h1:j+ix = q
  · subst h1
    rw [if_pos (by omega),if_pos ⟨Nat.le_refl _,by simp,by omega⟩,show j+ix - j = ix by omega,Nat.sub_self,List.getElem?_set_self (by rw [hlen]; exact hi)]
    rfl
  · rw [if_neg (show ¬ (j+ix≤q∧q < j+ix+[x].length∧q < cs.length) by simp only [List.length_cons,List.length_nil]; omega)]
    by_cases h2:j≤q∧q < j+len∧q < cs.length
    · rw [if_pos h2,List.getElem?_set_ne (by omega),List.getElem?_take,if_pos (by omega),List.getElem?_drop,show j+(q - j) = q by omega]
    · rw [if_neg h2]
theorem Qw (hH:bG E w H) (hf:¬ E.live nid) {t:TypeId} {a x:Operand} (ho:o.op = .store t a x) {va vx:V} (ha:aK E w (ρ a) va) (hx:aK E w (ρ x) vx) (h:KV P H t va vx = some r) (hp:∀ p∈r.pre,p) :
    ∃ E' w',(execOp ρ o).run P w = .ok .skip w'∧gn E w H nid r E' w' undef:=by
  unfold KV at h
  split at h
  · next f o' k i j kk ix kn n =>
    split at h
    · next cs hg =>
      cases hs:(G3 f&&BF P t cs (n.toNat) k j&&kA P t&&((cs.drop j).take (n.toNat)).all (jN vx)) with
      | false=>simp [hs] at h
      | true =>
        simp only [hs,cond_true] at h
        simp only [Bool.and_eq_true] at hs
        obtain ⟨⟨⟨hs1,hs2⟩,hkn⟩,hall⟩:=hs
        obtain ⟨hk,hle,h1,hag,hty⟩:=JR hs2
        cases h
        have p1:0≤ix:=hp _ (by simp)
        have p2:ix < ((n.toNat:Nat):Int):=hp _ (by simp)
        have hi:ix.toNat < n.toNat:=by omega
        have hcell:vx.cells = [vx]∧vx.isCell = true:=by
          have:∃ c∈(cs.drop j).take (n.toNat),True:=by
            refine ⟨((cs.drop j).take (n.toNat))[0]'(by rw [List.length_take,List.length_drop]; omega),List.getElem_mem _,trivial⟩
          obtain ⟨c,hc,_⟩:=this
          rcases lJ (List.all_eq_true.1 hall c hc) with ⟨k,a,d,rfl,rfl⟩ | ⟨a,d,rfl,rfl⟩ <;> exact ⟨rfl,rfl⟩
        have hst:vS P H t (.ptr o' k i (j+ix.toNat)) vx = some { val:=.c .unk,eff:=[(o',some (.box (setL cs (j+ix.toNat) [vx])))] }:=by
          unfold vS
          rw [hcell.1,h1,hkn]
          simp only [List.length_cons,List.length_nil,List.all_cons,List.all_nil,hcell.2,hg,hk,Nat.beq_refl,Bool.and_true,Bool.true_and]
          rw [show Nat.ble (j+ix.toNat+1) k = true from by rw [Nat.ble_eq]; omega]
          rfl
        obtain ⟨E',w',r1,r2⟩:=JN hH hf ho (Pk hs1 ha) hx hst
        refine ⟨E',w',r1, ?_⟩
        rw [XA hall (by omega) hi]
        exact ⟨r2.st,r2.heap,r2.val,r2.live⟩
    · cases h
  · exact JN hH hf ho ha hx h
end
end Go.Ax
namespace Go.Ax
open Go.RowKit
section
variable {P:Program} {ρ:Operand→Value} {E:br} {w w':World} {o:Oper} {r:cM} {H:am} {nid:Nat}
structure Zi (E:br) (w:World) (v:Value) (k n:Nat) (el:Nat→List D) (news:List Value):Prop where
  form:∃ a c,v = .slice a n c∧n≤c∧c≤maxLen∧(0 < n→∃ ad,a = some ad∧∀ q u,news[q]? = some u→w.cell? (ad.add q) = some u)
  blk:∀ ad n' c,v = .slice (some ad) n' c→0 < n→E.ok ad.block∨∃ q,E.live q∧E.conc q = some ad.block
  len:news.length = n*k
  one:∀ u∈news,u.oneCell' = true
  els:∀ i,i < n→(el i).length = k
  rep:∀ i j d u,i < n→(el i)[j]? = some d→news[i*k+j]? = some u→cx E.ok w u d
theorem Jf {k n:Nat} (u:Nat→Nat→Value) {q:Nat} {x:Value} (h:((List.range (n*k)).map fun q=>u (q / k) (q % k))[q]? = some x):q < n*k∧x = u (q / k) (q % k)∧q / k < n∧q % k < k:=by
  rw [List.getElem?_map] at h
  cases hr:(List.range (n*k))[q]? with
  | none=>rw [hr] at h; cases h
  | some p =>
    rw [hr] at h; cases h
    obtain ⟨h1,h2⟩:=List.getElem?_eq_some_iff.1 hr
    simp at h1 h2; subst h2
    have hk:0 < k:=by
      rcases Nat.eq_zero_or_pos k with h0 | h0
      · subst h0; simp at h1
      · exact h0
    exact ⟨h1,rfl,Nat.div_lt_of_lt_mul (by rw [Nat.mul_comm]; exact h1),Nat.mod_lt _ hk⟩
theorem De {k i j:Nat} (hj:j < k):(i*k+j) / k = i∧(i*k+j) % k = j:=by
  constructor
  · rw [Nat.mul_comm,Nat.mul_add_div (by omega),Nat.div_eq_of_lt hj]; rfl
  · rw [Nat.mul_comm,Nat.mul_add_mod,Nat.mod_eq_of_lt hj]
theorem Gl (hH:bG E w H) {v:Value} {x:V} {k n:Nat} {el:Nat→List D} (hx:aK E w v x) (h:jX H x = some (k,n,el)):∃ news,Zi E w v k n el news:=by
  have key:(x = .c .nil∧k = 0∧n = 0∧el = fun _=>[])∨x = .c (.sl k n el)∨∃ o' off e' m el',x = .row o' k off n∧H.get o' = some (.row e' k m el')∧el = fun i=>el' (off+i):=by
    cases x with
    | c d=>cases d <;> simp [jX] at h <;> obtain ⟨rfl,rfl,rfl⟩:=h <;> simp
    | row o' k0 off n0 =>
      cases hg:H.get o' with
      | none=>simp [jX,hg] at h
      | some ob =>
        cases ob with
        | box cs=>simp [jX,hg] at h
        | raw x=>simp [jX,hg] at h
        | row e' k' m el' =>
          cases hs:Nat.beq k' k0 with
          | false=>simp [jX,hg,hs] at h
          | true =>
            have hkk:k' = k0:=Nat.eq_of_beq_eq_true hs
            subst hkk
            simp only [jX,hg,hs,cond_true,Option.some.injEq,Prod.mk.injEq] at h
            obtain ⟨rfl,rfl,rfl⟩:=h
            exact .inr (.inr ⟨o',off,e',m,el',rfl,hg,rfl⟩)
    | _=>simp [jX] at h
  clear h
  rcases key with ⟨rfl,rfl,rfl,rfl⟩ | rfl | ⟨o',off,e',m,el',rfl,hg,rfl⟩
  · have e:=hx.nil_inv
    subst e
    exact ⟨[],⟨none,0,rfl,Nat.le_refl _,by simp [maxLen],fun h=>by omega⟩,(fun _ _ _ _ h=>by omega),by simp,by simp,fun i hi=>by omega,fun i j d u hi=>by omega⟩
  · cases hx with
    | c _ _ hx =>
      cases hx with
      | sl a _ c _ _ u hc hm ha hone hl hu =>
        refine ⟨(List.range (n*k)).map fun q=>u (q / k) (q % k),⟨a,c,rfl,hc,hm,fun hn=>?_⟩,(fun ad n' c' e hn=>by cases e; obtain ⟨ad',e1,e2,_⟩:=ha hn; cases e1; exact .inl e2),by simp,fun x hx=>?_,hl,fun i j d x hi hd hx=>?_⟩
        · obtain ⟨ad,rfl,hok,hcell⟩:=ha hn
          refine ⟨ad,rfl,fun q x hq=>?_⟩
          obtain ⟨h1,rfl,h2,h3⟩:=Jf u hq
          have:=hcell (q / k) (q % k) h2 h3
          rwa [Nat.div_add_mod' q k] at this
        · obtain ⟨q,hq⟩:=List.getElem?_of_mem hx
          obtain ⟨h1,rfl,h2,h3⟩:=Jf u hq
          exact hone _ _ h2 h3
        · obtain ⟨h1,rfl,h2,h3⟩:=Jf u hx
          have hj:j < k:=by rw [← hl i hi]; exact (List.getElem?_eq_some_iff.1 hd).1
          obtain ⟨e1,e2⟩:=De (i:=i) hj
          rw [e1,e2]
          exact hu i j d hi hd
  · cases hx with
    | row _ _ _ _ a c hn hc hm hl ha h0 =>
      obtain ⟨_,hlen,hob⟩:=hH.at_ _ _ hg
      by_cases hn:n = 0
      · subst hn
        exact ⟨[],⟨a,c,rfl,hc,hm,fun h=>by omega⟩,(fun _ _ _ _ h=>by omega),by simp,by simp,fun i hi=>by omega,fun i j d u hi=>by omega⟩
      · obtain ⟨b,hb,rfl⟩:=ha (by omega)
        obtain ⟨C,h2,h3,h4,h6,h7,h8⟩:=xZ hH hg hb
        have hle:(off+n)*k≤C.size:=by rw [h3]; exact Nat.mul_le_mul_right _ (by omega)
        rw [Nat.add_mul] at hle
        have hget:∀ q,((C.toList.drop (off*k)).take (n*k))[q]? = if q < n*k then C[off*k+q]? else none:=by
          intro q
          rw [List.getElem?_take]
          split
          · rw [List.getElem?_drop,Array.getElem?_toList]
          · rfl
        refine ⟨(C.toList.drop (off*k)).take (n*k),⟨_,c,rfl,hc,hm,fun _=>⟨_,rfl,fun q u hq=>?_⟩⟩,(fun ad n' c' e _=>by cases e; exact .inr ⟨_,(hH.at_ _ _ hg).1,hb⟩),by simp; omega,fun u hu=>?_,fun i hi=>h6 _ (by omega),fun i j d u hi hd hu=>?_⟩
        · rw [hget] at hq
          split at hq
          · rw [dS,cell_of_row w b _ C e' (0,0) h2]; exact hq
          · cases hq
        · obtain ⟨q,hq⟩:=List.getElem?_of_mem hu
          rw [hget] at hq
          split at hq
          · next hlt =>
            have hk:0 < k:=by
              rcases Nat.eq_zero_or_pos k with h0 | h0
              · subst h0; simp at hlt
              · exact h0
            have hd:q / k < n:=Nat.div_lt_of_lt_mul (by rw [Nat.mul_comm]; exact hlt)
            refine h7 (off+q / k) (q % k) u (by omega) (Nat.mod_lt _ hk) ?_
            rw [Nat.add_mul,Nat.add_assoc,Nat.div_add_mod' q k]
            exact hq
          · cases hq
        · rw [hget] at hu
          split at hu
          · refine h8 (off+i) j d u (by omega) hd ?_
            rw [Nat.add_mul,Nat.add_assoc]; exact hu
          · cases hu
theorem wv (t ty e:TypeId) (i:TypeInfo) (z:Value) (size bytes:Nat) (ht:P.underlying t = some (.slice e)) (hi:P.info? e = some i) (hz:i.zero = some z)
    (hsize:i.size = size) (hby:i.bytes = bytes) (hzs:z.cells.size = size) (hsz:0 < size)
    (v:Value) (n:Nat) (xs:List Value) (hown:w.ownsRow 0 e size v n xs)
    (a:Option Addr) (m c:Nat) (news:List Value) (hl:news.length = m*size) (hnews:0 < m→∃ ad,a = some ad∧∀ j u,news[j]? = some u→w.cell? (ad.add j) = some u) (h1:∀ u∈news,u.oneCell' = true)
    (h63:n+m≤maxLen) (hbytes:(n+m)*bytes≤140737488355328) :
    ∃ v' w',(Builtin.append_ #[t,t] ty #[v, .slice a m c]).run P w = .ok v' w'∧w'.ownsRow 0 e size v' (n+m) (xs++news)∧w.grownBy w' v.ownBlock ∧
      (v'.ownBlock = v.ownBlock∨(v'.ownBlock = some w.heap.size∧w.heap.size < w'.heap.size)):=by
  by_cases hm0:m = 0
  · subst hm0
    have hn:news = []:=List.eq_nil_of_length_eq_zero (by simpa using hl)
    subst hn
    refine ⟨v,w, ?_,by simpa using hown,⟨rfl,rfl,rfl,Nat.le_refl _,fun _ _ _=>rfl⟩, .inl rfl⟩
    rcases hown.2 with ⟨rfl,rfl⟩ | ⟨g,cap,cur,rfl,_,hg,hnc,_⟩
    · cases a <;> simp [Builtin.append_,run_underlying ht,sizeOf,typeInfo,hi,Builtin.lenOf,Builtin.firstCells,loadCells,loadCellsFrom]
    · cases a <;> simp [Builtin.append_,run_underlying ht,sizeOf,typeInfo,hi,Builtin.lenOf,Builtin.firstCells,hnc,storeCells,loadCells,loadCellsFrom]
  obtain ⟨ad,rfl,hnews'⟩:=hnews (by omega)
  subst hsize
  subst hby
  have hsmall:n+m≤9223372036854775807:=by simp only [maxLen] at h63; omega
  have hlen:(xs++news).length = (n+m)*i.size:=by rw [List.length_append,hown.1,hl,Nat.add_mul]
  have grown:∀ (old:Nat),old < n+m→∀ (row:Option Nat),
      (w.drew.alloc (.cells (xs.toArray++news.toArray++Builtin.zeroCells z.cells (grownCap w (n+m) old e - (n+m))) e)).ownsRow 0 e i.size
        (.slice (some ⟨w.heap.size,0,none⟩) (n+m) (grownCap w (n+m) old e)) (n+m) (xs++news) ∧
      w.grownBy (w.drew.alloc (.cells (xs.toArray++news.toArray++Builtin.zeroCells z.cells (grownCap w (n+m) old e - (n+m))) e)) row:=by
    intro old ho row
    have hge:=grownCap_ge w (n+m) old e
    have hcm:grownCap w (n+m) old e≤maxLen:=grownCap_le_maxLen w (n+m) old e h63
    refine ⟨⟨hlen, .inr ⟨w.heap.size,_,_,rfl,Nat.zero_le _,heap_alloc_new w.drew _,hge,hcm, ?_, ?_⟩⟩,⟨rfl,rfl,rfl,by simp,fun k hk _=>Below.heap_alloc w.drew _ k hk⟩⟩
    · simp only [Array.size_append,List.size_toArray,size_zeroCells,hzs,hown.1,hl, ← Nat.add_mul]
      congr 1
      omega
    · simp only [Array.toList_append,List.append_assoc]
      rw [← List.append_assoc, ← hlen]
      exact List.take_left
  rcases hown.2 with ⟨rfl,rfl⟩ | ⟨g,cap,cur,rfl,hbg,hg,hnc,hcm,hcs,htake⟩
  · have hx:xs = []:=List.eq_nil_of_length_eq_zero (by simpa using hown.1)
    subst hx
    have hr:=run_append_nil (P:=P) w t ty e i z ht hi hz ad m c news hl hnews' (by omega) (by omega) (by have hb:=hbytes; simp only [Nat.zero_add] at hb; omega)
    have hgr:=grown 0 (by omega) (Value.ownBlock (.slice none 0 0))
    simp only [Nat.zero_add,List.nil_append,Array.empty_append] at hgr ⊢
    exact ⟨_,_,hr,hgr.1,hgr.2, .inr ⟨rfl,by simp⟩⟩
  · by_cases hroom:n+m≤cap
    · have hfit:n*i.size+news.length≤cur.size:=by rw [hl,hcs, ← Nat.add_mul]; exact Nat.mul_le_mul_right _ hroom
      have hr:=run_append_room (P:=P) w t ty e i ht hi g n cap cur hg ad m c news hl hnews' h1 hroom hfit
      refine ⟨_,_,hr,⟨hlen, .inr ⟨g,cap,_,rfl,hbg,setRow_heap w g cur _ e _ hg,hroom,hcm, ?_, ?_⟩⟩,⟨rfl,rfl,rfl,by simp,fun k _ hk=>setRow_other w g k _ (fun e=>hk (by simp [Value.ownBlock,e]))⟩, .inl rfl⟩
      · simp only [List.size_toArray,List.length_append,List.length_take,List.length_drop,Array.length_toList]
        omega
      · rw [htake, ← hlen]
        exact List.take_left
    · have holds:∀ j u,xs[j]? = some u→w.cell? ((⟨g,0,none⟩:Addr).add j) = some u:=hown.cells (g:=g) rfl
      have hr:=run_append_grow (P:=P) w t ty e i z ht hi hz ⟨g,0,none⟩ n cap xs hown.1 holds ad m c news hl hnews' (by omega) (by omega) (growslice_fits (by omega) hbytes)
      have hgr:=grown cap (by omega) (Value.ownBlock (.slice (some ⟨g,0,none⟩) n cap))
      exact ⟨_,_,hr,hgr.1,hgr.2, .inr ⟨rfl,by simp⟩⟩
theorem RI (hH:bG E w H) {o':Nat} {e:TypeId} {k n:Nat} {el:Nat→List D} (hg:H.get o' = some (.row e k n el)) {v:Value} (hx:aK E w v (.row o' k 0 n)) :
    ∃ xs,w.ownsRow 0 e k v n xs∧v.ownBlock = E.conc o'∧(∀ i,i < n→(el i).length = k)∧(∀ i j u,i < n→j < k→xs[i*k+j]? = some u→u.oneCell' = true) ∧
      ∀ i j d u,i < n→(el i)[j]? = some d→xs[i*k+j]? = some u→cx E.ok w u d:=by
  obtain ⟨_,hlen,hob⟩:=hH.at_ _ _ hg
  cases hx with
  | row _ _ _ _ a c hn hc hm hl ha h0 =>
    rcases h0 rfl with ⟨rfl,rfl,h3⟩ | ⟨b,hb,rfl,rfl⟩
    · have:n = 0:=by omega
      subst this
      exact ⟨[],⟨by simp, .inl ⟨rfl,rfl⟩⟩,by simp [Value.ownBlock,h3],fun i hi=>by omega,fun i j u hi=>by omega,fun i j d u hi=>by omega⟩
    · obtain ⟨C,h2,h3,h4,h6,h7,h8⟩:=xZ hH hg hb
      have hle:n*k≤C.size:=by rw [h3]; exact Nat.mul_le_mul_right _ h4
      have hget:∀ (q:Nat) (u:Value),(C.toList.take (n*k))[q]? = some u→C[q]? = some u:=by
        intro q u hq
        rw [List.getElem?_take] at hq
        split at hq
        · rwa [Array.getElem?_toList] at hq
        · cases hq
      exact ⟨C.toList.take (n*k),⟨by simp; omega, .inr ⟨b,_,C,rfl,Nat.zero_le _,h2,h4,hm,h3,rfl⟩⟩,by simp [Value.ownBlock,hb],h6,fun i j u hi hj hu=>h7 i j u hi hj (hget _ _ hu),fun i j d u hi hd hu=>h8 i j d u hi hd (hget _ _ hu)⟩
theorem DZ {E':br} {w':World} {q:Nat} {e:TypeId} {k n:Nat} {el:Nat→List D} {v:Value} {xs:List Value} (hown:w'.ownsRow 0 e k v n xs) (hc:E'.conc q = v.ownBlock) (hl:E'.len q = n)
    (hcap:∀ a m c,v = .slice a m c→E'.cap q = c) (h6:∀ i,i < n→(el i).length = k) (h7:∀ i j u,i < n→j < k→xs[i*k+j]? = some u→u.oneCell' = true)
    (h8:∀ i j d u,i < n→(el i)[j]? = some d→xs[i*k+j]? = some u→cx E'.ok w' u d) :
    ly E' w' q (.row e k n el)∧((hq:E'.live q)→aK E' w' v (.row q k 0 n)):=by
  rcases hown.2 with ⟨rfl,rfl⟩ | ⟨g,cap,cur,rfl,_,hg,hnc,hcm,hcs,htake⟩
  · refine ⟨⟨hl, .inl ⟨by simpa [Value.ownBlock] using hc,rfl⟩⟩,fun hq=>?_⟩
    exact .row q k 0 0 none 0 hq (Nat.le_refl _) (by simp [maxLen]) (by omega) (fun h=>by omega) fun _=>.inl ⟨rfl,rfl,by simpa [Value.ownBlock] using hc⟩
  · have hcq:E'.conc q = some g:=by simpa [Value.ownBlock] using hc
    have hca:E'.cap q = cap:=hcap _ _ _ rfl
    have hget:∀ i j u,i < n→j < k→cur[i*k+j]? = some u→xs[i*k+j]? = some u:=by
      intro i j u hi hj hu
      have hlt:i*k+j < n*k:=by
        have:(i+1)*k≤n*k:=Nat.mul_le_mul_right _ hi
        rw [Nat.add_mul,Nat.one_mul] at this
        omega
      rw [← htake,List.getElem?_take,if_pos hlt,Array.getElem?_toList]
      exact hu
    refine ⟨⟨hl, .inr ⟨g,cur,hcq,hg,by rw [hca]; exact hcs,by rw [hca]; exact hnc,by rw [hca]; exact hcm,h6,fun i j u hi hj hu=>h7 i j u hi hj (hget i j u hi hj hu),fun i j d u hi hd hu=>?_⟩⟩,fun hq=>?_⟩
    · have hj:j < k:=by rw [← h6 i hi]; exact (List.getElem?_eq_some_iff.1 hd).1
      exact h8 i j d u hi hd (hget i j u hi hj hu)
    · exact .row q k 0 n _ cap hq hnc hcm (by omega) (fun _=>⟨g,hcq,by simp⟩) fun _=>.inr ⟨g,hcq,rfl,hca.symm⟩
def u5:Value→Nat
  | .slice _ _ c=>c
  | _=>0
theorem Mt {e:TypeId} {z:List D} (h:um P e = some z):∃ (i:TypeInfo) (v:Value),P.info? e = some i∧i.zero = some v∧v.cells.size = z.length∧(∀ (j:Nat) (d:D),z[j]? = some d→(V.ofValue v).cells[j]? = some (.c d))∧(∀ vs,v≠.tuple vs):=by
  unfold um at h
  split at h
  · next zv hz =>
    obtain ⟨i,v,hi,hz',rfl,hnt⟩:=qI hz
    obtain ⟨h1,h2⟩:=qJ h
    refine ⟨i,v,hi,hz', ?_,h2,hnt⟩
    have:=(em (E:=⟨fun _=>none,fun _=>0,fun _=>0,fun _=>False,fun _=>False⟩) (w:=default) v hnt).1
    rw [h1, ← this]; simp
  · cases h
theorem LX {e:TypeId} {i:TypeInfo} (hi:P.info? e = some i) (h:0 < sz P e):i.size = sz P e:=by
  obtain ⟨d,hd⟩:=Oh (P:=P) (t:=e) (by omega)
  exact (SZ hd hi).symm
theorem Jn {e:TypeId} {i:TypeInfo} (hi:P.info? e = some i):i.bytes = w4 P e:=by simp [w4,hi]
theorem iv (q':Nat):∀ (H:am) (q:Nat),am.get (gX [q'] H) q = vv q' (am.get H q)
  | [],q=>by simp [gX,am.get,vv]
  | (p,b) :: H,q=>by
    have ih:=iv q' H q
    simp only [gX,List.map_cons] at ih ⊢
    rw [am.get_cons,am.get_cons]
    split
    · rfl
    · exact ih
theorem As {q:Nat} {b:Option Ob} {x:Ob} (h:vv q b = some x):∃ y,b = some y∧vv q (some y) = some x:=by
  cases b with
  | none=>simp [vv] at h
  | some y=>exact ⟨y,rfl,h⟩
theorem QB (hH:bG E w H) (hf:¬ E.live nid) {c:Call} (ho:o.op = .call c) (hcal:c.callee = .builtin .append) {s x:Operand} (hargs:c.args = #[s,x]) {t:TypeId} (hat:c.argTypes = #[t,t])
    {vs vx:V} (hs:aK E w (ρ s) vs) (hx:aK E w (ρ x) vx) (h:xJ P H nid t vs vx = some r) (hp:∀ p∈r.pre,p) :
    ∃ E' w' v',(execOp ρ o).run P w = .ok (.value v') w'∧gn E w H nid r E' w' v':=by
  have key:∀ v' w',(Builtin.append_ #[t,t] o.type #[ρ s,ρ x]).run P w = .ok v' w'→(execOp ρ o).run P w = .ok (.value v') w':=by
    intro v' w' hr
    simp [execOp,ho,resolve,hcal,hargs,hat,invoke,builtin,hr]
  unfold xJ at h
  split at h
  · next e k2 n2 el2 hu hsl =>
    split at h
    · next z hz =>
      cases hs1:(Nat.beq z.length (sz P e)&&Nat.blt 0 (sz P e)&&(Nat.beq k2 (sz P e)||Nat.beq k2 0&&Nat.beq n2 0)) with
      | false=>simp [hs1] at h
      | true =>
        simp only [hs1,cond_true] at h
        simp only [Bool.and_eq_true,Bool.or_eq_true,Nat.beq_eq,Nat.blt_eq] at hs1
        obtain ⟨⟨hzl,hk0⟩,hk2⟩:=hs1
        obtain ⟨i,zv,hi,hz',hzs,_,_⟩:=Mt hz
        obtain ⟨news,hsrc⟩:=Gl hH hx hsl
        obtain ⟨a2,c2,hxv,hc2,hm2,hcell2⟩:=hsrc.form
        have hnl:news.length = n2*sz P e:=by
          rcases hk2 with h | ⟨_,h⟩
          · rw [hsrc.len,h]
          · rw [hsrc.len,h]; simp
        have hels:∀ i,i < n2→(el2 i).length = sz P e:=by
          intro i hi
          rcases hk2 with h | ⟨_,h⟩
          · rw [hsrc.els i hi,h]
          · omega
        have hrep:∀ i j d u,i < n2→(el2 i)[j]? = some d→news[i*sz P e+j]? = some u→cx E.ok w u d:=by
          intro i j d u hi hd hu
          rcases hk2 with h | ⟨_,h⟩
          · rw [← h] at hu; exact hsrc.rep i j d u hi hd hu
          · omega
        split at h
        · cases h
          have p1:n2*w4 P e≤140737488355328:=hp _ (by simp)
          have p2:n2≤140737488355328:=hp _ (by simp)
          have hsv:=hs.nil_inv
          obtain ⟨v',w',hr,hown,hgr,hpl⟩:=wv (P:=P) (w:=w) t o.type e i zv (sz P e) (w4 P e) hu hi hz' (LX hi hk0) (Jn hi) (hzs.trans hzl) hk0 (.slice none 0 0) 0 []
            (World.ownsRow_nil w 0 e _) a2 n2 c2 news hnl hcell2 hsrc.one (by unfold maxLen; omega) (by rw [Nat.zero_add]; omega)
          have hb:Below w.heap.size w w':=⟨hgr.os,hgr.tape,hgr.output,hgr.size,fun k hk=>hgr.block k hk (by simp [Value.ownBlock])⟩
          simp only [Nat.zero_add,List.nil_append] at hown
          have hpl':∀ b,v'.ownBlock = some b→w.heap.size≤b∧b < w'.heap.size∧¬ E.ok b:=by
            intro b hb'
            rcases hpl with h | ⟨h,h2⟩
            · rw [h] at hb'; simp [Value.ownBlock] at hb'
            · rw [h] at hb'; cases hb'
              exact ⟨Nat.le_refl _,h2,fun hk=>by have:=hH.oklt _ hk; omega⟩
          have hS:gz E w [] (E.next nid v'.ownBlock (u5 v') n2 E.ok) w':=gL hf _ _ _ E.ok hb (fun b h=>(hpl' b h).1) (fun _ h=>h) (fun _ h=>.inl h)
          have hN:=iJ (cap:=u5 v') (len:=n2) hf hH hb hpl' (fun _ h=>h) (fun _ h=>.inl h) (fun b h=>by have:=hH.oklt b h; have:=hb.size; omega)
          have hob:=DZ (E':=E.next nid v'.ownBlock (u5 v') n2 E.ok) (q:=nid) (el:=el2) hown (by simp [br.next]) (by simp [br.next]) (by intro a m c e; simp [br.next,e,u5]) hels
            (fun i j u hi hj hu=>hsrc.one u (List.mem_of_getElem? hu)) (fun i j d u hi hd hu=>rG hH hS (hrep i j d u hi hd hu))
          exact ⟨_,w',v',key v' w' (by rw [hsv,hxv]; exact hr),hS,vw hN (.inl rfl) hob.1,hob.2 (.inl rfl),eM⟩
        · next o' k off n =>
          split at h
          · next e' k' m el hg =>
            cases hs2:(Nat.beq off 0&&Nat.beq e' e&&Nat.beq k' k&&Nat.beq k (sz P e)) with
            | false=>simp [hs2] at h
            | true =>
              simp only [hs2,cond_true] at h
              simp only [Bool.and_eq_true,Nat.beq_eq] at hs2
              obtain ⟨⟨⟨rfl,rfl⟩,rfl⟩,hksz⟩:=hs2
              cases h
              have p1:n = m:=hp _ (by simp)
              have p2:(n+n2)*w4 P e'≤140737488355328:=hp _ (by simp)
              have p3:n+n2≤140737488355328:=hp _ (by simp)
              subst p1
              subst hksz
              obtain ⟨xs,hown0,hbl,h6,h7,h8⟩:=RI hH hg hs
              have hnq:=(hH.at_ _ _ hg).1
              obtain ⟨v',w',hr,hown,hgr,hpl⟩:=wv (P:=P) (w:=w) t o.type e' i zv (sz P e') (w4 P e') hu hi hz' (LX hi hk0) (Jn hi) (hzs.trans hzl) hk0 (ρ s) n xs
                hown0 a2 n2 c2 news hnl hcell2 hsrc.one (by unfold maxLen; omega) (by omega)
              have hblk:∀ b,b < w.heap.size→E.conc o'≠some b→w'.heap[b]? = w.heap[b]?:=fun b hb hne=>hgr.block b hb (by rw [hbl]; exact fun e=>hne e.symm)
              let E':br:=⟨fun q=>if q = o' then v'.ownBlock else E.conc q,fun q=>if q = o' then u5 v' else E.cap q,fun q=>if q = o' then n+n2 else E.len q,E.live,E.ok⟩
              have hc0:∀ q,E.live q→q≠o'→E'.conc q = E.conc q∧E'.cap q = E.cap q∧E'.len q = E.len q:=by
                intro q hq hne
                simp [E',hne]
              have hcase:∀ q b,E.live q→E'.conc q = some b→(E.live q∧q≠o'∧E.conc q = some b)∨(q = o'∧v'.ownBlock = some b):=by
                intro q b hq h
                by_cases e1:q = o'
                · subst e1; simp [E'] at h; exact .inr ⟨rfl,h⟩
                · exact .inl ⟨hq,e1,by rw [(hc0 q hq e1).1] at h; exact h⟩
              have hvb:∀ b,v'.ownBlock = some b→(E.conc o' = some b∨w.heap.size≤b)∧b < w'.heap.size∧¬ E.ok b:=by
                intro b hb
                rcases hpl with h | ⟨h,h2⟩
                · rw [h,hbl] at hb
                  exact ⟨.inl hb,by have:=hH.lt _ _ hnq hb; have:=hgr.size; omega,hH.sep _ _ hnq hb⟩
                · rw [h] at hb; cases hb
                  exact ⟨.inr (Nat.le_refl _),h2,fun hk=>by have:=hH.oklt _ hk; omega⟩
              have hS:gz E w [o'] E' w':=by
                refine ⟨hgr.os,hgr.tape,hgr.output,hgr.size,fun _ h=>h,fun b hb hno=>hblk b hb (hno o' hnq),fun _ h=>h,fun _ h=>.inl h,fun q hq hne=>hc0 q hq (by simpa using hne),fun q b hq h=>?_⟩
                rcases hcase q b hq h with ⟨a1,_,a2⟩ | ⟨rfl,a2⟩
                · exact .inl ⟨_,a1,a2⟩
                · rcases (hvb b a2).1 with h | h
                  · exact .inl ⟨_,hnq,h⟩
                  · exact .inr h
              have hrd:∀ v d,cx E.ok w v d→cx E'.ok w' v d:=fun v d h=>h.mono (fun _ h=>h) fun b hb=>hblk b (hH.oklt b hb) fun hc=>hH.sep _ _ hnq hc hb
              have hob:=DZ (E':=E') (q:=o') (el:=fun i=>bif Nat.blt i n then el i else el2 (i - n)) hown (by simp [E']) (by simp [E']) (by intro a m c e; simp [E',e,u5])
                (fun i hi=>by
                  cases hlt:Nat.blt i n with
                  | true=>simp only [cond_true]; exact h6 i (by simpa using hlt)
                  | false =>
                    simp only [cond_false]
                    have:¬ i < n:=fun h=>by rw [← Nat.blt_eq] at h; rw [h] at hlt; cases hlt
                    exact hels _ (by omega))
                (fun i j u hi hj hu=>by
                  rw [List.getElem?_append] at hu
                  split at hu
                  · next hlt =>
                    have:i < n:=by
                      rw [hown0.1] at hlt
                      rcases Nat.lt_or_ge i n with h | h
                      · exact h
                      · have:=Nat.mul_le_mul_right (sz P e') h; omega
                    exact h7 i j u this hj hu
                  · exact hsrc.one u (List.mem_of_getElem? hu))
                (fun i j d u hi hd hu=>by
                  refine hrd _ _ ?_
                  rw [List.getElem?_append] at hu
                  cases hlt:Nat.blt i n with
                  | true =>
                    have hin:i < n:=by simpa using hlt
                    simp only [hlt,cond_true] at hd
                    have hj:j < sz P e':=by rw [← h6 i hin]; exact (List.getElem?_eq_some_iff.1 hd).1
                    have:i*sz P e'+j < xs.length:=by
                      rw [hown0.1]
                      have:(i+1)*sz P e'≤n*sz P e':=Nat.mul_le_mul_right _ hin
                      rw [Nat.add_mul,Nat.one_mul] at this
                      omega
                    rw [if_pos this] at hu
                    exact h8 i j d u hin hd hu
                  | false =>
                    have hin:¬ i < n:=fun h=>by rw [← Nat.blt_eq] at h; rw [h] at hlt; cases hlt
                    simp only [hlt,cond_false] at hd
                    have:n*sz P e'≤i*sz P e':=Nat.mul_le_mul_right _ (by omega)
                    rw [if_neg (by rw [hown0.1]; omega),hown0.1] at hu
                    refine hrep (i - n) j d u (by omega) hd ?_
                    rw [Nat.sub_mul,show i*sz P e' - n*sz P e'+j = i*sz P e'+j - n*sz P e' by omega]
                    exact hu)
              have hrv:∀ v d,aK E w v d→aK E' w' v (d.kill o'):=fun v d h=>h.step hS hH.sep hH.oklt
              refine ⟨E',w',v',key v' w' (by rw [hxv]; exact hr),hS, ?_,hob.2 hnq,fun _ h=>.inl h⟩
              refine ⟨fun q x hq=>?_,fun q q' b hq hq' h h'=>?_,fun q b hq h=>?_,fun q b hq h=>?_,fun b h=>by have:=hH.oklt b h; have:=hgr.size; omega⟩
              · rw [List.cons_append,List.nil_append,am.get_cons] at hq
                split at hq
                · next e1=>subst e1; cases hq; exact ⟨hnq,hob.1⟩
                · next hne =>
                  rw [iv] at hq
                  obtain ⟨y,hy,hky⟩:=As hq
                  obtain ⟨h1,h2⟩:=hH.at_ q y hy
                  have hqb:∀ b,E.conc q = some b→w'.heap[b]? = w.heap[b]?:=fun b hb=>hblk b (hH.lt q b h1 hb) fun hc=>hne (hH.inj _ _ _ hnq h1 hc hb)
                  refine ⟨h1, ?_⟩
                  obtain ⟨c1,c2,c3⟩:=hc0 q h1 (fun e=>hne e.symm)
                  cases y with
                  | box cs =>
                    cases hky
                    obtain ⟨hl,b,C,te,g1,g2,g3⟩:=h2
                    refine ⟨c3.trans hl,b,C,te,c1.trans g1,(hqb b g1).trans g2,by rw [lv]; exact g3.1,fun i v d hv hd=>?_⟩
                    rw [qX] at hd
                    cases hx':cs[i]? with
                    | none=>rw [hx'] at hd; cases hd
                    | some y=>rw [hx'] at hd; cases hd; exact hrv _ _ (g3.2 i v y hv hx')
                  | raw x =>
                    cases hky
                    obtain ⟨hl,b,g1,g2⟩:=h2
                    exact ⟨c3.trans hl,b,c1.trans g1,(hqb b g1).trans g2⟩
                  | row te kk nn ell =>
                    cases hky
                    obtain ⟨hl,hh⟩:=h2
                    refine ⟨c3.trans hl, ?_⟩
                    rcases hh with ⟨g1,g2⟩ | ⟨b,C,g1,g2,g3,g4,g5,g6,g7,g8⟩
                    · exact .inl ⟨c1.trans g1,g2⟩
                    · exact .inr ⟨b,C,c1.trans g1,(hqb b g1).trans g2,by rw [c2]; exact g3,by rw [c2]; exact g4,by rw [c2]; exact g5,g6,g7,fun i j d u a b c=>hrd _ _ (g8 i j d u a b c)⟩
              · rcases hcase q b hq h with ⟨a1,a3,a2⟩ | ⟨rfl,a2⟩ <;> rcases hcase q' b hq' h' with ⟨b1,b3,b2⟩ | ⟨rfl,b2⟩
                · exact hH.inj q q' b a1 b1 a2 b2
                · rcases (hvb b b2).1 with h | h
                  · exact hH.inj _ _ _ a1 hnq a2 h
                  · have:=hH.lt q b a1 a2; omega
                · rcases (hvb b a2).1 with h | h
                  · exact hH.inj _ _ _ hnq b1 h b2
                  · have:=hH.lt q' b b1 b2; omega
                · rfl
              · rcases hcase q b hq h with ⟨a1,_,a2⟩ | ⟨rfl,a2⟩
                · exact hH.sep q b a1 a2
                · exact (hvb b a2).2.2
              · rcases hcase q b hq h with ⟨a1,_,a2⟩ | ⟨rfl,a2⟩
                · have:=hH.lt q b a1 a2; have:=hgr.size; omega
                · exact (hvb b a2).2.1
          · cases h
        · cases h
    · cases h
  · cases h
end
end Go.Ax
namespace Go.Ax
open Go.RowKit
section
variable {P:Program} {ρ:Operand→Value} {E:br} {w w':World} {o:Oper} {r:cM} {H:am} {nid:Nat}
theorem M2 {C:Array Value} {z:List V} {k n:Nat} (hz:cq E w C.toList z) (hk:C.size = k) (hk0:0 < k) :
    cq E w ((Array.range (n*k)).map fun q=>C[q % C.size]!).toList (uN z k n):=by
  refine ⟨by simp [uN],fun i v d hv hd=>?_⟩
  unfold uN at hd
  rw [List.getElem?_map] at hd
  rw [Array.toList_map,List.getElem?_map,Array.toList_range] at hv
  cases hr:(List.range (n*k))[i]? with
  | none=>rw [hr] at hd; cases hd
  | some q =>
    rw [hr] at hd hv
    cases hd; cases hv
    have hlt:q % k < C.size:=by rw [hk]; exact Nat.mod_lt _ hk0
    have hlt':q % k < z.length:=by rw [← hz.1]; simpa using hlt
    have:=hz.2 (q % k) _ _ (List.getElem?_eq_getElem (by simpa using hlt)) (List.getElem?_eq_getElem hlt')
    show aK E w (C[q % C.size]!) (z.getD (q % k) (V.c D.unk))
    rw [List.getD_eq_getElem?_getD,List.getElem?_eq_getElem hlt']
    simp only [hk]
    rw [getElem!_pos C _ hlt]
    simpa using this
theorem zX:∀ {cs:List V} {ds:List D},cs.mapM V.toD = some ds→cs.all V.isCell = true
  | [],ds,_=>rfl
  | v :: cs,ds,h=>by
    rw [List.mapM_cons] at h
    simp only [Option.bind_eq_bind,Option.pure_def,Option.bind_eq_some_iff,Option.some.injEq] at h
    obtain ⟨d,hd,ds',hds,rfl⟩:=h
    rw [List.all_cons,zX hds,Bool.and_true]
    cases v with
    | c d' =>
      cases d' with
      | unk=>simp [V.toD] at hd
      | nil=>rfl
      | lit u=>cases u <;> first | rfl | simp [V.toD] at hd
      | opt b us=>simp [V.toD] at hd
      | any=>rfl
      | sl=>rfl
    | _=>simp [V.toD] at hd
theorem OP {vs:List Value} {ds:List V} (h:cq E w vs ds) (hc:ds.all V.isCell = true):∀ u∈vs,u.oneCell' = true:=by
  intro u hu
  obtain ⟨i,hi⟩:=List.getElem?_of_mem hu
  have hlt:i < ds.length:=by rw [← h.1]; exact (List.getElem?_eq_some_iff.1 hi).1
  exact xE (h.2 i u _ hi (List.getElem?_eq_getElem hlt)) (List.all_eq_true.1 hc _ (List.getElem_mem hlt))
theorem Ox (hH:bG E w H) (hf:¬ E.live nid) {e:TypeId} {C:Array Value} {k n cap:Nat} {el:Nat→List D} (hr:r = { pre:=r.pre,val:=.row nid k 0 n,eff:=[(nid,some (.row e k n el))] })
    (hC:C.size = cap*k) (hn:n≤cap) (hm:cap≤maxLen) (h6:∀ i,i < n→(el i).length = k) (h7:∀ u∈C.toList,u.oneCell' = true)
    (h8:∀ i j d u,i < n→(el i)[j]? = some d→C[i*k+j]? = some u→cx E.ok w u d) :
    ∃ E',gn E w H nid r E' (w.alloc (.cells C e)) (.slice (some ⟨w.heap.size,0,none⟩) n cap):=by
  rw [hr]
  refine ⟨_,Jo (ob:=.row e k n el) hH hf e C cap n rfl rfl (fun E' w' hok hco hca hle hh hrr hd=>⟨hle, .inr ⟨_,C,hco,hh,by rw [hca,hC],by omega,by omega,h6,fun i j u hi hj hu=>?_,fun i j d u hi hd' hu=>hd _ _ (h8 i j d u hi hd' hu)⟩⟩) fun E' w' hnx hco hca hle=>?_⟩
  · rw [← Array.getElem?_toList] at hu
    exact h7 u (List.mem_of_getElem? hu)
  · exact .row nid k 0 n _ cap hnx hn hm (by omega) (fun _=>⟨_,hco,by simp⟩) fun _=>.inr ⟨_,hco,rfl,hca.symm⟩
theorem KF (hH:bG E w H) (hf:¬ E.live nid) {t:TypeId} {len:Nat} {parts:Array (Nat × Operand)} (ho:o.op = .buildSlice t len parts) {vs:List V} (hv:cq E w (parts.toList.map fun p=>ρ p.2) vs)
    (h:Ar P nid t len ((parts.toList.map (·.1)).zip vs) = some r):∃ E' w' v',(execOp ρ o).run P w = .ok (.value v') w'∧gn E w H nid r E' w' v':=by
  have hlen:(parts.toList.map (·.1)).length = vs.length:=by have:=hv.1; simpa using this
  have e1:(parts.map fun (i,x)=>(i,ρ x)).toList.map (·.1) = ((parts.toList.map (·.1)).zip vs).map (·.1):=by
    rw [List.map_fst_zip (by omega)]
    simp
  have e2:cq E w ((parts.map fun (i,x)=>(i,ρ x)).toList.map (·.2)) (((parts.toList.map (·.1)).zip vs).map (·.2)):=by
    rw [List.map_snd_zip (by omega)]
    have:(parts.map fun (i,x)=>(i,ρ x)).toList.map (·.2) = parts.toList.map fun p=>ρ p.2:=by simp
    rw [this]
    exact hv
  unfold Ar at h
  split at h
  · next e hu =>
    split at h
    · next z hz =>
      cases hs:(Nat.beq z.cells.length (sz P e)&&Nat.blt 0 (sz P e)&&Nat.ble (len*sz P e) 16777216&&kA P e) with
      | false=>simp [hs] at h
      | true =>
        simp only [hs,cond_true] at h
        simp only [Bool.and_eq_true,Nat.beq_eq,Nat.blt_eq,Nat.ble_eq] at hs
        obtain ⟨⟨⟨s1,s2⟩,s3⟩,s4⟩:=hs
        obtain ⟨d,hd⟩:=xk s4
        split at h
        · next cs hcs =>
          split at h
          · next ds hds =>
            obtain ⟨i,v,hi,hz',rfl,hnt⟩:=qI hz
            have hzr:=em (E:=E) (w:=w) v hnt
            have hvs:v.cells.size = sz P e:=by rw [← s1, ← hzr.1]; simp
            have hzz:=M2 (n:=len) hzr hvs s2
            obtain ⟨cells',f1,f2⟩:=Do _ _ _ _ _ cs hzz e1 e2 hcs
            have hdl:=(qJ hds).1
            have hcl:cells'.size = len*sz P e:=by
              have h1:cs.length = (uN (V.ofValue v).cells (sz P e) len).length:=by
                have:∀ (l:List (Nat × V)) (a b:List V),l.foldlM (qR fun i=>some (i*sz P e,sz P e)) a = some b→b.length = a.length:=by
                  intro l
                  induction l with
                  | nil=>intro a b h; simp at h; subst h; rfl
                  | cons p l ih =>
                    intro a b h
                    simp only [List.foldlM_cons,Option.bind_eq_bind,Option.bind_eq_some_iff] at h
                    obtain ⟨a',ha,h⟩:=h
                    rw [ih _ _ h]
                    unfold qR at ha
                    simp only at ha
                    cases hc:(Nat.beq p.2.cells.length (sz P e)&&p.2.cells.all V.isCell&&Nat.ble (p.1*sz P e+sz P e) a.length) with
                    | false=>simp [hc] at ha
                    | true=>simp only [hc,cond_true,Option.some.injEq] at ha; subst ha; exact mX _ _ _
                exact this _ _ _ hcs
              have h2:=f2.1
              rw [h1] at h2
              simpa [uN] using h2
            have hlm:len≤len*sz P e:=Nat.le_mul_of_pos_right _ s2
            obtain ⟨E',hp⟩:=Ox (r:=r) (C:=cells') (k:=sz P e) (n:=len) (cap:=len) (e:=e) (el:=Hi (sz P e) ds) hH hf (by cases h; rfl) hcl (Nat.le_refl _) (by unfold maxLen; omega)
              (fun i hi=>UK (len:=len) (by rw [hdl, ← f2.1]; simpa using hcl) hi)
              (OP f2 (zX hds))
              (fun i j d' u hi hd' hu'=>by
                obtain ⟨_,hd''⟩:=U5 (len:=len) (by rw [hdl, ← f2.1]; simpa using hcl) hi hd'
                exact yW hds f2 hd'' (by rw [← Array.getElem?_toList] at hu'; exact hu'))
            refine ⟨E',_,_, ?_,hp⟩
            simp only [execOp,ho,Sem.run_bind,Instr.buildSlice,run_underlying hu,Result.andThen_ok,dn hd]
            rw [if_neg (by omega)]
            have f1':Instr.fill (fun i=>some (i*sz P e,sz P e)) ((Array.range (len*sz P e)).map fun q=>v.cells[q % v.cells.size]!) (parts.map fun x=>(x.fst,ρ x.snd)).toList = some cells':=f1
            by_cases h0:len*sz P e = 0
            · have hmap:∀ f:Nat→Value,(Array.range (len*sz P e)).map f = #[]:=by
                intro f
                rw [h0,Array.range_zero']
                simp
              rw [hmap] at f1'
              rw [if_pos h0]
              simp only [Sem.run_bind,Sem.run_pure,Result.andThen_ok,hmap,f1',newRow,run_newObj]
              rfl
            · rw [if_neg h0]
              simp only [Sem.run_bind,Sem.run_pure,Result.andThen_ok,lD hi hz',f1',newRow,run_newObj]
              rfl
          · cases h
        · cases h
    · cases h
  · cases h
theorem Me (hH:bG E w H) (hf:¬ E.live nid) {t:TypeId} {l c:Operand} (ho:o.op = .makeSlice t l c) {vl vc:V} (hl:aK E w (ρ l) vl) (hc:aK E w (ρ c) vc)
    (h:DH P nid t vl vc = some r) (hp:∀ p∈r.pre,p):∃ E' w' v',(execOp ρ o).run P w = .ok (.value v') w'∧gn E w H nid r E' w' v':=by
  unfold DH at h
  split at h
  · next e a b hu =>
    have el:=hl.lit_inv
    have ec:=hc.lit_inv
    split at h
    · next z hz =>
      cases hs:(Nat.beq z.length (sz P e)&&Nat.blt 0 (sz P e)&&Nat.blt 0 (w4 P e)&&kA P e) with
      | false=>simp [hs] at h
      | true =>
        simp only [hs,cond_true] at h
        simp only [Bool.and_eq_true,Nat.beq_eq,Nat.blt_eq] at hs
        obtain ⟨⟨⟨s1,s2⟩,s3⟩,s4⟩:=hs
        have hpre:r.pre = [0≤a,a≤b,b*w4 P e≤140737488355328]:=by cases h; rfl
        have p1:0≤a:=hp _ (by rw [hpre]; simp)
        have p2:a≤b:=hp _ (by rw [hpre]; simp)
        have p3:b*w4 P e≤140737488355328:=hp _ (by rw [hpre]; simp)
        unfold um at hz
        split at hz
        · next zv hzv =>
          obtain ⟨i,v,hi,hz',rfl,hnt⟩:=qI hzv
          have hzr:=em (E:=E) (w:=w) v hnt
          obtain ⟨hzl,hzg⟩:=qJ hz
          have hvsz:v.cells.size = sz P e:=by rw [← s1,hzl, ← hzr.1]; simp
          have hzz:=M2 (n:=b.toNat) hzr hvsz s2
          have hmk:(madeCells v.cells (b.toNat*sz P e)).toList = ((Array.range (b.toNat*sz P e)).map fun q=>v.cells[q % v.cells.size]!).toList:=rfl
          rw [← hmk] at hzz
          have hb3:(b.toNat:Int) = b:=Int.toNat_of_nonneg (by omega)
          have hbb:b.toNat≤b.toNat*w4 P e:=Nat.le_mul_of_pos_right _ s3
          have hbb':b.toNat*w4 P e≤140737488355328:=by
            have:((b.toNat*w4 P e:Nat):Int)≤140737488355328:=by rw [Int.natCast_mul,hb3]; exact p3
            omega
          have hcellz:(uN (V.ofValue v).cells (sz P e) b.toNat).all V.isCell = true:=by
            rw [List.all_eq_true]
            intro x hx
            unfold uN at hx
            obtain ⟨q,hq,rfl⟩:=List.mem_map.1 hx
            have hlt:q % sz P e < (V.ofValue v).cells.length:=by rw [← hzl,s1]; exact Nat.mod_lt _ s2
            rw [List.getD_eq_getElem?_getD,List.getElem?_eq_getElem hlt]
            exact List.all_eq_true.1 (zX hz) _ (List.getElem_mem hlt)
          obtain ⟨E',hpost⟩:=Ox (r:=r) (e:=e) (C:=madeCells v.cells (b.toNat*sz P e)) (k:=sz P e) (n:=a.toNat) (cap:=b.toNat) (el:=fun _=>z) hH hf (by cases h; rfl) (size_madeCells _ _) (by omega) (by unfold maxLen; omega)
            (fun _ _=>s1) (OP hzz hcellz)
            (fun i' j d' u hi' hd' hu'=>by
              have hj:j < sz P e:=by rw [← s1]; exact (List.getElem?_eq_some_iff.1 hd').1
              have hlt:i'*sz P e+j < b.toNat*sz P e:=by
                have:(i'+1)*sz P e≤b.toNat*sz P e:=Nat.mul_le_mul_right _ (by omega)
                rw [Nat.add_mul,Nat.one_mul] at this
                omega
              have hg:(uN (V.ofValue v).cells (sz P e) b.toNat)[i'*sz P e+j]? = some (.c d'):=by
                unfold uN
                rw [List.getElem?_map,List.getElem?_eq_getElem (by simpa using hlt)]
                simp only [List.getElem_range,Option.map_some,Option.some.injEq]
                rw [(De (i:=i') hj).2,List.getD_eq_getElem?_getD,hzg j d' hd']
                rfl
              have h2:=hzz.2 _ u _ (by rw [Array.getElem?_toList]; exact hu') hg
              cases h2 with | c _ _ h=>exact h)
          refine ⟨E',_,_, ?_,hpost⟩
          have hr:=run_make (P:=P) w t e i v hu hi hz' .i64 .i64 a b p1 p2 (by rw [Jn hi,Int.mul_comm]; omega) (by omega)
          rw [LX hi s2] at hr
          simp only [execOp,ho,el,ec,Sem.run_bind,hr,Result.andThen_ok]
          rfl
        · cases hz
    · cases h
  · cases h
end
end Go.Ax
