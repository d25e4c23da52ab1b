import Derived.Below
import Derived.Orders
import Derived.KernelRfl
import Derived.WalkKit
import Derived.ChangeKeysEq
import Derived.Test.YtokecajedkojlaaGreatZB0
set_option linter.all false
/- Abstract values, abstract heaps and an abstract interpreter for the model's code. -/
namespace Go.Ax
inductive D where
  | unk
  | nil
  | lit (v:Value)
  | sl (t:Ty) (l:List t.T)
  | opt (b:Bool) (us:List Value)
  | any
def lj:(t:Ty)→t.T→D
  | .i k,x=>.lit (.int k x)
  | .b,x=>.lit (.bool x)
  | .s,x=>.lit (.string x)
  | .ls t,l=>.sl t l
  | .st _,_=>.unk
  | .arr _ _,_=>.unk
def kD:(ts:List Ty)→HP ts→List D
  | [],_=>[]
  | [t],x=>[lj t x]
  | t :: u :: r,x=>lj t x.1 :: kD (u :: r) x.2
def Ty.z:(t:Ty)→t.T
  | .i _=>(0:Int)
  | .b=>false
  | .s=>ac []
  | .st k=>zS k
  | .ls _=>[]
  | .arr n t=>List.replicate n t.z
def Ty.k:Ty→Nat
  | .st k=>(lf k).length
  | .arr n t=>n*t.k
  | _=>1
abbrev gD {α:Type} (l:List α) (i:Nat) (z:α):α:=l.getD i z
abbrev aa (p:Prop) [d:Decidable p]:Bool:=@decide p d
abbrev af (a b:Int):Bool:=a == b
abbrev aK (a b:Int):Bool:=a != b
abbrev Vf (a b:Bool):Bool:=a == b
abbrev p2 (y:Int) (b:Nat):Int:=2 ^ min y.toNat b
abbrev qJ (n:Nat) (a b:Int):Int:=((BitVec.ofInt n a &&& BitVec.ofInt n b).toNat:Int)
abbrev PF (n:Nat) (a b:Int):Int:=((BitVec.ofInt n a ||| BitVec.ofInt n b).toNat:Int)
abbrev QT (n:Nat) (a b:Int):Int:=((BitVec.ofInt n a ^^^ BitVec.ofInt n b).toNat:Int)
abbrev P8 (n:Nat) (a b:Int):Int:=((BitVec.ofInt n a &&& ~~~(BitVec.ofInt n b)).toNat:Int)
abbrev aH (a b:ByteArray):Bool:=a.toList == b.toList
def Ty.enc:(t:Ty)→t.T→List D
  | .st k,x=>kD (lf k) (Px k x)
  | .arr n t,l=>(List.range n).flatMap fun i=>t.enc (gD l i t.z)
  | .i k,x=>[lj (.i k) x]
  | .b,x=>[lj .b x]
  | .s,x=>[lj .s x]
  | .ls t,x=>[lj (.ls t) x]
def els (t:Ty) (l:List t.T) (i:Nat):List D:=t.enc (gD l i t.z)
def nO (t' t:Ty) (l:List t'.T):Option (List t.T):=if h:t' = t then some (h ▸ l) else none
def Aq:(t:Ty)→D→Option t.T
  | .i k, .lit (.int k' n)=>if k = k' then some n else none
  | .b, .lit (.bool b)=>some b
  | .s, .lit (.string s)=>some s
  | .ls t, .sl t' l=>nO t' t l
  | .ls _, .nil=>some []
  | _,_=>none
def Gd:(ts:List Ty)→List D→Option (HP ts)
  | [],[]=>some ()
  | [t],[d]=>Aq t d
  | t :: u :: r,d :: ds=>match Aq t d,Gd (u :: r) ds with
    | some x,some y=>some (x,y)
    | _,_=>none
  | _,_=>none
def wH {α:Type} (f:List D→Option α) (k:Nat):Nat→List D→Option (List α)
  | 0,ds=>bif ds.isEmpty then some [] else none
  | n+1,ds=>match f (ds.take k),wH f k n (ds.drop k) with
    | some x,some l=>some (x :: l)
    | _,_=>none
def lB:(t:Ty)→List D→Option t.T
  | .st k,ds=>(Gd (lf k) ds).map (PP k)
  | .arr n t,ds=>wH (lB t) t.k n ds
  | .i k,[d]=>Aq (.i k) d
  | .b,[d]=>Aq .b d
  | .s,[d]=>Aq .s d
  | .ls t,[d]=>Aq (.ls t) d
  | _,_=>none
inductive V where
  | c (d:D)
  | agg (vs:List V)
  | tup (vs:List V)
  | ptr (o k i j:Nat)
  | row (o k:Nat)
  | sub (o k off n:Nat)
  | dptr (k:Nat) (cs:List D) (j:Nat)
  | fn (f:FuncId) (caps:List V)
inductive Ob where
  | box (cs:List V)
  | row (e:TypeId) (t:Ty) (l:List t.T)
  | raw (x:Obj)
  | map (t:TypeId) (kt vt:Ty) (ks:List kt.T) (vs:List vt.T)
abbrev ak:=List (Nat × Option Ob)
def ak.get:ak→Nat→Option Ob
  | [],_=>none
  | (o',b) :: r,o=>bif Nat.beq o' o then b else ak.get r o
abbrev i64 (n:Int):V:=.c (.lit (.int .i64 n))
abbrev bl (b:Bool):V:=.c (.lit (.bool b))
abbrev U9 (s:ByteArray):V:=.c (.lit (.string s))
def D.ofCell:Value→D
  | .slice none 0 0=>.nil
  | v=>.lit v
def V.ofValue:Value→V
  | .agg cs=>.agg (cs.toList.map fun v=>.c (D.ofCell v))
  | .tuple vs=>match vs.toList with | []=>.c .unk | _=>.c (.lit (.tuple vs))
  | v=>.c (D.ofCell v)
def V.isCell:V→Bool
  | .c .unk=>false
  | .c (.lit (.agg _))=>false
  | .c (.lit (.tuple _))=>false
  | .c (.opt ..)=>false
  | .c _=>true
  | .ptr ..=>true
  | .row ..=>true
  | .sub ..=>true
  | .fn ..=>true
  | _=>false
def V.cells:V→List V
  | .agg vs=>vs
  | v=>[v]
def V.toD:V→Option D
  | .c .unk=>none
  | .c (.lit (.agg _))=>none
  | .c (.lit (.tuple _))=>none
  | .c (.opt ..)=>none
  | .c d=>some d
  | _=>none
def encV:(t:Ty)→t.T→V
  | .st k,x=>.agg ((Ty.enc (.st k) x).map .c)
  | .arr n t,x=>.agg ((Ty.enc (.arr n t) x).map .c)
  | .i k,x=>.c (lj (.i k) x)
  | .b,x=>.c (lj .b x)
  | .s,x=>.c (lj .s x)
  | .ls t,x=>.c (.sl t x)
def JK:(t:Ty)→V→Option t.T
  | .st k, .agg cs=>match cs.mapM V.toD with | some ds=>lB (.st k) ds | none=>none
  | .arr n t, .agg cs=>match cs.mapM V.toD with | some ds=>lB (.arr n t) ds | none=>none
  | .i k, .c d=>Aq (.i k) d
  | .b, .c d=>Aq .b d
  | .s, .c d=>Aq .s d
  | .ls t, .c d=>Aq (.ls t) d
  | _,_=>none
def RB (o:Nat):V:=.fn 2000000000 [.ptr o 1 0 0]
def Lw:D→Value
  | .lit v=>v
  | _=>undef
def Uu:(t:Ty)→t.T→Value
  | .st k,x=>.agg ((Ty.enc (.st k) x).map Lw).toArray
  | t,x=>Lw ((t.enc x).headD .unk)
def U8:(t:Ty)→t.T→t.T→Bool
  | .i _,a,b=>af a b
  | _,_,_=>false
def Rm:(t:Ty)→V→Option t.T
  | .i k, .c (.lit (.int k' n))=>if k = k' then some n else none
  | _,_=>none
def cZ (t:Ty):List t.T→t.T→Nat
  | [],_=>0
  | x :: r,k=>bif U8 t x k then 0 else cZ t r k+1
def pN (t:Ty) (ks:List t.T) (k:t.T):Bool:=Nat.blt (cZ t ks k) ks.length
def mX (t:Ty) {T:Type} (ks:List t.T) (vs:List T) (k:t.T) (z:T):T:=vs.getD (cZ t ks k) z
def lJ (t:Ty) (ks:List t.T) (k:t.T):List t.T:=bif pN t ks k then ks else ks++[k]
def lu (t:Ty) {T:Type} (ks:List t.T) (vs:List T) (k:t.T) (v:T):List T:=bif pN t ks k then vs.set (cZ t ks k) v else vs++[v]
def tA (H:ak):V→Option (Nat × Ob)
  | .fn f [.ptr o _ _ _]=>bif Nat.beq f 2000000000 then (match H.get o with | some b=>some (o,b) | none=>none) else none
  | _=>none
def ve (H:ak) (o k:Nat):V :=
  match H.get o with
  | some (.row _ t l)=>bif Nat.beq t.k k then .c (.sl t l) else .c .unk
  | _=>.c .unk
def ao {T:Type} (l:List T) (off n:Nat):List T:=(l.drop off).take n
def um (H:ak) (o k off n:Nat):V :=
  match H.get o with
  | some (.row _ t l)=>bif Nat.beq t.k k then .c (.sl t (ao l off n)) else .c .unk
  | _=>.c .unk
def rz (H:ak):V→D
  | .c d=>d
  | .row o k=>match ve H o k with | .c d=>d | _=>.unk
  | .sub o k off n=>match um H o k off n with | .c d=>d | _=>.unk
  | _=>.unk
def NJ (H:ak) (o k i j:Nat):V :=
  match H.get o with
  | some (.row _ t l)=>bif Nat.beq t.k k then .dptr k (els t l i) j else .c .unk
  | some (.box cs)=>bif Nat.beq cs.length k then .dptr k (cs.map (rz H)) j else .c .unk
  | some (.raw _)=>.c .unk
  | some (.map ..)=>.c .unk
  | none=>.c .unk
def yg (l:List Int):ByteArray:=⟨(l.map fun x=>UInt8.ofNat x.toNat).toArray⟩
def FS (s:ByteArray) (pos:Nat):Int:=(Utf8.decode s pos).1
def Ge (s:ByteArray) (pos:Nat):Nat:=(Utf8.decode s pos).2
mutual
def V.view (H:ak):V→V
  | .c d=>.c d
  | .agg vs=>.agg (V.views H vs)
  | .tup vs=>.tup (V.views H vs)
  | .ptr o k i j=>NJ H o k i j
  | .row o k=>ve H o k
  | .sub o k off n=>um H o k off n
  | .dptr k cs j=>.dptr k cs j
  | .fn f caps=>.fn f (V.views H caps)
def V.views (H:ak):List V→List V
  | []=>[]
  | v :: r=>V.view H v :: V.views H r
end
mutual
def V.refs:V→List Nat
  | .c _=>[]
  | .agg vs=>V.refss vs
  | .tup vs=>V.refss vs
  | .ptr o _ _ _=>[o]
  | .row o _=>[o]
  | .sub o _ _ _=>[o]
  | .dptr ..=>[]
  | .fn _ caps=>V.refss caps
def V.refss:List V→List Nat
  | []=>[]
  | v :: r=>V.refs v++V.refss r
end
mutual
def V.kill (o:Nat):V→V
  | .c d=>.c d
  | .agg vs=>.agg (V.kills o vs)
  | .tup vs=>.tup (V.kills o vs)
  | .ptr o' k i j=>bif Nat.beq o' o then .c .unk else .ptr o' k i j
  | .row o' k=>bif Nat.beq o' o then .c .unk else .row o' k
  | .sub o' k off n=>bif Nat.beq o' o then .c .unk else .sub o' k off n
  | .dptr k cs j=>.dptr k cs j
  | .fn f caps=>.fn f (V.kills o caps)
def V.kills (o:Nat):List V→List V
  | []=>[]
  | v :: r=>V.kill o v :: V.kills o r
end
inductive kQ where
  | data (v:V)
  | new (v:V)
  | own (fresh:Bool) (e:TypeId) (t:Ty) (l:List t.T)
abbrev Pz:=List V→Option (Bool × kQ)
inductive fL:List Prop→Type
  | nil:fL []
  | cons {p:Prop} {ps:List Prop} (d:Decidable p) (r:fL ps):fL (p :: ps)
attribute [class] fL
instance:fL []:=.nil
instance {p:Prop} {ps:List Prop} [d:Decidable p] [r:fL ps]:fL (p :: ps):=.cons d r
structure aA where
  pre:List Prop:=[]
  dec:fL pre:=by infer_instance
  val:V
  eff:ak:=[]
  kill:List Nat:=[]
inductive CC where
  | pure (c:Pz)
  | mut (m:ak→Nat→List V→Option aA)
def aQ (H:ak) (vs:List V):List Nat :=
  V.refss vs++(V.refss vs).flatMap fun o=>match H.get o with | some (.box cs)=>V.refss cs | _=>[]
def bD:List Nat→ak→ak
  | [],_=>[]
  | o :: r,H=>match ak.get H o with | some b=>(o,some b) :: bD r H | none=>bD r H
def Q4:Option Ob→Bool
  | some (.row ..)=>true
  | _=>false
mutual
def V.noUnk:V→Bool
  | .c .unk=>false
  | .c _=>true
  | .agg vs=>V.noUnks vs
  | .tup vs=>V.noUnks vs
  | .ptr ..=>true
  | .row ..=>true
  | .sub ..=>true
  | .dptr ..=>true
  | .fn _ vs=>V.noUnks vs
def V.noUnks:List V→Bool
  | []=>true
  | v :: r=>V.noUnk v&&V.noUnks r
end
def Lr:Option Ob→Bool
  | some (.row ..)=>true
  | some (.raw _)=>true
  | some (.map ..)=>true
  | some (.box cs)=>V.noUnks cs
  | none=>false
def qD:Option Ob→List Nat
  | some (.box cs)=>V.refss cs
  | _=>[]
def qu (H:ak) (vs:List V):Bool × List Nat:=((aQ H vs).all fun o=>Lr (H.get o),(aQ H vs).flatMap fun o=>qD (H.get o))
def Cx (H:ak):List Nat:=H.flatMap fun x=>qD x.2
section
variable (P:Program)
def sz (t:TypeId):Nat:=match P.underlying t,P.info? t with | some _,some i=>i.size | _,_=>0
def tg (t:TypeId):Nat:=match P.info? t with | some i=>i.bytes | none=>0
def gA (t:TypeId):Bool:=match P.underlying t with | some (.struct _)=>true | some (.array _ _)=>true | _=>false
def fY (t:TypeId):Bool:=gA P t||Nat.blt 0 (sz P t)
def tv (t:TypeId):Option V:=match P.info? t with | some i=>(match i.zero with | some (.tuple _)=>none | some v=>some (V.ofValue v) | none=>none) | none=>none
def gz (t:TypeId):Bool:=match P.underlying t with | some _=>true | none=>false
def Qr:List (Nat × SK)→Nat→Option SK
  | [],_=>none
  | (i,k) :: r,t=>bif Nat.beq i t then some k else Qr r t
def Wl:Nat→TypeId→Option Ty
  | 0,_=>none
  | d+1,t=>match P.underlying t with
    | some (.int k)=>some (.i k)
    | some .bool=>some .b
    | some .string=>some .s
    | some (.slice e)=>(Wl d e).map .ls
    | some (.struct _)=>(Qr Vb t).map .st
    | some (.array n e)=>(Wl d e).map (.arr n)
    | _=>none
def Kg (t:TypeId):Option Ty:=match Wl P 9 t with | some ty=>bif Nat.beq ty.k (sz P t) then some ty else none | none=>none
def nV (ag:Bool) (cs:List V) (j n:Nat):V :=
  bif ag then .agg ((cs.drop j).take n) else (cs.drop j).headD (.c .unk)
def Lq (ag:Bool) (cs:List D) (j n:Nat):V :=
  bif ag then .agg ((List.range n).map fun q=>.c (cs.getD (j+q) .unk)) else .c (cs.getD j .unk)
def setL {α:Type}:List α→Nat→List α→List α
  | cs,_,[]=>cs
  | cs,off,x :: r=>setL (cs.set off x) (off+1) r
def pe (H:ak) (t:TypeId) (a:V):Option aA :=
  match a with
  | .ptr o k i j =>
    match H.get o with
    | some (.box cs)=>bif Nat.beq cs.length k&&Nat.ble (j+sz P t) k&&fY P t then some { val:=nV (gA P t) cs j (sz P t) } else none
    | some (.row _ ty l) =>
      bif Nat.beq ty.k k&&Nat.ble (j+sz P t) k&&fY P t then some { val:=Lq (gA P t) (els ty l i) j (sz P t) }
      else bif Nat.beq ty.k k&&Nat.beq i 0&&Nat.beq j 0&&gA P t&&Nat.blt 0 k then
        some { pre:=[l.length*k = sz P t],val:=.agg ((List.range (sz P t / k)).flatMap fun i=>(List.range k).map fun q=>.c ((els ty l i).getD q .unk)) }
      else none
    | some (.raw _)=>none
    | some (.map ..)=>none
    | none=>none
  | .dptr k cs j=>bif Nat.ble (j+sz P t) k&&fY P t then some { val:=Lq (gA P t) cs j (sz P t) } else none
  | _=>none
def sw (H:ak) (t:TypeId) (a x:V):Option aA :=
  bif Nat.beq x.cells.length (sz P t)&&x.cells.all V.isCell&&gz P t then
    match a with
    | .ptr o k i j =>
      match H.get o with
      | some (.box cs)=>bif Nat.beq cs.length k&&Nat.ble (j+sz P t) k then some { val:=.c .unk,eff:=[(o,some (.box (setL cs j x.cells)))] } else none
      | some (.row e ty l) =>
        match x.cells.mapM V.toD with
        | some ds=>bif Nat.beq ty.k k&&Nat.ble (j+sz P t) k then
            (match lB ty (setL (els ty l i) j ds) with | some y=>some { val:=.c .unk,eff:=[(o,some (.row e ty (l.set i y)))] } | none=>none)
          else bif Nat.beq ty.k k&&Nat.beq i 0&&Nat.beq j 0&&Nat.blt 0 k then
            (match wH (lB ty) k (sz P t / k) ds with | some l'=>some { pre:=[l.length*k = sz P t],val:=.c .unk,eff:=[(o,some (.row e ty l'))] } | none=>none) else none
        | none=>none
      | some (.raw _)=>none
      | some (.map ..)=>none
      | none=>none
    | _=>none
  else none
def zZ (t:TypeId) (f:Nat):Option (Nat × TypeId) :=
  match P.underlying t with
  | some (.struct fs)=>(match fs[f]? with | some fl=>some (fl.offset,fl.type) | none=>none)
  | _=>none
def Nu (op:BinOp) (k:IntKind) (a b:Int):Option aA :=
  match op with
  | .add=>some { val:=.c (.lit (.int k (k.wrap (a+b)))) }
  | .sub=>some { val:=.c (.lit (.int k (k.wrap (a - b)))) }
  | .mul=>some { val:=.c (.lit (.int k (k.wrap (a*b)))) }
  | .quo=>some { pre:=[b≠0],val:=.c (.lit (.int k (k.wrap (a.tdiv b)))) }
  | .rem=>some { pre:=[b≠0],val:=.c (.lit (.int k (a.tmod b))) }
  | .and=>some { val:=.c (.lit (.int k (k.wrap (qJ k.bits a b)))) }
  | .or=>some { val:=.c (.lit (.int k (k.wrap (PF k.bits a b)))) }
  | .xor=>some { val:=.c (.lit (.int k (k.wrap (QT k.bits a b)))) }
  | .andNot=>some { val:=.c (.lit (.int k (k.wrap (P8 k.bits a b)))) }
  | .eql=>some { val:=bl (af a b) }
  | .neq=>some { val:=bl (aK a b) }
  | .lss=>some { val:=bl (aa (a < b)) }
  | .leq=>some { val:=bl (aa (a≤b)) }
  | .gtr=>some { val:=bl (aa (b < a)) }
  | .geq=>some { val:=bl (aa (b≤a)) }
  | _=>none
def zD (op:BinOp) (k:IntKind) (a y:Int):Option aA :=
  match op with
  | .shl=>some { pre:=[0≤y],val:=.c (.lit (.int k (k.wrap (a*p2 y k.bits)))) }
  | .shr=>some { pre:=[0≤y],val:=.c (.lit (.int k (a.fdiv (p2 y k.bits)))) }
  | _=>none
def Oa (op:BinOp) (x y:ByteArray):Option aA :=
  match op with
  | .add=>some { pre:=[x.size+y.size≤9223372036854775807],val:=U9 (x++y) }
  | .eql=>some { val:=bl (aH x y) }
  | .neq=>some { val:=bl (!(aH x y)) }
  | .lss=>some { val:=bl (Op.bytesLess x.toList y.toList) }
  | .leq=>some { val:=bl (Op.bytesLess x.toList y.toList||aH x y) }
  | .gtr=>some { val:=bl (!(Op.bytesLess x.toList y.toList||aH x y)) }
  | .geq=>some { val:=bl (!(Op.bytesLess x.toList y.toList)) }
  | _=>none
def MS:Nat→TypeId→V→V→Option Bool
  | 0,_,_,_=>none
  | d+1,t,x,y =>
    match P.underlying t,x,y with
    | some (.int _), .c (.lit (.int k a)), .c (.lit (.int k' b))=>if k = k' then some (af a b) else none
    | some .bool, .c (.lit (.bool a)), .c (.lit (.bool b))=>some (Vf a b)
    | some .string, .c (.lit (.string a)), .c (.lit (.string b))=>some (aH a b)
    | some (.struct fs), .agg xs, .agg ys =>
      bif P.stoodInHeld t then none else
      fs.toList.foldr (fun f acc=>bif f.name == "_" then none else
        bif Nat.ble (f.offset+sz P f.type) xs.length&&Nat.ble (f.offset+sz P f.type) ys.length&&fY P f.type then
        match MS d f.type (nV (gA P f.type) xs f.offset (sz P f.type)) (nV (gA P f.type) ys f.offset (sz P f.type)),acc with
        | some a,some b=>some (a&&b)
        | _,_=>none
        else none) (some true)
    | some (.array len e), .agg xs, .agg ys =>
      bif Nat.ble (len*sz P e) xs.length&&Nat.ble (len*sz P e) ys.length&&fY P e then
      (List.range len).foldr (fun i acc =>
        match MS d e (nV (gA P e) xs (i*sz P e) (sz P e)) (nV (gA P e) ys (i*sz P e) (sz P e)),acc with
        | some a,some b=>some (a&&b)
        | _,_=>none) (some true)
      else none
    | _,_,_=>none
def TN (op:BinOp) (t:TypeId) (x y:V):Option aA :=
  match x,y with
  | .c (.lit (.int k a)), .c (.lit (.int k' b)) =>
    match op with
    | .shl=>zD op k a b
    | .shr=>zD op k a b
    | op=>if k = k' then Nu op k a b else none
  | .c (.lit (.string a)), .c (.lit (.string b))=>Oa op a b
  | .c (.lit (.bool a)), .c (.lit (.bool b)) =>
    match P.underlying t,op with
    | some .bool, .eql=>some { val:=bl (Vf a b) }
    | some .bool, .neq=>some { val:=bl (!(Vf a b)) }
    | _,_=>none
  | .agg xs, .agg ys =>
    bif P.eqGuardType P.depth t then none else
    match op,MS P 10 t (.agg xs) (.agg ys) with
    | .eql,some b=>some { val:=bl b }
    | .neq,some b=>some { val:=bl (!b) }
    | _,_=>none
  | _,_=>none
def V0 (op:UnOp) (x:V):Option aA :=
  match op,x with
  | .neg, .c (.lit (.int k n))=>some { val:=.c (.lit (.int k (k.wrap (0 - n)))) }
  | .xor, .c (.lit (.int k n))=>some { val:=.c (.lit (.int k (k.wrap (QT k.bits (if k.signed then -1 else k.max) n)))) }
  | .not, .c (.lit (.bool b))=>some { val:=bl (!b) }
  | _,_=>none
def Qm (src dst:TypeId) (x:V):Option aA :=
  match P.underlying src,P.underlying dst,x with
  | some (.int _),some (.int k), .c (.lit (.int _ n))=>some { val:=.c (.lit (.int k (k.wrap n))) }
  | some .string,some .string, .c (.lit (.string s))=>some { val:=U9 s }
  | _,_,_=>none
def cE (H:ak) (t:Ty):V→Option (List t.T)
  | .c .nil=>some []
  | .c (.sl t' l)=>nO t' t l
  | .row o k=>match H.get o with | some (.row _ t' l)=>bif Nat.beq t'.k k then nO t' t l else none | _=>none
  | .sub o k off n=>match H.get o with | some (.row _ t' l)=>bif Nat.beq t'.k k then (nO t' t l).map fun l=>ao l off n else none | _=>none
  | _=>none
def Fu (H:ak) (x:V):Option aA:=(cE H (.i .u8) x).map fun l=>{ val:=U9 (yg l) }
def zK (H:ak) (t:TypeId) (x:V):Option aA :=
  match P.underlying t,x with
  | some (.slice _), .c .nil=>some { val:=i64 0 }
  | some (.slice _), .c (.sl _ l)=>some { val:=i64 l.length }
  | some (.slice _), .row o _=>(match H.get o with | some (.row _ _ l)=>some { val:=i64 l.length } | _=>none)
  | some (.slice _), .sub _ _ _ n=>some { val:=i64 n }
  | some .string, .c (.lit (.string s))=>some { val:=i64 s.size }
  | _,_=>none
def HU (m x:V):Option V :=
  match m,x with | .c (.lit (.int k a)), .c (.lit (.int _ b))=>some (V.c (.lit (.int k (bif aa (b < a) then b else a)))) | _,_=>none
def IT (m x:V):Option V :=
  match m,x with | .c (.lit (.int k a)), .c (.lit (.int _ b))=>some (V.c (.lit (.int k (bif aa (a < b) then b else a)))) | _,_=>none
def Rg:List V→Option V
  | []=>none
  | x :: r=>r.foldlM HU x
def Rb:List V→Option V
  | []=>none
  | x :: r=>r.foldlM IT x
def qZ (t:TypeId):Option (List D):=match tv P t with | some v=>v.cells.mapM V.toD | none=>none
def P5 (e:TypeId):Bool:=match qZ P e with | some z=>Nat.beq z.length (sz P e) | none=>false
def oD (H:ak) (nid:Nat) (t:TypeId) (s x:V):Option aA :=
  match P.underlying t with
  | some (.slice e) =>
    match s with
    | .c .nil=>match Kg P e with
      | some ty=>match cE H ty x with
        | some l2=>bif Nat.blt 0 ty.k&&gz P e&&P5 P e then some { pre:=[l2.length*tg P e≤140737488355328,l2.length≤140737488355328],val:=.row nid ty.k,eff:=[(nid,some (.row e ty l2))] } else none
        | none=>none
      | none=>none
    | .row o k =>
      match H.get o with
      | some (.row e' ty l)=>match cE H ty x with
        | some l2=>bif Nat.beq e' e&&Nat.beq ty.k k&&Nat.beq k (sz P e)&&Nat.blt 0 k&&P5 P e then
            some { pre:=[(l.length+l2.length)*tg P e≤140737488355328,l.length+l2.length≤140737488355328],val:=.row o k,eff:=[(o,some (.row e ty (l++l2)))],kill:=[o] } else none
        | none=>none
      | _=>none
    | _=>none
  | _=>none
def ut (gC:Nat→Option (Nat × Nat)) (cs:List V) (p:Nat × V):Option (List V) :=
  match gC p.1 with
  | some (off,size)=>bif Nat.beq p.2.cells.length size&&p.2.cells.all V.isCell&&Nat.ble (off+size) cs.length then some (setL cs off p.2.cells) else none
  | none=>none
def xU (fs:Array Field) (i:Nat):Option (Nat × Nat):=match fs[i]? with | some f=>some (f.offset,sz P f.type) | none=>none
def NH (t:TypeId) (parts:List (Nat × V)):Option aA :=
  match P.underlying t,tv P t with
  | some (.struct fs),some z=>bif fs.toList.all (fun f=>gz P f.type) then (match parts.foldlM (ut (xU P fs)) z.cells with | some cs=>some { val:=.agg cs } | none=>none) else none
  | some (.array _ e),some z=>bif gz P e then (match parts.foldlM (ut fun i=>some (i*sz P e,sz P e)) z.cells with | some cs=>some { val:=.agg cs } | none=>none) else none
  | _,_=>none
def vS (z:List V) (k n:Nat):List V:=(List.range (n*k)).map fun q=>z.getD (q % k) (.c .unk)
def wE (nid:Nat) (t:TypeId) (len:Nat) (parts:List (Nat × V)):Option aA :=
  match P.underlying t with
  | some (.slice e) =>
    match tv P e,Kg P e with
    | some z,some ty =>
      bif Nat.beq z.cells.length (sz P e)&&Nat.blt 0 (sz P e)&&Nat.ble (len*sz P e) 16777216&&gz P e then
      match parts.foldlM (ut fun i=>some (i*sz P e,sz P e)) (vS z.cells (sz P e) len) with
      | some cs=>match cs.mapM V.toD with
        | some ds=>match wH (lB ty) (sz P e) len ds with
          | some l=>some { val:=.row nid (sz P e),eff:=[(nid,some (.row e ty l))] }
          | none=>none
        | none=>none
      | none=>none
      else none
    | _,_=>none
  | _=>none
def o6 (o:Nat):Option Ob→Option Ob
  | some (.box cs)=>some (.box (V.kills o cs))
  | b=>b
def eD (os:List Nat) (H:ak):ak :=
  match os with
  | []=>H
  | o :: r=>eD r (H.map fun x=>(x.1,o6 o x.2))
mutual
def V.noP:V→Bool
  | .agg vs=>V.noPs vs
  | .tup vs=>V.noPs vs
  | .ptr ..=>false
  | .fn _ vs=>V.noPs vs
  | _=>true
def V.noPs:List V→Bool
  | []=>true
  | v :: r=>V.noP v&&V.noPs r
end
mutual
def V.fz (o:Nat) (t:Ty) (l:List t.T):V→V
  | .c d=>.c d
  | .agg vs=>.agg (V.fzs o t l vs)
  | .tup vs=>.tup (V.fzs o t l vs)
  | .ptr o' k i j=>bif Nat.beq o' o then .c .unk else .ptr o' k i j
  | .row o' k=>bif Nat.beq o' o then (bif Nat.beq t.k k then .c (.sl t l) else .c .unk) else .row o' k
  | .sub o' k off n=>bif Nat.beq o' o then (bif Nat.beq t.k k then .c (.sl t (ao l off n)) else .c .unk) else .sub o' k off n
  | .dptr k cs j=>.dptr k cs j
  | .fn f vs=>.fn f (V.fzs o t l vs)
def V.fzs (o:Nat) (t:Ty) (l:List t.T):List V→List V
  | []=>[]
  | v :: r=>V.fz o t l v :: V.fzs o t l r
end
def kG (f:ak→List V→Option aA):List Nat→ak→List V→Option aA
  | [],H,vs=>f H vs
  | o :: fl,H,vs=>match H.get o with
    | some (.row e t l)=>(kG f fl ((o,some (.row e t [])) :: eD [o] H) (V.fzs o t l vs)).map fun r=>{ r with eff:=r.eff++[(o,some (.row e t []))],kill:=o :: r.kill }
    | _=>none
def SQ (nid:Nat) (t:TypeId) (len:Nat) (ps:List Nat) (H:ak) (vs:List V):Option aA:=kG (fun _ vs=>wE P nid t len (ps.zip vs)) (V.refss vs) H vs
def ya (t:TypeId) (H:ak):List V→Option aA
  | [a,x]=>sw P H t a x
  | _=>none
def xS (H:ak) (t:TypeId) (a x:V):Option aA :=
  match a with
  | .ptr o _ _ _=>match H.get o with
    | some (.row _ _ _)=>kG (ya P t) (V.refs x) H [a,x]
    | _=>sw P H t a x
  | _=>sw P H t a x
def zy (nid:Nat) (t:TypeId) (l c:V):Option aA :=
  match P.underlying t,l,c with
  | some (.slice e), .c (.lit (.int .i64 a)), .c (.lit (.int .i64 b)) =>
    match qZ P e,Kg P e with
    | some z,some ty=>match lB ty z with
      | some x=>bif Nat.beq z.length (sz P e)&&Nat.blt 0 (sz P e)&&Nat.blt 0 (tg P e)&&gz P e then some { pre:=[0≤a,a≤b,b*tg P e≤140737488355328],val:=.row nid (sz P e),eff:=[(nid,some (.row e ty (List.replicate a.toNat x)))] } else none
      | none=>none
    | _,_=>none
  | _,_,_=>none
def Fo:V→Option (Int)
  | .c (.lit (.int _ n))=>some n
  | _=>none
def PD:Option V→Option Int
  | none=>some 0
  | some v=>Fo v
def PI (n:Int):Option V→Option Int
  | none=>some n
  | some v=>Fo v
def oQ (H:ak) (t:TypeId) (x:V) (lo hi:Option V):Option aA :=
  match P.underlying t,x with
  | some (.slice e), .c .nil=>match P.underlying e,PD lo,PI 0 hi with | some _,some l,some h=>some { pre:=[l = 0,h = 0],val:=.c .nil } | _,_,_=>none
  | some (.slice e), .c (.sl ty xs)=>bif Nat.beq (sz P e) ty.k then (match P.underlying e,PD lo,PI xs.length hi with | some _,some l,some h=>some { pre:=[0≤l,l≤h,h≤xs.length],val:=.c (.sl ty (ao xs l.toNat (h - l).toNat)) } | _,_,_=>none) else none
  | some (.slice e), .row o k=>(match H.get o with
    | some (.row _ _ xs)=>bif Nat.beq (sz P e) k then (match P.underlying e,PD lo,PI xs.length hi with | some _,some l,some h=>some { pre:=[0≤l,l≤h,h≤xs.length],val:=.sub o k l.toNat (h - l).toNat } | _,_,_=>none) else none
    | _=>none)
  | some (.slice e), .sub o k off n=>bif Nat.beq (sz P e) k then (match P.underlying e,PD lo,PI n hi with | some _,some l,some h=>some { pre:=[0≤l,l≤h,h≤n],val:=.sub o k (off+l.toNat) (h - l).toNat } | _,_,_=>none) else none
  | some .string, .c (.lit (.string s))=>match PD lo,PI s.size hi with | some l,some h=>some { pre:=[0≤l,l≤h,h≤s.size],val:=U9 (s.extract l.toNat h.toNat) } | _,_=>none
  | _,_=>none
def mI (H:ak) (t:TypeId) (x ix:V):Option aA :=
  match P.underlying t,x,ix with
  | some (.slice e), .c (.sl ty l), .c (.lit (.int _ i))=>bif Nat.beq (sz P e) ty.k then (match P.underlying e with | some _=>some { pre:=[0≤i,i < l.length],val:=.dptr ty.k (els ty l i.toNat) 0 } | none=>none) else none
  | some (.slice e), .c .nil, .c (.lit (.int _ _))=>some { pre:=[False],val:=.dptr (sz P e) (match qZ P e with | some z=>z | none=>[]) 0 }
  | some (.slice e), .row o k, .c (.lit (.int _ i))=>(match H.get o with
    | some (.row _ _ l)=>bif Nat.beq (sz P e) k then (match P.underlying e with | some _=>some { pre:=[0≤i,i < l.length],val:=.ptr o k i.toNat 0 } | none=>none) else none
    | _=>none)
  | some (.slice e), .sub o k off n, .c (.lit (.int _ i))=>bif Nat.beq (sz P e) k then (match P.underlying e with | some _=>some { pre:=[0≤i,i < n],val:=.ptr o k (off+i.toNat) 0 } | none=>none) else none
  | some (.array len e), .ptr o k q j, .c (.lit (.int _ i)) =>
    (match H.get o with
    | some (.row _ ty l)=>bif Nat.beq q 0&&Nat.beq j 0&&Nat.beq ty.k k&&Nat.beq k (sz P e) then (match P.underlying e with | some _=>some { pre:=[l.length = len,0≤i,i < len],val:=.ptr o k i.toNat 0 } | none=>none) else none
    | some (.box _)=>(match P.underlying e with | some _=>some { pre:=[0≤i,i < len],val:=.ptr o k q (j+i.toNat*sz P e) } | none=>none)
    | some (.raw _)=>none
    | some (.map ..)=>none
    | none=>none)
  | some (.array len e), .dptr k cs j, .c (.lit (.int _ i))=>(match P.underlying e with | some _=>some { pre:=[0≤i,i < len],val:=.dptr k cs (j+i.toNat*sz P e) } | none=>none)
  | _,_,_=>none
def M4 (t:TypeId) (x ix:V):Option aA :=
  match P.underlying t,x,ix with
  | some .string, .c (.lit (.string s)), .c (.lit (.int _ i))=>some { pre:=[0≤i,i < s.size],val:=.c (.lit (.int .u8 (s.data.getD i.toNat 0).toNat)) }
  | some (.array len e), .agg cs, .c (.lit (.int _ i))=>bif Nat.ble (len*sz P e) cs.length&&fY P e then some { pre:=[0≤i,i < len],val:=nV (gA P e) cs (i.toNat*sz P e) (sz P e) } else none
  | _,_,_=>none
def sr (nid:Nat) (t:TypeId) (v:V):Option aA :=
  bif v.cells.all V.isCell&&Nat.beq v.cells.length (sz P t) then
    match P.underlying t,v.cells.mapM V.toD with
    | some (.array len e),some ds =>
      bif Nat.beq (len*sz P e) (sz P t)&&Nat.blt 0 (sz P e)&&Nat.blt 0 len&&Nat.ble len 1000000 then
        match Kg P e with
        | some ty=>match wH (lB ty) (sz P e) len ds with
          | some l=>some { val:=.ptr nid (sz P e) 0 0,eff:=[(nid,some (.row t ty l))] }
          | none=>none
        | none=>none
      else none
    | _,_=>some { val:=.ptr nid v.cells.length 0 0,eff:=[(nid,some (.box v.cells))] }
  else none
variable (C:FuncId→Option CC)
def gR (vs:List V):Bool:=match V.refss vs with | []=>false | _=>true
mutual
def V.scalar:V→Bool
  | .c (.lit (.int _ _))=>true
  | .c (.lit (.bool _))=>true
  | .c (.lit (.string _))=>true
  | .c .nil=>true
  | .c .unk=>true
  | .c .any=>true
  | .agg vs=>V.scalars vs
  | .tup vs=>V.scalars vs
  | _=>false
def V.scalars:List V→Bool
  | []=>true
  | v :: r=>V.scalar v&&V.scalars r
end
def iG (H:ak) (nid:Nat) (f:FuncId) (args:List V):Option aA :=
  match C f with
  | none=>none
  | some (.mut m)=>m (bD (aQ H args) H) nid args
  | some (.pure con)=>match con (V.views H args) with
    | none=>none
    | some (b, .data v)=>bif (!gR args)||v.scalar then some { pre:=[b = true],val:=v } else none
    | some (b, .new v)=>some { pre:=[b = true],val:=v }
    | some (b, .own fr e t l)=>bif (!gR args)||fr then some { pre:=[b = true],val:=.row nid t.k,eff:=[(nid,some (.row e t l))] } else none
def tB (f:FuncId) (nid:Nat) (H:ak) (args:List V):Option aA :=
  bif V.noPs args then match C f with | some (.pure _)=>iG C H nid f args | _=>none else none
def nS (H:ak) (nid:Nat) (f:FuncId) (args:List V):Option aA :=
  match iG C H nid f args with
  | some r=>some r
  | none=>kG (tB C f nid) (V.refss args) H args
def sF (x:V):Option aA:=match x with | .ptr ..=>some { val:=x } | .dptr ..=>some { val:=x } | .fn f _=>bif Nat.blt f 1000000000 then some { val:=x } else none | _=>none
def zp (t:TypeId) (f:Nat) (a:V):Option aA :=
  match zZ P t f with
  | some (off,ft)=>bif Nat.beq (sz P ft) 0 then none else (match a with | .ptr o k i j=>some { val:=.ptr o k i (j+off) } | .dptr k cs j=>some { val:=.dptr k cs (j+off) } | _=>none)
  | none=>none
def Oo (t:TypeId) (f:Nat) (x:V):Option aA :=
  match x,zZ P t f with
  | .agg cs,some (off,ft)=>bif Nat.ble (off+sz P ft) cs.length&&fY P ft then some { val:=nV (gA P ft) cs off (sz P ft) } else none
  | _,_=>none
def E9 (ix:Nat) (x:V):Option aA :=
  match x with
  | .tup vs=>match vs[ix]? with | some v=>some { val:=v } | none=>none
  | .c (.opt b us)=>(match ix with
    | 0=>some { val:=bl b }
    | i+1=>match us[i]? with | some v=>some { pre:=[b = true],val:=.c (.lit v) } | none=>none)
  | _=>none
def LK (nid:Nat) (t:TypeId) (x:V):Option aA :=
  match P.underlying t,x with
  | some .string, .c (.lit (.string s))=>some { val:=.ptr nid 1 0 0,eff:=[(nid,some (.raw (.stringIter s 0)))] }
  | _,_=>none
def Cy (H:ak) (x:V):Option aA :=
  match x with
  | .ptr o k i j=>match H.get o with
    | some (.raw (.stringIter s pos))=>bif Nat.beq (i*k+j) 0 then
        some { val:=.c (.opt (Nat.blt pos s.size) [.int .i64 pos, .int .i32 (FS s pos)]),eff:=[(o,some (.raw (.stringIter s (bif Nat.blt pos s.size then pos+Ge s pos else pos))))] } else none
    | _=>none
  | _=>none
def Bg {T:Type} (z:T) (l:List T) (off n:Nat):List T:=l.take off++(List.replicate n z++l.drop (off+n))
def sE (H:ak) (t:TypeId) (x:V):Option aA :=
  match P.underlying t with
  | some (.slice e)=>match qZ P e with
    | some z=>match x with
      | .row o k=>(match H.get o with
        | some (.row e' ty l)=>(match lB ty z with
          | some y=>bif Nat.beq e' e&&Nat.beq ty.k k&&Nat.beq k (sz P e)&&Nat.beq z.length k&&Nat.blt 0 k&&gz P e then some { val:=.c .unk,eff:=[(o,some (.row e' ty (List.replicate l.length y)))] } else none
          | none=>none)
        | _=>none)
      | .sub o k off n=>(match H.get o with
        | some (.row e' ty l)=>(match lB ty z with
          | some y=>bif Nat.beq e' e&&Nat.beq ty.k k&&Nat.beq k (sz P e)&&Nat.beq z.length k&&Nat.blt 0 k&&gz P e then some { pre:=[off+n≤l.length],val:=.c .unk,eff:=[(o,some (.row e' ty (Bg y l off n)))] } else none
          | none=>none)
        | _=>none)
      | _=>none
    | none=>none
  | _=>none
def v8 (k:TypeId):Ty→Bool
  | .i q=>(match P.underlying k with | some (.int q')=>decide (q' = q) | _=>false)
  | _=>false
def EA (nid:Nat) (t:TypeId):Option aA :=
  match P.underlying t with
  | some (.map k e)=>match Kg P k,Kg P e with
    | some kt,some vt=>bif v8 P k kt then some { val:=RB nid,eff:=[(nid,some (.map t kt vt [] []))] } else none
    | _,_=>none
  | _=>none
def uc (H:ak) (t:TypeId) (m k:V) (ok:Bool):Option aA :=
  match P.underlying t,tA H m with
  | some (.map kk e),some (_, .map _ kt vt ks vs)=>(match Rm kt k,tv P e with
    | some key,some z0=>(match JK vt z0 with
      | some z=>bif v8 P kk kt then some { val:=bif ok then .tup [encV vt (mX kt ks vs key z),bl (pN kt ks key)] else encV vt (mX kt ks vs key z) } else none
      | none=>none)
    | _,_=>none)
  | _,_=>none
def Ag (t:TypeId) (H:ak):List V→Option aA
  | [m,k,v]=>match P.underlying t,tA H m with
    | some (.map kk _),some (o, .map t' kt vt ks vs)=>(match Rm kt k,JK vt v with
      | some key,some x=>bif v8 P kk kt then some { val:=.c .unk,eff:=[(o,some (.map t' kt vt (lJ kt ks key) (lu kt ks vs key x)))] } else none
      | _,_=>none)
    | _,_=>none
  | _=>none
def QW (H:ak) (t:TypeId) (m k v:V):Option aA:=kG (Ag P t) (V.refs v) H [m,k,v]
def xK (H:ak) (nid:Nat) (o:Oper) (vs:List V):Option aA :=
  match o.op,vs with
  | .move _,[x]=>some { val:=x }
  | .assign _,[x]=>some { val:=x }
  | .alloc t,[]=>match tv P t with | some z=>sr P nid t z | none=>none
  | .box t _,[x]=>sr P nid t x
  | .build t parts,vs=>NH P t ((parts.toList.map (·.1)).zip vs)
  | .buildSlice t len parts,vs=>SQ P nid t len (parts.toList.map (·.1)) H vs
  | .load t _,[a]=>pe P H t a
  | .store t _ _,[a,x]=>xS P H t a x
  | .nilCheck _,[x]=>sF x
  | .binOp op t _ _ _,[x,y]=>TN P op t x y
  | .unOp op _ _,[x]=>V0 op x
  | .convert s d _,[x]=>(match P.underlying s,P.underlying d with
    | some (.slice e),some .string=>(match P.underlying e with | some (.int .u8)=>Fu H x | _=>none)
    | _,_=>Qm P s d x)
  | .fieldAddr t _ f,[a]=>zp P t f a
  | .field t _ f,[x]=>Oo P t f x
  | .indexAddr t _ _,[x,i]=>mI P H t x i
  | .index t _ _,[x,i]=>M4 P t x i
  | .slice t _ none none none,[x]=>oQ P H t x none none
  | .slice t _ (some _) none none,[x,l]=>oQ P H t x (some l) none
  | .slice t _ none (some _) none,[x,h]=>oQ P H t x none (some h)
  | .slice t _ (some _) (some _) none,[x,l,h]=>oQ P H t x (some l) (some h)
  | .makeSlice t _ _,[l,c]=>zy P nid t l c
  | .makeFunc (.func f) first _,vs=>bif first.isEmpty&&Nat.blt f 1000000000 then some { val:=.fn f vs } else none
  | .makeMap t none,[]=>EA P nid t
  | .lookup t _ _ ok,[m,k]=>uc P H t m k ok
  | .mapUpdate t _ _ _,[m,k,v]=>QW P H t m k v
  | .makeInterface t _,[x]=>(match P.underlying t with | some (.slice _)=>bif V.isCell x&&Nat.blt t 1000000000 then some { val:=.fn (1000000000+t) [x] } else none | _=>none)
  | .extract _ ix,[x]=>E9 ix x
  | .range t _,[x]=>LK P nid t x
  | .next _ true,[x]=>Cy H x
  | .call { callee:=.builtin .len,argTypes, .. },[x]=>(match argTypes[0]? with | some t=>zK P H t x | none=>none)
  | .call { callee:=.builtin .clear,argTypes, .. },[x]=>(match argTypes[0]? with | some t=>sE P H t x | none=>none)
  | .call { callee:=.builtin .min, .. },vs=>(Rg vs).map fun v=>{ val:=v }
  | .call { callee:=.builtin .max, .. },vs=>(Rb vs).map fun v=>{ val:=v }
  | .call { callee:=.builtin .append,argTypes, .. },[s,x]=>(match argTypes.toList with | [t,t']=>bif Nat.beq t t' then oD P H nid t s x else none | _=>none)
  | .call { callee:=.value _, .. }, .fn f caps :: vs=>bif Nat.blt f 1000000000 then nS C H nid f (vs++caps) else none
  | _,_=>none
end
abbrev aJ:=List (Nat × Bool)
structure aw where
  ch:aJ
  v:V
structure St where
  tm:List (Nat × aw)
  hp:ak
  nx:Nat
def ar:List (Nat × aw)→Nat→Option aw
  | [],_=>none
  | (t',s) :: r,t=>bif Nat.beq t' t then some s else ar r t
def gV:List (Nat × aw)→Nat→aw→List (Nat × aw)
  | [],t,s=>[(t,s)]
  | (t',s') :: r,t,s=>bif Nat.beq t' t then (t,s) :: r else bif Nat.blt t t' then (t,s) :: (t',s') :: r else (t',s') :: gV r t s
def UV (x:Nat × Bool) (ch:aJ):Bool:=ch.any fun y=>Nat.beq x.1 y.1&&(x.2 == y.2)
def ro (a b:aJ):Bool:=a.all fun x=>UV x b
def bV (σ:St) (ch:aJ):Operand→Option V
  | .tmp t=>bif Nat.blt t 1000000 then (match ar σ.tm t with | some s=>bif ro s.ch ch then some s.v else none | none=>none) else none
  | .const v=>some (V.ofValue v)
  | .func f=>bif Nat.blt f 1000000000 then some (.fn f []) else none
  | .global _=>none
def holds (tm:List (Nat × aw)):aJ→Bool
  | []=>true
  | (t,w) :: r=>(match ar tm t with | some { v:=.c (.lit (.bool b)), .. }=>(bif w then b else !b) | _=>false)&&holds tm r
def eI (ops:List Oper) (tm:List (Nat × aw)):Option (Nat × Bool)→Option aJ
  | none=>some []
  | some (j,w)=>match ops[j]? with
    | some o=>match o.dst with
      | some t=>bif Nat.blt t 1000000 then (match ar tm t with | some { ch,v:=.c (.lit (.bool _)) }=>some ((t,w) :: ch) | _=>none) else none
      | none=>none
    | none=>none
def l7 (σ:St) (ch:aJ) (xs:List Operand):Option (List V):=xs.mapM (bV σ ch)
def rx (c:Operand) (w:Bool) (ch:aJ):aJ:=match c with | .tmp t=>(t,w) :: ch | _=>ch
def rE (σ:St) (ch:aJ) (c a b:Operand):Option V :=
  match bV σ ch c with
  | some (.c (.lit (.bool x))) =>
    match bV σ (rx c true ch) a,bV σ (rx c false ch) b with
    | some (.c (.lit (.bool y))),some (.c (.lit (.bool z)))=>some (bl (bif x then y else z))
    | _,_=>none
  | _=>none
def dM:Op→List Operand
  | .call c=>(match c.callee with | .value f=>f :: c.args.toList | _=>c.args.toList)
  | op=>op.operands.toList
def Lt:Option V→Option V
  | some (.c (.lit (.bool y)))=>some (bl y)
  | _=>none
def wq (σ:St) (ch:aJ) (c a b:Operand):Option V :=
  match bV σ ch c with
  | some (.c (.lit (.bool x)))=>bif x then Lt (bV σ (rx c true ch) a) else Lt (bV σ (rx c false ch) b)
  | _=>none
def AX (P:Program) (C:FuncId→Option CC) (H:ak) (nid:Nat) (ch:aJ) (o:Oper) (vs:List V):Option aA :=
  match xK P C H nid o vs with
  | some r=>some r
  | none=>bif ch.isEmpty then none else some { pre:=[false = true],val:=.c .unk }
def mf (P:Program) (C:FuncId→Option CC) (σ:St) (nid:Nat) (ch:aJ) (o:Oper):Option (List V × aA) :=
  match o.op with
  | .pick c a b=>match rE σ ch c a b with
    | some v=>some ([],{ val:=v })
    | none=>(wq σ ch c a b).map fun v=>([.c .unk],{ val:=v })
  | op=>match l7 σ ch (dM op) with
    | some vs=>(AX P C σ.hp nid ch o vs).map fun r=>(vs,r)
    | none=>none
def tK (os:List Nat) (tm:List (Nat × aw)):List (Nat × aw) :=
  match os with
  | []=>tm
  | o :: r=>tK r (tm.map fun x=>(x.1,{ ch:=x.2.ch,v:=x.2.v.kill o }))
def V.isBool:V→Bool
  | .c (.lit (.bool _))=>true
  | _=>false
def kf (tm:List (Nat × aw)) (ch:aJ) (ps:List Prop):List Prop :=
  match ch with
  | []=>ps
  | ch=>ps.map fun p=>(holds tm ch = true→p)
def oO (d:Nat) (tm:List (Nat × aw)):List (Nat × aw):=tm.map fun x=>(x.1,bif x.2.ch.any (fun y=>Nat.beq y.1 d) then ⟨[], .c .unk⟩ else x.2)
def mh:List Operand→List Nat
  | []=>[]
  | .tmp t :: r=>t :: mh r
  | _ :: r=>mh r
structure cd where
  dst:Option Nat
  rds:List Nat
  ch:aJ
  nid:Nat
  vs:List V
  reach:List Nat
  rws:Bool × List Nat
  res:aA
def after (σ:St) (r:cd):St :=
  let tm:=tK r.res.kill σ.tm
  { tm:=match r.dst with | some t=>gV (oO t tm) t { ch:=r.ch,v:=r.res.val } | none=>tm
    hp:=r.res.eff++eD r.res.kill σ.hp
    nx:=σ.nx }
def gw (dst:Option Nat) (ch:aJ):Bool:=match dst with | some t=>ch.all fun y=>!(Nat.beq y.1 t) | none=>true
def lK (N:Nat) (dst:Option Nat):Bool:=match dst with | some t=>Nat.blt t N | none=>true
def dJ (tm:List (Nat × aw)) (t:Nat):Bool:=match ar tm t with | some s=>s.v.isBool | none=>false
def fX (tm:List (Nat × aw)) (ch:aJ) (t:Nat):Bool:=match ar tm t with | some s=>s.v.isBool&&ro s.ch ch | none=>false
def recOf (P:Program) (C:FuncId→Option CC) (N:Nat) (ops:List Oper) (σ:St) (nid:Nat) (o:Oper):Option cd :=
  bif lK N o.dst then
    match eI ops σ.tm o.guard with
    | some ch =>
      bif ch.all fun x=>fX σ.tm ch x.1 then
      match mf P C σ nid ch o with
      | some (vs,r)=>bif ch.isEmpty||(r.eff.isEmpty&&r.kill.isEmpty&&gw o.dst ch) then
          some { dst:=o.dst,rds:=mh (dM o.op)++ch.map (·.1),ch,nid,vs,reach:=aQ σ.hp vs,rws:=qu σ.hp vs,res:=r } else none
      | none=>none
      else none
    | none=>none
  else none
def pS (tm:List (Nat × aw)):List (Nat × aw):=tm.map fun x=>(x.1,bif x.2.ch.isEmpty then x.2 else ⟨[], .c .unk⟩)
def yq (P:Program) (C:FuncId→Option CC) (N:Nat) (all:List Oper):List Oper→St→Option (List Prop × St)
  | [],σ=>some ([],{ σ with tm:=pS σ.tm })
  | o :: r,σ=>match recOf P C N all σ σ.nx o with
    | some rc=>match yq P C N all r { after σ rc with nx:=σ.nx+8 } with
      | some (qs,σ'')=>some (kf σ.tm rc.ch rc.res.pre++qs,σ'')
      | none=>none
    | none=>none
def I0:List Prop→Prop→Prop
  | [],k=>k
  | p :: r,k=>p∧I0 r k
def qV (P:Program) (C:FuncId→Option CC) (N:Nat) (all:List Oper) (σ:St) (o:Oper) (k:St→Prop):Prop :=
  match recOf P C N all σ σ.nx { o with guard:=none } with
  | some rc=>I0 rc.res.pre (k { after σ rc with nx:=σ.nx+8 })
  | none=>False
def Hw (o:Oper) (ch:aJ) (nid:Nat):cd:={ dst:=o.dst,rds:=[],ch:=ch,nid:=nid,vs:=[],reach:=[],rws:=(true,[]),res:={ val:=bl false } }
def rm (N:Nat) (σ:St) (o:Oper) (ch:aJ) (k:St→Prop):Prop :=
  bif lK N o.dst&&gw o.dst ch then k { after σ (Hw o ch σ.nx) with nx:=σ.nx+8 } else False
def wo (P:Program) (C:FuncId→Option CC) (N:Nat) (all:List Oper):List Oper→St→(St→Prop)→Prop
  | [],σ,K=>K { σ with tm:=pS σ.tm }
  | o :: r,σ,K =>
    match o.guard with
    | none=>qV P C N all σ o fun σ'=>wo P C N all r σ' K
    | some g =>
      match eI all σ.tm (some g) with
      | some ((t,w) :: ch)=>bif ((t,w) :: ch).all (fun x=>fX σ.tm ((t,w) :: ch) x.1) then
          (match ar σ.tm t with
          | some ⟨c0, .c (.lit (.bool b))⟩ =>
            bif holds σ.tm ch then
              (bif b then
                (bif w then qV P C N all { σ with tm:=gV σ.tm t ⟨c0,bl true⟩ } o fun σ'=>wo P C N all r σ' K
                else rm N { σ with tm:=gV σ.tm t ⟨c0,bl true⟩ } o ((t,w) :: ch) fun σ'=>wo P C N all r σ' K)
              else
                (bif w then rm N { σ with tm:=gV σ.tm t ⟨c0,bl false⟩ } o ((t,w) :: ch) fun σ'=>wo P C N all r σ' K
                else qV P C N all { σ with tm:=gV σ.tm t ⟨c0,bl false⟩ } o fun σ'=>wo P C N all r σ' K))
            else rm N σ o ((t,w) :: ch) fun σ'=>wo P C N all r σ' K
          | _=>False) else False
      | _=>False
def RF (a b:List Nat):Bool:=a.all fun x=>!(b.any fun y=>Nat.beq x y)
def m7 (d:Option Nat):List Nat:=match d with | some t=>[t] | none=>[]
def di (H:ak):List Nat:=H.map (·.1)
def Lz (a b:cd):Bool :=
  RF (m7 a.dst) (b.rds++m7 b.dst)&&RF (di a.res.eff) (b.reach++di b.res.eff) &&
  (a.res.kill.isEmpty||(b.rws.1&&RF a.res.kill (b.reach++(b.rws.2++(V.refs b.res.val++Cx b.res.eff)))&&b.res.kill.isEmpty))
def tx (a b:cd):Bool:=Lz a b&&Lz b a&&V.noUnks a.vs&&V.noUnks b.vs
def MN (P:Program) (C:FuncId→Option CC) (N:Nat) (all:List Oper):List Oper→Nat→St→Option (List Prop × List cd × St)
  | [],_,σ=>some ([],[],{ σ with tm:=pS σ.tm })
  | o :: r,nid,σ=>match recOf P C N all σ nid o with
    | some rc=>match MN P C N all r (nid+8) (after σ rc) with
      | some (qs,rcs,σ'')=>some (kf σ.tm rc.ch rc.res.pre++qs,rc :: rcs,σ'')
      | none=>none
    | none=>none
def MW (acc:List Nat) (o:Oper):Nat:=o.after.toList.foldl (fun s e=>bif Region.binds .any e then s ||| (2 ^ e.on ||| acc.getD e.on 0) else s) 0
def Cz:List Oper→List Nat→List Nat
  | [],acc=>acc
  | o :: r,acc=>Cz r (acc++[MW acc o])
def GT (m:Nat) (r:cd):Nat→List cd→Bool
  | _,[]=>true
  | j,q :: l=>(m.testBit j||tx q r)&&GT m r (j+1) l
def Vw (n:Nat) (o:Oper):Bool:=o.after.toList.all fun e=>!(Region.binds .any e)||Nat.blt e.on n
def qy:Nat→List Oper→Bool
  | _,[]=>true
  | n,o :: r=>Vw n o&&qy (n+1) r
def yi (ms:List Nat):List cd→List cd→Bool
  | _,[]=>true
  | done,r :: l=>GT (ms.getD done.length 0) r 0 done&&yi ms (done++[r]) l
end Go.Ax
