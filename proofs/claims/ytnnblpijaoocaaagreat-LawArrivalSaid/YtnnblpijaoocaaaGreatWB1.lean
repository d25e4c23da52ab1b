import Derived.Below
import Derived.Orders
import Derived.KernelRfl
import Derived.WalkKit
import Derived.ChangeKeysEq
import Derived.Test.YtnnblpijaoocaaaGreatWB0
set_option linter.all false
/- Abstract values, abstract heaps and an abstract interpreter for the model's code. -/
namespace Go.Ax
inductive D where
  | unk
  | nil
  | lit (v:Value)
  | sl (t:Ty) (l:List t.T)
  | opt (b:Bool) (us:List Value)
  | any
def jH:(t:Ty)→t.T→D
 | .i k,x=>.lit (.int k x)
 | .b,x=>.lit (.bool x)
 | .s,x=>.lit (.string x)
 | .ls t,l=>.sl t l
 | .st _,_=>.unk
 | .arr _ _,_=>.unk
def fH:(ts:List Ty)→HP ts→List D
 | [],_=>[]
 | [t],x=>[jH t x]
 | t :: u :: r,x=>jH t x.1 :: fH (u :: r) x.2
def Ty.z:(t:Ty)→t.T
 | .i _=>(0:Int)
 | .b=>false
 | .s=>ab []
 | .st k=>zS k
 | .ls _=>[]
 | .arr n t=>List.replicate n t.z
def Ty.k:Ty→Nat
 | .st k=>(lf k).length
 | .arr n t=>n*t.k
 | _=>1
abbrev gD {α:Type} (l:List α) (i:Nat) (z:α):α:=l.getD i z
abbrev aa (p:Prop) [d:Decidable p]:Bool:=@decide p d
abbrev af (a b:Int):Bool:=a == b
abbrev bZ (a b:Int):Bool:=a != b
abbrev Px (a b:Bool):Bool:=a == b
abbrev p2 (y:Int) (b:Nat):Int:=2 ^ min y.toNat b
abbrev LH (n:Nat) (a b:Int):Int:=((BitVec.ofInt n a &&& BitVec.ofInt n b).toNat:Int)
abbrev Kv (n:Nat) (a b:Int):Int:=((BitVec.ofInt n a ||| BitVec.ofInt n b).toNat:Int)
abbrev LC (n:Nat) (a b:Int):Int:=((BitVec.ofInt n a ^^^ BitVec.ofInt n b).toNat:Int)
abbrev Kc (n:Nat) (a b:Int):Int:=((BitVec.ofInt n a &&& ~~~(BitVec.ofInt n b)).toNat:Int)
abbrev aS (a b:ByteArray):Bool:=a.toList == b.toList
def Ty.enc:(t:Ty)→t.T→List D
 | .st k,x=>fH (lf k) (EU k x)
 | .arr n t,l=>(List.range n).flatMap fun i=>t.enc (gD l i t.z)
 | .i k,x=>[jH (.i k) x]
 | .b,x=>[jH .b x]
 | .s,x=>[jH .s x]
 | .ls t,x=>[jH (.ls t) x]
def els (t:Ty) (l:List t.T) (i:Nat):List D:=t.enc (gD l i t.z)
def kL (t' t:Ty) (l:List t'.T):Option (List t.T):=if h:t' = t then some (h ▸ l) else none
def wj:(t:Ty)→D→Option t.T
 | .i k, .lit (.int k' n)=>if k = k' then some n else none
 | .b, .lit (.bool b)=>some b
 | .s, .lit (.string s)=>some s
 | .ls t, .sl t' l=>kL t' t l
 | .ls _, .nil=>some []
 | _,_=>none
def CN:(ts:List Ty)→List D→Option (HP ts)
 | [],[]=>some ()
 | [t],[d]=>wj t d
 | t :: u :: r,d :: ds=>match wj t d,CN (u :: r) ds with
  | some x,some y=>some (x,y)
  | _,_=>none
 | _,_=>none
def sJ {α:Type} (f:List D→Option α) (k:Nat):Nat→List D→Option (List α)
 | 0,ds=>bif ds.isEmpty then some [] else none
 | n+1,ds=>match f (ds.take k),sJ f k n (ds.drop k) with
  | some x,some l=>some (x :: l)
  | _,_=>none
def jU:(t:Ty)→List D→Option t.T
 | .st k,ds=>(CN (lf k) ds).map (Kj k)
 | .arr n t,ds=>sJ (jU t) t.k n ds
 | .i k,[d]=>wj (.i k) d
 | .b,[d]=>wj .b d
 | .s,[d]=>wj .s d
 | .ls t,[d]=>wj (.ls t) d
 | _,_=>none
inductive V where
  | c (d:D)
  | agg (vs:List V)
  | tup (vs:List V)
  | ptr (o k i j:Nat)
  | row (o k:Nat)
  | sub (o k off n:Nat)
  | dptr (k:Nat) (cs:List D) (j:Nat)
  | fn (f:FuncId) (caps:List V)
inductive Ob where
  | box (cs:List V)
  | row (e:TypeId) (t:Ty) (l:List t.T)
  | raw (x:Obj)
  | map (t:TypeId) (kt vt:Ty) (ks:List kt.T) (vs:List vt.T)
  | iter (m:V) (s:Int) (l:List Int)
abbrev ae:=List (Nat × Option Ob)
def ae.get:ae→Nat→Option Ob
 | [],_=>none
 | (o',b) :: r,o=>bif Nat.beq o' o then b else ae.get r o
abbrev i64 (n:Int):V:=.c (.lit (.int .i64 n))
abbrev bl (b:Bool):V:=.c (.lit (.bool b))
abbrev Pu (s:ByteArray):V:=.c (.lit (.string s))
def D.ofCell:Value→D
 | .slice none 0 0=>.nil
 | v=>.lit v
def V.ofValue:Value→V
 | .agg cs=>.agg (cs.toList.map fun v=>.c (D.ofCell v))
 | .tuple vs=>match vs.toList with | []=>.c .unk | _=>.c (.lit (.tuple vs))
 | v=>.c (D.ofCell v)
def V.isCell:V→Bool
 | .c .unk=>false
 | .c (.lit (.agg _))=>false
 | .c (.lit (.tuple _))=>false
 | .c (.opt ..)=>false
 | .c _=>true
 | .ptr ..=>true
 | .row ..=>true
 | .sub ..=>true
 | .fn ..=>true
 | _=>false
def V.cells:V→List V
 | .agg vs=>vs
 | v=>[v]
def V.toD:V→Option D
 | .c .unk=>none
 | .c (.lit (.agg _))=>none
 | .c (.lit (.tuple _))=>none
 | .c (.opt ..)=>none
 | .c d=>some d
 | _=>none
def encV:(t:Ty)→t.T→V
 | .st k,x=>.agg ((Ty.enc (.st k) x).map .c)
 | .arr n t,x=>.agg ((Ty.enc (.arr n t) x).map .c)
 | .i k,x=>.c (jH (.i k) x)
 | .b,x=>.c (jH .b x)
 | .s,x=>.c (jH .s x)
 | .ls t,x=>.c (.sl t x)
def xT:(t:Ty)→V→Option t.T
 | .st k, .agg cs=>match cs.mapM V.toD with | some ds=>jU (.st k) ds | none=>none
 | .arr n t, .agg cs=>match cs.mapM V.toD with | some ds=>jU (.arr n t) ds | none=>none
 | .i k, .c d=>wj (.i k) d
 | .b, .c d=>wj .b d
 | .s, .c d=>wj .s d
 | .ls t, .c d=>wj (.ls t) d
 | _,_=>none
def Dl (o:Nat):V:=.fn 2000000000 [.ptr o 1 0 0]
def vE:D→Value
 | .lit v=>v
 | _=>undef
def bL:(t:Ty)→t.T→Value
 | .st k,x=>.agg ((Ty.enc (.st k) x).map vE).toArray
 | t,x=>vE ((t.enc x).headD .unk)
def Ol:List D→List D→Bool
 | [],[]=>true
 | .lit (.int _ a) :: r, .lit (.int _ b) :: r'=>af a b&&Ol r r'
 | _,_=>false
def sx:(t:Ty)→t.T→t.T→Bool
 | .i _,a,b=>af a b
 | .st k,a,b=>Ol (Ty.enc (.st k) a) (Ty.enc (.st k) b)
 | _,_,_=>false
def uK (s:SK):Bool:=match lf s with | [.i .i64, .i .i64]=>true | _=>false
def GH:(t:Ty)→V→Option t.T
 | .i k, .c (.lit (.int k' n))=>if k = k' then some n else none
 | .st k,v=>xT (.st k) v
 | _,_=>none
def aD (t:Ty):List t.T→t.T→Nat
 | [],_=>0
 | x :: r,k=>bif sx t x k then 0 else aD t r k+1
def dJ (t:Ty) (ks:List t.T) (k:t.T):Bool:=Nat.blt (aD t ks k) ks.length
def cd (t:Ty) {T:Type} (ks:List t.T) (vs:List T) (k:t.T) (z:T):T:=vs.getD (aD t ks k) z
def cO (t:Ty) (ks:List t.T) (k:t.T):List t.T:=bif dJ t ks k then ks else ks++[k]
def cQ (t:Ty) {T:Type} (ks:List t.T) (vs:List T) (k:t.T) (v:T):List T:=bif dJ t ks k then vs.set (aD t ks k) v else vs++[v]
def lK (H:ae):V→Option (Nat × Ob)
 | .fn f [.ptr o _ _ _]=>bif Nat.beq f 2000000000 then (match H.get o with | some b=>some (o,b) | none=>none) else none
 | _=>none
def rz (H:ae) (o k:Nat):V :=
 match H.get o with
 | some (.row _ t l)=>bif Nat.beq t.k k then .c (.sl t l) else .c .unk
 | _=>.c .unk
def aH {T:Type} (l:List T) (off n:Nat):List T:=(l.drop off).take n
def qt (H:ae) (o k off n:Nat):V :=
 match H.get o with
 | some (.row _ t l)=>bif Nat.beq t.k k then .c (.sl t (aH l off n)) else .c .unk
 | _=>.c .unk
def nY (H:ae):V→D
 | .c d=>d
 | .row o k=>match rz H o k with | .c d=>d | _=>.unk
 | .sub o k off n=>match qt H o k off n with | .c d=>d | _=>.unk
 | _=>.unk
def HX (H:ae) (o k i j:Nat):V :=
 match H.get o with
 | some (.row _ t l)=>bif Nat.beq t.k k then .dptr k (els t l i) j else .c .unk
 | some (.box cs)=>bif Nat.beq cs.length k then .dptr k (cs.map (nY H)) j else .c .unk
 | some (.raw _)=>.c .unk
 | some (.iter ..)=>.c .unk
 | some (.map ..)=>.c .unk
 | none=>.c .unk
def tM (l:List Int):ByteArray:=⟨(l.map fun x=>UInt8.ofNat x.toNat).toArray⟩
def Cv (s:ByteArray) (pos:Nat):Int:=(Utf8.decode s pos).1
def BW (s:ByteArray) (pos:Nat):Nat:=(Utf8.decode s pos).2
mutual
def V.view (H:ae):V→V
 | .c d=>.c d
 | .agg vs=>.agg (V.views H vs)
 | .tup vs=>.tup (V.views H vs)
 | .ptr o k i j=>HX H o k i j
 | .row o k=>rz H o k
 | .sub o k off n=>qt H o k off n
 | .dptr k cs j=>.dptr k cs j
 | .fn f caps=>.fn f (V.views H caps)
def V.views (H:ae):List V→List V
 | []=>[]
 | v :: r=>V.view H v :: V.views H r
end
mutual
def V.refs:V→List Nat
 | .c _=>[]
 | .agg vs=>V.refss vs
 | .tup vs=>V.refss vs
 | .ptr o _ _ _=>[o]
 | .row o _=>[o]
 | .sub o _ _ _=>[o]
 | .dptr ..=>[]
 | .fn _ caps=>V.refss caps
def V.refss:List V→List Nat
 | []=>[]
 | v :: r=>V.refs v++V.refss r
end
mutual
def V.kill (o:Nat):V→V
 | .c d=>.c d
 | .agg vs=>.agg (V.kills o vs)
 | .tup vs=>.tup (V.kills o vs)
 | .ptr o' k i j=>bif Nat.beq o' o then .c .unk else .ptr o' k i j
 | .row o' k=>bif Nat.beq o' o then .c .unk else .row o' k
 | .sub o' k off n=>bif Nat.beq o' o then .c .unk else .sub o' k off n
 | .dptr k cs j=>.dptr k cs j
 | .fn f caps=>.fn f (V.kills o caps)
def V.kills (o:Nat):List V→List V
 | []=>[]
 | v :: r=>V.kill o v :: V.kills o r
end
inductive js where
  | data (v:V)
  | new (v:V)
  | own (fresh:Bool) (e:TypeId) (t:Ty) (l:List t.T)
abbrev J8:=List V→Option (Bool × js)
inductive eZ:List Prop→Type
  | nil:eZ []
  | cons {p:Prop} {ps:List Prop} (d:Decidable p) (r:eZ ps):eZ (p :: ps)
attribute [class] eZ
instance:eZ []:=.nil
instance {p:Prop} {ps:List Prop} [d:Decidable p] [r:eZ ps]:eZ (p :: ps):=.cons d r
structure av where
  pre:List Prop:=[]
  dec:eZ pre:=by infer_instance
  val:V
  eff:ae:=[]
  kill:List Nat:=[]
inductive CC where
  | pure (c:J8)
  | mut (m:ae→Nat→List V→Option av)
def aC (H:ae) (vs:List V):List Nat :=
 V.refss vs++(V.refss vs).flatMap fun o=>match H.get o with | some (.box cs)=>V.refss cs | some (.iter m _ _)=>V.refs m | _=>[]
def aY:List Nat→ae→ae
 | [],_=>[]
 | o :: r,H=>match ae.get H o with | some b=>(o,some b) :: aY r H | none=>aY r H
def LZ:Option Ob→Bool
 | some (.row ..)=>true
 | _=>false
mutual
def V.noUnk:V→Bool
 | .c .unk=>false
 | .c _=>true
 | .agg vs=>V.noUnks vs
 | .tup vs=>V.noUnks vs
 | .ptr ..=>true
 | .row ..=>true
 | .sub ..=>true
 | .dptr ..=>true
 | .fn _ vs=>V.noUnks vs
def V.noUnks:List V→Bool
 | []=>true
 | v :: r=>V.noUnk v&&V.noUnks r
end
def GJ:Option Ob→Bool
 | some (.row ..)=>true
 | some (.raw _)=>true
 | some (.map ..)=>true
 | some (.box cs)=>V.noUnks cs
 | some (.iter m _ _)=>V.noUnk m
 | none=>false
def nH:Option Ob→List Nat
 | some (.box cs)=>V.refss cs
 | some (.iter m _ _)=>V.refs m
 | _=>[]
def nG (H:ae) (vs:List V):Bool × List Nat:=((aC H vs).all fun o=>GJ (H.get o),(aC H vs).flatMap fun o=>nH (H.get o))
def zo (H:ae):List Nat:=H.flatMap fun x=>nH x.2
section
variable (P:Program)
def sz (t:TypeId):Nat:=match P.underlying t,P.info? t with | some _,some i=>i.size | _,_=>0
def pr (t:TypeId):Nat:=match P.info? t with | some i=>i.bytes | none=>0
def eU (t:TypeId):Bool:=match P.underlying t with | some (.struct _)=>true | some (.array _ _)=>true | _=>false
def eE (t:TypeId):Bool:=eU P t||Nat.blt 0 (sz P t)
def pR (t:TypeId):Option V:=match P.info? t with | some i=>(match i.zero with | some (.tuple _)=>none | some v=>some (V.ofValue v) | none=>none) | none=>none
def bI (t:TypeId):Bool:=match P.underlying t with | some _=>true | none=>false
def Lr:List (Nat × SK)→Nat→Option SK
 | [],_=>none
 | (i,k) :: r,t=>bif Nat.beq i t then some k else Lr r t
def QE:Nat→TypeId→Option Ty
 | 0,_=>none
 | d+1,t=>match P.underlying t with
  | some (.int k)=>some (.i k)
  | some .bool=>some .b
  | some .string=>some .s
  | some (.slice e)=>(QE d e).map .ls
  | some (.struct _)=>(Lr Py t).map .st
  | some (.array n e)=>(QE d e).map (.arr n)
  | _=>none
def FY (t:TypeId):Option Ty:=match QE P 9 t with | some ty=>bif Nat.beq ty.k (sz P t) then some ty else none | none=>none
def kU (ag:Bool) (cs:List V) (j n:Nat):V :=
 bif ag then .agg ((cs.drop j).take n) else (cs.drop j).headD (.c .unk)
def GI (ag:Bool) (cs:List D) (j n:Nat):V :=
 bif ag then .agg ((List.range n).map fun q=>.c (cs.getD (j+q) .unk)) else .c (cs.getD j .unk)
def setL {α:Type}:List α→Nat→List α→List α
 | cs,_,[]=>cs
 | cs,off,x :: r=>setL (cs.set off x) (off+1) r
def mB (H:ae) (t:TypeId) (a:V):Option av :=
 match a with
 | .ptr o k i j =>
  match H.get o with
  | some (.box cs)=>bif Nat.beq cs.length k&&Nat.ble (j+sz P t) k&&eE P t then some { val:=kU (eU P t) cs j (sz P t) } else none
  | some (.row _ ty l) =>
   bif Nat.beq ty.k k&&Nat.ble (j+sz P t) k&&eE P t then some { val:=GI (eU P t) (els ty l i) j (sz P t) }
   else bif Nat.beq ty.k k&&Nat.beq i 0&&Nat.beq j 0&&eU P t&&Nat.blt 0 k then
    some { pre:=[l.length*k = sz P t],val:=.agg ((List.range (sz P t / k)).flatMap fun i=>(List.range k).map fun q=>.c ((els ty l i).getD q .unk)) }
   else none
  | some (.raw _)=>none
  | some (.iter ..)=>none
  | some (.map ..)=>none
  | none=>none
 | .dptr k cs j=>bif Nat.ble (j+sz P t) k&&eE P t then some { val:=GI (eU P t) cs j (sz P t) } else none
 | _=>none
def oR (H:ae) (t:TypeId) (a x:V):Option av :=
 bif Nat.beq x.cells.length (sz P t)&&x.cells.all V.isCell&&bI P t then
  match a with
  | .ptr o k i j =>
   match H.get o with
   | some (.box cs)=>bif Nat.beq cs.length k&&Nat.ble (j+sz P t) k then some { val:=.c .unk,eff:=[(o,some (.box (setL cs j x.cells)))] } else none
   | some (.row e ty l) =>
    match x.cells.mapM V.toD with
    | some ds=>bif Nat.beq ty.k k&&Nat.ble (j+sz P t) k then
      (match jU ty (setL (els ty l i) j ds) with | some y=>some { val:=.c .unk,eff:=[(o,some (.row e ty (l.set i y)))] } | none=>none)
     else bif Nat.beq ty.k k&&Nat.beq i 0&&Nat.beq j 0&&Nat.blt 0 k then
      (match sJ (jU ty) k (sz P t / k) ds with | some l'=>some { pre:=[l.length*k = sz P t],val:=.c .unk,eff:=[(o,some (.row e ty l'))] } | none=>none) else none
    | none=>none
   | some (.raw _)=>none
   | some (.iter ..)=>none
   | some (.map ..)=>none
   | none=>none
  | _=>none
 else none
def vN (t:TypeId) (f:Nat):Option (Nat × TypeId) :=
 match P.underlying t with
 | some (.struct fs)=>(match fs[f]? with | some fl=>some (fl.offset,fl.type) | none=>none)
 | _=>none
def Iu (op:BinOp) (k:IntKind) (a b:Int):Option av :=
 match op with
 | .add=>some { val:=.c (.lit (.int k (k.wrap (a+b)))) }
 | .sub=>some { val:=.c (.lit (.int k (k.wrap (a - b)))) }
 | .mul=>some { val:=.c (.lit (.int k (k.wrap (a*b)))) }
 | .quo=>some { pre:=[b≠0],val:=.c (.lit (.int k (k.wrap (a.tdiv b)))) }
 | .rem=>some { pre:=[b≠0],val:=.c (.lit (.int k (a.tmod b))) }
 | .and=>some { val:=.c (.lit (.int k (k.wrap (LH k.bits a b)))) }
 | .or=>some { val:=.c (.lit (.int k (k.wrap (Kv k.bits a b)))) }
 | .xor=>some { val:=.c (.lit (.int k (k.wrap (LC k.bits a b)))) }
 | .andNot=>some { val:=.c (.lit (.int k (k.wrap (Kc k.bits a b)))) }
 | .eql=>some { val:=bl (af a b) }
 | .neq=>some { val:=bl (bZ a b) }
 | .lss=>some { val:=bl (aa (a < b)) }
 | .leq=>some { val:=bl (aa (a≤b)) }
 | .gtr=>some { val:=bl (aa (b < a)) }
 | .geq=>some { val:=bl (aa (b≤a)) }
 | _=>none
def uS (op:BinOp) (k:IntKind) (a y:Int):Option av :=
 match op with
 | .shl=>some { pre:=[0≤y],val:=.c (.lit (.int k (k.wrap (a*p2 y k.bits)))) }
 | .shr=>some { pre:=[0≤y],val:=.c (.lit (.int k (a.fdiv (p2 y k.bits)))) }
 | _=>none
def H7 (op:BinOp) (x y:ByteArray):Option av :=
 match op with
 | .add=>some { pre:=[x.size+y.size≤9223372036854775807],val:=Pu (x++y) }
 | .eql=>some { val:=bl (aS x y) }
 | .neq=>some { val:=bl (!(aS x y)) }
 | .lss=>some { val:=bl (Op.bytesLess x.toList y.toList) }
 | .leq=>some { val:=bl (Op.bytesLess x.toList y.toList||aS x y) }
 | .gtr=>some { val:=bl (!(Op.bytesLess x.toList y.toList||aS x y)) }
 | .geq=>some { val:=bl (!(Op.bytesLess x.toList y.toList)) }
 | _=>none
def Cq:Nat→TypeId→V→V→Option Bool
 | 0,_,_,_=>none
 | d+1,t,x,y =>
  match P.underlying t,x,y with
  | some (.int _), .c (.lit (.int k a)), .c (.lit (.int k' b))=>if k = k' then some (af a b) else none
  | some .bool, .c (.lit (.bool a)), .c (.lit (.bool b))=>some (Px a b)
  | some .string, .c (.lit (.string a)), .c (.lit (.string b))=>some (aS a b)
  | some (.struct fs), .agg xs, .agg ys =>
   bif P.stoodInHeld t then none else
   fs.toList.foldr (fun f acc=>bif f.name == "_" then none else
    bif Nat.ble (f.offset+sz P f.type) xs.length&&Nat.ble (f.offset+sz P f.type) ys.length&&eE P f.type then
    match Cq d f.type (kU (eU P f.type) xs f.offset (sz P f.type)) (kU (eU P f.type) ys f.offset (sz P f.type)),acc with
    | some a,some b=>some (a&&b)
    | _,_=>none
    else none) (some true)
  | some (.array len e), .agg xs, .agg ys =>
   bif Nat.ble (len*sz P e) xs.length&&Nat.ble (len*sz P e) ys.length&&eE P e then
   (List.range len).foldr (fun i acc =>
    match Cq d e (kU (eU P e) xs (i*sz P e) (sz P e)) (kU (eU P e) ys (i*sz P e) (sz P e)),acc with
    | some a,some b=>some (a&&b)
    | _,_=>none) (some true)
   else none
  | _,_,_=>none
def Ox (op:BinOp) (t:TypeId) (x y:V):Option av :=
 match x,y with
 | .c (.lit (.int k a)), .c (.lit (.int k' b)) =>
  match op with
  | .shl=>uS op k a b
  | .shr=>uS op k a b
  | op=>if k = k' then Iu op k a b else none
 | .c (.lit (.string a)), .c (.lit (.string b))=>H7 op a b
 | .c (.lit (.bool a)), .c (.lit (.bool b)) =>
  match P.underlying t,op with
  | some .bool, .eql=>some { val:=bl (Px a b) }
  | some .bool, .neq=>some { val:=bl (!(Px a b)) }
  | _,_=>none
 | .agg xs, .agg ys =>
  bif P.eqGuardType P.depth t then none else
  match op,Cq P 10 t (.agg xs) (.agg ys) with
  | .eql,some b=>some { val:=bl b }
  | .neq,some b=>some { val:=bl (!b) }
  | _,_=>none
 | _,_=>none
def Ra (op:UnOp) (x:V):Option av :=
 match op,x with
 | .neg, .c (.lit (.int k n))=>some { val:=.c (.lit (.int k (k.wrap (0 - n)))) }
 | .xor, .c (.lit (.int k n))=>some { val:=.c (.lit (.int k (k.wrap (LC k.bits (if k.signed then -1 else k.max) n)))) }
 | .not, .c (.lit (.bool b))=>some { val:=bl (!b) }
 | _,_=>none
def K8 (src dst:TypeId) (x:V):Option av :=
 match P.underlying src,P.underlying dst,x with
 | some (.int _),some (.int k), .c (.lit (.int _ n))=>some { val:=.c (.lit (.int k (k.wrap n))) }
 | some .string,some .string, .c (.lit (.string s))=>some { val:=Pu s }
 | _,_,_=>none
def cn (H:ae) (t:Ty):V→Option (List t.T)
 | .c .nil=>some []
 | .c (.sl t' l)=>kL t' t l
 | .row o k=>match H.get o with | some (.row _ t' l)=>bif Nat.beq t'.k k then kL t' t l else none | _=>none
 | .sub o k off n=>match H.get o with | some (.row _ t' l)=>bif Nat.beq t'.k k then (kL t' t l).map fun l=>aH l off n else none | _=>none
 | _=>none
def Cl (H:ae) (x:V):Option av:=(cn H (.i .u8) x).map fun l=>{ val:=Pu (tM l) }
def uf (H:ae) (t:TypeId) (x:V):Option av :=
 match P.underlying t,x with
 | some (.slice _), .c .nil=>some { val:=i64 0 }
 | some (.slice _), .c (.sl _ l)=>some { val:=i64 l.length }
 | some (.slice _), .row o _=>(match H.get o with | some (.row _ _ l)=>some { val:=i64 l.length } | _=>none)
 | some (.slice _), .sub _ _ _ n=>some { val:=i64 n }
 | some .string, .c (.lit (.string s))=>some { val:=i64 s.size }
 | _,_=>none
def Do (m x:V):Option V :=
 match m,x with | .c (.lit (.int k a)), .c (.lit (.int _ b))=>some (V.c (.lit (.int k (bif aa (b < a) then b else a)))) | _,_=>none
def Er (m x:V):Option V :=
 match m,x with | .c (.lit (.int k a)), .c (.lit (.int _ b))=>some (V.c (.lit (.int k (bif aa (a < b) then b else a)))) | _,_=>none
def La:List V→Option V
 | []=>none
 | x :: r=>r.foldlM Do x
def L5:List V→Option V
 | []=>none
 | x :: r=>r.foldlM Er x
def ou (t:TypeId):Option (List D):=match pR P t with | some v=>v.cells.mapM V.toD | none=>none
def KD (e:TypeId):Bool:=match ou P e with | some z=>Nat.beq z.length (sz P e) | none=>false
def me (H:ae) (nid:Nat) (t:TypeId) (s x:V):Option av :=
 match P.underlying t with
 | some (.slice e) =>
  match s with
  | .c .nil=>match FY P e with
   | some ty=>match cn H ty x with
    | some l2=>bif Nat.blt 0 ty.k&&bI P e&&KD P e then some { pre:=[l2.length*pr P e≤140737488355328,l2.length≤140737488355328],val:=.row nid ty.k,eff:=[(nid,some (.row e ty l2))] } else none
    | none=>none
   | none=>none
  | .row o k =>
   match H.get o with
   | some (.row e' ty l)=>match cn H ty x with
    | some l2=>bif Nat.beq e' e&&Nat.beq ty.k k&&Nat.beq k (sz P e)&&Nat.blt 0 k&&KD P e then
      some { pre:=[(l.length+l2.length)*pr P e≤140737488355328,l.length+l2.length≤140737488355328],val:=.row o k,eff:=[(o,some (.row e ty (l++l2)))],kill:=[o] } else none
    | none=>none
   | _=>none
  | _=>none
 | _=>none
def qp (eQ:Nat→Option (Nat × Nat)) (cs:List V) (p:Nat × V):Option (List V) :=
 match eQ p.1 with
 | some (off,size)=>bif Nat.beq p.2.cells.length size&&p.2.cells.all V.isCell&&Nat.ble (off+size) cs.length then some (setL cs off p.2.cells) else none
 | none=>none
def tN (fs:Array Field) (i:Nat):Option (Nat × Nat):=match fs[i]? with | some f=>some (f.offset,sz P f.type) | none=>none
def Je (t:TypeId) (parts:List (Nat × V)):Option av :=
 match P.underlying t,pR P t with
 | some (.struct fs),some z=>bif fs.toList.all (fun f=>bI P f.type) then (match parts.foldlM (qp (tN P fs)) z.cells with | some cs=>some { val:=.agg cs } | none=>none) else none
 | some (.array _ e),some z=>bif bI P e then (match parts.foldlM (qp fun i=>some (i*sz P e,sz P e)) z.cells with | some cs=>some { val:=.agg cs } | none=>none) else none
 | _,_=>none
def rH (z:List V) (k n:Nat):List V:=(List.range (n*k)).map fun q=>z.getD (q % k) (.c .unk)
def sI (nid:Nat) (t:TypeId) (len:Nat) (parts:List (Nat × V)):Option av :=
 match P.underlying t with
 | some (.slice e) =>
  match pR P e,FY P e with
  | some z,some ty =>
   bif Nat.beq z.cells.length (sz P e)&&Nat.blt 0 (sz P e)&&Nat.ble (len*sz P e) 16777216&&bI P e then
   match parts.foldlM (qp fun i=>some (i*sz P e,sz P e)) (rH z.cells (sz P e) len) with
   | some cs=>match cs.mapM V.toD with
    | some ds=>match sJ (jU ty) (sz P e) len ds with
     | some l=>some { val:=.row nid (sz P e),eff:=[(nid,some (.row e ty l))] }
     | none=>none
    | none=>none
   | none=>none
   else none
  | _,_=>none
 | _=>none
def lw (o:Nat):Option Ob→Option Ob
 | some (.box cs)=>some (.box (V.kills o cs))
 | some (.iter m s l)=>some (.iter (V.kill o m) s l)
 | b=>b
def dU (os:List Nat) (H:ae):ae :=
 match os with
 | []=>H
 | o :: r=>dU r (H.map fun x=>(x.1,lw o x.2))
mutual
def V.noP:V→Bool
 | .agg vs=>V.noPs vs
 | .tup vs=>V.noPs vs
 | .ptr ..=>false
 | .fn _ vs=>V.noPs vs
 | _=>true
def V.noPs:List V→Bool
 | []=>true
 | v :: r=>V.noP v&&V.noPs r
end
mutual
def V.fz (o:Nat) (t:Ty) (l:List t.T):V→V
 | .c d=>.c d
 | .agg vs=>.agg (V.fzs o t l vs)
 | .tup vs=>.tup (V.fzs o t l vs)
 | .ptr o' k i j=>bif Nat.beq o' o then .c .unk else .ptr o' k i j
 | .row o' k=>bif Nat.beq o' o then (bif Nat.beq t.k k then .c (.sl t l) else .c .unk) else .row o' k
 | .sub o' k off n=>bif Nat.beq o' o then (bif Nat.beq t.k k then .c (.sl t (aH l off n)) else .c .unk) else .sub o' k off n
 | .dptr k cs j=>.dptr k cs j
 | .fn f vs=>.fn f (V.fzs o t l vs)
def V.fzs (o:Nat) (t:Ty) (l:List t.T):List V→List V
 | []=>[]
 | v :: r=>V.fz o t l v :: V.fzs o t l r
end
def ju (f:ae→List V→Option av):List Nat→ae→List V→Option av
 | [],H,vs=>f H vs
 | o :: fl,H,vs=>match H.get o with
  | some (.row e t l)=>(ju f fl ((o,some (.row e t [])) :: dU [o] H) (V.fzs o t l vs)).map fun r=>{ r with eff:=r.eff++[(o,some (.row e t []))],kill:=o :: r.kill }
  | _=>none
def MT (nid:Nat) (t:TypeId) (len:Nat) (ps:List Nat) (H:ae) (vs:List V):Option av:=ju (fun _ vs=>sI P nid t len (ps.zip vs)) (V.refss vs) H vs
def tj (t:TypeId) (H:ae):List V→Option av
 | [a,x]=>oR P H t a x
 | _=>none
def tC (H:ae) (t:TypeId) (a x:V):Option av :=
 match a with
 | .ptr o _ _ _=>match H.get o with
  | some (.row _ _ _)=>ju (tj P t) (V.refs x) H [a,x]
  | _=>oR P H t a x
 | _=>oR P H t a x
def uF (nid:Nat) (t:TypeId) (l c:V):Option av :=
 match P.underlying t,l,c with
 | some (.slice e), .c (.lit (.int .i64 a)), .c (.lit (.int .i64 b)) =>
  match ou P e,FY P e with
  | some z,some ty=>match jU ty z with
   | some x=>bif Nat.beq z.length (sz P e)&&Nat.blt 0 (sz P e)&&Nat.blt 0 (pr P e)&&bI P e then some { pre:=[0≤a,a≤b,b*pr P e≤140737488355328],val:=.row nid (sz P e),eff:=[(nid,some (.row e ty (List.replicate a.toNat x)))] } else none
   | none=>none
  | _,_=>none
 | _,_,_=>none
def CX:V→Option (Int)
 | .c (.lit (.int _ n))=>some n
 | _=>none
def Ko:Option V→Option Int
 | none=>some 0
 | some v=>CX v
def Km (n:Int):Option V→Option Int
 | none=>some n
 | some v=>CX v
def mE (H:ae) (t:TypeId) (x:V) (lo hi:Option V):Option av :=
 match P.underlying t,x with
 | some (.slice e), .c .nil=>match P.underlying e,Ko lo,Km 0 hi with | some _,some l,some h=>some { pre:=[l = 0,h = 0],val:=.c .nil } | _,_,_=>none
 | some (.slice e), .c (.sl ty xs)=>bif Nat.beq (sz P e) ty.k then (match P.underlying e,Ko lo,Km xs.length hi with | some _,some l,some h=>some { pre:=[0≤l,l≤h,h≤xs.length],val:=.c (.sl ty (aH xs l.toNat (h - l).toNat)) } | _,_,_=>none) else none
 | some (.slice e), .row o k=>(match H.get o with
  | some (.row _ _ xs)=>bif Nat.beq (sz P e) k then (match P.underlying e,Ko lo,Km xs.length hi with | some _,some l,some h=>some { pre:=[0≤l,l≤h,h≤xs.length],val:=.sub o k l.toNat (h - l).toNat } | _,_,_=>none) else none
  | _=>none)
 | some (.slice e), .sub o k off n=>bif Nat.beq (sz P e) k then (match P.underlying e,Ko lo,Km n hi with | some _,some l,some h=>some { pre:=[0≤l,l≤h,h≤n],val:=.sub o k (off+l.toNat) (h - l).toNat } | _,_,_=>none) else none
 | some .string, .c (.lit (.string s))=>match Ko lo,Km s.size hi with | some l,some h=>some { pre:=[0≤l,l≤h,h≤s.size],val:=Pu (s.extract l.toNat h.toNat) } | _,_=>none
 | _,_=>none
def kW (H:ae) (t:TypeId) (x ix:V):Option av :=
 match P.underlying t,x,ix with
 | some (.slice e), .c (.sl ty l), .c (.lit (.int _ i))=>bif Nat.beq (sz P e) ty.k then (match P.underlying e with | some _=>some { pre:=[0≤i,i < l.length],val:=.dptr ty.k (els ty l i.toNat) 0 } | none=>none) else none
 | some (.slice e), .c .nil, .c (.lit (.int _ _))=>some { pre:=[False],val:=.dptr (sz P e) (match ou P e with | some z=>z | none=>[]) 0 }
 | some (.slice e), .row o k, .c (.lit (.int _ i))=>(match H.get o with
  | some (.row _ _ l)=>bif Nat.beq (sz P e) k then (match P.underlying e with | some _=>some { pre:=[0≤i,i < l.length],val:=.ptr o k i.toNat 0 } | none=>none) else none
  | _=>none)
 | some (.slice e), .sub o k off n, .c (.lit (.int _ i))=>bif Nat.beq (sz P e) k then (match P.underlying e with | some _=>some { pre:=[0≤i,i < n],val:=.ptr o k (off+i.toNat) 0 } | none=>none) else none
 | some (.array len e), .ptr o k q j, .c (.lit (.int _ i)) =>
  (match H.get o with
  | some (.row _ ty l)=>bif Nat.beq q 0&&Nat.beq j 0&&Nat.beq ty.k k&&Nat.beq k (sz P e) then (match P.underlying e with | some _=>some { pre:=[l.length = len,0≤i,i < len],val:=.ptr o k i.toNat 0 } | none=>none) else none
  | some (.box _)=>(match P.underlying e with | some _=>some { pre:=[0≤i,i < len],val:=.ptr o k q (j+i.toNat*sz P e) } | none=>none)
  | some (.raw _)=>none
  | some (.iter ..)=>none
  | some (.map ..)=>none
  | none=>none)
 | some (.array len e), .dptr k cs j, .c (.lit (.int _ i))=>(match P.underlying e with | some _=>some { pre:=[0≤i,i < len],val:=.dptr k cs (j+i.toNat*sz P e) } | none=>none)
 | _,_,_=>none
def I1 (t:TypeId) (x ix:V):Option av :=
 match P.underlying t,x,ix with
 | some .string, .c (.lit (.string s)), .c (.lit (.int _ i))=>some { pre:=[0≤i,i < s.size],val:=.c (.lit (.int .u8 (s.data.getD i.toNat 0).toNat)) }
 | some (.array len e), .agg cs, .c (.lit (.int _ i))=>bif Nat.ble (len*sz P e) cs.length&&eE P e then some { pre:=[0≤i,i < len],val:=kU (eU P e) cs (i.toNat*sz P e) (sz P e) } else none
 | _,_,_=>none
def oG (nid:Nat) (t:TypeId) (v:V):Option av :=
 bif v.cells.all V.isCell&&Nat.beq v.cells.length (sz P t) then
  match P.underlying t,v.cells.mapM V.toD with
  | some (.array len e),some ds =>
   bif Nat.beq (len*sz P e) (sz P t)&&Nat.blt 0 (sz P e)&&Nat.blt 0 len&&Nat.ble len 1000000 then
    match FY P e with
    | some ty=>match sJ (jU ty) (sz P e) len ds with
     | some l=>some { val:=.ptr nid (sz P e) 0 0,eff:=[(nid,some (.row t ty l))] }
     | none=>none
    | none=>none
   else none
  | _,_=>some { val:=.ptr nid v.cells.length 0 0,eff:=[(nid,some (.box v.cells))] }
 else none
variable (C:FuncId→Option CC)
def fU (vs:List V):Bool:=match V.refss vs with | []=>false | _=>true
mutual
def V.scalar:V→Bool
 | .c (.lit (.int _ _))=>true
 | .c (.lit (.bool _))=>true
 | .c (.lit (.string _))=>true
 | .c .nil=>true
 | .c .unk=>true
 | .c .any=>true
 | .agg vs=>V.scalars vs
 | .tup vs=>V.scalars vs
 | _=>false
def V.scalars:List V→Bool
 | []=>true
 | v :: r=>V.scalar v&&V.scalars r
end
def gV (H:ae) (nid:Nat) (f:FuncId) (args:List V):Option av :=
 match C f with
 | none=>none
 | some (.mut m)=>m (aY (aC H args) H) nid args
 | some (.pure con)=>match con (V.views H args) with
  | none=>none
  | some (b, .data v)=>bif (!fU args)||v.scalar then some { pre:=[b = true],val:=v } else none
  | some (b, .new v)=>some { pre:=[b = true],val:=v }
  | some (b, .own fr e t l)=>bif (!fU args)||fr then some { pre:=[b = true],val:=.row nid t.k,eff:=[(nid,some (.row e t l))] } else none
def pV (f:FuncId) (nid:Nat) (H:ae) (args:List V):Option av :=
 bif V.noPs args then match C f with | some (.pure _)=>gV C H nid f args | _=>none else none
def lP (H:ae) (nid:Nat) (f:FuncId) (args:List V):Option av :=
 match gV C H nid f args with
 | some r=>some r
 | none=>ju (pV C f nid) (V.refss args) H args
def o4 (x:V):Option av:=match x with | .ptr ..=>some { val:=x } | .dptr ..=>some { val:=x } | .fn f _=>bif Nat.blt f 1000000000 then some { val:=x } else none | _=>none
def vI (t:TypeId) (f:Nat) (a:V):Option av :=
 match vN P t f with
 | some (off,ft)=>bif Nat.beq (sz P ft) 0 then none else (match a with | .ptr o k i j=>some { val:=.ptr o k i (j+off) } | .dptr k cs j=>some { val:=.dptr k cs (j+off) } | _=>none)
 | none=>none
def Hw (t:TypeId) (f:Nat) (x:V):Option av :=
 match x,vN P t f with
 | .agg cs,some (off,ft)=>bif Nat.ble (off+sz P ft) cs.length&&eE P ft then some { val:=kU (eU P ft) cs off (sz P ft) } else none
 | _,_=>none
def Bj (ix:Nat) (x:V):Option av :=
 match x with
 | .tup vs=>match vs[ix]? with | some v=>some { val:=v } | none=>none
 | .c (.opt b us)=>(match ix with
  | 0=>some { val:=bl b }
  | i+1=>match us[i]? with | some v=>some { pre:=[b = true],val:=.c (.lit v) } | none=>none)
 | _=>none
def Ic (nid:Nat) (t:TypeId) (x:V):Option av :=
 match P.underlying t,x with
 | some .string, .c (.lit (.string s))=>some { val:=.ptr nid 1 0 0,eff:=[(nid,some (.raw (.stringIter s 0)))] }
 | _,_=>none
def tX (H:ae) (nid:Nat) (t:TypeId) (x:V):Option av :=
 match P.underlying t with
 | some (.map _ _)=>(match lK H x with
  | some (_, .map _ _ _ ks _)=>some { val:=.ptr nid 1 0 0,eff:=[(nid,some (.iter x ks.length []))] }
  | _=>none)
 | _=>none
def Rg:Ty→Bool
 | .i _=>true
 | .b=>true
 | .s=>true
 | _=>false
def Ty.key:Ty→Bool
 | .st k=>(lf k).all Rg
 | .i _=>true
 | .b=>true
 | .s=>true
 | _=>false
def tz (H:ae) (x:V):Option av :=
 match x with
 | .ptr o k i j=>match H.get o with
  | some (.iter m s l)=>bif Nat.beq (i*k+j) 0 then (match lK H m,l with
   | some (_, .map _ kt vt ks vs),p :: _=>bif kt.key then some { pre:=[af ks.length s = true,0≤p,p.toNat < ks.length],val:=.tup [encV kt (gD ks p.toNat kt.z),encV vt (gD vs p.toNat vt.z)] } else none
   | _,_=>none) else none
  | _=>none
 | _=>none
def zp (H:ae) (x:V):Option av :=
 match x with
 | .ptr o k i j=>match H.get o with
  | some (.raw (.stringIter s pos))=>bif Nat.beq (i*k+j) 0 then
    some { val:=.c (.opt (Nat.blt pos s.size) [.int .i64 pos, .int .i32 (Cv s pos)]),eff:=[(o,some (.raw (.stringIter s (bif Nat.blt pos s.size then pos+BW s pos else pos))))] } else none
  | _=>none
 | _=>none
def w9 {T:Type} (z:T) (l:List T) (off n:Nat):List T:=l.take off++(List.replicate n z++l.drop (off+n))
def oF (H:ae) (t:TypeId) (x:V):Option av :=
 match P.underlying t with
 | some (.slice e)=>match ou P e with
  | some z=>match x with
   | .row o k=>(match H.get o with
    | some (.row e' ty l)=>(match jU ty z with
     | some y=>bif Nat.beq e' e&&Nat.beq ty.k k&&Nat.beq k (sz P e)&&Nat.beq z.length k&&Nat.blt 0 k&&bI P e then some { val:=.c .unk,eff:=[(o,some (.row e' ty (List.replicate l.length y)))] } else none
     | none=>none)
    | _=>none)
   | .sub o k off n=>(match H.get o with
    | some (.row e' ty l)=>(match jU ty z with
     | some y=>bif Nat.beq e' e&&Nat.beq ty.k k&&Nat.beq k (sz P e)&&Nat.beq z.length k&&Nat.blt 0 k&&bI P e then some { pre:=[off+n≤l.length],val:=.c .unk,eff:=[(o,some (.row e' ty (w9 y l off n)))] } else none
     | none=>none)
    | _=>none)
   | _=>none
  | none=>none
 | _=>none
def m7 (f:Field) (off:Nat):Bool:=!(f.name == "_")&&(Nat.beq f.offset off&&(match P.underlying f.type with | some (.int .i64)=>eE P f.type&&(!(eU P f.type)&&Nat.beq (sz P f.type) 1) | _=>false))
def ir (k:TypeId):Ty→Bool
 | .i q=>(match P.underlying k with | some (.int q')=>decide (q' = q) | _=>false)
 | .st s=>(match P.underlying k with
  | some (.struct fs)=>(match fs.toList with
   | [f,g]=>m7 P f 0&&(m7 P g 1&&(!(P.stoodInHeld k)&&uK s))
   | _=>false)
  | _=>false)
 | _=>false
def AZ (nid:Nat) (t:TypeId):Option av :=
 match P.underlying t with
 | some (.map k e)=>match FY P k,FY P e with
  | some kt,some vt=>some { val:=Dl nid,eff:=[(nid,some (.map t kt vt [] []))] }
  | _,_=>none
 | _=>none
def qc (H:ae) (t:TypeId) (m k:V) (ok:Bool):Option av :=
 match P.underlying t,lK H m with
 | some (.map kk e),some (_, .map _ kt vt ks vs)=>(match GH kt k,pR P e with
  | some key,some z0=>(match xT vt z0 with
   | some z=>bif ir P kk kt then some { val:=bif ok then .tup [encV vt (cd kt ks vs key z),bl (dJ kt ks key)] else encV vt (cd kt ks vs key z) } else none
   | none=>none)
  | _,_=>none)
 | _,_=>none
def ve (t:TypeId) (H:ae):List V→Option av
 | [m,k,v]=>match P.underlying t,lK H m with
  | some (.map kk _),some (o, .map t' kt vt ks vs)=>(match GH kt k,xT vt v with
   | some key,some x=>bif ir P kk kt then some { val:=.c .unk,eff:=[(o,some (.map t' kt vt (cO kt ks key) (cQ kt ks vs key x)))] } else none
   | _,_=>none)
  | _,_=>none
 | _=>none
def Ll (H:ae) (t:TypeId) (m k v:V):Option av:=ju (ve P t) (V.refs v) H [m,k,v]
def pt (H:ae) (nid:Nat) (o:Oper) (vs:List V):Option av :=
 match o.op,vs with
 | .move _,[x]=>some { val:=x }
 | .assign _,[x]=>some { val:=x }
 | .alloc t,[]=>match pR P t with | some z=>oG P nid t z | none=>none
 | .box t _,[x]=>oG P nid t x
 | .build t parts,vs=>Je P t ((parts.toList.map (·.1)).zip vs)
 | .buildSlice t len parts,vs=>MT P nid t len (parts.toList.map (·.1)) H vs
 | .load t _,[a]=>mB P H t a
 | .store t _ _,[a,x]=>tC P H t a x
 | .nilCheck _,[x]=>o4 x
 | .binOp op t _ _ _,[x,y]=>Ox P op t x y
 | .unOp op _ _,[x]=>Ra op x
 | .convert s d _,[x]=>(match P.underlying s,P.underlying d with
  | some (.slice e),some .string=>(match P.underlying e with | some (.int .u8)=>Cl H x | _=>none)
  | _,_=>K8 P s d x)
 | .fieldAddr t _ f,[a]=>vI P t f a
 | .field t _ f,[x]=>Hw P t f x
 | .indexAddr t _ _,[x,i]=>kW P H t x i
 | .index t _ _,[x,i]=>I1 P t x i
 | .slice t _ none none none,[x]=>mE P H t x none none
 | .slice t _ (some _) none none,[x,l]=>mE P H t x (some l) none
 | .slice t _ none (some _) none,[x,h]=>mE P H t x none (some h)
 | .slice t _ (some _) (some _) none,[x,l,h]=>mE P H t x (some l) (some h)
 | .makeSlice t _ _,[l,c]=>uF P nid t l c
 | .makeFunc (.func f) first _,vs=>bif first.isEmpty&&Nat.blt f 1000000000 then some { val:=.fn f vs } else none
 | .makeMap t none,[]=>AZ P nid t
 | .lookup t _ _ ok,[m,k]=>qc P H t m k ok
 | .mapUpdate t _ _ _,[m,k,v]=>Ll P H t m k v
 | .makeInterface t _,[x]=>(match P.underlying t with | some (.slice _)=>bif V.isCell x&&Nat.blt t 1000000000 then some { val:=.fn (1000000000+t) [x] } else none | _=>none)
 | .extract _ ix,[x]=>Bj ix x
 | .range t _,[x]=>(match Ic P nid t x with | some r=>some r | none=>tX P H nid t x)
 | .next _ true,[x]=>zp H x
 | .entry _,[x]=>tz H x
 | .call { callee:=.builtin .len,argTypes, .. },[x]=>(match argTypes[0]? with | some t=>uf P H t x | none=>none)
 | .call { callee:=.builtin .clear,argTypes, .. },[x]=>(match argTypes[0]? with | some t=>oF P H t x | none=>none)
 | .call { callee:=.builtin .min, .. },vs=>(La vs).map fun v=>{ val:=v }
 | .call { callee:=.builtin .max, .. },vs=>(L5 vs).map fun v=>{ val:=v }
 | .call { callee:=.builtin .append,argTypes, .. },[s,x]=>(match argTypes.toList with | [t,t']=>bif Nat.beq t t' then me P H nid t s x else none | _=>none)
 | .call { callee:=.value _, .. }, .fn f caps :: vs=>bif Nat.blt f 1000000000 then lP C H nid f (vs++caps) else none
 | _,_=>none
end
abbrev aI:=List (Nat × Bool)
structure au where
  ch:aI
  v:V
structure St where
  tm:List (Nat × au)
  hp:ae
  nx:Nat
def ap:List (Nat × au)→Nat→Option au
 | [],_=>none
 | (t',s) :: r,t=>bif Nat.beq t' t then some s else ap r t
def gq:List (Nat × au)→Nat→au→List (Nat × au)
 | [],t,s=>[(t,s)]
 | (t',s') :: r,t,s=>bif Nat.beq t' t then (t,s) :: r else bif Nat.blt t t' then (t,s) :: (t',s') :: r else (t',s') :: gq r t s
def Ph (x:Nat × Bool) (ch:aI):Bool:=ch.any fun y=>Nat.beq x.1 y.1&&(x.2 == y.2)
def og (a b:aI):Bool:=a.all fun x=>Ph x b
def bA (σ:St) (ch:aI):Operand→Option V
 | .tmp t=>bif Nat.blt t 1000000 then (match ap σ.tm t with | some s=>bif og s.ch ch then some s.v else none | none=>none) else none
 | .const v=>some (V.ofValue v)
 | .func f=>bif Nat.blt f 1000000000 then some (.fn f []) else none
 | .global _=>none
def holds (tm:List (Nat × au)):aI→Bool
 | []=>true
 | (t,w) :: r=>(match ap tm t with | some { v:=.c (.lit (.bool b)), .. }=>(bif w then b else !b) | _=>false)&&holds tm r
def dB (ops:List Oper) (tm:List (Nat × au)):Option (Nat × Bool)→Option aI
 | none=>some []
 | some (j,w)=>match ops[j]? with
  | some o=>match o.dst with
   | some t=>bif Nat.blt t 1000000 then (match ap tm t with | some { ch,v:=.c (.lit (.bool _)) }=>some ((t,w) :: ch) | _=>none) else none
   | none=>none
  | none=>none
def kj (σ:St) (ch:aI) (xs:List Operand):Option (List V):=xs.mapM (bA σ ch)
def n8 (c:Operand) (w:Bool) (ch:aI):aI:=match c with | .tmp t=>(t,w) :: ch | _=>ch
def nZ (σ:St) (ch:aI) (c a b:Operand):Option V :=
 match bA σ ch c with
 | some (.c (.lit (.bool x))) =>
  match bA σ (n8 c true ch) a,bA σ (n8 c false ch) b with
  | some (.c (.lit (.bool y))),some (.c (.lit (.bool z)))=>some (bl (bif x then y else z))
  | _,_=>none
 | _=>none
def dm:Op→List Operand
 | .call c=>(match c.callee with | .value f=>f :: c.args.toList | _=>c.args.toList)
 | op=>op.operands.toList
def GG:Option V→Option V
 | some (.c (.lit (.bool y)))=>some (bl y)
 | _=>none
def rO (σ:St) (ch:aI) (c a b:Operand):Option V :=
 match bA σ ch c with
 | some (.c (.lit (.bool x)))=>bif x then GG (bA σ (n8 c true ch) a) else GG (bA σ (n8 c false ch) b)
 | _=>none
def yL (P:Program) (C:FuncId→Option CC) (H:ae) (nid:Nat) (ch:aI) (o:Oper) (vs:List V):Option av :=
 match pt P C H nid o vs with
 | some r=>some r
 | none=>bif ch.isEmpty then none else some { pre:=[false = true],val:=.c .unk }
def j6 (P:Program) (C:FuncId→Option CC) (σ:St) (nid:Nat) (ch:aI) (o:Oper):Option (List V × av) :=
 match o.op with
 | .pick c a b=>match nZ σ ch c a b with
  | some v=>some ([],{ val:=v })
  | none=>(rO σ ch c a b).map fun v=>([.c .unk],{ val:=v })
 | op=>match kj σ ch (dm op) with
  | some vs=>(yL P C σ.hp nid ch o vs).map fun r=>(vs,r)
  | none=>none
def pI (os:List Nat) (tm:List (Nat × au)):List (Nat × au) :=
 match os with
 | []=>tm
 | o :: r=>pI r (tm.map fun x=>(x.1,{ ch:=x.2.ch,v:=x.2.v.kill o }))
def V.isBool:V→Bool
 | .c (.lit (.bool _))=>true
 | _=>false
def jo (tm:List (Nat × au)) (ch:aI) (ps:List Prop):List Prop :=
 match ch with
 | []=>ps
 | ch=>ps.map fun p=>(holds tm ch = true→p)
def l3 (d:Nat) (tm:List (Nat × au)):List (Nat × au):=tm.map fun x=>(x.1,bif x.2.ch.any (fun y=>Nat.beq y.1 d) then ⟨[], .c .unk⟩ else x.2)
def ku:List Operand→List Nat
 | []=>[]
 | .tmp t :: r=>t :: ku r
 | _ :: r=>ku r
structure bY where
  dst:Option Nat
  rds:List Nat
  ch:aI
  nid:Nat
  vs:List V
  reach:List Nat
  rws:Bool × List Nat
  res:av
def after (σ:St) (r:bY):St :=
  let tm:=pI r.res.kill σ.tm
  { tm:=match r.dst with | some t=>gq (l3 t tm) t { ch:=r.ch,v:=r.res.val } | none=>tm
    hp:=r.res.eff++dU r.res.kill σ.hp
    nx:=σ.nx }
def fJ (dst:Option Nat) (ch:aI):Bool:=match dst with | some t=>ch.all fun y=>!(Nat.beq y.1 t) | none=>true
def iq (N:Nat) (dst:Option Nat):Bool:=match dst with | some t=>Nat.blt t N | none=>true
def dl (tm:List (Nat × au)) (t:Nat):Bool:=match ap tm t with | some s=>s.v.isBool | none=>false
def fg (tm:List (Nat × au)) (ch:aI) (t:Nat):Bool:=match ap tm t with | some s=>s.v.isBool&&og s.ch ch | none=>false
def lk (o:Oper) (vs:List V):List V:=match o.op with | .move _=>[] | _=>vs
def recOf (P:Program) (C:FuncId→Option CC) (N:Nat) (ops:List Oper) (σ:St) (nid:Nat) (o:Oper):Option bY :=
 bif iq N o.dst then
  match dB ops σ.tm o.guard with
  | some ch =>
   bif ch.all fun x=>fg σ.tm ch x.1 then
   match j6 P C σ nid ch o with
   | some (vs,r)=>bif ch.isEmpty||(r.eff.isEmpty&&r.kill.isEmpty&&fJ o.dst ch) then
     some { dst:=o.dst,rds:=ku (dm o.op)++ch.map (·.1),ch,nid,vs,reach:=aC σ.hp (lk o vs),rws:=nG σ.hp (lk o vs),res:=r } else none
   | none=>none
   else none
  | none=>none
 else none
def m5 (tm:List (Nat × au)):List (Nat × au):=tm.map fun x=>(x.1,bif x.2.ch.isEmpty then x.2 else ⟨[], .c .unk⟩)
def lJ (P:Program) (C:FuncId→Option CC) (N:Nat) (all:List Oper):List Oper→St→Option (List Prop × St)
 | [],σ=>some ([],{ σ with tm:=m5 σ.tm })
 | o :: r,σ=>match recOf P C N all σ σ.nx o with
  | some rc=>match lJ P C N all r { after σ rc with nx:=σ.nx+8 } with
   | some (qs,σ'')=>some (jo σ.tm rc.ch rc.res.pre++qs,σ'')
   | none=>none
  | none=>none
def Ds:List Prop→Prop→Prop
 | [],k=>k
 | p :: r,k=>p∧Ds r k
def oh (P:Program) (C:FuncId→Option CC) (N:Nat) (all:List Oper) (σ:St) (o:Oper) (k:St→Prop):Prop :=
 match recOf P C N all σ σ.nx { o with guard:=none } with
 | some rc=>Ds rc.res.pre (k { after σ rc with nx:=σ.nx+8 })
 | none=>False
def EF (o:Oper) (ch:aI) (nid:Nat):bY:={ dst:=o.dst,rds:=[],ch:=ch,nid:=nid,vs:=[],reach:=[],rws:=(true,[]),res:={ val:=bl false } }
def n9 (N:Nat) (σ:St) (o:Oper) (ch:aI) (k:St→Prop):Prop :=
 bif iq N o.dst&&fJ o.dst ch then k { after σ (EF o ch σ.nx) with nx:=σ.nx+8 } else False
def sG (P:Program) (C:FuncId→Option CC) (N:Nat) (all:List Oper):List Oper→St→(St→Prop)→Prop
 | [],σ,K=>K { σ with tm:=m5 σ.tm }
 | o :: r,σ,K =>
  match o.guard with
  | none=>oh P C N all σ o fun σ'=>sG P C N all r σ' K
  | some g =>
   match dB all σ.tm (some g) with
   | some ((t,w) :: ch)=>bif ((t,w) :: ch).all (fun x=>fg σ.tm ((t,w) :: ch) x.1) then
     (match ap σ.tm t with
     | some ⟨c0, .c (.lit (.bool b))⟩ =>
      bif holds σ.tm ch then
       (bif b then
        (bif w then oh P C N all { σ with tm:=gq σ.tm t ⟨c0,bl true⟩ } o fun σ'=>sG P C N all r σ' K
        else n9 N { σ with tm:=gq σ.tm t ⟨c0,bl true⟩ } o ((t,w) :: ch) fun σ'=>sG P C N all r σ' K)
       else
        (bif w then n9 N { σ with tm:=gq σ.tm t ⟨c0,bl false⟩ } o ((t,w) :: ch) fun σ'=>sG P C N all r σ' K
        else oh P C N all { σ with tm:=gq σ.tm t ⟨c0,bl false⟩ } o fun σ'=>sG P C N all r σ' K))
      else n9 N σ o ((t,w) :: ch) fun σ'=>sG P C N all r σ' K
     | _=>False) else False
   | _=>False
def LB (a b:List Nat):Bool:=a.all fun x=>!(b.any fun y=>Nat.beq x y)
def k8 (d:Option Nat):List Nat:=match d with | some t=>[t] | none=>[]
def cU (H:ae):List Nat:=H.map (·.1)
def GM (a b:bY):Bool :=
 LB (k8 a.dst) (b.rds++k8 b.dst)&&LB (cU a.res.eff) (b.reach++cU b.res.eff) &&
 (a.res.kill.isEmpty||(b.rws.1&&LB a.res.kill (b.reach++(b.rws.2++(V.refs b.res.val++(zo b.res.eff++V.refss b.vs))))&&b.res.kill.isEmpty))
def pN (a b:bY):Bool:=GM a b&&GM b a&&V.noUnks a.vs&&V.noUnks b.vs
def GY (P:Program) (C:FuncId→Option CC) (N:Nat) (all:List Oper):List Oper→Nat→St→Option (List Prop × List bY × St)
 | [],_,σ=>some ([],[],{ σ with tm:=m5 σ.tm })
 | o :: r,nid,σ=>match recOf P C N all σ nid o with
  | some rc=>match GY P C N all r (nid+8) (after σ rc) with
   | some (qs,rcs,σ'')=>some (jo σ.tm rc.ch rc.res.pre++qs,rc :: rcs,σ'')
   | none=>none
  | none=>none
def Ih (acc:List Nat) (o:Oper):Nat:=o.after.toList.foldl (fun s e=>bif Region.binds .any e then s ||| (2 ^ e.on ||| acc.getD e.on 0) else s) 0
def zj:List Oper→List Nat→List Nat
 | [],acc=>acc
 | o :: r,acc=>zj r (acc++[Ih acc o])
def BP (m:Nat) (r:bY):Nat→List bY→Bool
 | _,[]=>true
 | j,q :: l=>(m.testBit j||pN q r)&&BP m r (j+1) l
def PS (n:Nat) (o:Oper):Bool:=o.after.toList.all fun e=>!(Region.binds .any e)||Nat.blt e.on n
def nF:Nat→List Oper→Bool
 | _,[]=>true
 | n,o :: r=>PS n o&&nF (n+1) r
def tE (ms:List Nat):List bY→List bY→Bool
 | _,[]=>true
 | done,r :: l=>BP (ms.getD done.length 0) r 0 done&&tE ms (done++[r]) l
end Go.Ax
