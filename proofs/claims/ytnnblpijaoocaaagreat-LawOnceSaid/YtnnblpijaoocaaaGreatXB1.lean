import Derived.Below
import Derived.Orders
import Derived.KernelRfl
import Derived.WalkKit
import Derived.ChangeKeysEq
import Derived.Test.YtnnblpijaoocaaaGreatXB0
set_option linter.all false
/- Abstract values, abstract heaps and an abstract interpreter for the model's code. -/
namespace Go.Ax
inductive D where
  | unk
  | nil
  | lit (v:Value)
  | sl (t:Ty) (l:List t.T)
  | opt (b:Bool) (us:List Value)
  | any
def kJ:(t:Ty)→t.T→D
 | .i k,x=>.lit (.int k x)
 | .b,x=>.lit (.bool x)
 | .s,x=>.lit (.string x)
 | .ls t,l=>.sl t l
 | .st _,_=>.unk
 | .arr _ _,_=>.unk
def gH:(ts:List Ty)→HP ts→List D
 | [],_=>[]
 | [t],x=>[kJ t x]
 | t :: u :: r,x=>kJ t x.1 :: gH (u :: r) x.2
def Ty.z:(t:Ty)→t.T
 | .i _=>(0:Int)
 | .b=>false
 | .s=>ac []
 | .st k=>zS k
 | .ls _=>[]
 | .arr n t=>List.replicate n t.z
def Ty.k:Ty→Nat
 | .st k=>(lf k).length
 | .arr n t=>n*t.k
 | _=>1
abbrev gD {α:Type} (l:List α) (i:Nat) (z:α):α:=l.getD i z
abbrev aa (p:Prop) [d:Decidable p]:Bool:=@decide p d
abbrev ae (a b:Int):Bool:=a == b
abbrev bW (a b:Int):Bool:=a != b
abbrev Tj (a b:Bool):Bool:=a == b
abbrev p2 (y:Int) (b:Nat):Int:=2 ^ min y.toNat b
abbrev OU (n:Nat) (a b:Int):Int:=((BitVec.ofInt n a &&& BitVec.ofInt n b).toNat:Int)
abbrev NT (n:Nat) (a b:Int):Int:=((BitVec.ofInt n a ||| BitVec.ofInt n b).toNat:Int)
abbrev PT (n:Nat) (a b:Int):Int:=((BitVec.ofInt n a ^^^ BitVec.ofInt n b).toNat:Int)
abbrev On (n:Nat) (a b:Int):Int:=((BitVec.ofInt n a &&& ~~~(BitVec.ofInt n b)).toNat:Int)
abbrev be (a b:ByteArray):Bool:=a.toList == b.toList
def Ty.enc:(t:Ty)→t.T→List D
 | .st k,x=>gH (lf k) (I1 k x)
 | .arr n t,l=>(List.range n).flatMap fun i=>t.enc (gD l i t.z)
 | .i k,x=>[kJ (.i k) x]
 | .b,x=>[kJ .b x]
 | .s,x=>[kJ .s x]
 | .ls t,x=>[kJ (.ls t) x]
def els (t:Ty) (l:List t.T) (i:Nat):List D:=t.enc (gD l i t.z)
def lZ (t' t:Ty) (l:List t'.T):Option (List t.T):=if h:t' = t then some (h ▸ l) else none
def yP:(t:Ty)→D→Option t.T
 | .i k, .lit (.int k' n)=>if k = k' then some n else none
 | .b, .lit (.bool b)=>some b
 | .s, .lit (.string s)=>some s
 | .ls t, .sl t' l=>lZ t' t l
 | .ls _, .nil=>some []
 | _,_=>none
def Fj:(ts:List Ty)→List D→Option (HP ts)
 | [],[]=>some ()
 | [t],[d]=>yP t d
 | t :: u :: r,d :: ds=>match yP t d,Fj (u :: r) ds with
  | some x,some y=>some (x,y)
  | _,_=>none
 | _,_=>none
def vd {α:Type} (f:List D→Option α) (k:Nat):Nat→List D→Option (List α)
 | 0,ds=>bif ds.isEmpty then some [] else none
 | n+1,ds=>match f (ds.take k),vd f k n (ds.drop k) with
  | some x,some l=>some (x :: l)
  | _,_=>none
def kM:(t:Ty)→List D→Option t.T
 | .st k,ds=>(Fj (lf k) ds).map (NJ k)
 | .arr n t,ds=>vd (kM t) t.k n ds
 | .i k,[d]=>yP (.i k) d
 | .b,[d]=>yP .b d
 | .s,[d]=>yP .s d
 | .ls t,[d]=>yP (.ls t) d
 | _,_=>none
inductive V where
  | c (d:D)
  | agg (vs:List V)
  | tup (vs:List V)
  | ptr (o k i j:Nat)
  | row (o k:Nat)
  | sub (o k off n:Nat)
  | dptr (k:Nat) (cs:List D) (j:Nat)
  | fn (f:FuncId) (caps:List V)
inductive Ob where
  | box (cs:List V)
  | row (e:TypeId) (t:Ty) (l:List t.T)
  | raw (x:Obj)
  | map (t:TypeId) (kt vt:Ty) (ks:List kt.T) (vs:List vt.T)
  | iter (m:V) (s:Int) (l:List Int)
abbrev ah:=List (Nat × Option Ob)
def ah.get:ah→Nat→Option Ob
 | [],_=>none
 | (o',b) :: r,o=>bif Nat.beq o' o then b else ah.get r o
abbrev i64 (n:Int):V:=.c (.lit (.int .i64 n))
abbrev bl (b:Bool):V:=.c (.lit (.bool b))
abbrev Te (s:ByteArray):V:=.c (.lit (.string s))
def D.ofCell:Value→D
 | .slice none 0 0=>.nil
 | v=>.lit v
def V.ofValue:Value→V
 | .agg cs=>.agg (cs.toList.map fun v=>.c (D.ofCell v))
 | .tuple vs=>match vs.toList with | []=>.c .unk | _=>.c (.lit (.tuple vs))
 | v=>.c (D.ofCell v)
def V.isCell:V→Bool
 | .c .unk=>false
 | .c (.lit (.agg _))=>false
 | .c (.lit (.tuple _))=>false
 | .c (.opt ..)=>false
 | .c _=>true
 | .ptr ..=>true
 | .row ..=>true
 | .sub ..=>true
 | .fn ..=>true
 | _=>false
def V.cells:V→List V
 | .agg vs=>vs
 | v=>[v]
def V.toD:V→Option D
 | .c .unk=>none
 | .c (.lit (.agg _))=>none
 | .c (.lit (.tuple _))=>none
 | .c (.opt ..)=>none
 | .c d=>some d
 | _=>none
def encV:(t:Ty)→t.T→V
 | .st k,x=>.agg ((Ty.enc (.st k) x).map .c)
 | .arr n t,x=>.agg ((Ty.enc (.arr n t) x).map .c)
 | .i k,x=>.c (kJ (.i k) x)
 | .b,x=>.c (kJ .b x)
 | .s,x=>.c (kJ .s x)
 | .ls t,x=>.c (.sl t x)
def zT:(t:Ty)→V→Option t.T
 | .st k, .agg cs=>match cs.mapM V.toD with | some ds=>kM (.st k) ds | none=>none
 | .arr n t, .agg cs=>match cs.mapM V.toD with | some ds=>kM (.arr n t) ds | none=>none
 | .i k, .c d=>yP (.i k) d
 | .b, .c d=>yP .b d
 | .s, .c d=>yP .s d
 | .ls t, .c d=>yP (.ls t) d
 | _,_=>none
def HS (o:Nat):V:=.fn 2000000000 [.ptr o 1 0 0]
def yH:D→Value
 | .lit v=>v
 | _=>undef
def cn:(t:Ty)→t.T→Value
 | .st k,x=>.agg ((Ty.enc (.st k) x).map yH).toArray
 | t,x=>yH ((t.enc x).headD .unk)
def RT:List D→List D→Bool
 | [],[]=>true
 | .lit (.int _ a) :: r, .lit (.int _ b) :: r'=>ae a b&&RT r r'
 | _,_=>false
def ug:(t:Ty)→t.T→t.T→Bool
 | .i _,a,b=>ae a b
 | .st k,a,b=>RT (Ty.enc (.st k) a) (Ty.enc (.st k) b)
 | _,_,_=>false
def xY (s:SK):Bool:=match lf s with | [.i .i64, .i .i64]=>true | _=>false
def JW:(t:Ty)→V→Option t.T
 | .i k, .c (.lit (.int k' n))=>if k = k' then some n else none
 | .st k,v=>zT (.st k) v
 | _,_=>none
def aP (t:Ty):List t.T→t.T→Nat
 | [],_=>0
 | x :: r,k=>bif ug t x k then 0 else aP t r k+1
def eC (t:Ty) (ks:List t.T) (k:t.T):Bool:=Nat.blt (aP t ks k) ks.length
def cF (t:Ty) {T:Type} (ks:List t.T) (vs:List T) (k:t.T) (z:T):T:=vs.getD (aP t ks k) z
def dq (t:Ty) (ks:List t.T) (k:t.T):List t.T:=bif eC t ks k then ks else ks++[k]
def du (t:Ty) {T:Type} (ks:List t.T) (vs:List T) (k:t.T) (v:T):List T:=bif eC t ks k then vs.set (aP t ks k) v else vs++[v]
def m4 (H:ah):V→Option (Nat × Ob)
 | .fn f [.ptr o _ _ _]=>bif Nat.beq f 2000000000 then (match H.get o with | some b=>some (o,b) | none=>none) else none
 | _=>none
def tM (H:ah) (o k:Nat):V :=
 match H.get o with
 | some (.row _ t l)=>bif Nat.beq t.k k then .c (.sl t l) else .c .unk
 | _=>.c .unk
def aq {T:Type} (l:List T) (off n:Nat):List T:=(l.drop off).take n
def tF (H:ah) (o k off n:Nat):V :=
 match H.get o with
 | some (.row _ t l)=>bif Nat.beq t.k k then .c (.sl t (aq l off n)) else .c .unk
 | _=>.c .unk
def pV (H:ah):V→D
 | .c d=>d
 | .row o k=>match tM H o k with | .c d=>d | _=>.unk
 | .sub o k off n=>match tF H o k off n with | .c d=>d | _=>.unk
 | _=>.unk
def Mu (H:ah) (o k i j:Nat):V :=
 match H.get o with
 | some (.row _ t l)=>bif Nat.beq t.k k then .dptr k (els t l i) j else .c .unk
 | some (.box cs)=>bif Nat.beq cs.length k then .dptr k (cs.map (pV H)) j else .c .unk
 | some (.raw _)=>.c .unk
 | some (.iter ..)=>.c .unk
 | some (.map ..)=>.c .unk
 | none=>.c .unk
def vU (l:List Int):ByteArray:=⟨(l.map fun x=>UInt8.ofNat x.toNat).toArray⟩
def Fv (s:ByteArray) (pos:Nat):Int:=(Utf8.decode s pos).1
def EM (s:ByteArray) (pos:Nat):Nat:=(Utf8.decode s pos).2
mutual
def V.view (H:ah):V→V
 | .c d=>.c d
 | .agg vs=>.agg (V.views H vs)
 | .tup vs=>.tup (V.views H vs)
 | .ptr o k i j=>Mu H o k i j
 | .row o k=>tM H o k
 | .sub o k off n=>tF H o k off n
 | .dptr k cs j=>.dptr k cs j
 | .fn f caps=>.fn f (V.views H caps)
def V.views (H:ah):List V→List V
 | []=>[]
 | v :: r=>V.view H v :: V.views H r
end
mutual
def V.refs:V→List Nat
 | .c _=>[]
 | .agg vs=>V.refss vs
 | .tup vs=>V.refss vs
 | .ptr o _ _ _=>[o]
 | .row o _=>[o]
 | .sub o _ _ _=>[o]
 | .dptr ..=>[]
 | .fn _ caps=>V.refss caps
def V.refss:List V→List Nat
 | []=>[]
 | v :: r=>V.refs v++V.refss r
end
mutual
def V.kill (o:Nat):V→V
 | .c d=>.c d
 | .agg vs=>.agg (V.kills o vs)
 | .tup vs=>.tup (V.kills o vs)
 | .ptr o' k i j=>bif Nat.beq o' o then .c .unk else .ptr o' k i j
 | .row o' k=>bif Nat.beq o' o then .c .unk else .row o' k
 | .sub o' k off n=>bif Nat.beq o' o then .c .unk else .sub o' k off n
 | .dptr k cs j=>.dptr k cs j
 | .fn f caps=>.fn f (V.kills o caps)
def V.kills (o:Nat):List V→List V
 | []=>[]
 | v :: r=>V.kill o v :: V.kills o r
end
inductive ko where
  | data (v:V)
  | new (v:V)
  | own (fresh:Bool) (e:TypeId) (t:Ty) (l:List t.T)
abbrev N3:=List V→Option (Bool × ko)
inductive fU:List Prop→Type
  | nil:fU []
  | cons {p:Prop} {ps:List Prop} (d:Decidable p) (r:fU ps):fU (p :: ps)
attribute [class] fU
instance:fU []:=.nil
instance {p:Prop} {ps:List Prop} [d:Decidable p] [r:fU ps]:fU (p :: ps):=.cons d r
structure aA where
  pre:List Prop:=[]
  dec:fU pre:=by infer_instance
  val:V
  eff:ah:=[]
  kill:List Nat:=[]
inductive CC where
  | pure (c:N3)
  | mut (m:ah→Nat→List V→Option aA)
def aK (H:ah) (vs:List V):List Nat :=
 V.refss vs++(V.refss vs).flatMap fun o=>match H.get o with | some (.box cs)=>V.refss cs | some (.iter m _ _)=>V.refs m | _=>[]
def br:List Nat→ah→ah
 | [],_=>[]
 | o :: r,H=>match ah.get H o with | some b=>(o,some b) :: br r H | none=>br r H
def OC:Option Ob→Bool
 | some (.row ..)=>true
 | _=>false
mutual
def V.noUnk:V→Bool
 | .c .unk=>false
 | .c _=>true
 | .agg vs=>V.noUnks vs
 | .tup vs=>V.noUnks vs
 | .ptr ..=>true
 | .row ..=>true
 | .sub ..=>true
 | .dptr ..=>true
 | .fn _ vs=>V.noUnks vs
def V.noUnks:List V→Bool
 | []=>true
 | v :: r=>V.noUnk v&&V.noUnks r
end
def JZ:Option Ob→Bool
 | some (.row ..)=>true
 | some (.raw _)=>true
 | some (.map ..)=>true
 | some (.box cs)=>V.noUnks cs
 | some (.iter m _ _)=>V.noUnk m
 | none=>false
def ph:Option Ob→List Nat
 | some (.box cs)=>V.refss cs
 | some (.iter m _ _)=>V.refs m
 | _=>[]
def pd (H:ah) (vs:List V):Bool × List Nat:=((aK H vs).all fun o=>JZ (H.get o),(aK H vs).flatMap fun o=>ph (H.get o))
def BD (H:ah):List Nat:=H.flatMap fun x=>ph x.2
section
variable (P:Program)
def sz (t:TypeId):Nat:=match P.underlying t,P.info? t with | some _,some i=>i.size | _,_=>0
def rN (t:TypeId):Nat:=match P.info? t with | some i=>i.bytes | none=>0
def fR (t:TypeId):Bool:=match P.underlying t with | some (.struct _)=>true | some (.array _ _)=>true | _=>false
def fA (t:TypeId):Bool:=fR P t||Nat.blt 0 (sz P t)
def sb (t:TypeId):Option V:=match P.info? t with | some i=>(match i.zero with | some (.tuple _)=>none | some v=>some (V.ofValue v) | none=>none) | none=>none
def bY (t:TypeId):Bool:=match P.underlying t with | some _=>true | none=>false
def OQ:List (Nat × SK)→Nat→Option SK
 | [],_=>none
 | (i,k) :: r,t=>bif Nat.beq i t then some k else OQ r t
def UQ:Nat→TypeId→Option Ty
 | 0,_=>none
 | d+1,t=>match P.underlying t with
  | some (.int k)=>some (.i k)
  | some .bool=>some .b
  | some .string=>some .s
  | some (.slice e)=>(UQ d e).map .ls
  | some (.struct _)=>(OQ Tk t).map .st
  | some (.array n e)=>(UQ d e).map (.arr n)
  | _=>none
def H5 (t:TypeId):Option Ty:=match UQ P 9 t with | some ty=>bif Nat.beq ty.k (sz P t) then some ty else none | none=>none
def l6 (ag:Bool) (cs:List V) (j n:Nat):V :=
 bif ag then .agg ((cs.drop j).take n) else (cs.drop j).headD (.c .unk)
def JX (ag:Bool) (cs:List D) (j n:Nat):V :=
 bif ag then .agg ((List.range n).map fun q=>.c (cs.getD (j+q) .unk)) else .c (cs.getD j .unk)
def setL {α:Type}:List α→Nat→List α→List α
 | cs,_,[]=>cs
 | cs,off,x :: r=>setL (cs.set off x) (off+1) r
def n8 (H:ah) (t:TypeId) (a:V):Option aA :=
 match a with
 | .ptr o k i j =>
  match H.get o with
  | some (.box cs)=>bif Nat.beq cs.length k&&Nat.ble (j+sz P t) k&&fA P t then some { val:=l6 (fR P t) cs j (sz P t) } else none
  | some (.row _ ty l) =>
   bif Nat.beq ty.k k&&Nat.ble (j+sz P t) k&&fA P t then some { val:=JX (fR P t) (els ty l i) j (sz P t) }
   else bif Nat.beq ty.k k&&Nat.beq i 0&&Nat.beq j 0&&fR P t&&Nat.blt 0 k then
    some { pre:=[l.length*k = sz P t],val:=.agg ((List.range (sz P t / k)).flatMap fun i=>(List.range k).map fun q=>.c ((els ty l i).getD q .unk)) }
   else none
  | some (.raw _)=>none
  | some (.iter ..)=>none
  | some (.map ..)=>none
  | none=>none
 | .dptr k cs j=>bif Nat.ble (j+sz P t) k&&fA P t then some { val:=JX (fR P t) cs j (sz P t) } else none
 | _=>none
def qQ (H:ah) (t:TypeId) (a x:V):Option aA :=
 bif Nat.beq x.cells.length (sz P t)&&x.cells.all V.isCell&&bY P t then
  match a with
  | .ptr o k i j =>
   match H.get o with
   | some (.box cs)=>bif Nat.beq cs.length k&&Nat.ble (j+sz P t) k then some { val:=.c .unk,eff:=[(o,some (.box (setL cs j x.cells)))] } else none
   | some (.row e ty l) =>
    match x.cells.mapM V.toD with
    | some ds=>bif Nat.beq ty.k k&&Nat.ble (j+sz P t) k then
      (match kM ty (setL (els ty l i) j ds) with | some y=>some { val:=.c .unk,eff:=[(o,some (.row e ty (l.set i y)))] } | none=>none)
     else bif Nat.beq ty.k k&&Nat.beq i 0&&Nat.beq j 0&&Nat.blt 0 k then
      (match vd (kM ty) k (sz P t / k) ds with | some l'=>some { pre:=[l.length*k = sz P t],val:=.c .unk,eff:=[(o,some (.row e ty l'))] } | none=>none) else none
    | none=>none
   | some (.raw _)=>none
   | some (.iter ..)=>none
   | some (.map ..)=>none
   | none=>none
  | _=>none
 else none
def xx (t:TypeId) (f:Nat):Option (Nat × TypeId) :=
 match P.underlying t with
 | some (.struct fs)=>(match fs[f]? with | some fl=>some (fl.offset,fl.type) | none=>none)
 | _=>none
def KH (op:BinOp) (k:IntKind) (a b:Int):Option aA :=
 match op with
 | .add=>some { val:=.c (.lit (.int k (k.wrap (a+b)))) }
 | .sub=>some { val:=.c (.lit (.int k (k.wrap (a - b)))) }
 | .mul=>some { val:=.c (.lit (.int k (k.wrap (a*b)))) }
 | .quo=>some { pre:=[b≠0],val:=.c (.lit (.int k (k.wrap (a.tdiv b)))) }
 | .rem=>some { pre:=[b≠0],val:=.c (.lit (.int k (a.tmod b))) }
 | .and=>some { val:=.c (.lit (.int k (k.wrap (OU k.bits a b)))) }
 | .or=>some { val:=.c (.lit (.int k (k.wrap (NT k.bits a b)))) }
 | .xor=>some { val:=.c (.lit (.int k (k.wrap (PT k.bits a b)))) }
 | .andNot=>some { val:=.c (.lit (.int k (k.wrap (On k.bits a b)))) }
 | .eql=>some { val:=bl (ae a b) }
 | .neq=>some { val:=bl (bW a b) }
 | .lss=>some { val:=bl (aa (a < b)) }
 | .leq=>some { val:=bl (aa (a≤b)) }
 | .gtr=>some { val:=bl (aa (b < a)) }
 | .geq=>some { val:=bl (aa (b≤a)) }
 | _=>none
def yG (op:BinOp) (k:IntKind) (a y:Int):Option aA :=
 match op with
 | .shl=>some { pre:=[0≤y],val:=.c (.lit (.int k (k.wrap (a*p2 y k.bits)))) }
 | .shr=>some { pre:=[0≤y],val:=.c (.lit (.int k (a.fdiv (p2 y k.bits)))) }
 | _=>none
def J9 (op:BinOp) (x y:ByteArray):Option aA :=
 match op with
 | .add=>some { pre:=[x.size+y.size≤9223372036854775807],val:=Te (x++y) }
 | .eql=>some { val:=bl (be x y) }
 | .neq=>some { val:=bl (!(be x y)) }
 | .lss=>some { val:=bl (Op.bytesLess x.toList y.toList) }
 | .leq=>some { val:=bl (Op.bytesLess x.toList y.toList||be x y) }
 | .gtr=>some { val:=bl (!(Op.bytesLess x.toList y.toList||be x y)) }
 | .geq=>some { val:=bl (!(Op.bytesLess x.toList y.toList)) }
 | _=>none
def FG:Nat→TypeId→V→V→Option Bool
 | 0,_,_,_=>none
 | d+1,t,x,y =>
  match P.underlying t,x,y with
  | some (.int _), .c (.lit (.int k a)), .c (.lit (.int k' b))=>if k = k' then some (ae a b) else none
  | some .bool, .c (.lit (.bool a)), .c (.lit (.bool b))=>some (Tj a b)
  | some .string, .c (.lit (.string a)), .c (.lit (.string b))=>some (be a b)
  | some (.struct fs), .agg xs, .agg ys =>
   bif P.stoodInHeld t then none else
   fs.toList.foldr (fun f acc=>bif f.name == "_" then none else
    bif Nat.ble (f.offset+sz P f.type) xs.length&&Nat.ble (f.offset+sz P f.type) ys.length&&fA P f.type then
    match FG d f.type (l6 (fR P f.type) xs f.offset (sz P f.type)) (l6 (fR P f.type) ys f.offset (sz P f.type)),acc with
    | some a,some b=>some (a&&b)
    | _,_=>none
    else none) (some true)
  | some (.array len e), .agg xs, .agg ys =>
   bif Nat.ble (len*sz P e) xs.length&&Nat.ble (len*sz P e) ys.length&&fA P e then
   (List.range len).foldr (fun i acc =>
    match FG d e (l6 (fR P e) xs (i*sz P e) (sz P e)) (l6 (fR P e) ys (i*sz P e) (sz P e)),acc with
    | some a,some b=>some (a&&b)
    | _,_=>none) (some true)
   else none
  | _,_,_=>none
def Sl (op:BinOp) (t:TypeId) (x y:V):Option aA :=
 match x,y with
 | .c (.lit (.int k a)), .c (.lit (.int k' b)) =>
  match op with
  | .shl=>yG op k a b
  | .shr=>yG op k a b
  | op=>if k = k' then KH op k a b else none
 | .c (.lit (.string a)), .c (.lit (.string b))=>J9 op a b
 | .c (.lit (.bool a)), .c (.lit (.bool b)) =>
  match P.underlying t,op with
  | some .bool, .eql=>some { val:=bl (Tj a b) }
  | some .bool, .neq=>some { val:=bl (!(Tj a b)) }
  | _,_=>none
 | .agg xs, .agg ys =>
  bif P.eqGuardType P.depth t then none else
  match op,FG P 10 t (.agg xs) (.agg ys) with
  | .eql,some b=>some { val:=bl b }
  | .neq,some b=>some { val:=bl (!b) }
  | _,_=>none
 | _,_=>none
def U1 (op:UnOp) (x:V):Option aA :=
 match op,x with
 | .neg, .c (.lit (.int k n))=>some { val:=.c (.lit (.int k (k.wrap (0 - n)))) }
 | .xor, .c (.lit (.int k n))=>some { val:=.c (.lit (.int k (k.wrap (PT k.bits (if k.signed then -1 else k.max) n)))) }
 | .not, .c (.lit (.bool b))=>some { val:=bl (!b) }
 | _,_=>none
def OE (src dst:TypeId) (x:V):Option aA :=
 match P.underlying src,P.underlying dst,x with
 | some (.int _),some (.int k), .c (.lit (.int _ n))=>some { val:=.c (.lit (.int k (k.wrap n))) }
 | some .string,some .string, .c (.lit (.string s))=>some { val:=Te s }
 | _,_,_=>none
def cM (H:ah) (t:Ty):V→Option (List t.T)
 | .c .nil=>some []
 | .c (.sl t' l)=>lZ t' t l
 | .row o k=>match H.get o with | some (.row _ t' l)=>bif Nat.beq t'.k k then lZ t' t l else none | _=>none
 | .sub o k off n=>match H.get o with | some (.row _ t' l)=>bif Nat.beq t'.k k then (lZ t' t l).map fun l=>aq l off n else none | _=>none
 | _=>none
def Ez (H:ah) (x:V):Option aA:=(cM H (.i .u8) x).map fun l=>{ val:=Te (vU l) }
def yD (H:ah) (t:TypeId) (x:V):Option aA :=
 match P.underlying t,x with
 | some (.slice _), .c .nil=>some { val:=i64 0 }
 | some (.slice _), .c (.sl _ l)=>some { val:=i64 l.length }
 | some (.slice _), .row o _=>(match H.get o with | some (.row _ _ l)=>some { val:=i64 l.length } | _=>none)
 | some (.slice _), .sub _ _ _ n=>some { val:=i64 n }
 | some .string, .c (.lit (.string s))=>some { val:=i64 s.size }
 | _,_=>none
def HQ (m x:V):Option V :=
 match m,x with | .c (.lit (.int k a)), .c (.lit (.int _ b))=>some (V.c (.lit (.int k (bif aa (b < a) then b else a)))) | _,_=>none
def Hu (m x:V):Option V :=
 match m,x with | .c (.lit (.int k a)), .c (.lit (.int _ b))=>some (V.c (.lit (.int k (bif aa (a < b) then b else a)))) | _,_=>none
def PM:List V→Option V
 | []=>none
 | x :: r=>r.foldlM HQ x
def Po:List V→Option V
 | []=>none
 | x :: r=>r.foldlM Hu x
def pW (t:TypeId):Option (List D):=match sb P t with | some v=>v.cells.mapM V.toD | none=>none
def NV (e:TypeId):Bool:=match pW P e with | some z=>Nat.beq z.length (sz P e) | none=>false
def nC (H:ah) (nid:Nat) (t:TypeId) (s x:V):Option aA :=
 match P.underlying t with
 | some (.slice e) =>
  match s with
  | .c .nil=>match H5 P e with
   | some ty=>match cM H ty x with
    | some l2=>bif Nat.blt 0 ty.k&&bY P e&&NV P e then some { pre:=[l2.length*rN P e≤140737488355328,l2.length≤140737488355328],val:=.row nid ty.k,eff:=[(nid,some (.row e ty l2))] } else none
    | none=>none
   | none=>none
  | .row o k =>
   match H.get o with
   | some (.row e' ty l)=>match cM H ty x with
    | some l2=>bif Nat.beq e' e&&Nat.beq ty.k k&&Nat.beq k (sz P e)&&Nat.blt 0 k&&NV P e then
      some { pre:=[(l.length+l2.length)*rN P e≤140737488355328,l.length+l2.length≤140737488355328],val:=.row o k,eff:=[(o,some (.row e ty (l++l2)))],kill:=[o] } else none
    | none=>none
   | _=>none
  | _=>none
 | _=>none
def sL (fE:Nat→Option (Nat × Nat)) (cs:List V) (p:Nat × V):Option (List V) :=
 match fE p.1 with
 | some (off,size)=>bif Nat.beq p.2.cells.length size&&p.2.cells.all V.isCell&&Nat.ble (off+size) cs.length then some (setL cs off p.2.cells) else none
 | none=>none
def vQ (fs:Array Field) (i:Nat):Option (Nat × Nat):=match fs[i]? with | some f=>some (f.offset,sz P f.type) | none=>none
def Lg (t:TypeId) (parts:List (Nat × V)):Option aA :=
 match P.underlying t,sb P t with
 | some (.struct fs),some z=>bif fs.toList.all (fun f=>bY P f.type) then (match parts.foldlM (sL (vQ P fs)) z.cells with | some cs=>some { val:=.agg cs } | none=>none) else none
 | some (.array _ e),some z=>bif bY P e then (match parts.foldlM (sL fun i=>some (i*sz P e,sz P e)) z.cells with | some cs=>some { val:=.agg cs } | none=>none) else none
 | _,_=>none
def uP (z:List V) (k n:Nat):List V:=(List.range (n*k)).map fun q=>z.getD (q % k) (.c .unk)
def vF (nid:Nat) (t:TypeId) (len:Nat) (parts:List (Nat × V)):Option aA :=
 match P.underlying t with
 | some (.slice e) =>
  match sb P e,H5 P e with
  | some z,some ty =>
   bif Nat.beq z.cells.length (sz P e)&&Nat.blt 0 (sz P e)&&Nat.ble (len*sz P e) 16777216&&bY P e then
   match parts.foldlM (sL fun i=>some (i*sz P e,sz P e)) (uP z.cells (sz P e) len) with
   | some cs=>match cs.mapM V.toD with
    | some ds=>match vd (kM ty) (sz P e) len ds with
     | some l=>some { val:=.row nid (sz P e),eff:=[(nid,some (.row e ty l))] }
     | none=>none
    | none=>none
   | none=>none
   else none
  | _,_=>none
 | _=>none
def mH (o:Nat):Option Ob→Option Ob
 | some (.box cs)=>some (.box (V.kills o cs))
 | some (.iter m s l)=>some (.iter (V.kill o m) s l)
 | b=>b
def eH (os:List Nat) (H:ah):ah :=
 match os with
 | []=>H
 | o :: r=>eH r (H.map fun x=>(x.1,mH o x.2))
mutual
def V.noP:V→Bool
 | .agg vs=>V.noPs vs
 | .tup vs=>V.noPs vs
 | .ptr ..=>false
 | .fn _ vs=>V.noPs vs
 | _=>true
def V.noPs:List V→Bool
 | []=>true
 | v :: r=>V.noP v&&V.noPs r
end
mutual
def V.fz (o:Nat) (t:Ty) (l:List t.T):V→V
 | .c d=>.c d
 | .agg vs=>.agg (V.fzs o t l vs)
 | .tup vs=>.tup (V.fzs o t l vs)
 | .ptr o' k i j=>bif Nat.beq o' o then .c .unk else .ptr o' k i j
 | .row o' k=>bif Nat.beq o' o then (bif Nat.beq t.k k then .c (.sl t l) else .c .unk) else .row o' k
 | .sub o' k off n=>bif Nat.beq o' o then (bif Nat.beq t.k k then .c (.sl t (aq l off n)) else .c .unk) else .sub o' k off n
 | .dptr k cs j=>.dptr k cs j
 | .fn f vs=>.fn f (V.fzs o t l vs)
def V.fzs (o:Nat) (t:Ty) (l:List t.T):List V→List V
 | []=>[]
 | v :: r=>V.fz o t l v :: V.fzs o t l r
end
def ku (f:ah→List V→Option aA):List Nat→ah→List V→Option aA
 | [],H,vs=>f H vs
 | o :: fl,H,vs=>match H.get o with
  | some (.row e t l)=>(ku f fl ((o,some (.row e t [])) :: eH [o] H) (V.fzs o t l vs)).map fun r=>{ r with eff:=r.eff++[(o,some (.row e t []))],kill:=o :: r.kill }
  | _=>none
def Qx (nid:Nat) (t:TypeId) (len:Nat) (ps:List Nat) (H:ah) (vs:List V):Option aA:=ku (fun _ vs=>vF P nid t len (ps.zip vs)) (V.refss vs) H vs
def wc (t:TypeId) (H:ah):List V→Option aA
 | [a,x]=>qQ P H t a x
 | _=>none
def wh (H:ah) (t:TypeId) (a x:V):Option aA :=
 match a with
 | .ptr o _ _ _=>match H.get o with
  | some (.row _ _ _)=>ku (wc P t) (V.refs x) H [a,x]
  | _=>qQ P H t a x
 | _=>qQ P H t a x
def xP (nid:Nat) (t:TypeId) (l c:V):Option aA :=
 match P.underlying t,l,c with
 | some (.slice e), .c (.lit (.int .i64 a)), .c (.lit (.int .i64 b)) =>
  match pW P e,H5 P e with
  | some z,some ty=>match kM ty z with
   | some x=>bif Nat.beq z.length (sz P e)&&Nat.blt 0 (sz P e)&&Nat.blt 0 (rN P e)&&bY P e then some { pre:=[0≤a,a≤b,b*rN P e≤140737488355328],val:=.row nid (sz P e),eff:=[(nid,some (.row e ty (List.replicate a.toNat x)))] } else none
   | none=>none
  | _,_=>none
 | _,_,_=>none
def Ea:V→Option (Int)
 | .c (.lit (.int _ n))=>some n
 | _=>none
def NM:Option V→Option Int
 | none=>some 0
 | some v=>Ea v
def NY (n:Int):Option V→Option Int
 | none=>some n
 | some v=>Ea v
def oc (H:ah) (t:TypeId) (x:V) (lo hi:Option V):Option aA :=
 match P.underlying t,x with
 | some (.slice e), .c .nil=>match P.underlying e,NM lo,NY 0 hi with | some _,some l,some h=>some { pre:=[l = 0,h = 0],val:=.c .nil } | _,_,_=>none
 | some (.slice e), .c (.sl ty xs)=>bif Nat.beq (sz P e) ty.k then (match P.underlying e,NM lo,NY xs.length hi with | some _,some l,some h=>some { pre:=[0≤l,l≤h,h≤xs.length],val:=.c (.sl ty (aq xs l.toNat (h - l).toNat)) } | _,_,_=>none) else none
 | some (.slice e), .row o k=>(match H.get o with
  | some (.row _ _ xs)=>bif Nat.beq (sz P e) k then (match P.underlying e,NM lo,NY xs.length hi with | some _,some l,some h=>some { pre:=[0≤l,l≤h,h≤xs.length],val:=.sub o k l.toNat (h - l).toNat } | _,_,_=>none) else none
  | _=>none)
 | some (.slice e), .sub o k off n=>bif Nat.beq (sz P e) k then (match P.underlying e,NM lo,NY n hi with | some _,some l,some h=>some { pre:=[0≤l,l≤h,h≤n],val:=.sub o k (off+l.toNat) (h - l).toNat } | _,_,_=>none) else none
 | some .string, .c (.lit (.string s))=>match NM lo,NY s.size hi with | some l,some h=>some { pre:=[0≤l,l≤h,h≤s.size],val:=Te (s.extract l.toNat h.toNat) } | _,_=>none
 | _,_=>none
def mg (H:ah) (t:TypeId) (x ix:V):Option aA :=
 match P.underlying t,x,ix with
 | some (.slice e), .c (.sl ty l), .c (.lit (.int _ i))=>bif Nat.beq (sz P e) ty.k then (match P.underlying e with | some _=>some { pre:=[0≤i,i < l.length],val:=.dptr ty.k (els ty l i.toNat) 0 } | none=>none) else none
 | some (.slice e), .c .nil, .c (.lit (.int _ _))=>some { pre:=[False],val:=.dptr (sz P e) (match pW P e with | some z=>z | none=>[]) 0 }
 | some (.slice e), .row o k, .c (.lit (.int _ i))=>(match H.get o with
  | some (.row _ _ l)=>bif Nat.beq (sz P e) k then (match P.underlying e with | some _=>some { pre:=[0≤i,i < l.length],val:=.ptr o k i.toNat 0 } | none=>none) else none
  | _=>none)
 | some (.slice e), .sub o k off n, .c (.lit (.int _ i))=>bif Nat.beq (sz P e) k then (match P.underlying e with | some _=>some { pre:=[0≤i,i < n],val:=.ptr o k (off+i.toNat) 0 } | none=>none) else none
 | some (.array len e), .ptr o k q j, .c (.lit (.int _ i)) =>
  (match H.get o with
  | some (.row _ ty l)=>bif Nat.beq q 0&&Nat.beq j 0&&Nat.beq ty.k k&&Nat.beq k (sz P e) then (match P.underlying e with | some _=>some { pre:=[l.length = len,0≤i,i < len],val:=.ptr o k i.toNat 0 } | none=>none) else none
  | some (.box _)=>(match P.underlying e with | some _=>some { pre:=[0≤i,i < len],val:=.ptr o k q (j+i.toNat*sz P e) } | none=>none)
  | some (.raw _)=>none
  | some (.iter ..)=>none
  | some (.map ..)=>none
  | none=>none)
 | some (.array len e), .dptr k cs j, .c (.lit (.int _ i))=>(match P.underlying e with | some _=>some { pre:=[0≤i,i < len],val:=.dptr k cs (j+i.toNat*sz P e) } | none=>none)
 | _,_,_=>none
def Lr (t:TypeId) (x ix:V):Option aA :=
 match P.underlying t,x,ix with
 | some .string, .c (.lit (.string s)), .c (.lit (.int _ i))=>some { pre:=[0≤i,i < s.size],val:=.c (.lit (.int .u8 (s.data.getD i.toNat 0).toNat)) }
 | some (.array len e), .agg cs, .c (.lit (.int _ i))=>bif Nat.ble (len*sz P e) cs.length&&fA P e then some { pre:=[0≤i,i < len],val:=l6 (fR P e) cs (i.toNat*sz P e) (sz P e) } else none
 | _,_,_=>none
def qo (nid:Nat) (t:TypeId) (v:V):Option aA :=
 bif v.cells.all V.isCell&&Nat.beq v.cells.length (sz P t) then
  match P.underlying t,v.cells.mapM V.toD with
  | some (.array len e),some ds =>
   bif Nat.beq (len*sz P e) (sz P t)&&Nat.blt 0 (sz P e)&&Nat.blt 0 len&&Nat.ble len 1000000 then
    match H5 P e with
    | some ty=>match vd (kM ty) (sz P e) len ds with
     | some l=>some { val:=.ptr nid (sz P e) 0 0,eff:=[(nid,some (.row t ty l))] }
     | none=>none
    | none=>none
   else none
  | _,_=>some { val:=.ptr nid v.cells.length 0 0,eff:=[(nid,some (.box v.cells))] }
 else none
variable (C:FuncId→Option CC)
def gP (vs:List V):Bool:=match V.refss vs with | []=>false | _=>true
mutual
def V.scalar:V→Bool
 | .c (.lit (.int _ _))=>true
 | .c (.lit (.bool _))=>true
 | .c (.lit (.string _))=>true
 | .c .nil=>true
 | .c .unk=>true
 | .c .any=>true
 | .agg vs=>V.scalars vs
 | .tup vs=>V.scalars vs
 | _=>false
def V.scalars:List V→Bool
 | []=>true
 | v :: r=>V.scalar v&&V.scalars r
end
def iD (H:ah) (nid:Nat) (f:FuncId) (args:List V):Option aA :=
 match C f with
 | none=>none
 | some (.mut m)=>m (br (aK H args) H) nid args
 | some (.pure con)=>match con (V.views H args) with
  | none=>none
  | some (b, .data v)=>bif (!gP args)||v.scalar then some { pre:=[b = true],val:=v } else none
  | some (b, .new v)=>some { pre:=[b = true],val:=v }
  | some (b, .own fr e t l)=>bif (!gP args)||fr then some { pre:=[b = true],val:=.row nid t.k,eff:=[(nid,some (.row e t l))] } else none
def sg (f:FuncId) (nid:Nat) (H:ah) (args:List V):Option aA :=
 bif V.noPs args then match C f with | some (.pure _)=>iD C H nid f args | _=>none else none
def mX (H:ah) (nid:Nat) (f:FuncId) (args:List V):Option aA :=
 match iD C H nid f args with
 | some r=>some r
 | none=>ku (sg C f nid) (V.refss args) H args
def qv (x:V):Option aA:=match x with | .ptr ..=>some { val:=x } | .dptr ..=>some { val:=x } | .fn f _=>bif Nat.blt f 1000000000 then some { val:=x } else none | _=>none
def xf (t:TypeId) (f:Nat) (a:V):Option aA :=
 match xx P t f with
 | some (off,ft)=>bif Nat.beq (sz P ft) 0 then none else (match a with | .ptr o k i j=>some { val:=.ptr o k i (j+off) } | .dptr k cs j=>some { val:=.dptr k cs (j+off) } | _=>none)
 | none=>none
def LP (t:TypeId) (f:Nat) (x:V):Option aA :=
 match x,xx P t f with
 | .agg cs,some (off,ft)=>bif Nat.ble (off+sz P ft) cs.length&&fA P ft then some { val:=l6 (fR P ft) cs off (sz P ft) } else none
 | _,_=>none
def Dh (ix:Nat) (x:V):Option aA :=
 match x with
 | .tup vs=>match vs[ix]? with | some v=>some { val:=v } | none=>none
 | .c (.opt b us)=>(match ix with
  | 0=>some { val:=bl b }
  | i+1=>match us[i]? with | some v=>some { pre:=[b = true],val:=.c (.lit v) } | none=>none)
 | _=>none
def Mn (nid:Nat) (t:TypeId) (x:V):Option aA :=
 match P.underlying t,x with
 | some .string, .c (.lit (.string s))=>some { val:=.ptr nid 1 0 0,eff:=[(nid,some (.raw (.stringIter s 0)))] }
 | _,_=>none
def wG (H:ah) (nid:Nat) (t:TypeId) (x:V):Option aA :=
 match P.underlying t with
 | some (.map _ _)=>(match m4 H x with
  | some (_, .map _ _ _ ks _)=>some { val:=.ptr nid 1 0 0,eff:=[(nid,some (.iter x ks.length []))] }
  | _=>none)
 | _=>none
def Uw:Ty→Bool
 | .i _=>true
 | .b=>true
 | .s=>true
 | _=>false
def Ty.key:Ty→Bool
 | .st k=>(lf k).all Uw
 | .i _=>true
 | .b=>true
 | .s=>true
 | _=>false
def vV (H:ah) (x:V):Option aA :=
 match x with
 | .ptr o k i j=>match H.get o with
  | some (.iter m s l)=>bif Nat.beq (i*k+j) 0 then (match m4 H m,l with
   | some (_, .map _ kt vt ks vs),p :: _=>bif kt.key then some { pre:=[ae ks.length s = true,0≤p,p.toNat < ks.length],val:=.tup [encV kt (gD ks p.toNat kt.z),encV vt (gD vs p.toNat vt.z)] } else none
   | _,_=>none) else none
  | _=>none
 | _=>none
def BI (H:ah) (x:V):Option aA :=
 match x with
 | .ptr o k i j=>match H.get o with
  | some (.raw (.stringIter s pos))=>bif Nat.beq (i*k+j) 0 then
    some { val:=.c (.opt (Nat.blt pos s.size) [.int .i64 pos, .int .i32 (Fv s pos)]),eff:=[(o,some (.raw (.stringIter s (bif Nat.blt pos s.size then pos+EM s pos else pos))))] } else none
  | _=>none
 | _=>none
def zD {T:Type} (z:T) (l:List T) (off n:Nat):List T:=l.take off++(List.replicate n z++l.drop (off+n))
def qp (H:ah) (t:TypeId) (x:V):Option aA :=
 match P.underlying t with
 | some (.slice e)=>match pW P e with
  | some z=>match x with
   | .row o k=>(match H.get o with
    | some (.row e' ty l)=>(match kM ty z with
     | some y=>bif Nat.beq e' e&&Nat.beq ty.k k&&Nat.beq k (sz P e)&&Nat.beq z.length k&&Nat.blt 0 k&&bY P e then some { val:=.c .unk,eff:=[(o,some (.row e' ty (List.replicate l.length y)))] } else none
     | none=>none)
    | _=>none)
   | .sub o k off n=>(match H.get o with
    | some (.row e' ty l)=>(match kM ty z with
     | some y=>bif Nat.beq e' e&&Nat.beq ty.k k&&Nat.beq k (sz P e)&&Nat.beq z.length k&&Nat.blt 0 k&&bY P e then some { pre:=[off+n≤l.length],val:=.c .unk,eff:=[(o,some (.row e' ty (zD y l off n)))] } else none
     | none=>none)
    | _=>none)
   | _=>none
  | none=>none
 | _=>none
def nO (f:Field) (off:Nat):Bool:=!(f.name == "_")&&(Nat.beq f.offset off&&(match P.underlying f.type with | some (.int .i64)=>fA P f.type&&(!(fR P f.type)&&Nat.beq (sz P f.type) 1) | _=>false))
def jg (k:TypeId):Ty→Bool
 | .i q=>(match P.underlying k with | some (.int q')=>decide (q' = q) | _=>false)
 | .st s=>(match P.underlying k with
  | some (.struct fs)=>(match fs.toList with
   | [f,g]=>nO P f 0&&(nO P g 1&&(!(P.stoodInHeld k)&&xY s))
   | _=>false)
  | _=>false)
 | _=>false
def C6 (nid:Nat) (t:TypeId):Option aA :=
 match P.underlying t with
 | some (.map k e)=>match H5 P k,H5 P e with
  | some kt,some vt=>some { val:=HS nid,eff:=[(nid,some (.map t kt vt [] []))] }
  | _,_=>none
 | _=>none
def sA (H:ah) (t:TypeId) (m k:V) (ok:Bool):Option aA :=
 match P.underlying t,m4 H m with
 | some (.map kk e),some (_, .map _ kt vt ks vs)=>(match JW kt k,sb P e with
  | some key,some z0=>(match zT vt z0 with
   | some z=>bif jg P kk kt then some { val:=bif ok then .tup [encV vt (cF kt ks vs key z),bl (eC kt ks key)] else encV vt (cF kt ks vs key z) } else none
   | none=>none)
  | _,_=>none)
 | _,_=>none
def xO (t:TypeId) (H:ah):List V→Option aA
 | [m,k,v]=>match P.underlying t,m4 H m with
  | some (.map kk _),some (o, .map t' kt vt ks vs)=>(match JW kt k,zT vt v with
   | some key,some x=>bif jg P kk kt then some { val:=.c .unk,eff:=[(o,some (.map t' kt vt (dq kt ks key) (du kt ks vs key x)))] } else none
   | _,_=>none)
  | _,_=>none
 | _=>none
def Pw (H:ah) (t:TypeId) (m k v:V):Option aA:=ku (xO P t) (V.refs v) H [m,k,v]
def vP (H:ah) (nid:Nat) (o:Oper) (vs:List V):Option aA :=
 match o.op,vs with
 | .move _,[x]=>some { val:=x }
 | .assign _,[x]=>some { val:=x }
 | .alloc t,[]=>match sb P t with | some z=>qo P nid t z | none=>none
 | .box t _,[x]=>qo P nid t x
 | .build t parts,vs=>Lg P t ((parts.toList.map (·.1)).zip vs)
 | .buildSlice t len parts,vs=>Qx P nid t len (parts.toList.map (·.1)) H vs
 | .load t _,[a]=>n8 P H t a
 | .store t _ _,[a,x]=>wh P H t a x
 | .nilCheck _,[x]=>qv x
 | .binOp op t _ _ _,[x,y]=>Sl P op t x y
 | .unOp op _ _,[x]=>U1 op x
 | .convert s d _,[x]=>(match P.underlying s,P.underlying d with
  | some (.slice e),some .string=>(match P.underlying e with | some (.int .u8)=>Ez H x | _=>none)
  | _,_=>OE P s d x)
 | .fieldAddr t _ f,[a]=>xf P t f a
 | .field t _ f,[x]=>LP P t f x
 | .indexAddr t _ _,[x,i]=>mg P H t x i
 | .index t _ _,[x,i]=>Lr P t x i
 | .slice t _ none none none,[x]=>oc P H t x none none
 | .slice t _ (some _) none none,[x,l]=>oc P H t x (some l) none
 | .slice t _ none (some _) none,[x,h]=>oc P H t x none (some h)
 | .slice t _ (some _) (some _) none,[x,l,h]=>oc P H t x (some l) (some h)
 | .makeSlice t _ _,[l,c]=>xP P nid t l c
 | .makeFunc (.func f) first _,vs=>bif first.isEmpty&&Nat.blt f 1000000000 then some { val:=.fn f vs } else none
 | .makeMap t none,[]=>C6 P nid t
 | .lookup t _ _ ok,[m,k]=>sA P H t m k ok
 | .mapUpdate t _ _ _,[m,k,v]=>Pw P H t m k v
 | .makeInterface t _,[x]=>(match P.underlying t with | some (.slice _)=>bif V.isCell x&&Nat.blt t 1000000000 then some { val:=.fn (1000000000+t) [x] } else none | _=>none)
 | .extract _ ix,[x]=>Dh ix x
 | .range t _,[x]=>(match Mn P nid t x with | some r=>some r | none=>wG P H nid t x)
 | .next _ true,[x]=>BI H x
 | .entry _,[x]=>vV H x
 | .call { callee:=.builtin .len,argTypes, .. },[x]=>(match argTypes[0]? with | some t=>yD P H t x | none=>none)
 | .call { callee:=.builtin .clear,argTypes, .. },[x]=>(match argTypes[0]? with | some t=>qp P H t x | none=>none)
 | .call { callee:=.builtin .min, .. },vs=>(PM vs).map fun v=>{ val:=v }
 | .call { callee:=.builtin .max, .. },vs=>(Po vs).map fun v=>{ val:=v }
 | .call { callee:=.builtin .append,argTypes, .. },[s,x]=>(match argTypes.toList with | [t,t']=>bif Nat.beq t t' then nC P H nid t s x else none | _=>none)
 | .call { callee:=.value _, .. }, .fn f caps :: vs=>bif Nat.blt f 1000000000 then mX C H nid f (vs++caps) else none
 | _,_=>none
end
abbrev aQ:=List (Nat × Bool)
structure az where
  ch:aQ
  v:V
structure St where
  tm:List (Nat × az)
  hp:ah
  nx:Nat
def au:List (Nat × az)→Nat→Option az
 | [],_=>none
 | (t',s) :: r,t=>bif Nat.beq t' t then some s else au r t
def gY:List (Nat × az)→Nat→az→List (Nat × az)
 | [],t,s=>[(t,s)]
 | (t',s') :: r,t,s=>bif Nat.beq t' t then (t,s) :: r else bif Nat.blt t t' then (t,s) :: (t',s') :: r else (t',s') :: gY r t s
def R1 (x:Nat × Bool) (ch:aQ):Bool:=ch.any fun y=>Nat.beq x.1 y.1&&(x.2 == y.2)
def pY (a b:aQ):Bool:=a.all fun x=>R1 x b
def bS (σ:St) (ch:aQ):Operand→Option V
 | .tmp t=>bif Nat.blt t 1000000 then (match au σ.tm t with | some s=>bif pY s.ch ch then some s.v else none | none=>none) else none
 | .const v=>some (V.ofValue v)
 | .func f=>bif Nat.blt f 1000000000 then some (.fn f []) else none
 | .global _=>none
def holds (tm:List (Nat × az)):aQ→Bool
 | []=>true
 | (t,w) :: r=>(match au tm t with | some { v:=.c (.lit (.bool b)), .. }=>(bif w then b else !b) | _=>false)&&holds tm r
def em (ops:List Oper) (tm:List (Nat × az)):Option (Nat × Bool)→Option aQ
 | none=>some []
 | some (j,w)=>match ops[j]? with
  | some o=>match o.dst with
   | some t=>bif Nat.blt t 1000000 then (match au tm t with | some { ch,v:=.c (.lit (.bool _)) }=>some ((t,w) :: ch) | _=>none) else none
   | none=>none
  | none=>none
def lq (σ:St) (ch:aQ) (xs:List Operand):Option (List V):=xs.mapM (bS σ ch)
def pZ (c:Operand) (w:Bool) (ch:aQ):aQ:=match c with | .tmp t=>(t,w) :: ch | _=>ch
def qg (σ:St) (ch:aQ) (c a b:Operand):Option V :=
 match bS σ ch c with
 | some (.c (.lit (.bool x))) =>
  match bS σ (pZ c true ch) a,bS σ (pZ c false ch) b with
  | some (.c (.lit (.bool y))),some (.c (.lit (.bool z)))=>some (bl (bif x then y else z))
  | _,_=>none
 | _=>none
def dS:Op→List Operand
 | .call c=>(match c.callee with | .value f=>f :: c.args.toList | _=>c.args.toList)
 | op=>op.operands.toList
def JU:Option V→Option V
 | some (.c (.lit (.bool y)))=>some (bl y)
 | _=>none
def uR (σ:St) (ch:aQ) (c a b:Operand):Option V :=
 match bS σ ch c with
 | some (.c (.lit (.bool x)))=>bif x then JU (bS σ (pZ c true ch) a) else JU (bS σ (pZ c false ch) b)
 | _=>none
def zF (P:Program) (C:FuncId→Option CC) (H:ah) (nid:Nat) (ch:aQ) (o:Oper) (vs:List V):Option aA :=
 match vP P C H nid o vs with
 | some r=>some r
 | none=>bif ch.isEmpty then none else some { pre:=[false = true],val:=.c .unk }
def lE (P:Program) (C:FuncId→Option CC) (σ:St) (nid:Nat) (ch:aQ) (o:Oper):Option (List V × aA) :=
 match o.op with
 | .pick c a b=>match qg σ ch c a b with
  | some v=>some ([],{ val:=v })
  | none=>(uR σ ch c a b).map fun v=>([.c .unk],{ val:=v })
 | op=>match lq σ ch (dS op) with
  | some vs=>(zF P C σ.hp nid ch o vs).map fun r=>(vs,r)
  | none=>none
def rS (os:List Nat) (tm:List (Nat × az)):List (Nat × az) :=
 match os with
 | []=>tm
 | o :: r=>rS r (tm.map fun x=>(x.1,{ ch:=x.2.ch,v:=x.2.v.kill o }))
def V.isBool:V→Bool
 | .c (.lit (.bool _))=>true
 | _=>false
def jW (tm:List (Nat × az)) (ch:aQ) (ps:List Prop):List Prop :=
 match ch with
 | []=>ps
 | ch=>ps.map fun p=>(holds tm ch = true→p)
def ny (d:Nat) (tm:List (Nat × az)):List (Nat × az):=tm.map fun x=>(x.1,bif x.2.ch.any (fun y=>Nat.beq y.1 d) then ⟨[], .c .unk⟩ else x.2)
def lk:List Operand→List Nat
 | []=>[]
 | .tmp t :: r=>t :: lk r
 | _ :: r=>lk r
structure cE where
  dst:Option Nat
  rds:List Nat
  ch:aQ
  nid:Nat
  vs:List V
  reach:List Nat
  rws:Bool × List Nat
  res:aA
def after (σ:St) (r:cE):St :=
  let tm:=rS r.res.kill σ.tm
  { tm:=match r.dst with | some t=>gY (ny t tm) t { ch:=r.ch,v:=r.res.val } | none=>tm
    hp:=r.res.eff++eH r.res.kill σ.hp
    nx:=σ.nx }
def gJ (dst:Option Nat) (ch:aQ):Bool:=match dst with | some t=>ch.all fun y=>!(Nat.beq y.1 t) | none=>true
def jf (N:Nat) (dst:Option Nat):Bool:=match dst with | some t=>Nat.blt t N | none=>true
def dP (tm:List (Nat × az)) (t:Nat):Bool:=match au tm t with | some s=>s.v.isBool | none=>false
def ga (tm:List (Nat × az)) (ch:aQ) (t:Nat):Bool:=match au tm t with | some s=>s.v.isBool&&pY s.ch ch | none=>false
def recOf (P:Program) (C:FuncId→Option CC) (N:Nat) (ops:List Oper) (σ:St) (nid:Nat) (o:Oper):Option cE :=
 bif jf N o.dst then
  match em ops σ.tm o.guard with
  | some ch =>
   bif ch.all fun x=>ga σ.tm ch x.1 then
   match lE P C σ nid ch o with
   | some (vs,r)=>bif ch.isEmpty||(r.eff.isEmpty&&r.kill.isEmpty&&gJ o.dst ch) then
     some { dst:=o.dst,rds:=lk (dS o.op)++ch.map (·.1),ch,nid,vs,reach:=aK σ.hp vs,rws:=pd σ.hp vs,res:=r } else none
   | none=>none
   else none
  | none=>none
 else none
def oE (tm:List (Nat × az)):List (Nat × az):=tm.map fun x=>(x.1,bif x.2.ch.isEmpty then x.2 else ⟨[], .c .unk⟩)
def m5 (P:Program) (C:FuncId→Option CC) (N:Nat) (all:List Oper):List Oper→St→Option (List Prop × St)
 | [],σ=>some ([],{ σ with tm:=oE σ.tm })
 | o :: r,σ=>match recOf P C N all σ σ.nx o with
  | some rc=>match m5 P C N all r { after σ rc with nx:=σ.nx+8 } with
   | some (qs,σ'')=>some (jW σ.tm rc.ch rc.res.pre++qs,σ'')
   | none=>none
  | none=>none
def GY:List Prop→Prop→Prop
 | [],k=>k
 | p :: r,k=>p∧GY r k
def qf (P:Program) (C:FuncId→Option CC) (N:Nat) (all:List Oper) (σ:St) (o:Oper) (k:St→Prop):Prop :=
 match recOf P C N all σ σ.nx { o with guard:=none } with
 | some rc=>GY rc.res.pre (k { after σ rc with nx:=σ.nx+8 })
 | none=>False
def GU (o:Oper) (ch:aQ) (nid:Nat):cE:={ dst:=o.dst,rds:=[],ch:=ch,nid:=nid,vs:=[],reach:=[],rws:=(true,[]),res:={ val:=bl false } }
def pR (N:Nat) (σ:St) (o:Oper) (ch:aQ) (k:St→Prop):Prop :=
 bif jf N o.dst&&gJ o.dst ch then k { after σ (GU o ch σ.nx) with nx:=σ.nx+8 } else False
def uh (P:Program) (C:FuncId→Option CC) (N:Nat) (all:List Oper):List Oper→St→(St→Prop)→Prop
 | [],σ,K=>K { σ with tm:=oE σ.tm }
 | o :: r,σ,K =>
  match o.guard with
  | none=>qf P C N all σ o fun σ'=>uh P C N all r σ' K
  | some g =>
   match em all σ.tm (some g) with
   | some ((t,w) :: ch)=>bif ((t,w) :: ch).all (fun x=>ga σ.tm ((t,w) :: ch) x.1) then
     (match au σ.tm t with
     | some ⟨c0, .c (.lit (.bool b))⟩ =>
      bif holds σ.tm ch then
       (bif b then
        (bif w then qf P C N all { σ with tm:=gY σ.tm t ⟨c0,bl true⟩ } o fun σ'=>uh P C N all r σ' K
        else pR N { σ with tm:=gY σ.tm t ⟨c0,bl true⟩ } o ((t,w) :: ch) fun σ'=>uh P C N all r σ' K)
       else
        (bif w then pR N { σ with tm:=gY σ.tm t ⟨c0,bl false⟩ } o ((t,w) :: ch) fun σ'=>uh P C N all r σ' K
        else qf P C N all { σ with tm:=gY σ.tm t ⟨c0,bl false⟩ } o fun σ'=>uh P C N all r σ' K))
      else pR N σ o ((t,w) :: ch) fun σ'=>uh P C N all r σ' K
     | _=>False) else False
   | _=>False
def O7 (a b:List Nat):Bool:=a.all fun x=>!(b.any fun y=>Nat.beq x y)
def mu (d:Option Nat):List Nat:=match d with | some t=>[t] | none=>[]
def dz (H:ah):List Nat:=H.map (·.1)
def JV (a b:cE):Bool :=
 O7 (mu a.dst) (b.rds++mu b.dst)&&O7 (dz a.res.eff) (b.reach++dz b.res.eff) &&
 (a.res.kill.isEmpty||(b.rws.1&&O7 a.res.kill (b.reach++(b.rws.2++(V.refs b.res.val++BD b.res.eff)))&&b.res.kill.isEmpty))
def rZ (a b:cE):Bool:=JV a b&&JV b a&&V.noUnks a.vs&&V.noUnks b.vs
def LZ (P:Program) (C:FuncId→Option CC) (N:Nat) (all:List Oper):List Oper→Nat→St→Option (List Prop × List cE × St)
 | [],_,σ=>some ([],[],{ σ with tm:=oE σ.tm })
 | o :: r,nid,σ=>match recOf P C N all σ nid o with
  | some rc=>match LZ P C N all r (nid+8) (after σ rc) with
   | some (qs,rcs,σ'')=>some (jW σ.tm rc.ch rc.res.pre++qs,rc :: rcs,σ'')
   | none=>none
  | none=>none
def KW (acc:List Nat) (o:Oper):Nat:=o.after.toList.foldl (fun s e=>bif Region.binds .any e then s ||| (2 ^ e.on ||| acc.getD e.on 0) else s) 0
def Bp:List Oper→List Nat→List Nat
 | [],acc=>acc
 | o :: r,acc=>Bp r (acc++[KW acc o])
def FE (m:Nat) (r:cE):Nat→List cE→Bool
 | _,[]=>true
 | j,q :: l=>(m.testBit j||rZ q r)&&FE m r (j+1) l
def Ui (n:Nat) (o:Oper):Bool:=o.after.toList.all fun e=>!(Region.binds .any e)||Nat.blt e.on n
def pe:Nat→List Oper→Bool
 | _,[]=>true
 | n,o :: r=>Ui n o&&pe (n+1) r
def wH (ms:List Nat):List cE→List cE→Bool
 | _,[]=>true
 | done,r :: l=>FE (ms.getD done.length 0) r 0 done&&wH ms (done++[r]) l
end Go.Ax
