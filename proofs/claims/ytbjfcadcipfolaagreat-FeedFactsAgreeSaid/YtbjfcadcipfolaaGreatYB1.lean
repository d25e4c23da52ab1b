import Derived.Below
import Derived.Orders
import Derived.KernelRfl
import Derived.WalkKit
import Derived.ChangeKeysEq
import Derived.Test.YtbjfcadcipfolaaGreatYB0
set_option linter.all false
/- Abstract values, abstract heaps and an abstract interpreter for the model's code. -/
namespace Go.Ax
inductive D where
  | unk
  | nil
  | lit (v:Value)
  | sl (t:Ty) (l:List t.T)
  | opt (b:Bool) (us:List Value)
  | any
def ka:(t:Ty)→t.T→D
 | .i k,x=>.lit (.int k x)
 | .b,x=>.lit (.bool x)
 | .s,x=>.lit (.string x)
 | .ls t,l=>.sl t l
 | .st _,_=>.unk
 | .arr _ _,_=>.unk
def fK:(ts:List Ty)→HP ts→List D
 | [],_=>[]
 | [t],x=>[ka t x]
 | t :: u :: r,x=>ka t x.1 :: fK (u :: r) x.2
def Ty.z:(t:Ty)→t.T
 | .i _=>(0:Int)
 | .b=>false
 | .s=>aI []
 | .st k=>zS k
 | .ls _=>[]
 | .arr n t=>List.replicate n t.z
def Ty.k:Ty→Nat
 | .st k=>(lf k).length
 | .arr n t=>n*t.k
 | _=>1
abbrev gD {α:Type} (l:List α) (i:Nat) (z:α):α:=l.getD i z
abbrev aa (p:Prop) [d:Decidable p]:Bool:=@decide p d
abbrev ak (a b:Int):Bool:=a == b
abbrev aV (a b:Int):Bool:=a != b
abbrev NE (a b:Bool):Bool:=a == b
abbrev p2 (y:Int) (b:Nat):Int:=2 ^ min y.toNat b
abbrev D3 (n:Nat) (a b:Int):Int:=((BitVec.ofInt n a &&& BitVec.ofInt n b).toNat:Int)
abbrev s6 (n:Nat) (a b:Int):Int:=((BitVec.ofInt n a ||| BitVec.ofInt n b).toNat:Int)
abbrev kP (n:Nat) (a b:Int):Int:=((BitVec.ofInt n a ^^^ BitVec.ofInt n b).toNat:Int)
abbrev Kw (n:Nat) (a b:Int):Int:=((BitVec.ofInt n a &&& ~~~(BitVec.ofInt n b)).toNat:Int)
abbrev n7 (a b:ByteArray):Bool:=a.toList == b.toList
def Ty.enc:(t:Ty)→t.T→List D
 | .st k,x=>fK (lf k) (Fq k x)
 | .arr n t,l=>(List.range n).flatMap fun i=>t.enc (gD l i t.z)
 | .i k,x=>[ka (.i k) x]
 | .b,x=>[ka .b x]
 | .s,x=>[ka .s x]
 | .ls t,x=>[ka (.ls t) x]
def els (t:Ty) (l:List t.T) (i:Nat):List D:=t.enc (gD l i t.z)
def lu (t' t:Ty) (l:List t'.T):Option (List t.T):=if h:t' = t then some (h ▸ l) else none
def xV:(t:Ty)→D→Option t.T
 | .i k, .lit (.int k' n)=>if k = k' then some n else none
 | .b, .lit (.bool b)=>some b
 | .s, .lit (.string s)=>some s
 | .ls t, .sl t' l=>lu t' t l
 | .ls _, .nil=>some []
 | _,_=>none
def Cy:(ts:List Ty)→List D→Option (HP ts)
 | [],[]=>some ()
 | [t],[d]=>xV t d
 | t :: u :: r,d :: ds=>match xV t d,Cy (u :: r) ds with
  | some x,some y=>some (x,y)
  | _,_=>none
 | _,_=>none
def uL {α:Type} (f:List D→Option α) (k:Nat):Nat→List D→Option (List α)
 | 0,ds=>bif ds.isEmpty then some [] else none
 | n+1,ds=>match f (ds.take k),uL f k n (ds.drop k) with
  | some x,some l=>some (x :: l)
  | _,_=>none
def kn:(t:Ty)→List D→Option t.T
 | .st k,ds=>(Cy (lf k) ds).map (Lj k)
 | .arr n t,ds=>uL (kn t) t.k n ds
 | .i k,[d]=>xV (.i k) d
 | .b,[d]=>xV .b d
 | .s,[d]=>xV .s d
 | .ls t,[d]=>xV (.ls t) d
 | _,_=>none
inductive V where
  | c (d:D)
  | agg (vs:List V)
  | tup (vs:List V)
  | ptr (o k i j:Nat)
  | row (o k:Nat)
  | sub (o k off n:Nat)
  | dptr (k:Nat) (cs:List D) (j:Nat)
  | fn (f:FuncId) (caps:List V)
inductive Ob where
  | box (cs:List V)
  | row (e:TypeId) (t:Ty) (l:List t.T)
  | raw (x:Obj)
  | map (t:TypeId) (kt vt:Ty) (ks:List kt.T) (vs:List vt.T)
  | iter (m:V) (s:Int) (l:List Int)
abbrev ae:=List (Nat × Option Ob)
def ae.get:ae→Nat→Option Ob
 | [],_=>none
 | (o',b) :: r,o=>bif Nat.beq o' o then b else ae.get r o
abbrev i64 (n:Int):V:=.c (.lit (.int .i64 n))
abbrev bl (b:Bool):V:=.c (.lit (.bool b))
abbrev str (s:ByteArray):V:=.c (.lit (.string s))
def D.ofCell:Value→D
 | .slice none 0 0=>.nil
 | v=>.lit v
def V.ofValue:Value→V
 | .agg cs=>.agg (cs.toList.map fun v=>.c (D.ofCell v))
 | .tuple vs=>match vs.toList with | []=>.c .unk | _=>.c (.lit (.tuple vs))
 | v=>.c (D.ofCell v)
def V.isCell:V→Bool
 | .c .unk=>false
 | .c (.lit (.agg _))=>false
 | .c (.lit (.tuple _))=>false
 | .c (.opt ..)=>false
 | .c _=>true
 | .ptr ..=>true
 | .row ..=>true
 | .sub ..=>true
 | .fn ..=>true
 | _=>false
def V.cells:V→List V
 | .agg vs=>vs
 | v=>[v]
def V.toD:V→Option D
 | .c .unk=>none
 | .c (.lit (.agg _))=>none
 | .c (.lit (.tuple _))=>none
 | .c (.opt ..)=>none
 | .c d=>some d
 | _=>none
def encV:(t:Ty)→t.T→V
 | .st k,x=>.agg ((Ty.enc (.st k) x).map .c)
 | .arr n t,x=>.agg ((Ty.enc (.arr n t) x).map .c)
 | .i k,x=>.c (ka (.i k) x)
 | .b,x=>.c (ka .b x)
 | .s,x=>.c (ka .s x)
 | .ls t,x=>.c (.sl t x)
def AN:(t:Ty)→V→Option t.T
 | .st k, .agg cs=>match cs.mapM V.toD with | some ds=>kn (.st k) ds | none=>none
 | .arr n t, .agg cs=>match cs.mapM V.toD with | some ds=>kn (.arr n t) ds | none=>none
 | .i k, .c d=>xV (.i k) d
 | .b, .c d=>xV .b d
 | .s, .c d=>xV .s d
 | .ls t, .c d=>xV (.ls t) d
 | _,_=>none
def RN (o:Nat):V:=.fn 2000000000 [.ptr o 1 0 0]
def xB:D→Value
 | .lit v=>v
 | _=>undef
def fD:(t:Ty)→t.T→Value
 | .st k,x=>.agg ((Ty.enc (.st k) x).map xB).toArray
 | t,x=>xB ((t.enc x).headD .unk)
def OL:List D→List D→Bool
 | [],[]=>true
 | .lit (.int _ a) :: r, .lit (.int _ b) :: r'=>ak a b&&OL r r'
 | _,_=>false
def tP:(t:Ty)→t.T→t.T→Bool
 | .i _,a,b=>ak a b
 | .st k,a,b=>OL (Ty.enc (.st k) a) (Ty.enc (.st k) b)
 | _,_,_=>false
def xu (s:SK):Bool:=match lf s with | [.i .i64, .i .i64]=>true | _=>false
def GX:(t:Ty)→V→Option t.T
 | .i k, .c (.lit (.int k' n))=>if k = k' then some n else none
 | .st k,v=>AN (.st k) v
 | _,_=>none
def bw (t:Ty):List t.T→t.T→Nat
 | [],_=>0
 | x :: r,k=>bif tP t x k then 0 else bw t r k+1
def jB (t:Ty) (ks:List t.T) (k:t.T):Bool:=Nat.blt (bw t ks k) ks.length
def mX (t:Ty) {T:Type} (ks:List t.T) (vs:List T) (k:t.T) (z:T):T:=vs.getD (bw t ks k) z
def ip (t:Ty) (ks:List t.T) (k:t.T):List t.T:=bif jB t ks k then ks else ks++[k]
def ki (t:Ty) {T:Type} (ks:List t.T) (vs:List T) (k:t.T) (v:T):List T:=bif jB t ks k then vs.set (bw t ks k) v else vs++[v]
def ov (H:ae):V→Option (Nat × Ob)
 | .fn f [.ptr o _ _ _]=>bif Nat.beq f 2000000000 then (match H.get o with | some b=>some (o,b) | none=>none) else none
 | _=>none
def ss (H:ae) (o k:Nat):V :=
 match H.get o with
 | some (.row _ t l)=>bif Nat.beq t.k k then .c (.sl t l) else .c .unk
 | _=>.c .unk
def af {T:Type} (l:List T) (off n:Nat):List T:=(l.drop off).take n
def tf (H:ae) (o k off n:Nat):V :=
 match H.get o with
 | some (.row _ t l)=>bif Nat.beq t.k k then .c (.sl t (af l off n)) else .c .unk
 | _=>.c .unk
def pz (H:ae):V→D
 | .c d=>d
 | .row o k=>match ss H o k with | .c d=>d | _=>.unk
 | .sub o k off n=>match tf H o k off n with | .c d=>d | _=>.unk
 | _=>.unk
def HG (H:ae) (o k i j:Nat):V :=
 match H.get o with
 | some (.row _ t l)=>bif Nat.beq t.k k then .dptr k (els t l i) j else .c .unk
 | some (.box cs)=>bif Nat.beq cs.length k then .dptr k (cs.map (pz H)) j else .c .unk
 | some (.raw _)=>.c .unk
 | some (.iter ..)=>.c .unk
 | some (.map ..)=>.c .unk
 | none=>.c .unk
def aZ (l:List Int):ByteArray:=⟨(l.map fun x=>UInt8.ofNat x.toNat).toArray⟩
def dF (s:ByteArray) (pos:Nat):Int:=(Utf8.decode s pos).1
def Ae (s:ByteArray) (pos:Nat):Nat:=(Utf8.decode s pos).2
def fF (s:ByteArray) (pos:Nat):Nat:=bif Nat.blt pos s.size then pos+Ae s pos else pos
mutual
def V.view (H:ae):V→V
 | .c d=>.c d
 | .agg vs=>.agg (V.views H vs)
 | .tup vs=>.tup (V.views H vs)
 | .ptr o k i j=>HG H o k i j
 | .row o k=>ss H o k
 | .sub o k off n=>tf H o k off n
 | .dptr k cs j=>.dptr k cs j
 | .fn f caps=>.fn f (V.views H caps)
def V.views (H:ae):List V→List V
 | []=>[]
 | v :: r=>V.view H v :: V.views H r
end
mutual
def V.refs:V→List Nat
 | .c _=>[]
 | .agg vs=>V.refss vs
 | .tup vs=>V.refss vs
 | .ptr o _ _ _=>[o]
 | .row o _=>[o]
 | .sub o _ _ _=>[o]
 | .dptr ..=>[]
 | .fn _ caps=>V.refss caps
def V.refss:List V→List Nat
 | []=>[]
 | v :: r=>V.refs v++V.refss r
end
mutual
def V.kill (o:Nat):V→V
 | .c d=>.c d
 | .agg vs=>.agg (V.kills o vs)
 | .tup vs=>.tup (V.kills o vs)
 | .ptr o' k i j=>bif Nat.beq o' o then .c .unk else .ptr o' k i j
 | .row o' k=>bif Nat.beq o' o then .c .unk else .row o' k
 | .sub o' k off n=>bif Nat.beq o' o then .c .unk else .sub o' k off n
 | .dptr k cs j=>.dptr k cs j
 | .fn f caps=>.fn f (V.kills o caps)
def V.kills (o:Nat):List V→List V
 | []=>[]
 | v :: r=>V.kill o v :: V.kills o r
end
inductive jY where
  | data (v:V)
  | new (v:V)
  | own (fresh:Bool) (e:TypeId) (t:Ty) (l:List t.T)
abbrev KY:=List V→Option (Bool × jY)
inductive eM:List Prop→Type
  | nil:eM []
  | cons {p:Prop} {ps:List Prop} (d:Decidable p) (r:eM ps):eM (p :: ps)
attribute [class] eM
instance:eM []:=.nil
instance {p:Prop} {ps:List Prop} [d:Decidable p] [r:eM ps]:eM (p :: ps):=.cons d r
structure aH where
  pre:List Prop:=[]
  dec:eM pre:=by infer_instance
  val:V
  eff:ae:=[]
  kill:List Nat:=[]
inductive CC where
  | pure (c:KY)
  | mut (m:ae→Nat→List V→Option aH)
def aR (H:ae) (vs:List V):List Nat :=
 V.refss vs++(V.refss vs).flatMap fun o=>match H.get o with | some (.box cs)=>V.refss cs | some (.iter m _ _)=>V.refs m | _=>[]
def bB:List Nat→ae→ae
 | [],_=>[]
 | o :: r,H=>match ae.get H o with | some b=>(o,some b) :: bB r H | none=>bB r H
def MG:Option Ob→Bool
 | some (.row ..)=>true
 | _=>false
mutual
def V.noUnk:V→Bool
 | .c .unk=>false
 | .c _=>true
 | .agg vs=>V.noUnks vs
 | .tup vs=>V.noUnks vs
 | .ptr ..=>true
 | .row ..=>true
 | .sub ..=>true
 | .dptr ..=>true
 | .fn _ vs=>V.noUnks vs
def V.noUnks:List V→Bool
 | []=>true
 | v :: r=>V.noUnk v&&V.noUnks r
end
def G4:Option Ob→Bool
 | some (.row ..)=>true
 | some (.raw _)=>true
 | some (.map ..)=>true
 | some (.box cs)=>V.noUnks cs
 | some (.iter m _ _)=>V.noUnk m
 | none=>false
def o7:Option Ob→List Nat
 | some (.box cs)=>V.refss cs
 | some (.iter m _ _)=>V.refs m
 | _=>[]
def ny (H:ae) (vs:List V):Bool × List Nat:=((aR H vs).all fun o=>G4 (H.get o),(aR H vs).flatMap fun o=>o7 (H.get o))
def zR (H:ae):List Nat:=H.flatMap fun x=>o7 x.2
section
variable (P:Program)
def sz (t:TypeId):Nat:=match P.underlying t,P.info? t with | some _,some i=>i.size | _,_=>0
def qX (t:TypeId):Nat:=match P.info? t with | some i=>i.bytes | none=>0
def eQ (t:TypeId):Bool:=match P.underlying t with | some (.struct _)=>true | some (.array _ _)=>true | _=>false
def ef (t:TypeId):Bool:=eQ P t||Nat.blt 0 (sz P t)
def pQ (t:TypeId):Option V:=match P.info? t with | some i=>(match i.zero with | some (.tuple _)=>none | some v=>some (V.ofValue v) | none=>none) | none=>none
def fE (t:TypeId):Bool:=match P.underlying t with | some _=>true | none=>false
def Mf:List (Nat × SK)→Nat→Option SK
 | [],_=>none
 | (i,k) :: r,t=>bif Nat.beq i t then some k else Mf r t
def Q9:Nat→TypeId→Option Ty
 | 0,_=>none
 | d+1,t=>match P.underlying t with
  | some (.int k)=>some (.i k)
  | some .bool=>some .b
  | some .string=>some .s
  | some (.slice e)=>(Q9 d e).map .ls
  | some (.struct _)=>(Mf PF t).map .st
  | some (.array n e)=>(Q9 d e).map (.arr n)
  | _=>none
def F0 (t:TypeId):Option Ty:=match Q9 P 9 t with | some ty=>bif Nat.beq ty.k (sz P t) then some ty else none | none=>none
def lB (ag:Bool) (cs:List V) (j n:Nat):V :=
 bif ag then .agg ((cs.drop j).take n) else (cs.drop j).headD (.c .unk)
def GY (ag:Bool) (cs:List D) (j n:Nat):V :=
 bif ag then .agg ((List.range n).map fun q=>.c (cs.getD (j+q) .unk)) else .c (cs.getD j .unk)
def setL {α:Type}:List α→Nat→List α→List α
 | cs,_,[]=>cs
 | cs,off,x :: r=>setL (cs.set off x) (off+1) r
def nQ (H:ae) (t:TypeId) (a:V):Option aH :=
 match a with
 | .ptr o k i j =>
  match H.get o with
  | some (.box cs)=>bif Nat.beq cs.length k&&Nat.ble (j+sz P t) k&&ef P t then some { val:=lB (eQ P t) cs j (sz P t) } else none
  | some (.row _ ty l) =>
   bif Nat.beq ty.k k&&Nat.ble (j+sz P t) k&&ef P t then some { val:=GY (eQ P t) (els ty l i) j (sz P t) }
   else bif Nat.beq ty.k k&&Nat.beq i 0&&Nat.beq j 0&&eQ P t&&Nat.blt 0 k then
    some { pre:=[l.length*k = sz P t],val:=.agg ((List.range (sz P t / k)).flatMap fun i=>(List.range k).map fun q=>.c ((els ty l i).getD q .unk)) }
   else none
  | some (.raw _)=>none
  | some (.iter ..)=>none
  | some (.map ..)=>none
  | none=>none
 | .dptr k cs j=>bif Nat.ble (j+sz P t) k&&ef P t then some { val:=GY (eQ P t) cs j (sz P t) } else none
 | _=>none
def p9 (H:ae) (t:TypeId) (a x:V):Option aH :=
 bif Nat.beq x.cells.length (sz P t)&&x.cells.all V.isCell&&fE P t then
  match a with
  | .ptr o k i j =>
   match H.get o with
   | some (.box cs)=>bif Nat.beq cs.length k&&Nat.ble (j+sz P t) k then some { val:=.c .unk,eff:=[(o,some (.box (setL cs j x.cells)))] } else none
   | some (.row e ty l) =>
    match x.cells.mapM V.toD with
    | some ds=>bif Nat.beq ty.k k&&Nat.ble (j+sz P t) k then
      (match kn ty (setL (els ty l i) j ds) with | some y=>some { val:=.c .unk,eff:=[(o,some (.row e ty (l.set i y)))] } | none=>none)
     else bif Nat.beq ty.k k&&Nat.beq i 0&&Nat.beq j 0&&Nat.blt 0 k then
      (match uL (kn ty) k (sz P t / k) ds with | some l'=>some { pre:=[l.length*k = sz P t],val:=.c .unk,eff:=[(o,some (.row e ty l'))] } | none=>none) else none
    | none=>none
   | some (.raw _)=>none
   | some (.iter ..)=>none
   | some (.map ..)=>none
   | none=>none
  | _=>none
 else none
def wS (t:TypeId) (f:Nat):Option (Nat × TypeId) :=
 match P.underlying t with
 | some (.struct fs)=>(match fs[f]? with | some fl=>some (fl.offset,fl.type) | none=>none)
 | _=>none
def Hz (op:BinOp) (k:IntKind) (a b:Int):Option aH :=
 match op with
 | .add=>some { val:=.c (.lit (.int k (k.wrap (a+b)))) }
 | .sub=>some { val:=.c (.lit (.int k (k.wrap (a - b)))) }
 | .mul=>some { val:=.c (.lit (.int k (k.wrap (a*b)))) }
 | .quo=>some { pre:=[b≠0],val:=.c (.lit (.int k (k.wrap (a.tdiv b)))) }
 | .rem=>some { pre:=[b≠0],val:=.c (.lit (.int k (a.tmod b))) }
 | .and=>some { val:=.c (.lit (.int k (k.wrap (D3 k.bits a b)))) }
 | .or=>some { val:=.c (.lit (.int k (k.wrap (s6 k.bits a b)))) }
 | .xor=>some { val:=.c (.lit (.int k (k.wrap (kP k.bits a b)))) }
 | .andNot=>some { val:=.c (.lit (.int k (k.wrap (Kw k.bits a b)))) }
 | .eql=>some { val:=bl (ak a b) }
 | .neq=>some { val:=bl (aV a b) }
 | .lss=>some { val:=bl (aa (a < b)) }
 | .leq=>some { val:=bl (aa (a≤b)) }
 | .gtr=>some { val:=bl (aa (b < a)) }
 | .geq=>some { val:=bl (aa (b≤a)) }
 | _=>none
def xd (op:BinOp) (k:IntKind) (a y:Int):Option aH :=
 match op with
 | .shl=>some { pre:=[0≤y],val:=.c (.lit (.int k (k.wrap (a*p2 y k.bits)))) }
 | .shr=>some { pre:=[0≤y],val:=.c (.lit (.int k (a.fdiv (p2 y k.bits)))) }
 | _=>none
def HI (op:BinOp) (x y:ByteArray):Option aH :=
 match op with
 | .add=>some { pre:=[x.size+y.size≤9223372036854775807],val:=str (x++y) }
 | .eql=>some { val:=bl (n7 x y) }
 | .neq=>some { val:=bl (!(n7 x y)) }
 | .lss=>some { val:=bl (Op.bytesLess x.toList y.toList) }
 | .leq=>some { val:=bl (Op.bytesLess x.toList y.toList||n7 x y) }
 | .gtr=>some { val:=bl (!(Op.bytesLess x.toList y.toList||n7 x y)) }
 | .geq=>some { val:=bl (!(Op.bytesLess x.toList y.toList)) }
 | _=>none
def CU:Nat→TypeId→V→V→Option Bool
 | 0,_,_,_=>none
 | d+1,t,x,y =>
  match P.underlying t,x,y with
  | some (.int _), .c (.lit (.int k a)), .c (.lit (.int k' b))=>if k = k' then some (ak a b) else none
  | some .bool, .c (.lit (.bool a)), .c (.lit (.bool b))=>some (NE a b)
  | some .string, .c (.lit (.string a)), .c (.lit (.string b))=>some (n7 a b)
  | some (.struct fs), .agg xs, .agg ys =>
   bif P.stoodInHeld t then none else
   fs.toList.foldr (fun f acc=>bif f.name == "_" then none else
    bif Nat.ble (f.offset+sz P f.type) xs.length&&Nat.ble (f.offset+sz P f.type) ys.length&&ef P f.type then
    match CU d f.type (lB (eQ P f.type) xs f.offset (sz P f.type)) (lB (eQ P f.type) ys f.offset (sz P f.type)),acc with
    | some a,some b=>some (a&&b)
    | _,_=>none
    else none) (some true)
  | some (.array len e), .agg xs, .agg ys =>
   bif Nat.ble (len*sz P e) xs.length&&Nat.ble (len*sz P e) ys.length&&ef P e then
   (List.range len).foldr (fun i acc =>
    match CU d e (lB (eQ P e) xs (i*sz P e) (sz P e)) (lB (eQ P e) ys (i*sz P e) (sz P e)),acc with
    | some a,some b=>some (a&&b)
    | _,_=>none) (some true)
   else none
  | _,_,_=>none
def Ow (op:BinOp) (t:TypeId) (x y:V):Option aH :=
 match x,y with
 | .c (.lit (.int k a)), .c (.lit (.int k' b)) =>
  match op with
  | .shl=>xd op k a b
  | .shr=>xd op k a b
  | op=>if k = k' then Hz op k a b else none
 | .c (.lit (.string a)), .c (.lit (.string b))=>HI op a b
 | .c (.lit (.bool a)), .c (.lit (.bool b)) =>
  match P.underlying t,op with
  | some .bool, .eql=>some { val:=bl (NE a b) }
  | some .bool, .neq=>some { val:=bl (!(NE a b)) }
  | _,_=>none
 | .agg xs, .agg ys =>
  bif P.eqGuardType P.depth t then none else
  match op,CU P 10 t (.agg xs) (.agg ys) with
  | .eql,some b=>some { val:=bl b }
  | .neq,some b=>some { val:=bl (!b) }
  | _,_=>none
 | .ptr .., .c (.lit (.pointer none)) =>
  match P.underlying t,op with
  | some (.pointer _), .eql=>some { val:=bl false }
  | some (.pointer _), .neq=>some { val:=bl true }
  | _,_=>none
 | _,_=>none
def QQ (op:UnOp) (x:V):Option aH :=
 match op,x with
 | .neg, .c (.lit (.int k n))=>some { val:=.c (.lit (.int k (k.wrap (0 - n)))) }
 | .xor, .c (.lit (.int k n))=>some { val:=.c (.lit (.int k (k.wrap (kP k.bits (if k.signed then -1 else k.max) n)))) }
 | .not, .c (.lit (.bool b))=>some { val:=bl (!b) }
 | _,_=>none
def LS (src dst:TypeId) (x:V):Option aH :=
 match P.underlying src,P.underlying dst,x with
 | some (.int _),some (.int k), .c (.lit (.int _ n))=>some { val:=.c (.lit (.int k (k.wrap n))) }
 | some .string,some .string, .c (.lit (.string s))=>some { val:=str s }
 | _,_,_=>none
def bV (H:ae) (t:Ty):V→Option (List t.T)
 | .c .nil=>some []
 | .c (.sl t' l)=>lu t' t l
 | .row o k=>match H.get o with | some (.row _ t' l)=>bif Nat.beq t'.k k then lu t' t l else none | _=>none
 | .sub o k off n=>match H.get o with | some (.row _ t' l)=>bif Nat.beq t'.k k then (lu t' t l).map fun l=>af l off n else none | _=>none
 | _=>none
def Co (H:ae) (x:V):Option aH:=(bV H (.i .u8) x).map fun l=>{ val:=str (aZ l) }
def wv (H:ae) (t:TypeId) (x:V):Option aH :=
 match P.underlying t,x with
 | some (.slice _), .c .nil=>some { val:=i64 0 }
 | some (.slice _), .c (.sl _ l)=>some { val:=i64 l.length }
 | some (.slice _), .row o _=>(match H.get o with | some (.row _ _ l)=>some { val:=i64 l.length } | _=>none)
 | some (.slice _), .sub _ _ _ n=>some { val:=i64 n }
 | some .string, .c (.lit (.string s))=>some { val:=i64 s.size }
 | some (.map _ _),x=>(match ov H x with | some (_, .map _ _ _ ks _)=>some { val:=i64 ks.length } | _=>none)
 | _,_=>none
def E6 (m x:V):Option V :=
 match m,x with | .c (.lit (.int k a)), .c (.lit (.int _ b))=>some (V.c (.lit (.int k (bif aa (b < a) then b else a)))) | _,_=>none
def EG (m x:V):Option V :=
 match m,x with | .c (.lit (.int k a)), .c (.lit (.int _ b))=>some (V.c (.lit (.int k (bif aa (a < b) then b else a)))) | _,_=>none
def Ms:List V→Option V
 | []=>none
 | x :: r=>r.foldlM E6 x
def LQ:List V→Option V
 | []=>none
 | x :: r=>r.foldlM EG x
def pM (t:TypeId):Option (List D):=match pQ P t with | some v=>v.cells.mapM V.toD | none=>none
def Lg (e:TypeId):Bool:=match pM P e with | some z=>Nat.beq z.length (sz P e) | none=>false
def nF (H:ae) (nid:Nat) (t:TypeId) (s x:V):Option aH :=
 match P.underlying t with
 | some (.slice e) =>
  match s with
  | .c .nil=>match F0 P e with
   | some ty=>match bV H ty x with
    | some l2=>bif Nat.blt 0 ty.k&&fE P e&&Lg P e then some { pre:=[l2.length*qX P e≤140737488355328,l2.length≤140737488355328],val:=.row nid ty.k,eff:=[(nid,some (.row e ty l2))] } else none
    | none=>none
   | none=>none
  | .row o k =>
   match H.get o with
   | some (.row e' ty l)=>match bV H ty x with
    | some l2=>bif Nat.beq e' e&&Nat.beq ty.k k&&Nat.beq k (sz P e)&&Nat.blt 0 k&&Lg P e then
      some { pre:=[(l.length+l2.length)*qX P e≤140737488355328,l.length+l2.length≤140737488355328],val:=.row o k,eff:=[(o,some (.row e ty (l++l2)))],kill:=[o] } else none
    | none=>none
   | _=>none
  | _=>none
 | _=>none
def s7 (eu:Nat→Option (Nat × Nat)) (cs:List V) (p:Nat × V):Option (List V) :=
 match eu p.1 with
 | some (off,size)=>bif Nat.beq p.2.cells.length size&&p.2.cells.all V.isCell&&Nat.ble (off+size) cs.length then some (setL cs off p.2.cells) else none
 | none=>none
def vI (fs:Array Field) (i:Nat):Option (Nat × Nat):=match fs[i]? with | some f=>some (f.offset,sz P f.type) | none=>none
def Jx (t:TypeId) (parts:List (Nat × V)):Option aH :=
 match P.underlying t,pQ P t with
 | some (.struct fs),some z=>bif fs.toList.all (fun f=>fE P f.type) then (match parts.foldlM (s7 (vI P fs)) z.cells with | some cs=>some { val:=.agg cs } | none=>none) else none
 | some (.array _ e),some z=>bif fE P e then (match parts.foldlM (s7 fun i=>some (i*sz P e,sz P e)) z.cells with | some cs=>some { val:=.agg cs } | none=>none) else none
 | _,_=>none
def tL (z:List V) (k n:Nat):List V:=(List.range (n*k)).map fun q=>z.getD (q % k) (.c .unk)
def uA (nid:Nat) (t:TypeId) (len:Nat) (parts:List (Nat × V)):Option aH :=
 match P.underlying t with
 | some (.slice e) =>
  match pQ P e,F0 P e with
  | some z,some ty =>
   bif Nat.beq z.cells.length (sz P e)&&Nat.blt 0 (sz P e)&&Nat.ble (len*sz P e) 16777216&&fE P e then
   match parts.foldlM (s7 fun i=>some (i*sz P e,sz P e)) (tL z.cells (sz P e) len) with
   | some cs=>match cs.mapM V.toD with
    | some ds=>match uL (kn ty) (sz P e) len ds with
     | some l=>some { val:=.row nid (sz P e),eff:=[(nid,some (.row e ty l))] }
     | none=>none
    | none=>none
   | none=>none
   else none
  | _,_=>none
 | _=>none
def mn (o:Nat):Option Ob→Option Ob
 | some (.box cs)=>some (.box (V.kills o cs))
 | some (.iter m s l)=>some (.iter (V.kill o m) s l)
 | b=>b
def d7 (os:List Nat) (H:ae):ae :=
 match os with
 | []=>H
 | o :: r=>d7 r (H.map fun x=>(x.1,mn o x.2))
mutual
def V.noP:V→Bool
 | .agg vs=>V.noPs vs
 | .tup vs=>V.noPs vs
 | .ptr ..=>false
 | .fn _ vs=>V.noPs vs
 | _=>true
def V.noPs:List V→Bool
 | []=>true
 | v :: r=>V.noP v&&V.noPs r
end
mutual
def V.fz (o:Nat) (t:Ty) (l:List t.T):V→V
 | .c d=>.c d
 | .agg vs=>.agg (V.fzs o t l vs)
 | .tup vs=>.tup (V.fzs o t l vs)
 | .ptr o' k i j=>bif Nat.beq o' o then .c .unk else .ptr o' k i j
 | .row o' k=>bif Nat.beq o' o then (bif Nat.beq t.k k then .c (.sl t l) else .c .unk) else .row o' k
 | .sub o' k off n=>bif Nat.beq o' o then (bif Nat.beq t.k k then .c (.sl t (af l off n)) else .c .unk) else .sub o' k off n
 | .dptr k cs j=>.dptr k cs j
 | .fn f vs=>.fn f (V.fzs o t l vs)
def V.fzs (o:Nat) (t:Ty) (l:List t.T):List V→List V
 | []=>[]
 | v :: r=>V.fz o t l v :: V.fzs o t l r
end
def jW (f:ae→List V→Option aH):List Nat→ae→List V→Option aH
 | [],H,vs=>f H vs
 | o :: fl,H,vs=>match H.get o with
  | some (.row e t l)=>(jW f fl ((o,some (.row e t [])) :: d7 [o] H) (V.fzs o t l vs)).map fun r=>{ r with eff:=r.eff++[(o,some (.row e t []))],kill:=o :: r.kill }
  | _=>none
def Nh (nid:Nat) (t:TypeId) (len:Nat) (ps:List Nat) (H:ae) (vs:List V):Option aH:=jW (fun _ vs=>uA P nid t len (ps.zip vs)) (V.refss vs) H vs
def vS (t:TypeId) (H:ae):List V→Option aH
 | [a,x]=>p9 P H t a x
 | _=>none
def vY (H:ae) (t:TypeId) (a x:V):Option aH :=
 match a with
 | .ptr o _ _ _=>match H.get o with
  | some (.row _ _ _)=>jW (vS P t) (V.refs x) H [a,x]
  | _=>p9 P H t a x
 | _=>p9 P H t a x
def wh (nid:Nat) (t:TypeId) (l c:V):Option aH :=
 match P.underlying t,l,c with
 | some (.slice e), .c (.lit (.int .i64 a)), .c (.lit (.int .i64 b)) =>
  match pM P e,F0 P e with
  | some z,some ty=>match kn ty z with
   | some x=>bif Nat.beq z.length (sz P e)&&Nat.blt 0 (sz P e)&&Nat.blt 0 (qX P e)&&fE P e then some { pre:=[0≤a,a≤b,b*qX P e≤140737488355328],val:=.row nid (sz P e),eff:=[(nid,some (.row e ty (List.replicate a.toNat x)))] } else none
   | none=>none
  | _,_=>none
 | _,_,_=>none
def C2:V→Option (Int)
 | .c (.lit (.int _ n))=>some n
 | _=>none
def Lq:Option V→Option Int
 | none=>some 0
 | some v=>C2 v
def Kz (n:Int):Option V→Option Int
 | none=>some n
 | some v=>C2 v
def nR (H:ae) (t:TypeId) (x:V) (lo hi:Option V):Option aH :=
 match P.underlying t,x with
 | some (.slice e), .c .nil=>match P.underlying e,Lq lo,Kz 0 hi with | some _,some l,some h=>some { pre:=[l = 0,h = 0],val:=.c .nil } | _,_,_=>none
 | some (.slice e), .c (.sl ty xs)=>bif Nat.beq (sz P e) ty.k then (match P.underlying e,Lq lo,Kz xs.length hi with | some _,some l,some h=>some { pre:=[0≤l,l≤h,h≤xs.length],val:=.c (.sl ty (af xs l.toNat (h - l).toNat)) } | _,_,_=>none) else none
 | some (.slice e), .row o k=>(match H.get o with
  | some (.row _ _ xs)=>bif Nat.beq (sz P e) k then (match P.underlying e,Lq lo,Kz xs.length hi with | some _,some l,some h=>some { pre:=[0≤l,l≤h,h≤xs.length],val:=.sub o k l.toNat (h - l).toNat } | _,_,_=>none) else none
  | _=>none)
 | some (.slice e), .sub o k off n=>bif Nat.beq (sz P e) k then (match P.underlying e,Lq lo,Kz n hi with | some _,some l,some h=>some { pre:=[0≤l,l≤h,h≤n],val:=.sub o k (off+l.toNat) (h - l).toNat } | _,_,_=>none) else none
 | some .string, .c (.lit (.string s))=>match Lq lo,Kz s.size hi with | some l,some h=>some { pre:=[0≤l,l≤h,h≤s.size],val:=str (s.extract l.toNat h.toNat) } | _,_=>none
 | _,_=>none
def lw (H:ae) (t:TypeId) (x ix:V):Option aH :=
 match P.underlying t,x,ix with
 | some (.slice e), .c (.sl ty l), .c (.lit (.int _ i))=>bif Nat.beq (sz P e) ty.k then (match P.underlying e with | some _=>some { pre:=[0≤i,i < l.length],val:=.dptr ty.k (els ty l i.toNat) 0 } | none=>none) else none
 | some (.slice e), .c .nil, .c (.lit (.int _ _))=>some { pre:=[False],val:=.dptr (sz P e) (match pM P e with | some z=>z | none=>[]) 0 }
 | some (.slice e), .row o k, .c (.lit (.int _ i))=>(match H.get o with
  | some (.row _ _ l)=>bif Nat.beq (sz P e) k then (match P.underlying e with | some _=>some { pre:=[0≤i,i < l.length],val:=.ptr o k i.toNat 0 } | none=>none) else none
  | _=>none)
 | some (.slice e), .sub o k off n, .c (.lit (.int _ i))=>bif Nat.beq (sz P e) k then (match P.underlying e with | some _=>some { pre:=[0≤i,i < n],val:=.ptr o k (off+i.toNat) 0 } | none=>none) else none
 | some (.array len e), .ptr o k q j, .c (.lit (.int _ i)) =>
  (match H.get o with
  | some (.row _ ty l)=>bif Nat.beq q 0&&Nat.beq j 0&&Nat.beq ty.k k&&Nat.beq k (sz P e) then (match P.underlying e with | some _=>some { pre:=[l.length = len,0≤i,i < len],val:=.ptr o k i.toNat 0 } | none=>none) else none
  | some (.box _)=>(match P.underlying e with | some _=>some { pre:=[0≤i,i < len],val:=.ptr o k q (j+i.toNat*sz P e) } | none=>none)
  | some (.raw _)=>none
  | some (.iter ..)=>none
  | some (.map ..)=>none
  | none=>none)
 | some (.array len e), .dptr k cs j, .c (.lit (.int _ i))=>(match P.underlying e with | some _=>some { pre:=[0≤i,i < len],val:=.dptr k cs (j+i.toNat*sz P e) } | none=>none)
 | _,_,_=>none
def H2 (t:TypeId) (x ix:V):Option aH :=
 match P.underlying t,x,ix with
 | some .string, .c (.lit (.string s)), .c (.lit (.int _ i))=>some { pre:=[0≤i,i < s.size],val:=.c (.lit (.int .u8 (s.data.getD i.toNat 0).toNat)) }
 | some (.array len e), .agg cs, .c (.lit (.int _ i))=>bif Nat.ble (len*sz P e) cs.length&&ef P e then some { pre:=[0≤i,i < len],val:=lB (eQ P e) cs (i.toNat*sz P e) (sz P e) } else none
 | _,_,_=>none
def qs (nid:Nat) (t:TypeId) (v:V):Option aH :=
 bif v.cells.all V.isCell&&Nat.beq v.cells.length (sz P t) then
  match P.underlying t,v.cells.mapM V.toD with
  | some (.array len e),some ds =>
   bif Nat.beq (len*sz P e) (sz P t)&&Nat.blt 0 (sz P e)&&Nat.blt 0 len&&Nat.ble len 1000000 then
    match F0 P e with
    | some ty=>match uL (kn ty) (sz P e) len ds with
     | some l=>some { val:=.ptr nid (sz P e) 0 0,eff:=[(nid,some (.row t ty l))] }
     | none=>none
    | none=>none
   else none
  | _,_=>some { val:=.ptr nid v.cells.length 0 0,eff:=[(nid,some (.box v.cells))] }
 else none
variable (C:FuncId→Option CC)
def fO (vs:List V):Bool:=match V.refss vs with | []=>false | _=>true
mutual
def V.scalar:V→Bool
 | .c (.lit (.int _ _))=>true
 | .c (.lit (.bool _))=>true
 | .c (.lit (.string _))=>true
 | .c .nil=>true
 | .c .unk=>true
 | .c .any=>true
 | .agg vs=>V.scalars vs
 | .tup vs=>V.scalars vs
 | _=>false
def V.scalars:List V→Bool
 | []=>true
 | v :: r=>V.scalar v&&V.scalars r
end
def ja (H:ae) (nid:Nat) (f:FuncId) (args:List V):Option aH :=
 match C f with
 | none=>none
 | some (.mut m)=>m (bB (aR H args) H) nid args
 | some (.pure con)=>match con (V.views H args) with
  | none=>none
  | some (b, .data v)=>bif (!fO args)||v.scalar then some { pre:=[b = true],val:=v } else none
  | some (b, .new v)=>some { pre:=[b = true],val:=v }
  | some (b, .own fr e t l)=>bif (!fO args)||fr then some { pre:=[b = true],val:=.row nid t.k,eff:=[(nid,some (.row e t l))] } else none
def rr (f:FuncId) (nid:Nat) (H:ae) (args:List V):Option aH :=
 bif V.noPs args then match C f with | some (.pure _)=>ja C H nid f args | _=>none else none
def pU (H:ae) (nid:Nat) (f:FuncId) (args:List V):Option aH :=
 match ja C H nid f args with
 | some r=>some r
 | none=>jW (rr C f nid) (V.refss args) H args
def qt (x:V):Option aH:=match x with | .ptr ..=>some { val:=x } | .dptr ..=>some { val:=x } | .fn f _=>bif Nat.blt f 1000000000 then some { val:=x } else none | _=>none
def wL (t:TypeId) (f:Nat) (a:V):Option aH :=
 match wS P t f with
 | some (off,ft)=>bif Nat.beq (sz P ft) 0 then none else (match a with | .ptr o k i j=>some { val:=.ptr o k i (j+off) } | .dptr k cs j=>some { val:=.dptr k cs (j+off) } | _=>none)
 | none=>none
def JM (t:TypeId) (f:Nat) (x:V):Option aH :=
 match x,wS P t f with
 | .agg cs,some (off,ft)=>bif Nat.ble (off+sz P ft) cs.length&&ef P ft then some { val:=lB (eQ P ft) cs off (sz P ft) } else none
 | _,_=>none
def B0 (ix:Nat) (x:V):Option aH :=
 match x with
 | .tup vs=>match vs[ix]? with | some v=>some { val:=v } | none=>none
 | .c (.opt b us)=>(match ix with
  | 0=>some { val:=bl b }
  | i+1=>match us[i]? with | some v=>some { pre:=[b = true],val:=.c (.lit v) } | none=>none)
 | _=>none
def H7 (nid:Nat) (t:TypeId) (x:V):Option aH :=
 match P.underlying t,x with
 | some .string, .c (.lit (.string s))=>some { val:=.ptr nid 1 0 0,eff:=[(nid,some (.raw (.stringIter s 0)))] }
 | _,_=>none
def vX (H:ae) (nid:Nat) (t:TypeId) (x:V):Option aH :=
 match P.underlying t with
 | some (.map _ _)=>(match ov H x with
  | some (_, .map _ _ _ ks _)=>some { val:=.ptr nid 1 0 0,eff:=[(nid,some (.iter x ks.length []))] }
  | _=>none)
 | _=>none
def QV:Ty→Bool
 | .i _=>true
 | .b=>true
 | .s=>true
 | _=>false
def Ty.key:Ty→Bool
 | .st k=>(lf k).all QV
 | .i _=>true
 | .b=>true
 | .s=>true
 | _=>false
def vT (H:ae) (x:V):Option aH :=
 match x with
 | .ptr o k i j=>match H.get o with
  | some (.iter m s l)=>bif Nat.beq (i*k+j) 0 then (match ov H m,l with
   | some (_, .map _ kt vt ks vs),p :: _=>bif kt.key then some { pre:=[ak ks.length s = true,0≤p,p.toNat < ks.length],val:=.tup [encV kt (gD ks p.toNat kt.z),encV vt (gD vs p.toNat vt.z)] } else none
   | _,_=>none) else none
  | _=>none
 | _=>none
def Ah (H:ae) (x:V):Option aH :=
 match x with
 | .ptr o k i j=>match H.get o with
  | some (.raw (.stringIter s pos))=>bif Nat.beq (i*k+j) 0 then
    some { val:=.c (.opt (Nat.blt pos s.size) [.int .i64 pos, .int .i32 (dF s pos)]),eff:=[(o,some (.raw (.stringIter s (fF s pos))))] } else none
  | _=>none
 | _=>none
def yE {T:Type} (z:T) (l:List T) (off n:Nat):List T:=l.take off++(List.replicate n z++l.drop (off+n))
def qE (H:ae) (t:TypeId) (x:V):Option aH :=
 match P.underlying t with
 | some (.slice e)=>match pM P e with
  | some z=>match x with
   | .row o k=>(match H.get o with
    | some (.row e' ty l)=>(match kn ty z with
     | some y=>bif Nat.beq e' e&&Nat.beq ty.k k&&Nat.beq k (sz P e)&&Nat.beq z.length k&&Nat.blt 0 k&&fE P e then some { val:=.c .unk,eff:=[(o,some (.row e' ty (List.replicate l.length y)))] } else none
     | none=>none)
    | _=>none)
   | .sub o k off n=>(match H.get o with
    | some (.row e' ty l)=>(match kn ty z with
     | some y=>bif Nat.beq e' e&&Nat.beq ty.k k&&Nat.beq k (sz P e)&&Nat.beq z.length k&&Nat.blt 0 k&&fE P e then some { pre:=[off+n≤l.length],val:=.c .unk,eff:=[(o,some (.row e' ty (yE y l off n)))] } else none
     | none=>none)
    | _=>none)
   | _=>none
  | none=>none
 | _=>none
def oy (f:Field) (off:Nat):Bool:=!(f.name == "_")&&(Nat.beq f.offset off&&(match P.underlying f.type with | some (.int .i64)=>ef P f.type&&(!(eQ P f.type)&&Nat.beq (sz P f.type) 1) | _=>false))
def lL (k:TypeId):Ty→Bool
 | .i q=>(match P.underlying k with | some (.int q')=>decide (q' = q) | _=>false)
 | .st s=>(match P.underlying k with
  | some (.struct fs)=>(match fs.toList with
   | [f,g]=>oy P f 0&&(oy P g 1&&(!(P.stoodInHeld k)&&xu s))
   | _=>false)
  | _=>false)
 | _=>false
def BB (nid:Nat) (t:TypeId):Option aH :=
 match P.underlying t with
 | some (.map k e)=>match F0 P k,F0 P e with
  | some kt,some vt=>some { val:=RN nid,eff:=[(nid,some (.map t kt vt [] []))] }
  | _,_=>none
 | _=>none
def se (H:ae) (t:TypeId) (m k:V) (ok:Bool):Option aH :=
 match P.underlying t,ov H m with
 | some (.map kk e),some (_, .map _ kt vt ks vs)=>(match GX kt k,pQ P e with
  | some key,some z0=>(match AN vt z0 with
   | some z=>bif lL P kk kt then some { val:=bif ok then .tup [encV vt (mX kt ks vs key z),bl (jB kt ks key)] else encV vt (mX kt ks vs key z) } else none
   | none=>none)
  | _,_=>none)
 | _,_=>none
def xE (t:TypeId) (H:ae):List V→Option aH
 | [m,k,v]=>match P.underlying t,ov H m with
  | some (.map kk _),some (o, .map t' kt vt ks vs)=>(match GX kt k,AN vt v with
   | some key,some x=>bif lL P kk kt then some { val:=.c .unk,eff:=[(o,some (.map t' kt vt (ip kt ks key) (ki kt ks vs key x)))] } else none
   | _,_=>none)
  | _,_=>none
 | _=>none
def LT (H:ae) (t:TypeId) (m k v:V):Option aH:=jW (xE P t) (V.refs v) H [m,k,v]
def qP (H:ae) (nid:Nat) (o:Oper) (vs:List V):Option aH :=
 match o.op,vs with
 | .move _,[x]=>some { val:=x }
 | .assign _,[x]=>some { val:=x }
 | .alloc t,[]=>match pQ P t with | some z=>qs P nid t z | none=>none
 | .box t _,[x]=>qs P nid t x
 | .build t parts,vs=>Jx P t ((parts.toList.map (·.1)).zip vs)
 | .buildSlice t len parts,vs=>Nh P nid t len (parts.toList.map (·.1)) H vs
 | .load t _,[a]=>nQ P H t a
 | .store t _ _,[a,x]=>vY P H t a x
 | .nilCheck _,[x]=>qt x
 | .binOp op t _ _ _,[x,y]=>Ow P op t x y
 | .unOp op _ _,[x]=>QQ op x
 | .convert s d _,[x]=>(match P.underlying s,P.underlying d with
  | some (.slice e),some .string=>(match P.underlying e with | some (.int .u8)=>Co H x | _=>none)
  | _,_=>LS P s d x)
 | .fieldAddr t _ f,[a]=>wL P t f a
 | .field t _ f,[x]=>JM P t f x
 | .indexAddr t _ _,[x,i]=>lw P H t x i
 | .index t _ _,[x,i]=>H2 P t x i
 | .slice t _ none none none,[x]=>nR P H t x none none
 | .slice t _ (some _) none none,[x,l]=>nR P H t x (some l) none
 | .slice t _ none (some _) none,[x,h]=>nR P H t x none (some h)
 | .slice t _ (some _) (some _) none,[x,l,h]=>nR P H t x (some l) (some h)
 | .makeSlice t _ _,[l,c]=>wh P nid t l c
 | .makeFunc (.func f) first _,vs=>bif first.isEmpty&&Nat.blt f 1000000000 then some { val:=.fn f vs } else none
 | .makeMap t none,[]=>BB P nid t
 | .lookup t _ _ ok,[m,k]=>se P H t m k ok
 | .mapUpdate t _ _ _,[m,k,v]=>LT P H t m k v
 | .makeInterface t _,[x]=>(match P.underlying t with | some (.slice _)=>bif V.isCell x&&Nat.blt t 1000000000 then some { val:=.fn (1000000000+t) [x] } else none | _=>none)
 | .extract _ ix,[x]=>B0 ix x
 | .range t _,[x]=>(match H7 P nid t x with | some r=>some r | none=>vX P H nid t x)
 | .next _ true,[x]=>Ah H x
 | .entry _,[x]=>vT H x
 | .call { callee:=.builtin .len,argTypes, .. },[x]=>(match argTypes[0]? with | some t=>wv P H t x | none=>none)
 | .call { callee:=.builtin .clear,argTypes, .. },[x]=>(match argTypes[0]? with | some t=>qE P H t x | none=>none)
 | .call { callee:=.builtin .min, .. },vs=>(Ms vs).map fun v=>{ val:=v }
 | .call { callee:=.builtin .max, .. },vs=>(LQ vs).map fun v=>{ val:=v }
 | .call { callee:=.builtin .append,argTypes, .. },[s,x]=>(match argTypes.toList with | [t,t']=>bif Nat.beq t t' then nF P H nid t s x else none | _=>none)
 | .call { callee:=.value _, .. }, .fn f caps :: vs=>bif Nat.blt f 1000000000 then pU C H nid f (vs++caps) else none
 | _,_=>none
end
abbrev aN:=List (Nat × Bool)
structure aF where
  ch:aN
  v:V
structure St where
  tm:List (Nat × aF)
  hp:ae
  nx:Nat
def aw:List (Nat × aF)→Nat→Option aF
 | [],_=>none
 | (t',s) :: r,t=>bif Nat.beq t' t then some s else aw r t
def gm:List (Nat × aF)→Nat→aF→List (Nat × aF)
 | [],t,s=>[(t,s)]
 | (t',s') :: r,t,s=>bif Nat.beq t' t then (t,s) :: r else bif Nat.blt t t' then (t,s) :: (t',s') :: r else (t',s') :: gm r t s
def Pa (x:Nat × Bool) (ch:aN):Bool:=ch.any fun y=>Nat.beq x.1 y.1&&(x.2 == y.2)
def pV (a b:aN):Bool:=a.all fun x=>Pa x b
def bM (σ:St) (ch:aN):Operand→Option V
 | .tmp t=>bif Nat.blt t 1000000 then (match aw σ.tm t with | some s=>bif pV s.ch ch then some s.v else none | none=>none) else none
 | .const v=>some (V.ofValue v)
 | .func f=>bif Nat.blt f 1000000000 then some (.fn f []) else none
 | .global _=>none
def holds (tm:List (Nat × aF)):aN→Bool
 | []=>true
 | (t,w) :: r=>(match aw tm t with | some { v:=.c (.lit (.bool b)), .. }=>(bif w then b else !b) | _=>false)&&holds tm r
def cC (ops:List Oper) (tm:List (Nat × aF)):Option (Nat × Bool)→Option aN
 | none=>some []
 | some (j,w)=>match ops[j]? with
  | some o=>match o.dst with
   | some t=>bif Nat.blt t 1000000 then (match aw tm t with | some { ch,v:=.c (.lit (.bool _)) }=>some ((t,w) :: ch) | _=>none) else none
   | none=>none
  | none=>none
def ld (σ:St) (ch:aN) (xs:List Operand):Option (List V):=xs.mapM (bM σ ch)
def pw (c:Operand) (w:Bool) (ch:aN):aN:=match c with | .tmp t=>(t,w) :: ch | _=>ch
def pD (σ:St) (ch:aN) (c a b:Operand):Option V :=
 match bM σ ch c with
 | some (.c (.lit (.bool x))) =>
  match bM σ (pw c true ch) a,bM σ (pw c false ch) b with
  | some (.c (.lit (.bool y))),some (.c (.lit (.bool z)))=>some (bl (bif x then y else z))
  | _,_=>none
 | _=>none
def du:Op→List Operand
 | .call c=>(match c.callee with | .value f=>f :: c.args.toList | _=>c.args.toList)
 | op=>op.operands.toList
def G7:Option V→Option V
 | some (.c (.lit (.bool y)))=>some (bl y)
 | _=>none
def uy (σ:St) (ch:aN) (c a b:Operand):Option V :=
 match bM σ ch c with
 | some (.c (.lit (.bool x)))=>bif x then G7 (bM σ (pw c true ch) a) else G7 (bM σ (pw c false ch) b)
 | _=>none
def zd (P:Program) (C:FuncId→Option CC) (H:ae) (nid:Nat) (ch:aN) (o:Oper) (vs:List V):Option aH :=
 match qP P C H nid o vs with
 | some r=>some r
 | none=>bif ch.isEmpty then none else some { pre:=[false = true],val:=.c .unk }
def kW (P:Program) (C:FuncId→Option CC) (σ:St) (nid:Nat) (ch:aN) (o:Oper):Option (List V × aH) :=
 match o.op with
 | .pick c a b=>match pD σ ch c a b with
  | some v=>some ([],{ val:=v })
  | none=>(uy σ ch c a b).map fun v=>([.c .unk],{ val:=v })
 | op=>match ld σ ch (du op) with
  | some vs=>(zd P C σ.hp nid ch o vs).map fun r=>(vs,r)
  | none=>none
def rx (os:List Nat) (tm:List (Nat × aF)):List (Nat × aF) :=
 match os with
 | []=>tm
 | o :: r=>rx r (tm.map fun x=>(x.1,{ ch:=x.2.ch,v:=x.2.v.kill o }))
def V.isBool:V→Bool
 | .c (.lit (.bool _))=>true
 | _=>false
def mO (tm:List (Nat × aF)) (ch:aN) (ps:List Prop):List Prop :=
 match ch with
 | []=>ps
 | ch=>ps.map fun p=>(holds tm ch = true→p)
def m9 (d:Nat) (tm:List (Nat × aF)):List (Nat × aF):=tm.map fun x=>(x.1,bif x.2.ch.any (fun y=>Nat.beq y.1 d) then ⟨[], .c .unk⟩ else x.2)
def kN:List Operand→List Nat
 | []=>[]
 | .tmp t :: r=>t :: kN r
 | _ :: r=>kN r
structure bA where
  dst:Option Nat
  rds:List Nat
  ch:aN
  nid:Nat
  vs:List V
  reach:List Nat
  rws:Bool × List Nat
  res:aH
def after (σ:St) (r:bA):St :=
  let tm:=rx r.res.kill σ.tm
  { tm:=match r.dst with | some t=>gm (m9 t tm) t { ch:=r.ch,v:=r.res.val } | none=>tm
    hp:=r.res.eff++d7 r.res.kill σ.hp
    nx:=σ.nx }
def gU (dst:Option Nat) (ch:aN):Bool:=match dst with | some t=>ch.all fun y=>!(Nat.beq y.1 t) | none=>true
def io (N:Nat) (dst:Option Nat):Bool:=match dst with | some t=>Nat.blt t N | none=>true
def dq (tm:List (Nat × aF)) (t:Nat):Bool:=match aw tm t with | some s=>s.v.isBool | none=>false
def dv (tm:List (Nat × aF)) (ch:aN) (t:Nat):Bool:=match aw tm t with | some s=>s.v.isBool&&pV s.ch ch | none=>false
def lk (o:Oper) (vs:List V):List V:=match o.op with | .move _=>[] | _=>vs
def tc (P:Program) (C:FuncId→Option CC) (N:Nat) (ops:List Oper) (σ:St) (nid:Nat) (o:Oper):Option bA :=
 bif io N o.dst then
  match cC ops σ.tm o.guard with
  | some ch =>
   bif ch.all fun x=>dv σ.tm ch x.1 then
   match kW P C σ nid ch o with
   | some (vs,r)=>bif ch.isEmpty||gU o.dst ch then
     some { dst:=o.dst,rds:=kN (du o.op)++ch.map (·.1),ch,nid,vs,reach:=aR σ.hp (lk o vs),rws:=ny σ.hp (lk o vs),res:=r } else none
   | none=>none
   else none
  | none=>none
 else none
def Ac (rc:bA):Bool:=rc.ch.isEmpty||(rc.res.eff.isEmpty&&rc.res.kill.isEmpty)
def oc (P:Program) (C:FuncId→Option CC) (N:Nat) (ops:List Oper) (σ:St) (nid:Nat) (o:Oper):Option bA :=
 match tc P C N ops σ nid o with
 | some rc=>bif Ac rc then some rc else none
 | none=>none
def Rt (P:Program) (t:TypeId):V:=match pQ P t with | some v=>v | none=>.c .unk
def PH (P:Program) (o:Oper) (ch:aN) (nid:Nat):bA:={ dst:=o.dst,rds:=ch.map (·.1),ch:=ch,nid:=nid,vs:=[],reach:=[],rws:=(true,[]),res:={ val:=Rt P o.type } }
def od (tm:List (Nat × aF)):List (Nat × aF):=tm.map fun x=>(x.1,bif x.2.ch.isEmpty then x.2 else ⟨[], .c .unk⟩)
def ET:List Prop→Prop→Prop
 | [],k=>k
 | p :: r,k=>p∧ET r k
def pB (P:Program) (C:FuncId→Option CC) (N:Nat) (all:List Oper) (σ:St) (o:Oper) (k:St→Prop):Prop :=
 match oc P C N all σ σ.nx { o with guard:=none } with
 | some rc=>ET rc.res.pre (k { after σ rc with nx:=σ.nx+8 })
 | none=>False
def Er (o:Oper) (ch:aN) (nid:Nat):bA:={ dst:=o.dst,rds:=[],ch:=ch,nid:=nid,vs:=[],reach:=[],rws:=(true,[]),res:={ val:=bl false } }
def pN (N:Nat) (σ:St) (o:Oper) (ch:aN) (k:St→Prop):Prop :=
 bif io N o.dst&&gU o.dst ch then k { after σ (Er o ch σ.nx) with nx:=σ.nx+8 } else False
def ur (P:Program) (C:FuncId→Option CC) (N:Nat) (all:List Oper):List Oper→St→(St→Prop)→Prop
 | [],σ,K=>K { σ with tm:=od σ.tm }
 | o :: r,σ,K =>
  match o.guard with
  | none=>pB P C N all σ o fun σ'=>ur P C N all r σ' K
  | some g =>
   match cC all σ.tm (some g) with
   | some ((t,w) :: ch)=>bif ((t,w) :: ch).all (fun x=>dv σ.tm ((t,w) :: ch) x.1) then
     (match aw σ.tm t with
     | some ⟨c0, .c (.lit (.bool b))⟩ =>
      bif holds σ.tm ch then
       (bif b then
        (bif w then pB P C N all { σ with tm:=gm σ.tm t ⟨c0,bl true⟩ } o fun σ'=>ur P C N all r σ' K
        else pN N { σ with tm:=gm σ.tm t ⟨c0,bl true⟩ } o ((t,w) :: ch) fun σ'=>ur P C N all r σ' K)
       else
        (bif w then pN N { σ with tm:=gm σ.tm t ⟨c0,bl false⟩ } o ((t,w) :: ch) fun σ'=>ur P C N all r σ' K
        else pB P C N all { σ with tm:=gm σ.tm t ⟨c0,bl false⟩ } o fun σ'=>ur P C N all r σ' K))
      else pN N σ o ((t,w) :: ch) fun σ'=>ur P C N all r σ' K
     | _=>False) else False
   | _=>False
def Ly (a b:List Nat):Bool:=a.all fun x=>!(b.any fun y=>Nat.beq x y)
def lZ (d:Option Nat):List Nat:=match d with | some t=>[t] | none=>[]
def cW (H:ae):List Nat:=H.map (·.1)
def G2 (a b:bA):Bool :=
 Ly (lZ a.dst) (b.rds++lZ b.dst)&&Ly (cW a.res.eff) (b.reach++cW b.res.eff) &&
 (a.res.kill.isEmpty||(b.rws.1&&Ly a.res.kill (b.reach++(b.rws.2++(V.refs b.res.val++(zR b.res.eff++V.refss b.vs))))&&b.res.kill.isEmpty))
def ry (a b:bA):Bool:=G2 a b&&G2 b a&&V.noUnks a.vs&&V.noUnks b.vs
def Hf (acc:List Nat) (o:Oper):Nat:=o.after.toList.foldl (fun s e=>bif Region.binds .any e then s ||| (2 ^ e.on ||| acc.getD e.on 0) else s) 0
def Ak:List Oper→List Nat→List Nat
 | [],acc=>acc
 | o :: r,acc=>Ak r (acc++[Hf acc o])
def Dt (m:Nat) (r:bA):Nat→List bA→Bool
 | _,[]=>true
 | j,q :: l=>(m.testBit j||ry q r)&&Dt m r (j+1) l
def Qg (n:Nat) (o:Oper):Bool:=o.after.toList.all fun e=>!(Region.binds .any e)||Nat.blt e.on n
def o6:Nat→List Oper→Bool
 | _,[]=>true
 | n,o :: r=>Qg n o&&o6 (n+1) r
def vn (ms:List Nat):List bA→List bA→Bool
 | _,[]=>true
 | done,r :: l=>Dt (ms.getD done.length 0) r 0 done&&vn ms (done++[r]) l
end Go.Ax
