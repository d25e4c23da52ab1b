import Derived.Below
import Derived.Orders
import Derived.KernelRfl
import Derived.WalkKit
import Derived.ChangeKeysEq
import Derived.Test.YtbjfcadcipfolaaGreatZB0
set_option linter.all false
/- Abstract values, abstract heaps and an abstract interpreter for the model's code. -/
namespace Go.Ax
inductive D where
  | unk
  | nil
  | lit (v:Value)
  | sl (t:Ty) (l:List t.T)
  | opt (b:Bool) (us:List Value)
  | any
def kj:(t:Ty)→t.T→D
 | .i k,x=>.lit (.int k x)
 | .b,x=>.lit (.bool x)
 | .s,x=>.lit (.string x)
 | .ls t,l=>.sl t l
 | .st _,_=>.unk
 | .arr _ _,_=>.unk
def gp:(ts:List Ty)→HP ts→List D
 | [],_=>[]
 | [t],x=>[kj t x]
 | t :: u :: r,x=>kj t x.1 :: gp (u :: r) x.2
def Ty.z:(t:Ty)→t.T
 | .i _=>(0:Int)
 | .b=>false
 | .s=>aI []
 | .st k=>zS k
 | .ls _=>[]
 | .arr n t=>List.replicate n t.z
def Ty.k:Ty→Nat
 | .st k=>(lf k).length
 | .arr n t=>n*t.k
 | _=>1
abbrev gD {α:Type} (l:List α) (i:Nat) (z:α):α:=l.getD i z
abbrev aa (p:Prop) [d:Decidable p]:Bool:=@decide p d
abbrev am (a b:Int):Bool:=a == b
abbrev aQ (a b:Int):Bool:=a != b
abbrev Lb (a b:Bool):Bool:=a == b
abbrev p2 (y:Int) (b:Nat):Int:=2 ^ min y.toNat b
abbrev FL (n:Nat) (a b:Int):Int:=((BitVec.ofInt n a &&& BitVec.ofInt n b).toNat:Int)
abbrev tB (n:Nat) (a b:Int):Int:=((BitVec.ofInt n a ||| BitVec.ofInt n b).toNat:Int)
abbrev gq (n:Nat) (a b:Int):Int:=((BitVec.ofInt n a ^^^ BitVec.ofInt n b).toNat:Int)
abbrev Ls (n:Nat) (a b:Int):Int:=((BitVec.ofInt n a &&& ~~~(BitVec.ofInt n b)).toNat:Int)
abbrev ot (a b:ByteArray):Bool:=a.toList == b.toList
def Ty.enc:(t:Ty)→t.T→List D
 | .st k,x=>gp (lf k) (GA k x)
 | .arr n t,l=>(List.range n).flatMap fun i=>t.enc (gD l i t.z)
 | .i k,x=>[kj (.i k) x]
 | .b,x=>[kj .b x]
 | .s,x=>[kj .s x]
 | .ls t,x=>[kj (.ls t) x]
def els (t:Ty) (l:List t.T) (i:Nat):List D:=t.enc (gD l i t.z)
def lL (t' t:Ty) (l:List t'.T):Option (List t.T):=if h:t' = t then some (h ▸ l) else none
def yK:(t:Ty)→D→Option t.T
 | .i k, .lit (.int k' n)=>if k = k' then some n else none
 | .b, .lit (.bool b)=>some b
 | .s, .lit (.string s)=>some s
 | .ls t, .sl t' l=>lL t' t l
 | .ls _, .nil=>some []
 | _,_=>none
def C4:(ts:List Ty)→List D→Option (HP ts)
 | [],[]=>some ()
 | [t],[d]=>yK t d
 | t :: u :: r,d :: ds=>match yK t d,C4 (u :: r) ds with
  | some x,some y=>some (x,y)
  | _,_=>none
 | _,_=>none
def vQ {α:Type} (f:List D→Option α) (k:Nat):Nat→List D→Option (List α)
 | 0,ds=>bif ds.isEmpty then some [] else none
 | n+1,ds=>match f (ds.take k),vQ f k n (ds.drop k) with
  | some x,some l=>some (x :: l)
  | _,_=>none
def kJ:(t:Ty)→List D→Option t.T
 | .st k,ds=>(C4 (lf k) ds).map (LB k)
 | .arr n t,ds=>vQ (kJ t) t.k n ds
 | .i k,[d]=>yK (.i k) d
 | .b,[d]=>yK .b d
 | .s,[d]=>yK .s d
 | .ls t,[d]=>yK (.ls t) d
 | _,_=>none
inductive V where
  | c (d:D)
  | agg (vs:List V)
  | tup (vs:List V)
  | ptr (o k i j:Nat)
  | row (o k:Nat)
  | sub (o k off n:Nat)
  | dptr (k:Nat) (cs:List D) (j:Nat)
  | fn (f:FuncId) (caps:List V)
inductive Ob where
  | box (cs:List V)
  | row (e:TypeId) (t:Ty) (l:List t.T)
  | raw (x:Obj)
  | map (t:TypeId) (kt vt:Ty) (ks:List kt.T) (vs:List vt.T)
  | iter (m:V) (s:Int) (l:List Int)
abbrev ae:=List (Nat × Option Ob)
def ae.get:ae→Nat→Option Ob
 | [],_=>none
 | (o',b) :: r,o=>bif Nat.beq o' o then b else ae.get r o
abbrev i64 (n:Int):V:=.c (.lit (.int .i64 n))
abbrev bl (b:Bool):V:=.c (.lit (.bool b))
abbrev str (s:ByteArray):V:=.c (.lit (.string s))
def D.ofCell:Value→D
 | .slice none 0 0=>.nil
 | v=>.lit v
def V.ofValue:Value→V
 | .agg cs=>.agg (cs.toList.map fun v=>.c (D.ofCell v))
 | .tuple vs=>match vs.toList with | []=>.c .unk | _=>.c (.lit (.tuple vs))
 | v=>.c (D.ofCell v)
def V.isCell:V→Bool
 | .c .unk=>false
 | .c (.lit (.agg _))=>false
 | .c (.lit (.tuple _))=>false
 | .c (.opt ..)=>false
 | .c _=>true
 | .ptr ..=>true
 | .row ..=>true
 | .sub ..=>true
 | .fn ..=>true
 | _=>false
def V.cells:V→List V
 | .agg vs=>vs
 | v=>[v]
def V.toD:V→Option D
 | .c .unk=>none
 | .c (.lit (.agg _))=>none
 | .c (.lit (.tuple _))=>none
 | .c (.opt ..)=>none
 | .c d=>some d
 | _=>none
def encV:(t:Ty)→t.T→V
 | .st k,x=>.agg ((Ty.enc (.st k) x).map .c)
 | .arr n t,x=>.agg ((Ty.enc (.arr n t) x).map .c)
 | .i k,x=>.c (kj (.i k) x)
 | .b,x=>.c (kj .b x)
 | .s,x=>.c (kj .s x)
 | .ls t,x=>.c (.sl t x)
def Bp:(t:Ty)→V→Option t.T
 | .st k, .agg cs=>match cs.mapM V.toD with | some ds=>kJ (.st k) ds | none=>none
 | .arr n t, .agg cs=>match cs.mapM V.toD with | some ds=>kJ (.arr n t) ds | none=>none
 | .i k, .c d=>yK (.i k) d
 | .b, .c d=>yK .b d
 | .s, .c d=>yK .s d
 | .ls t, .c d=>yK (.ls t) d
 | _,_=>none
def Sj (o:Nat):V:=.fn 2000000000 [.ptr o 1 0 0]
def x8:D→Value
 | .lit v=>v
 | _=>undef
def gi:(t:Ty)→t.T→Value
 | .st k,x=>.agg ((Ty.enc (.st k) x).map x8).toArray
 | t,x=>x8 ((t.enc x).headD .unk)
def PR:List D→List D→Bool
 | [],[]=>true
 | .lit (.int _ a) :: r, .lit (.int _ b) :: r'=>am a b&&PR r r'
 | _,_=>false
def uS:(t:Ty)→t.T→t.T→Bool
 | .i _,a,b=>am a b
 | .st k,a,b=>PR (Ty.enc (.st k) a) (Ty.enc (.st k) b)
 | _,_,_=>false
def wY (s:SK):Bool:=match lf s with | [.i .i64, .i .i64]=>true | _=>false
def Hw:(t:Ty)→V→Option t.T
 | .i k, .c (.lit (.int k' n))=>if k = k' then some n else none
 | .st k,v=>Bp (.st k) v
 | _,_=>none
def bA (t:Ty):List t.T→t.T→Nat
 | [],_=>0
 | x :: r,k=>bif uS t x k then 0 else bA t r k+1
def jM (t:Ty) (ks:List t.T) (k:t.T):Bool:=Nat.blt (bA t ks k) ks.length
def mR (t:Ty) {T:Type} (ks:List t.T) (vs:List T) (k:t.T) (z:T):T:=vs.getD (bA t ks k) z
def il (t:Ty) (ks:List t.T) (k:t.T):List t.T:=bif jM t ks k then ks else ks++[k]
def kA (t:Ty) {T:Type} (ks:List t.T) (vs:List T) (k:t.T) (v:T):List T:=bif jM t ks k then vs.set (bA t ks k) v else vs++[v]
def oD (H:ae):V→Option (Nat × Ob)
 | .fn f [.ptr o _ _ _]=>bif Nat.beq f 2000000000 then (match H.get o with | some b=>some (o,b) | none=>none) else none
 | _=>none
def tr (H:ae) (o k:Nat):V :=
 match H.get o with
 | some (.row _ t l)=>bif Nat.beq t.k k then .c (.sl t l) else .c .unk
 | _=>.c .unk
def ak {T:Type} (l:List T) (off n:Nat):List T:=(l.drop off).take n
def tn (H:ae) (o k off n:Nat):V :=
 match H.get o with
 | some (.row _ t l)=>bif Nat.beq t.k k then .c (.sl t (ak l off n)) else .c .unk
 | _=>.c .unk
def qj (H:ae):V→D
 | .c d=>d
 | .row o k=>match tr H o k with | .c d=>d | _=>.unk
 | .sub o k off n=>match tn H o k off n with | .c d=>d | _=>.unk
 | _=>.unk
def J6 (H:ae) (o k i j:Nat):V :=
 match H.get o with
 | some (.row _ t l)=>bif Nat.beq t.k k then .dptr k (els t l i) j else .c .unk
 | some (.box cs)=>bif Nat.beq cs.length k then .dptr k (cs.map (qj H)) j else .c .unk
 | some (.raw _)=>.c .unk
 | some (.iter ..)=>.c .unk
 | some (.map ..)=>.c .unk
 | none=>.c .unk
def bz (l:List Int):ByteArray:=⟨(l.map fun x=>UInt8.ofNat x.toNat).toArray⟩
def jf (s:ByteArray) (pos:Nat):Int:=(Utf8.decode s pos).1
def AR (s:ByteArray) (pos:Nat):Nat:=(Utf8.decode s pos).2
def ov (s:ByteArray) (pos:Nat):Nat:=bif Nat.blt pos s.size then pos+AR s pos else pos
mutual
def V.view (H:ae):V→V
 | .c d=>.c d
 | .agg vs=>.agg (V.views H vs)
 | .tup vs=>.tup (V.views H vs)
 | .ptr o k i j=>J6 H o k i j
 | .row o k=>tr H o k
 | .sub o k off n=>tn H o k off n
 | .dptr k cs j=>.dptr k cs j
 | .fn f caps=>.fn f (V.views H caps)
def V.views (H:ae):List V→List V
 | []=>[]
 | v :: r=>V.view H v :: V.views H r
end
mutual
def V.refs:V→List Nat
 | .c _=>[]
 | .agg vs=>V.refss vs
 | .tup vs=>V.refss vs
 | .ptr o _ _ _=>[o]
 | .row o _=>[o]
 | .sub o _ _ _=>[o]
 | .dptr ..=>[]
 | .fn _ caps=>V.refss caps
def V.refss:List V→List Nat
 | []=>[]
 | v :: r=>V.refs v++V.refss r
end
mutual
def V.kill (o:Nat):V→V
 | .c d=>.c d
 | .agg vs=>.agg (V.kills o vs)
 | .tup vs=>.tup (V.kills o vs)
 | .ptr o' k i j=>bif Nat.beq o' o then .c .unk else .ptr o' k i j
 | .row o' k=>bif Nat.beq o' o then .c .unk else .row o' k
 | .sub o' k off n=>bif Nat.beq o' o then .c .unk else .sub o' k off n
 | .dptr k cs j=>.dptr k cs j
 | .fn f caps=>.fn f (V.kills o caps)
def V.kills (o:Nat):List V→List V
 | []=>[]
 | v :: r=>V.kill o v :: V.kills o r
end
inductive j8 where
  | data (v:V)
  | new (v:V)
  | own (fresh:Bool) (e:TypeId) (t:Ty) (l:List t.T)
abbrev LK:=List V→Option (Bool × j8)
inductive fx:List Prop→Type
  | nil:fx []
  | cons {p:Prop} {ps:List Prop} (d:Decidable p) (r:fx ps):fx (p :: ps)
attribute [class] fx
instance:fx []:=.nil
instance {p:Prop} {ps:List Prop} [d:Decidable p] [r:fx ps]:fx (p :: ps):=.cons d r
structure aF where
  pre:List Prop:=[]
  dec:fx pre:=by infer_instance
  val:V
  eff:ae:=[]
  kill:List Nat:=[]
inductive CC where
  | pure (c:LK)
  | mut (m:ae→Nat→List V→Option aF)
def aX (H:ae) (vs:List V):List Nat :=
 V.refss vs++(V.refss vs).flatMap fun o=>match H.get o with | some (.box cs)=>V.refss cs | some (.iter m _ _)=>V.refs m | _=>[]
def bE:List Nat→ae→ae
 | [],_=>[]
 | o :: r,H=>match ae.get H o with | some b=>(o,some b) :: bE r H | none=>bE r H
def MP:Option Ob→Bool
 | some (.row ..)=>true
 | _=>false
mutual
def V.noUnk:V→Bool
 | .c .unk=>false
 | .c _=>true
 | .agg vs=>V.noUnks vs
 | .tup vs=>V.noUnks vs
 | .ptr ..=>true
 | .row ..=>true
 | .sub ..=>true
 | .dptr ..=>true
 | .fn _ vs=>V.noUnks vs
def V.noUnks:List V→Bool
 | []=>true
 | v :: r=>V.noUnk v&&V.noUnks r
end
def HD:Option Ob→Bool
 | some (.row ..)=>true
 | some (.raw _)=>true
 | some (.map ..)=>true
 | some (.box cs)=>V.noUnks cs
 | some (.iter m _ _)=>V.noUnk m
 | none=>false
def pQ:Option Ob→List Nat
 | some (.box cs)=>V.refss cs
 | some (.iter m _ _)=>V.refs m
 | _=>[]
def nw (H:ae) (vs:List V):Bool × List Nat:=((aX H vs).all fun o=>HD (H.get o),(aX H vs).flatMap fun o=>pQ (H.get o))
def AH (H:ae):List Nat:=H.flatMap fun x=>pQ x.2
section
variable (P:Program)
def sz (t:TypeId):Nat:=match P.underlying t,P.info? t with | some _,some i=>i.size | _,_=>0
def rT (t:TypeId):Nat:=match P.info? t with | some i=>i.bytes | none=>0
def fk (t:TypeId):Bool:=match P.underlying t with | some (.struct _)=>true | some (.array _ _)=>true | _=>false
def eT (t:TypeId):Bool:=fk P t||Nat.blt 0 (sz P t)
def qu (t:TypeId):Option V:=match P.info? t with | some i=>(match i.zero with | some (.tuple _)=>none | some v=>some (V.ofValue v) | none=>none) | none=>none
def gj (t:TypeId):Bool:=match P.underlying t with | some _=>true | none=>false
def M9:List (Nat × SK)→Nat→Option SK
 | [],_=>none
 | (i,k) :: r,t=>bif Nat.beq i t then some k else M9 r t
def Rb:Nat→TypeId→Option Ty
 | 0,_=>none
 | d+1,t=>match P.underlying t with
  | some (.int k)=>some (.i k)
  | some .bool=>some .b
  | some .string=>some .s
  | some (.slice e)=>(Rb d e).map .ls
  | some (.struct _)=>(M9 Qg t).map .st
  | some (.array n e)=>(Rb d e).map (.arr n)
  | _=>none
def GL (t:TypeId):Option Ty:=match Rb P 9 t with | some ty=>bif Nat.beq ty.k (sz P t) then some ty else none | none=>none
def lR (ag:Bool) (cs:List V) (j n:Nat):V :=
 bif ag then .agg ((cs.drop j).take n) else (cs.drop j).headD (.c .unk)
def Hz (ag:Bool) (cs:List D) (j n:Nat):V :=
 bif ag then .agg ((List.range n).map fun q=>.c (cs.getD (j+q) .unk)) else .c (cs.getD j .unk)
def setL {α:Type}:List α→Nat→List α→List α
 | cs,_,[]=>cs
 | cs,off,x :: r=>setL (cs.set off x) (off+1) r
def oL (H:ae) (t:TypeId) (a:V):Option aF :=
 match a with
 | .ptr o k i j =>
  match H.get o with
  | some (.box cs)=>bif Nat.beq cs.length k&&Nat.ble (j+sz P t) k&&eT P t then some { val:=lR (fk P t) cs j (sz P t) } else none
  | some (.row _ ty l) =>
   bif Nat.beq ty.k k&&Nat.ble (j+sz P t) k&&eT P t then some { val:=Hz (fk P t) (els ty l i) j (sz P t) }
   else bif Nat.beq ty.k k&&Nat.beq i 0&&Nat.beq j 0&&fk P t&&Nat.blt 0 k then
    some { pre:=[l.length*k = sz P t],val:=.agg ((List.range (sz P t / k)).flatMap fun i=>(List.range k).map fun q=>.c ((els ty l i).getD q .unk)) }
   else none
  | some (.raw _)=>none
  | some (.iter ..)=>none
  | some (.map ..)=>none
  | none=>none
 | .dptr k cs j=>bif Nat.ble (j+sz P t) k&&eT P t then some { val:=Hz (fk P t) cs j (sz P t) } else none
 | _=>none
def qL (H:ae) (t:TypeId) (a x:V):Option aF :=
 bif Nat.beq x.cells.length (sz P t)&&x.cells.all V.isCell&&gj P t then
  match a with
  | .ptr o k i j =>
   match H.get o with
   | some (.box cs)=>bif Nat.beq cs.length k&&Nat.ble (j+sz P t) k then some { val:=.c .unk,eff:=[(o,some (.box (setL cs j x.cells)))] } else none
   | some (.row e ty l) =>
    match x.cells.mapM V.toD with
    | some ds=>bif Nat.beq ty.k k&&Nat.ble (j+sz P t) k then
      (match kJ ty (setL (els ty l i) j ds) with | some y=>some { val:=.c .unk,eff:=[(o,some (.row e ty (l.set i y)))] } | none=>none)
     else bif Nat.beq ty.k k&&Nat.beq i 0&&Nat.beq j 0&&Nat.blt 0 k then
      (match vQ (kJ ty) k (sz P t / k) ds with | some l'=>some { pre:=[l.length*k = sz P t],val:=.c .unk,eff:=[(o,some (.row e ty l'))] } | none=>none) else none
    | none=>none
   | some (.raw _)=>none
   | some (.iter ..)=>none
   | some (.map ..)=>none
   | none=>none
  | _=>none
 else none
def ya (t:TypeId) (f:Nat):Option (Nat × TypeId) :=
 match P.underlying t with
 | some (.struct fs)=>(match fs[f]? with | some fl=>some (fl.offset,fl.type) | none=>none)
 | _=>none
def HQ (op:BinOp) (k:IntKind) (a b:Int):Option aF :=
 match op with
 | .add=>some { val:=.c (.lit (.int k (k.wrap (a+b)))) }
 | .sub=>some { val:=.c (.lit (.int k (k.wrap (a - b)))) }
 | .mul=>some { val:=.c (.lit (.int k (k.wrap (a*b)))) }
 | .quo=>some { pre:=[b≠0],val:=.c (.lit (.int k (k.wrap (a.tdiv b)))) }
 | .rem=>some { pre:=[b≠0],val:=.c (.lit (.int k (a.tmod b))) }
 | .and=>some { val:=.c (.lit (.int k (k.wrap (FL k.bits a b)))) }
 | .or=>some { val:=.c (.lit (.int k (k.wrap (tB k.bits a b)))) }
 | .xor=>some { val:=.c (.lit (.int k (k.wrap (gq k.bits a b)))) }
 | .andNot=>some { val:=.c (.lit (.int k (k.wrap (Ls k.bits a b)))) }
 | .eql=>some { val:=bl (am a b) }
 | .neq=>some { val:=bl (aQ a b) }
 | .lss=>some { val:=bl (aa (a < b)) }
 | .leq=>some { val:=bl (aa (a≤b)) }
 | .gtr=>some { val:=bl (aa (b < a)) }
 | .geq=>some { val:=bl (aa (b≤a)) }
 | _=>none
def xp (op:BinOp) (k:IntKind) (a y:Int):Option aF :=
 match op with
 | .shl=>some { pre:=[0≤y],val:=.c (.lit (.int k (k.wrap (a*p2 y k.bits)))) }
 | .shr=>some { pre:=[0≤y],val:=.c (.lit (.int k (a.fdiv (p2 y k.bits)))) }
 | _=>none
def HZ (op:BinOp) (x y:ByteArray):Option aF :=
 match op with
 | .add=>some { pre:=[x.size+y.size≤9223372036854775807],val:=str (x++y) }
 | .eql=>some { val:=bl (ot x y) }
 | .neq=>some { val:=bl (!(ot x y)) }
 | .lss=>some { val:=bl (Op.bytesLess x.toList y.toList) }
 | .leq=>some { val:=bl (Op.bytesLess x.toList y.toList||ot x y) }
 | .gtr=>some { val:=bl (!(Op.bytesLess x.toList y.toList||ot x y)) }
 | .geq=>some { val:=bl (!(Op.bytesLess x.toList y.toList)) }
 | _=>none
def DW:Nat→TypeId→V→V→Option Bool
 | 0,_,_,_=>none
 | d+1,t,x,y =>
  match P.underlying t,x,y with
  | some (.int _), .c (.lit (.int k a)), .c (.lit (.int k' b))=>if k = k' then some (am a b) else none
  | some .bool, .c (.lit (.bool a)), .c (.lit (.bool b))=>some (Lb a b)
  | some .string, .c (.lit (.string a)), .c (.lit (.string b))=>some (ot a b)
  | some (.struct fs), .agg xs, .agg ys =>
   bif P.stoodInHeld t then none else
   fs.toList.foldr (fun f acc=>bif f.name == "_" then none else
    bif Nat.ble (f.offset+sz P f.type) xs.length&&Nat.ble (f.offset+sz P f.type) ys.length&&eT P f.type then
    match DW d f.type (lR (fk P f.type) xs f.offset (sz P f.type)) (lR (fk P f.type) ys f.offset (sz P f.type)),acc with
    | some a,some b=>some (a&&b)
    | _,_=>none
    else none) (some true)
  | some (.array len e), .agg xs, .agg ys =>
   bif Nat.ble (len*sz P e) xs.length&&Nat.ble (len*sz P e) ys.length&&eT P e then
   (List.range len).foldr (fun i acc =>
    match DW d e (lR (fk P e) xs (i*sz P e) (sz P e)) (lR (fk P e) ys (i*sz P e) (sz P e)),acc with
    | some a,some b=>some (a&&b)
    | _,_=>none) (some true)
   else none
  | _,_,_=>none
def PX (op:BinOp) (t:TypeId) (x y:V):Option aF :=
 match x,y with
 | .c (.lit (.int k a)), .c (.lit (.int k' b)) =>
  match op with
  | .shl=>xp op k a b
  | .shr=>xp op k a b
  | op=>if k = k' then HQ op k a b else none
 | .c (.lit (.string a)), .c (.lit (.string b))=>HZ op a b
 | .c (.lit (.bool a)), .c (.lit (.bool b)) =>
  match P.underlying t,op with
  | some .bool, .eql=>some { val:=bl (Lb a b) }
  | some .bool, .neq=>some { val:=bl (!(Lb a b)) }
  | _,_=>none
 | .agg xs, .agg ys =>
  bif P.eqGuardType P.depth t then none else
  match op,DW P 10 t (.agg xs) (.agg ys) with
  | .eql,some b=>some { val:=bl b }
  | .neq,some b=>some { val:=bl (!b) }
  | _,_=>none
 | .ptr .., .c (.lit (.pointer none)) =>
  match P.underlying t,op with
  | some (.pointer _), .eql=>some { val:=bl false }
  | some (.pointer _), .neq=>some { val:=bl true }
  | _,_=>none
 | _,_=>none
def RC (op:UnOp) (x:V):Option aF :=
 match op,x with
 | .neg, .c (.lit (.int k n))=>some { val:=.c (.lit (.int k (k.wrap (0 - n)))) }
 | .xor, .c (.lit (.int k n))=>some { val:=.c (.lit (.int k (k.wrap (gq k.bits (if k.signed then -1 else k.max) n)))) }
 | .not, .c (.lit (.bool b))=>some { val:=bl (!b) }
 | _,_=>none
def Md (src dst:TypeId) (x:V):Option aF :=
 match P.underlying src,P.underlying dst,x with
 | some (.int _),some (.int k), .c (.lit (.int _ n))=>some { val:=.c (.lit (.int k (k.wrap n))) }
 | some .string,some .string, .c (.lit (.string s))=>some { val:=str s }
 | _,_,_=>none
def cC (H:ae) (t:Ty):V→Option (List t.T)
 | .c .nil=>some []
 | .c (.sl t' l)=>lL t' t l
 | .row o k=>match H.get o with | some (.row _ t' l)=>bif Nat.beq t'.k k then lL t' t l else none | _=>none
 | .sub o k off n=>match H.get o with | some (.row _ t' l)=>bif Nat.beq t'.k k then (lL t' t l).map fun l=>ak l off n else none | _=>none
 | _=>none
def Eh (H:ae) (x:V):Option aF:=(cC H (.i .u8) x).map fun l=>{ val:=str (bz l) }
def wZ (H:ae) (t:TypeId) (x:V):Option aF :=
 match P.underlying t,x with
 | some (.slice _), .c .nil=>some { val:=i64 0 }
 | some (.slice _), .c (.sl _ l)=>some { val:=i64 l.length }
 | some (.slice _), .row o _=>(match H.get o with | some (.row _ _ l)=>some { val:=i64 l.length } | _=>none)
 | some (.slice _), .sub _ _ _ n=>some { val:=i64 n }
 | some .string, .c (.lit (.string s))=>some { val:=i64 s.size }
 | some (.map _ _),x=>(match oD H x with | some (_, .map _ _ _ ks _)=>some { val:=i64 ks.length } | _=>none)
 | _,_=>none
def Fg (m x:V):Option V :=
 match m,x with | .c (.lit (.int k a)), .c (.lit (.int _ b))=>some (V.c (.lit (.int k (bif aa (b < a) then b else a)))) | _,_=>none
def Fv (m x:V):Option V :=
 match m,x with | .c (.lit (.int k a)), .c (.lit (.int _ b))=>some (V.c (.lit (.int k (bif aa (a < b) then b else a)))) | _,_=>none
def MZ:List V→Option V
 | []=>none
 | x :: r=>r.foldlM Fg x
def LZ:List V→Option V
 | []=>none
 | x :: r=>r.foldlM Fv x
def qe (t:TypeId):Option (List D):=match qu P t with | some v=>v.cells.mapM V.toD | none=>none
def LQ (e:TypeId):Bool:=match qe P e with | some z=>Nat.beq z.length (sz P e) | none=>false
def nP (H:ae) (nid:Nat) (t:TypeId) (s x:V):Option aF :=
 match P.underlying t with
 | some (.slice e) =>
  match s with
  | .c .nil=>match GL P e with
   | some ty=>match cC H ty x with
    | some l2=>bif Nat.blt 0 ty.k&&gj P e&&LQ P e then some { pre:=[l2.length*rT P e≤140737488355328,l2.length≤140737488355328],val:=.row nid ty.k,eff:=[(nid,some (.row e ty l2))] } else none
    | none=>none
   | none=>none
  | .row o k =>
   match H.get o with
   | some (.row e' ty l)=>match cC H ty x with
    | some l2=>bif Nat.beq e' e&&Nat.beq ty.k k&&Nat.beq k (sz P e)&&Nat.blt 0 k&&LQ P e then
      some { pre:=[(l.length+l2.length)*rT P e≤140737488355328,l.length+l2.length≤140737488355328],val:=.row o k,eff:=[(o,some (.row e ty (l++l2)))],kill:=[o] } else none
    | none=>none
   | _=>none
  | _=>none
 | _=>none
def tS (e7:Nat→Option (Nat × Nat)) (cs:List V) (p:Nat × V):Option (List V) :=
 match e7 p.1 with
 | some (off,size)=>bif Nat.beq p.2.cells.length size&&p.2.cells.all V.isCell&&Nat.ble (off+size) cs.length then some (setL cs off p.2.cells) else none
 | none=>none
def wJ (fs:Array Field) (i:Nat):Option (Nat × Nat):=match fs[i]? with | some f=>some (f.offset,sz P f.type) | none=>none
def H2 (t:TypeId) (parts:List (Nat × V)):Option aF :=
 match P.underlying t,qu P t with
 | some (.struct fs),some z=>bif fs.toList.all (fun f=>gj P f.type) then (match parts.foldlM (tS (wJ P fs)) z.cells with | some cs=>some { val:=.agg cs } | none=>none) else none
 | some (.array _ e),some z=>bif gj P e then (match parts.foldlM (tS fun i=>some (i*sz P e,sz P e)) z.cells with | some cs=>some { val:=.agg cs } | none=>none) else none
 | _,_=>none
def vb (z:List V) (k n:Nat):List V:=(List.range (n*k)).map fun q=>z.getD (q % k) (.c .unk)
def wh (nid:Nat) (t:TypeId) (len:Nat) (parts:List (Nat × V)):Option aF :=
 match P.underlying t with
 | some (.slice e) =>
  match qu P e,GL P e with
  | some z,some ty =>
   bif Nat.beq z.cells.length (sz P e)&&Nat.blt 0 (sz P e)&&Nat.ble (len*sz P e) 16777216&&gj P e then
   match parts.foldlM (tS fun i=>some (i*sz P e,sz P e)) (vb z.cells (sz P e) len) with
   | some cs=>match cs.mapM V.toD with
    | some ds=>match vQ (kJ ty) (sz P e) len ds with
     | some l=>some { val:=.row nid (sz P e),eff:=[(nid,some (.row e ty l))] }
     | none=>none
    | none=>none
   | none=>none
   else none
  | _,_=>none
 | _=>none
def mt (o:Nat):Option Ob→Option Ob
 | some (.box cs)=>some (.box (V.kills o cs))
 | some (.iter m s l)=>some (.iter (V.kill o m) s l)
 | b=>b
def eI (os:List Nat) (H:ae):ae :=
 match os with
 | []=>H
 | o :: r=>eI r (H.map fun x=>(x.1,mt o x.2))
mutual
def V.noP:V→Bool
 | .agg vs=>V.noPs vs
 | .tup vs=>V.noPs vs
 | .ptr ..=>false
 | .fn _ vs=>V.noPs vs
 | _=>true
def V.noPs:List V→Bool
 | []=>true
 | v :: r=>V.noP v&&V.noPs r
end
mutual
def V.fz (o:Nat) (t:Ty) (l:List t.T):V→V
 | .c d=>.c d
 | .agg vs=>.agg (V.fzs o t l vs)
 | .tup vs=>.tup (V.fzs o t l vs)
 | .ptr o' k i j=>bif Nat.beq o' o then .c .unk else .ptr o' k i j
 | .row o' k=>bif Nat.beq o' o then (bif Nat.beq t.k k then .c (.sl t l) else .c .unk) else .row o' k
 | .sub o' k off n=>bif Nat.beq o' o then (bif Nat.beq t.k k then .c (.sl t (ak l off n)) else .c .unk) else .sub o' k off n
 | .dptr k cs j=>.dptr k cs j
 | .fn f vs=>.fn f (V.fzs o t l vs)
def V.fzs (o:Nat) (t:Ty) (l:List t.T):List V→List V
 | []=>[]
 | v :: r=>V.fz o t l v :: V.fzs o t l r
end
def j5 (f:ae→List V→Option aF):List Nat→ae→List V→Option aF
 | [],H,vs=>f H vs
 | o :: fl,H,vs=>match H.get o with
  | some (.row e t l)=>(j5 f fl ((o,some (.row e t [])) :: eI [o] H) (V.fzs o t l vs)).map fun r=>{ r with eff:=r.eff++[(o,some (.row e t []))],kill:=o :: r.kill }
  | _=>none
def Ol (nid:Nat) (t:TypeId) (len:Nat) (ps:List Nat) (H:ae) (vs:List V):Option aF:=j5 (fun _ vs=>wh P nid t len (ps.zip vs)) (V.refss vs) H vs
def wA (t:TypeId) (H:ae):List V→Option aF
 | [a,x]=>qL P H t a x
 | _=>none
def wI (H:ae) (t:TypeId) (a x:V):Option aF :=
 match a with
 | .ptr o _ _ _=>match H.get o with
  | some (.row _ _ _)=>j5 (wA P t) (V.refs x) H [a,x]
  | _=>qL P H t a x
 | _=>qL P H t a x
def yc (nid:Nat) (t:TypeId) (l c:V):Option aF :=
 match P.underlying t,l,c with
 | some (.slice e), .c (.lit (.int .i64 a)), .c (.lit (.int .i64 b)) =>
  match qe P e,GL P e with
  | some z,some ty=>match kJ ty z with
   | some x=>bif Nat.beq z.length (sz P e)&&Nat.blt 0 (sz P e)&&Nat.blt 0 (rT P e)&&gj P e then some { pre:=[0≤a,a≤b,b*rT P e≤140737488355328],val:=.row nid (sz P e),eff:=[(nid,some (.row e ty (List.replicate a.toNat x)))] } else none
   | none=>none
  | _,_=>none
 | _,_,_=>none
def Ea:V→Option (Int)
 | .c (.lit (.int _ n))=>some n
 | _=>none
def Lm:Option V→Option Int
 | none=>some 0
 | some v=>Ea v
def K9 (n:Int):Option V→Option Int
 | none=>some n
 | some v=>Ea v
def nY (H:ae) (t:TypeId) (x:V) (lo hi:Option V):Option aF :=
 match P.underlying t,x with
 | some (.slice e), .c .nil=>match P.underlying e,Lm lo,K9 0 hi with | some _,some l,some h=>some { pre:=[l = 0,h = 0],val:=.c .nil } | _,_,_=>none
 | some (.slice e), .c (.sl ty xs)=>bif Nat.beq (sz P e) ty.k then (match P.underlying e,Lm lo,K9 xs.length hi with | some _,some l,some h=>some { pre:=[0≤l,l≤h,h≤xs.length],val:=.c (.sl ty (ak xs l.toNat (h - l).toNat)) } | _,_,_=>none) else none
 | some (.slice e), .row o k=>(match H.get o with
  | some (.row _ _ xs)=>bif Nat.beq (sz P e) k then (match P.underlying e,Lm lo,K9 xs.length hi with | some _,some l,some h=>some { pre:=[0≤l,l≤h,h≤xs.length],val:=.sub o k l.toNat (h - l).toNat } | _,_,_=>none) else none
  | _=>none)
 | some (.slice e), .sub o k off n=>bif Nat.beq (sz P e) k then (match P.underlying e,Lm lo,K9 n hi with | some _,some l,some h=>some { pre:=[0≤l,l≤h,h≤n],val:=.sub o k (off+l.toNat) (h - l).toNat } | _,_,_=>none) else none
 | some .string, .c (.lit (.string s))=>match Lm lo,K9 s.size hi with | some l,some h=>some { pre:=[0≤l,l≤h,h≤s.size],val:=str (s.extract l.toNat h.toNat) } | _,_=>none
 | _,_=>none
def lI (H:ae) (t:TypeId) (x ix:V):Option aF :=
 match P.underlying t,x,ix with
 | some (.slice e), .c (.sl ty l), .c (.lit (.int _ i))=>bif Nat.beq (sz P e) ty.k then (match P.underlying e with | some _=>some { pre:=[0≤i,i < l.length],val:=.dptr ty.k (els ty l i.toNat) 0 } | none=>none) else none
 | some (.slice e), .c .nil, .c (.lit (.int _ _))=>some { pre:=[False],val:=.dptr (sz P e) (match qe P e with | some z=>z | none=>[]) 0 }
 | some (.slice e), .row o k, .c (.lit (.int _ i))=>(match H.get o with
  | some (.row _ _ l)=>bif Nat.beq (sz P e) k then (match P.underlying e with | some _=>some { pre:=[0≤i,i < l.length],val:=.ptr o k i.toNat 0 } | none=>none) else none
  | _=>none)
 | some (.slice e), .sub o k off n, .c (.lit (.int _ i))=>bif Nat.beq (sz P e) k then (match P.underlying e with | some _=>some { pre:=[0≤i,i < n],val:=.ptr o k (off+i.toNat) 0 } | none=>none) else none
 | some (.array len e), .ptr o k q j, .c (.lit (.int _ i)) =>
  (match H.get o with
  | some (.row _ ty l)=>bif Nat.beq q 0&&Nat.beq j 0&&Nat.beq ty.k k&&Nat.beq k (sz P e) then (match P.underlying e with | some _=>some { pre:=[l.length = len,0≤i,i < len],val:=.ptr o k i.toNat 0 } | none=>none) else none
  | some (.box _)=>(match P.underlying e with | some _=>some { pre:=[0≤i,i < len],val:=.ptr o k q (j+i.toNat*sz P e) } | none=>none)
  | some (.raw _)=>none
  | some (.iter ..)=>none
  | some (.map ..)=>none
  | none=>none)
 | some (.array len e), .dptr k cs j, .c (.lit (.int _ i))=>(match P.underlying e with | some _=>some { pre:=[0≤i,i < len],val:=.dptr k cs (j+i.toNat*sz P e) } | none=>none)
 | _,_,_=>none
def I1 (t:TypeId) (x ix:V):Option aF :=
 match P.underlying t,x,ix with
 | some .string, .c (.lit (.string s)), .c (.lit (.int _ i))=>some { pre:=[0≤i,i < s.size],val:=.c (.lit (.int .u8 (s.data.getD i.toNat 0).toNat)) }
 | some (.array len e), .agg cs, .c (.lit (.int _ i))=>bif Nat.ble (len*sz P e) cs.length&&eT P e then some { pre:=[0≤i,i < len],val:=lR (fk P e) cs (i.toNat*sz P e) (sz P e) } else none
 | _,_,_=>none
def qS (nid:Nat) (t:TypeId) (v:V):Option aF :=
 bif v.cells.all V.isCell&&Nat.beq v.cells.length (sz P t) then
  match P.underlying t,v.cells.mapM V.toD with
  | some (.array len e),some ds =>
   bif Nat.beq (len*sz P e) (sz P t)&&Nat.blt 0 (sz P e)&&Nat.blt 0 len&&Nat.ble len 1000000 then
    match GL P e with
    | some ty=>match vQ (kJ ty) (sz P e) len ds with
     | some l=>some { val:=.ptr nid (sz P e) 0 0,eff:=[(nid,some (.row t ty l))] }
     | none=>none
    | none=>none
   else none
  | _,_=>some { val:=.ptr nid v.cells.length 0 0,eff:=[(nid,some (.box v.cells))] }
 else none
variable (C:FuncId→Option CC)
def gE (vs:List V):Bool:=match V.refss vs with | []=>false | _=>true
mutual
def V.scalar:V→Bool
 | .c (.lit (.int _ _))=>true
 | .c (.lit (.bool _))=>true
 | .c (.lit (.string _))=>true
 | .c .nil=>true
 | .c .unk=>true
 | .c .any=>true
 | .agg vs=>V.scalars vs
 | .tup vs=>V.scalars vs
 | _=>false
def V.scalars:List V→Bool
 | []=>true
 | v :: r=>V.scalar v&&V.scalars r
end
def jn (H:ae) (nid:Nat) (f:FuncId) (args:List V):Option aF :=
 match C f with
 | none=>none
 | some (.mut m)=>m (bE (aX H args) H) nid args
 | some (.pure con)=>match con (V.views H args) with
  | none=>none
  | some (b, .data v)=>bif (!gE args)||v.scalar then some { pre:=[b = true],val:=v } else none
  | some (b, .new v)=>some { pre:=[b = true],val:=v }
  | some (b, .own fr e t l)=>bif (!gE args)||fr then some { pre:=[b = true],val:=.row nid t.k,eff:=[(nid,some (.row e t l))] } else none
def rX (f:FuncId) (nid:Nat) (H:ae) (args:List V):Option aF :=
 bif V.noPs args then match C f with | some (.pure _)=>jn C H nid f args | _=>none else none
def qg (H:ae) (nid:Nat) (f:FuncId) (args:List V):Option aF :=
 match jn C H nid f args with
 | some r=>some r
 | none=>j5 (rX C f nid) (V.refss args) H args
def qZ (x:V):Option aF:=match x with | .ptr ..=>some { val:=x } | .dptr ..=>some { val:=x } | .fn f _=>bif Nat.blt f 1000000000 then some { val:=x } else none | _=>none
def xA (t:TypeId) (f:Nat) (a:V):Option aF :=
 match ya P t f with
 | some (off,ft)=>bif Nat.beq (sz P ft) 0 then none else (match a with | .ptr o k i j=>some { val:=.ptr o k i (j+off) } | .dptr k cs j=>some { val:=.dptr k cs (j+off) } | _=>none)
 | none=>none
def HL (t:TypeId) (f:Nat) (x:V):Option aF :=
 match x,ya P t f with
 | .agg cs,some (off,ft)=>bif Nat.ble (off+sz P ft) cs.length&&eT P ft then some { val:=lR (fk P ft) cs off (sz P ft) } else none
 | _,_=>none
def Cr (ix:Nat) (x:V):Option aF :=
 match x with
 | .tup vs=>match vs[ix]? with | some v=>some { val:=v } | none=>none
 | .c (.opt b us)=>(match ix with
  | 0=>some { val:=bl b }
  | i+1=>match us[i]? with | some v=>some { pre:=[b = true],val:=.c (.lit v) } | none=>none)
 | _=>none
def I6 (nid:Nat) (t:TypeId) (x:V):Option aF :=
 match P.underlying t,x with
 | some .string, .c (.lit (.string s))=>some { val:=.ptr nid 1 0 0,eff:=[(nid,some (.raw (.stringIter s 0)))] }
 | _,_=>none
def wv (H:ae) (nid:Nat) (t:TypeId) (x:V):Option aF :=
 match P.underlying t with
 | some (.map _ _)=>(match oD H x with
  | some (_, .map _ _ _ ks _)=>some { val:=.ptr nid 1 0 0,eff:=[(nid,some (.iter x ks.length []))] }
  | _=>none)
 | _=>none
def Rf:Ty→Bool
 | .i _=>true
 | .b=>true
 | .s=>true
 | _=>false
def Ty.key:Ty→Bool
 | .st k=>(lf k).all Rf
 | .i _=>true
 | .b=>true
 | .s=>true
 | _=>false
def wo (H:ae) (x:V):Option aF :=
 match x with
 | .ptr o k i j=>match H.get o with
  | some (.iter m s l)=>bif Nat.beq (i*k+j) 0 then (match oD H m,l with
   | some (_, .map _ kt vt ks vs),p :: _=>bif kt.key then some { pre:=[am ks.length s = true,0≤p,p.toNat < ks.length],val:=.tup [encV kt (gD ks p.toNat kt.z),encV vt (gD vs p.toNat vt.z)] } else none
   | _,_=>none) else none
  | _=>none
 | _=>none
def AI (H:ae) (x:V):Option aF :=
 match x with
 | .ptr o k i j=>match H.get o with
  | some (.raw (.stringIter s pos))=>bif Nat.beq (i*k+j) 0 then
    some { val:=.c (.opt (Nat.blt pos s.size) [.int .i64 pos, .int .i32 (jf s pos)]),eff:=[(o,some (.raw (.stringIter s (ov s pos))))] } else none
  | _=>none
 | _=>none
def zo {T:Type} (z:T) (l:List T) (off n:Nat):List T:=l.take off++(List.replicate n z++l.drop (off+n))
def qB (H:ae) (t:TypeId) (x:V):Option aF :=
 match P.underlying t with
 | some (.slice e)=>match qe P e with
  | some z=>match x with
   | .row o k=>(match H.get o with
    | some (.row e' ty l)=>(match kJ ty z with
     | some y=>bif Nat.beq e' e&&Nat.beq ty.k k&&Nat.beq k (sz P e)&&Nat.beq z.length k&&Nat.blt 0 k&&gj P e then some { val:=.c .unk,eff:=[(o,some (.row e' ty (List.replicate l.length y)))] } else none
     | none=>none)
    | _=>none)
   | .sub o k off n=>(match H.get o with
    | some (.row e' ty l)=>(match kJ ty z with
     | some y=>bif Nat.beq e' e&&Nat.beq ty.k k&&Nat.beq k (sz P e)&&Nat.beq z.length k&&Nat.blt 0 k&&gj P e then some { pre:=[off+n≤l.length],val:=.c .unk,eff:=[(o,some (.row e' ty (zo y l off n)))] } else none
     | none=>none)
    | _=>none)
   | _=>none
  | none=>none
 | _=>none
def pc (f:Field) (off:Nat):Bool:=!(f.name == "_")&&(Nat.beq f.offset off&&(match P.underlying f.type with | some (.int .i64)=>eT P f.type&&(!(fk P f.type)&&Nat.beq (sz P f.type) 1) | _=>false))
def lM (k:TypeId):Ty→Bool
 | .i q=>(match P.underlying k with | some (.int q')=>decide (q' = q) | _=>false)
 | .st s=>(match P.underlying k with
  | some (.struct fs)=>(match fs.toList with
   | [f,g]=>pc P f 0&&(pc P g 1&&(!(P.stoodInHeld k)&&wY s))
   | _=>false)
  | _=>false)
 | _=>false
def B7 (nid:Nat) (t:TypeId):Option aF :=
 match P.underlying t with
 | some (.map k e)=>match GL P k,GL P e with
  | some kt,some vt=>some { val:=Sj nid,eff:=[(nid,some (.map t kt vt [] []))] }
  | _,_=>none
 | _=>none
def sW (H:ae) (t:TypeId) (m k:V) (ok:Bool):Option aF :=
 match P.underlying t,oD H m with
 | some (.map kk e),some (_, .map _ kt vt ks vs)=>(match Hw kt k,qu P e with
  | some key,some z0=>(match Bp vt z0 with
   | some z=>bif lM P kk kt then some { val:=bif ok then .tup [encV vt (mR kt ks vs key z),bl (jM kt ks key)] else encV vt (mR kt ks vs key z) } else none
   | none=>none)
  | _,_=>none)
 | _,_=>none
def w4 (t:TypeId) (H:ae):List V→Option aF
 | [m,k,v]=>match P.underlying t,oD H m with
  | some (.map kk _),some (o, .map t' kt vt ks vs)=>(match Hw kt k,Bp vt v with
   | some key,some x=>bif lM P kk kt then some { val:=.c .unk,eff:=[(o,some (.map t' kt vt (il kt ks key) (kA kt ks vs key x)))] } else none
   | _,_=>none)
  | _,_=>none
 | _=>none
def Mr (H:ae) (t:TypeId) (m k v:V):Option aF:=j5 (w4 P t) (V.refs v) H [m,k,v]
def rU (H:ae) (nid:Nat) (o:Oper) (vs:List V):Option aF :=
 match o.op,vs with
 | .move _,[x]=>some { val:=x }
 | .assign _,[x]=>some { val:=x }
 | .alloc t,[]=>match qu P t with | some z=>qS P nid t z | none=>none
 | .box t _,[x]=>qS P nid t x
 | .build t parts,vs=>H2 P t ((parts.toList.map (·.1)).zip vs)
 | .buildSlice t len parts,vs=>Ol P nid t len (parts.toList.map (·.1)) H vs
 | .load t _,[a]=>oL P H t a
 | .store t _ _,[a,x]=>wI P H t a x
 | .nilCheck _,[x]=>qZ x
 | .binOp op t _ _ _,[x,y]=>PX P op t x y
 | .unOp op _ _,[x]=>RC op x
 | .convert s d _,[x]=>(match P.underlying s,P.underlying d with
  | some (.slice e),some .string=>(match P.underlying e with | some (.int .u8)=>Eh H x | _=>none)
  | _,_=>Md P s d x)
 | .fieldAddr t _ f,[a]=>xA P t f a
 | .field t _ f,[x]=>HL P t f x
 | .indexAddr t _ _,[x,i]=>lI P H t x i
 | .index t _ _,[x,i]=>I1 P t x i
 | .slice t _ none none none,[x]=>nY P H t x none none
 | .slice t _ (some _) none none,[x,l]=>nY P H t x (some l) none
 | .slice t _ none (some _) none,[x,h]=>nY P H t x none (some h)
 | .slice t _ (some _) (some _) none,[x,l,h]=>nY P H t x (some l) (some h)
 | .makeSlice t _ _,[l,c]=>yc P nid t l c
 | .makeFunc (.func f) first _,vs=>bif first.isEmpty&&Nat.blt f 1000000000 then some { val:=.fn f vs } else none
 | .makeMap t none,[]=>B7 P nid t
 | .lookup t _ _ ok,[m,k]=>sW P H t m k ok
 | .mapUpdate t _ _ _,[m,k,v]=>Mr P H t m k v
 | .makeInterface t _,[x]=>(match P.underlying t with | some (.slice _)=>bif V.isCell x&&Nat.blt t 1000000000 then some { val:=.fn (1000000000+t) [x] } else none | _=>none)
 | .extract _ ix,[x]=>Cr ix x
 | .range t _,[x]=>(match I6 P nid t x with | some r=>some r | none=>wv P H nid t x)
 | .next _ true,[x]=>AI H x
 | .entry _,[x]=>wo H x
 | .call { callee:=.builtin .len,argTypes, .. },[x]=>(match argTypes[0]? with | some t=>wZ P H t x | none=>none)
 | .call { callee:=.builtin .clear,argTypes, .. },[x]=>(match argTypes[0]? with | some t=>qB P H t x | none=>none)
 | .call { callee:=.builtin .min, .. },vs=>(MZ vs).map fun v=>{ val:=v }
 | .call { callee:=.builtin .max, .. },vs=>(LZ vs).map fun v=>{ val:=v }
 | .call { callee:=.builtin .append,argTypes, .. },[s,x]=>(match argTypes.toList with | [t,t']=>bif Nat.beq t t' then nP P H nid t s x else none | _=>none)
 | .call { callee:=.value _, .. }, .fn f caps :: vs=>bif Nat.blt f 1000000000 then qg C H nid f (vs++caps) else none
 | _,_=>none
end
abbrev aP:=List (Nat × Bool)
structure aD where
  ch:aP
  v:V
structure St where
  tm:List (Nat × aD)
  hp:ae
  nx:Nat
def ax:List (Nat × aD)→Nat→Option aD
 | [],_=>none
 | (t',s) :: r,t=>bif Nat.beq t' t then some s else ax r t
def gV:List (Nat × aD)→Nat→aD→List (Nat × aD)
 | [],t,s=>[(t,s)]
 | (t',s') :: r,t,s=>bif Nat.beq t' t then (t,s) :: r else bif Nat.blt t t' then (t,s) :: (t',s') :: r else (t',s') :: gV r t s
def O5 (x:Nat × Bool) (ch:aP):Bool:=ch.any fun y=>Nat.beq x.1 y.1&&(x.2 == y.2)
def qv (a b:aP):Bool:=a.all fun x=>O5 x b
def bW (σ:St) (ch:aP):Operand→Option V
 | .tmp t=>bif Nat.blt t 1000000 then (match ax σ.tm t with | some s=>bif qv s.ch ch then some s.v else none | none=>none) else none
 | .const v=>some (V.ofValue v)
 | .func f=>bif Nat.blt f 1000000000 then some (.fn f []) else none
 | .global _=>none
def holds (tm:List (Nat × aD)):aP→Bool
 | []=>true
 | (t,w) :: r=>(match ax tm t with | some { v:=.c (.lit (.bool b)), .. }=>(bif w then b else !b) | _=>false)&&holds tm r
def cU (ops:List Oper) (tm:List (Nat × aD)):Option (Nat × Bool)→Option aP
 | none=>some []
 | some (j,w)=>match ops[j]? with
  | some o=>match o.dst with
   | some t=>bif Nat.blt t 1000000 then (match ax tm t with | some { ch,v:=.c (.lit (.bool _)) }=>some ((t,w) :: ch) | _=>none) else none
   | none=>none
  | none=>none
def k7 (σ:St) (ch:aP) (xs:List Operand):Option (List V):=xs.mapM (bW σ ch)
def qf (c:Operand) (w:Bool) (ch:aP):aP:=match c with | .tmp t=>(t,w) :: ch | _=>ch
def qq (σ:St) (ch:aP) (c a b:Operand):Option V :=
 match bW σ ch c with
 | some (.c (.lit (.bool x))) =>
  match bW σ (qf c true ch) a,bW σ (qf c false ch) b with
  | some (.c (.lit (.bool y))),some (.c (.lit (.bool z)))=>some (bl (bif x then y else z))
  | _,_=>none
 | _=>none
def dK:Op→List Operand
 | .call c=>(match c.callee with | .value f=>f :: c.args.toList | _=>c.args.toList)
 | op=>op.operands.toList
def Hx:Option V→Option V
 | some (.c (.lit (.bool y)))=>some (bl y)
 | _=>none
def uQ (σ:St) (ch:aP) (c a b:Operand):Option V :=
 match bW σ ch c with
 | some (.c (.lit (.bool x)))=>bif x then Hx (bW σ (qf c true ch) a) else Hx (bW σ (qf c false ch) b)
 | _=>none
def zl (P:Program) (C:FuncId→Option CC) (H:ae) (nid:Nat) (ch:aP) (o:Oper) (vs:List V):Option aF :=
 match rU P C H nid o vs with
 | some r=>some r
 | none=>bif ch.isEmpty then none else some { pre:=[false = true],val:=.c .unk }
def lB (P:Program) (C:FuncId→Option CC) (σ:St) (nid:Nat) (ch:aP) (o:Oper):Option (List V × aF) :=
 match o.op with
 | .pick c a b=>match qq σ ch c a b with
  | some v=>some ([],{ val:=v })
  | none=>(uQ σ ch c a b).map fun v=>([.c .unk],{ val:=v })
 | op=>match k7 σ ch (dK op) with
  | some vs=>(zl P C σ.hp nid ch o vs).map fun r=>(vs,r)
  | none=>none
def rY (os:List Nat) (tm:List (Nat × aD)):List (Nat × aD) :=
 match os with
 | []=>tm
 | o :: r=>rY r (tm.map fun x=>(x.1,{ ch:=x.2.ch,v:=x.2.v.kill o }))
def V.isBool:V→Bool
 | .c (.lit (.bool _))=>true
 | _=>false
def mZ (tm:List (Nat × aD)) (ch:aP) (ps:List Prop):List Prop :=
 match ch with
 | []=>ps
 | ch=>ps.map fun p=>(holds tm ch = true→p)
def nG (d:Nat) (tm:List (Nat × aD)):List (Nat × aD):=tm.map fun x=>(x.1,bif x.2.ch.any (fun y=>Nat.beq y.1 d) then ⟨[], .c .unk⟩ else x.2)
def lv:List Operand→List Nat
 | []=>[]
 | .tmp t :: r=>t :: lv r
 | _ :: r=>lv r
structure bI where
  dst:Option Nat
  rds:List Nat
  ch:aP
  nid:Nat
  vs:List V
  reach:List Nat
  rws:Bool × List Nat
  res:aF
def after (σ:St) (r:bI):St :=
  let tm:=rY r.res.kill σ.tm
  { tm:=match r.dst with | some t=>gV (nG t tm) t { ch:=r.ch,v:=r.res.val } | none=>tm
    hp:=r.res.eff++eI r.res.kill σ.hp
    nx:=σ.nx }
def ik (dst:Option Nat) (ch:aP):Bool:=match dst with | some t=>ch.all fun y=>!(Nat.beq y.1 t) | none=>true
def ij (N:Nat) (dst:Option Nat):Bool:=match dst with | some t=>Nat.blt t N | none=>true
def dI (tm:List (Nat × aD)) (t:Nat):Bool:=match ax tm t with | some s=>s.v.isBool | none=>false
def dR (tm:List (Nat × aD)) (ch:aP) (t:Nat):Bool:=match ax tm t with | some s=>s.v.isBool&&qv s.ch ch | none=>false
def lk (o:Oper) (vs:List V):List V:=match o.op with | .move _=>[] | _=>vs
def tR (P:Program) (C:FuncId→Option CC) (N:Nat) (ops:List Oper) (σ:St) (nid:Nat) (o:Oper):Option bI :=
 bif ij N o.dst then
  match cU ops σ.tm o.guard with
  | some ch =>
   bif ch.all fun x=>dR σ.tm ch x.1 then
   match lB P C σ nid ch o with
   | some (vs,r)=>bif ch.isEmpty||ik o.dst ch then
     some { dst:=o.dst,rds:=lv (dK o.op)++ch.map (·.1),ch,nid,vs,reach:=aX σ.hp (lk o vs),rws:=nw σ.hp (lk o vs),res:=r } else none
   | none=>none
   else none
  | none=>none
 else none
def AY (rc:bI):Bool:=rc.ch.isEmpty||(rc.res.eff.isEmpty&&rc.res.kill.isEmpty)
def nT (P:Program) (C:FuncId→Option CC) (N:Nat) (ops:List Oper) (σ:St) (nid:Nat) (o:Oper):Option bI :=
 match tR P C N ops σ nid o with
 | some rc=>bif AY rc then some rc else none
 | none=>none
def R5 (P:Program) (t:TypeId):V:=match qu P t with | some v=>v | none=>.c .unk
def P9 (P:Program) (o:Oper) (ch:aP) (nid:Nat):bI:={ dst:=o.dst,rds:=ch.map (·.1),ch:=ch,nid:=nid,vs:=[],reach:=[],rws:=(true,[]),res:={ val:=R5 P o.type } }
def nZ (tm:List (Nat × aD)):List (Nat × aD):=tm.map fun x=>(x.1,bif x.2.ch.isEmpty then x.2 else ⟨[], .c .unk⟩)
def Fj:List Prop→Prop→Prop
 | [],k=>k
 | p :: r,k=>p∧Fj r k
def qi (P:Program) (C:FuncId→Option CC) (N:Nat) (all:List Oper) (σ:St) (o:Oper) (k:St→Prop):Prop :=
 match nT P C N all σ σ.nx { o with guard:=none } with
 | some rc=>Fj rc.res.pre (k { after σ rc with nx:=σ.nx+8 })
 | none=>False
def FT (o:Oper) (ch:aP) (nid:Nat):bI:={ dst:=o.dst,rds:=[],ch:=ch,nid:=nid,vs:=[],reach:=[],rws:=(true,[]),res:={ val:=bl false } }
def qd (N:Nat) (σ:St) (o:Oper) (ch:aP) (k:St→Prop):Prop :=
 bif ij N o.dst&&ik o.dst ch then k { after σ (FT o ch σ.nx) with nx:=σ.nx+8 } else False
def uP (P:Program) (C:FuncId→Option CC) (N:Nat) (all:List Oper):List Oper→St→(St→Prop)→Prop
 | [],σ,K=>K { σ with tm:=nZ σ.tm }
 | o :: r,σ,K =>
  match o.guard with
  | none=>qi P C N all σ o fun σ'=>uP P C N all r σ' K
  | some g =>
   match cU all σ.tm (some g) with
   | some ((t,w) :: ch)=>bif ((t,w) :: ch).all (fun x=>dR σ.tm ((t,w) :: ch) x.1) then
     (match ax σ.tm t with
     | some ⟨c0, .c (.lit (.bool b))⟩ =>
      bif holds σ.tm ch then
       (bif b then
        (bif w then qi P C N all { σ with tm:=gV σ.tm t ⟨c0,bl true⟩ } o fun σ'=>uP P C N all r σ' K
        else qd N { σ with tm:=gV σ.tm t ⟨c0,bl true⟩ } o ((t,w) :: ch) fun σ'=>uP P C N all r σ' K)
       else
        (bif w then qd N { σ with tm:=gV σ.tm t ⟨c0,bl false⟩ } o ((t,w) :: ch) fun σ'=>uP P C N all r σ' K
        else qi P C N all { σ with tm:=gV σ.tm t ⟨c0,bl false⟩ } o fun σ'=>uP P C N all r σ' K))
      else qd N σ o ((t,w) :: ch) fun σ'=>uP P C N all r σ' K
     | _=>False) else False
   | _=>False
def ML (a b:List Nat):Bool:=a.all fun x=>!(b.any fun y=>Nat.beq x y)
def mj (d:Option Nat):List Nat:=match d with | some t=>[t] | none=>[]
def dt (H:ae):List Nat:=H.map (·.1)
def Hy (a b:bI):Bool :=
 ML (mj a.dst) (b.rds++mj b.dst)&&ML (dt a.res.eff) (b.reach++dt b.res.eff) &&
 (a.res.kill.isEmpty||(b.rws.1&&ML a.res.kill (b.reach++(b.rws.2++(V.refs b.res.val++(AH b.res.eff++V.refss b.vs))))&&b.res.kill.isEmpty))
def sj (a b:bI):Bool:=Hy a b&&Hy b a&&V.noUnks a.vs&&V.noUnks b.vs
def Ks (acc:List Nat) (o:Oper):Nat:=o.after.toList.foldl (fun s e=>bif Region.binds .any e then s ||| (2 ^ e.on ||| acc.getD e.on 0) else s) 0
def AK:List Oper→List Nat→List Nat
 | [],acc=>acc
 | o :: r,acc=>AK r (acc++[Ks acc o])
def DD (m:Nat) (r:bI):Nat→List bI→Bool
 | _,[]=>true
 | j,q :: l=>(m.testBit j||sj q r)&&DD m r (j+1) l
def QR (n:Nat) (o:Oper):Bool:=o.after.toList.all fun e=>!(Region.binds .any e)||Nat.blt e.on n
def pK:Nat→List Oper→Bool
 | _,[]=>true
 | n,o :: r=>QR n o&&pK (n+1) r
def wL (ms:List Nat):List bI→List bI→Bool
 | _,[]=>true
 | done,r :: l=>DD (ms.getD done.length 0) r 0 done&&wL ms (done++[r]) l
end Go.Ax
