import Derived.Below
import Derived.Orders
import Derived.KernelRfl
import Derived.WalkKit
import Derived.ChangeKeysEq
import Derived.Test.YtbjfcadcipfolaaGreatZB0
set_option linter.all false
/- Abstract values, abstract heaps and an abstract interpreter for the model's code. -/
namespace Go.Ax
inductive D where
  | unk
  | nil
  | lit (v:Value)
  | sl (t:Ty) (l:List t.T)
  | opt (b:Bool) (us:List Value)
  | any
def iQ:(t:Ty)→t.T→D
 | .i k,x=>.lit (.int k x)
 | .b,x=>.lit (.bool x)
 | .s,x=>.lit (.string x)
 | .ls t,l=>.sl t l
 | .st _,_=>.unk
 | .arr _ _,_=>.unk
def eX:(ts:List Ty)→HP ts→List D
 | [],_=>[]
 | [t],x=>[iQ t x]
 | t :: u :: r,x=>iQ t x.1 :: eX (u :: r) x.2
def Ty.z:(t:Ty)→t.T
 | .i _=>(0:Int)
 | .b=>false
 | .s=>aE []
 | .st k=>zS k
 | .ls _=>[]
 | .arr n t=>List.replicate n t.z
def Ty.k:Ty→Nat
 | .st k=>(lf k).length
 | .arr n t=>n*t.k
 | _=>1
abbrev gD {α:Type} (l:List α) (i:Nat) (z:α):α:=l.getD i z
abbrev aa (p:Prop) [d:Decidable p]:Bool:=@decide p d
abbrev ak (a b:Int):Bool:=a == b
abbrev aT (a b:Int):Bool:=a != b
abbrev MJ (a b:Bool):Bool:=a == b
abbrev p2 (y:Int) (b:Nat):Int:=2 ^ min y.toNat b
abbrev Ba (n:Nat) (a b:Int):Int:=((BitVec.ofInt n a &&& BitVec.ofInt n b).toNat:Int)
abbrev p9 (n:Nat) (a b:Int):Int:=((BitVec.ofInt n a ||| BitVec.ofInt n b).toNat:Int)
abbrev jl (n:Nat) (a b:Int):Int:=((BitVec.ofInt n a ^^^ BitVec.ofInt n b).toNat:Int)
abbrev He (n:Nat) (a b:Int):Int:=((BitVec.ofInt n a &&& ~~~(BitVec.ofInt n b)).toNat:Int)
abbrev lP (a b:ByteArray):Bool:=a.toList == b.toList
def Ty.enc:(t:Ty)→t.T→List D
 | .st k,x=>eX (lf k) (Cp k x)
 | .arr n t,l=>(List.range n).flatMap fun i=>t.enc (gD l i t.z)
 | .i k,x=>[iQ (.i k) x]
 | .b,x=>[iQ .b x]
 | .s,x=>[iQ .s x]
 | .ls t,x=>[iQ (.ls t) x]
def els (t:Ty) (l:List t.T) (i:Nat):List D:=t.enc (gD l i t.z)
def kL (t' t:Ty) (l:List t'.T):Option (List t.T):=if h:t' = t then some (h ▸ l) else none
def uC:(t:Ty)→D→Option t.T
 | .i k, .lit (.int k' n)=>if k = k' then some n else none
 | .b, .lit (.bool b)=>some b
 | .s, .lit (.string s)=>some s
 | .ls t, .sl t' l=>kL t' t l
 | .ls _, .nil=>some []
 | _,_=>none
def zI:(ts:List Ty)→List D→Option (HP ts)
 | [],[]=>some ()
 | [t],[d]=>uC t d
 | t :: u :: r,d :: ds=>match uC t d,zI (u :: r) ds with
  | some x,some y=>some (x,y)
  | _,_=>none
 | _,_=>none
def rE {α:Type} (f:List D→Option α) (k:Nat):Nat→List D→Option (List α)
 | 0,ds=>bif ds.isEmpty then some [] else none
 | n+1,ds=>match f (ds.take k),rE f k n (ds.drop k) with
  | some x,some l=>some (x :: l)
  | _,_=>none
def je:(t:Ty)→List D→Option t.T
 | .st k,ds=>(zI (lf k) ds).map (Hl k)
 | .arr n t,ds=>rE (je t) t.k n ds
 | .i k,[d]=>uC (.i k) d
 | .b,[d]=>uC .b d
 | .s,[d]=>uC .s d
 | .ls t,[d]=>uC (.ls t) d
 | _,_=>none
inductive V where
  | c (d:D)
  | agg (vs:List V)
  | tup (vs:List V)
  | ptr (o k i j:Nat)
  | row (o k:Nat)
  | sub (o k off n:Nat)
  | dptr (k:Nat) (cs:List D) (j:Nat)
  | fn (f:FuncId) (caps:List V)
inductive Ob where
  | box (cs:List V)
  | row (e:TypeId) (t:Ty) (l:List t.T)
  | raw (x:Obj)
  | map (t:TypeId) (kt vt:Ty) (ks:List kt.T) (vs:List vt.T)
  | iter (m:V) (s:Int) (l:List Int)
abbrev ab:=List (Nat × Option Ob)
def ab.get:ab→Nat→Option Ob
 | [],_=>none
 | (o',b) :: r,o=>bif Nat.beq o' o then b else ab.get r o
abbrev i64 (n:Int):V:=.c (.lit (.int .i64 n))
abbrev bl (b:Bool):V:=.c (.lit (.bool b))
abbrev str (s:ByteArray):V:=.c (.lit (.string s))
def D.ofCell:Value→D
 | .slice none 0 0=>.nil
 | v=>.lit v
def V.ofValue:Value→V
 | .agg cs=>.agg (cs.toList.map fun v=>.c (D.ofCell v))
 | .tuple vs=>match vs.toList with | []=>.c .unk | _=>.c (.lit (.tuple vs))
 | v=>.c (D.ofCell v)
def V.isCell:V→Bool
 | .c .unk=>false
 | .c (.lit (.agg _))=>false
 | .c (.lit (.tuple _))=>false
 | .c (.opt ..)=>false
 | .c _=>true
 | .ptr ..=>true
 | .row ..=>true
 | .sub ..=>true
 | .fn ..=>true
 | _=>false
def V.cells:V→List V
 | .agg vs=>vs
 | v=>[v]
def V.toD:V→Option D
 | .c .unk=>none
 | .c (.lit (.agg _))=>none
 | .c (.lit (.tuple _))=>none
 | .c (.opt ..)=>none
 | .c d=>some d
 | _=>none
def encV:(t:Ty)→t.T→V
 | .st k,x=>.agg ((Ty.enc (.st k) x).map .c)
 | .arr n t,x=>.agg ((Ty.enc (.arr n t) x).map .c)
 | .i k,x=>.c (iQ (.i k) x)
 | .b,x=>.c (iQ .b x)
 | .s,x=>.c (iQ .s x)
 | .ls t,x=>.c (.sl t x)
def xE:(t:Ty)→V→Option t.T
 | .st k, .agg cs=>match cs.mapM V.toD with | some ds=>je (.st k) ds | none=>none
 | .arr n t, .agg cs=>match cs.mapM V.toD with | some ds=>je (.arr n t) ds | none=>none
 | .i k, .c d=>uC (.i k) d
 | .b, .c d=>uC .b d
 | .s, .c d=>uC .s d
 | .ls t, .c d=>uC (.ls t) d
 | _,_=>none
def MB (o:Nat):V:=.fn 2000000000 [.ptr o 1 0 0]
def s9:D→Value
 | .lit v=>v
 | _=>undef
def d6:(t:Ty)→t.T→Value
 | .st k,x=>.agg ((Ty.enc (.st k) x).map s9).toArray
 | t,x=>s9 ((t.enc x).headD .unk)
def Lc:List D→List D→Bool
 | [],[]=>true
 | .lit (.int _ a) :: r, .lit (.int _ b) :: r'=>ak a b&&Lc r r'
 | _,_=>false
def qK:(t:Ty)→t.T→t.T→Bool
 | .i _,a,b=>ak a b
 | .st k,a,b=>Lc (Ty.enc (.st k) a) (Ty.enc (.st k) b)
 | _,_,_=>false
def tq (s:SK):Bool:=match lf s with | [.i .i64, .i .i64]=>true | _=>false
def Dz:(t:Ty)→V→Option t.T
 | .i k, .c (.lit (.int k' n))=>if k = k' then some n else none
 | .st k,v=>xE (.st k) v
 | _,_=>none
def be (t:Ty):List t.T→t.T→Nat
 | [],_=>0
 | x :: r,k=>bif qK t x k then 0 else be t r k+1
def dS (t:Ty) (ks:List t.T) (k:t.T):Bool:=Nat.blt (be t ks k) ks.length
def k5 (t:Ty) {T:Type} (ks:List t.T) (vs:List T) (k:t.T) (z:T):T:=vs.getD (be t ks k) z
def fY (t:Ty) (ks:List t.T) (k:t.T):List t.T:=bif dS t ks k then ks else ks++[k]
def ji (t:Ty) {T:Type} (ks:List t.T) (vs:List T) (k:t.T) (v:T):List T:=bif dS t ks k then vs.set (be t ks k) v else vs++[v]
def kS (H:ab):V→Option (Nat × Ob)
 | .fn f [.ptr o _ _ _]=>bif Nat.beq f 2000000000 then (match H.get o with | some b=>some (o,b) | none=>none) else none
 | _=>none
def pP (H:ab) (o k:Nat):V :=
 match H.get o with
 | some (.row _ t l)=>bif Nat.beq t.k k then .c (.sl t l) else .c .unk
 | _=>.c .unk
def aj {T:Type} (l:List T) (off n:Nat):List T:=(l.drop off).take n
def pH (H:ab) (o k off n:Nat):V :=
 match H.get o with
 | some (.row _ t l)=>bif Nat.beq t.k k then .c (.sl t (aj l off n)) else .c .unk
 | _=>.c .unk
def ng (H:ab):V→D
 | .c d=>d
 | .row o k=>match pP H o k with | .c d=>d | _=>.unk
 | .sub o k off n=>match pH H o k off n with | .c d=>d | _=>.unk
 | _=>.unk
def Ea (H:ab) (o k i j:Nat):V :=
 match H.get o with
 | some (.row _ t l)=>bif Nat.beq t.k k then .dptr k (els t l i) j else .c .unk
 | some (.box cs)=>bif Nat.beq cs.length k then .dptr k (cs.map (ng H)) j else .c .unk
 | some (.raw _)=>.c .unk
 | some (.iter ..)=>.c .unk
 | some (.map ..)=>.c .unk
 | none=>.c .unk
def bg (l:List Int):ByteArray:=⟨(l.map fun x=>UInt8.ofNat x.toNat).toArray⟩
def gV (s:ByteArray) (pos:Nat):Int:=(Utf8.decode s pos).1
def wF (s:ByteArray) (pos:Nat):Nat:=(Utf8.decode s pos).2
def l3 (s:ByteArray) (pos:Nat):Nat:=bif Nat.blt pos s.size then pos+wF s pos else pos
mutual
def V.view (H:ab):V→V
 | .c d=>.c d
 | .agg vs=>.agg (V.views H vs)
 | .tup vs=>.tup (V.views H vs)
 | .ptr o k i j=>Ea H o k i j
 | .row o k=>pP H o k
 | .sub o k off n=>pH H o k off n
 | .dptr k cs j=>.dptr k cs j
 | .fn f caps=>.fn f (V.views H caps)
def V.views (H:ab):List V→List V
 | []=>[]
 | v :: r=>V.view H v :: V.views H r
end
mutual
def V.refs:V→List Nat
 | .c _=>[]
 | .agg vs=>V.refss vs
 | .tup vs=>V.refss vs
 | .ptr o _ _ _=>[o]
 | .row o _=>[o]
 | .sub o _ _ _=>[o]
 | .dptr ..=>[]
 | .fn _ caps=>V.refss caps
def V.refss:List V→List Nat
 | []=>[]
 | v :: r=>V.refs v++V.refss r
end
mutual
def V.kill (o:Nat):V→V
 | .c d=>.c d
 | .agg vs=>.agg (V.kills o vs)
 | .tup vs=>.tup (V.kills o vs)
 | .ptr o' k i j=>bif Nat.beq o' o then .c .unk else .ptr o' k i j
 | .row o' k=>bif Nat.beq o' o then .c .unk else .row o' k
 | .sub o' k off n=>bif Nat.beq o' o then .c .unk else .sub o' k off n
 | .dptr k cs j=>.dptr k cs j
 | .fn f caps=>.fn f (V.kills o caps)
def V.kills (o:Nat):List V→List V
 | []=>[]
 | v :: r=>V.kill o v :: V.kills o r
end
inductive gW where
  | data (v:V)
  | new (v:V)
  | own (fresh:Bool) (e:TypeId) (t:Ty) (l:List t.T)
abbrev G1:=List V→Option (Bool × gW)
inductive en:List Prop→Type
  | nil:en []
  | cons {p:Prop} {ps:List Prop} (d:Decidable p) (r:en ps):en (p :: ps)
attribute [class] en
instance:en []:=.nil
instance {p:Prop} {ps:List Prop} [d:Decidable p] [r:en ps]:en (p :: ps):=.cons d r
structure aB where
  pre:List Prop:=[]
  dec:en pre:=by infer_instance
  val:V
  eff:ab:=[]
  kill:List Nat:=[]
inductive CC where
  | pure (c:G1)
  | mut (m:ab→Nat→List V→Option aB)
def aO (H:ab) (vs:List V):List Nat :=
 V.refss vs++(V.refss vs).flatMap fun o=>match H.get o with | some (.box cs)=>V.refss cs | some (.iter m _ _)=>V.refs m | _=>[]
def bu:List Nat→ab→ab
 | [],_=>[]
 | o :: r,H=>match ab.get H o with | some b=>(o,some b) :: bu r H | none=>bu r H
def IA:Option Ob→Bool
 | some (.row ..)=>true
 | _=>false
mutual
def V.noUnk:V→Bool
 | .c .unk=>false
 | .c _=>true
 | .agg vs=>V.noUnks vs
 | .tup vs=>V.noUnks vs
 | .ptr ..=>true
 | .row ..=>true
 | .sub ..=>true
 | .dptr ..=>true
 | .fn _ vs=>V.noUnks vs
def V.noUnks:List V→Bool
 | []=>true
 | v :: r=>V.noUnk v&&V.noUnks r
end
def Dv:Option Ob→Bool
 | some (.row ..)=>true
 | some (.raw _)=>true
 | some (.map ..)=>true
 | some (.box cs)=>V.noUnks cs
 | some (.iter m _ _)=>V.noUnk m
 | none=>false
def mR:Option Ob→List Nat
 | some (.box cs)=>V.refss cs
 | some (.iter m _ _)=>V.refs m
 | _=>[]
def lE (H:ab) (vs:List V):Bool × List Nat:=((aO H vs).all fun o=>Dv (H.get o),(aO H vs).flatMap fun o=>mR (H.get o))
def wE (H:ab):List Nat:=H.flatMap fun x=>mR x.2
section
variable (P:Program)
def sz (t:TypeId):Nat:=match P.underlying t,P.info? t with | some _,some i=>i.size | _,_=>0
def oC (t:TypeId):Nat:=match P.info? t with | some i=>i.bytes | none=>0
def ee (t:TypeId):Bool:=match P.underlying t with | some (.struct _)=>true | some (.array _ _)=>true | _=>false
def dJ (t:TypeId):Bool:=ee P t||Nat.blt 0 (sz P t)
def ny (t:TypeId):Option V:=match P.info? t with | some i=>(match i.zero with | some (.tuple _)=>none | some v=>some (V.ofValue v) | none=>none) | none=>none
def eU (t:TypeId):Bool:=match P.underlying t with | some _=>true | none=>false
def IE:List (Nat × SK)→Nat→Option SK
 | [],_=>none
 | (i,k) :: r,t=>bif Nat.beq i t then some k else IE r t
def ME:Nat→TypeId→Option Ty
 | 0,_=>none
 | d+1,t=>match P.underlying t with
  | some (.int k)=>some (.i k)
  | some .bool=>some .b
  | some .string=>some .s
  | some (.slice e)=>(ME d e).map .ls
  | some (.struct _)=>(IE LO t).map .st
  | some (.array n e)=>(ME d e).map (.arr n)
  | _=>none
def B8 (t:TypeId):Option Ty:=match ME P 9 t with | some ty=>bif Nat.beq ty.k (sz P t) then some ty else none | none=>none
def j7 (ag:Bool) (cs:List V) (j n:Nat):V :=
 bif ag then .agg ((cs.drop j).take n) else (cs.drop j).headD (.c .unk)
def DC (ag:Bool) (cs:List D) (j n:Nat):V :=
 bif ag then .agg ((List.range n).map fun q=>.c (cs.getD (j+q) .unk)) else .c (cs.getD j .unk)
def setL {α:Type}:List α→Nat→List α→List α
 | cs,_,[]=>cs
 | cs,off,x :: r=>setL (cs.set off x) (off+1) r
def mi (H:ab) (t:TypeId) (a:V):Option aB :=
 match a with
 | .ptr o k i j =>
  match H.get o with
  | some (.box cs)=>bif Nat.beq cs.length k&&Nat.ble (j+sz P t) k&&dJ P t then some { val:=j7 (ee P t) cs j (sz P t) } else none
  | some (.row _ ty l) =>
   bif Nat.beq ty.k k&&Nat.ble (j+sz P t) k&&dJ P t then some { val:=DC (ee P t) (els ty l i) j (sz P t) }
   else bif Nat.beq ty.k k&&Nat.beq i 0&&Nat.beq j 0&&ee P t&&Nat.blt 0 k then
    some { pre:=[l.length*k = sz P t],val:=.agg ((List.range (sz P t / k)).flatMap fun i=>(List.range k).map fun q=>.c ((els ty l i).getD q .unk)) }
   else none
  | some (.raw _)=>none
  | some (.iter ..)=>none
  | some (.map ..)=>none
  | none=>none
 | .dptr k cs j=>bif Nat.ble (j+sz P t) k&&dJ P t then some { val:=DC (ee P t) cs j (sz P t) } else none
 | _=>none
def nV (H:ab) (t:TypeId) (a x:V):Option aB :=
 bif Nat.beq x.cells.length (sz P t)&&x.cells.all V.isCell&&eU P t then
  match a with
  | .ptr o k i j =>
   match H.get o with
   | some (.box cs)=>bif Nat.beq cs.length k&&Nat.ble (j+sz P t) k then some { val:=.c .unk,eff:=[(o,some (.box (setL cs j x.cells)))] } else none
   | some (.row e ty l) =>
    match x.cells.mapM V.toD with
    | some ds=>bif Nat.beq ty.k k&&Nat.ble (j+sz P t) k then
      (match je ty (setL (els ty l i) j ds) with | some y=>some { val:=.c .unk,eff:=[(o,some (.row e ty (l.set i y)))] } | none=>none)
     else bif Nat.beq ty.k k&&Nat.beq i 0&&Nat.beq j 0&&Nat.blt 0 k then
      (match rE (je ty) k (sz P t / k) ds with | some l'=>some { pre:=[l.length*k = sz P t],val:=.c .unk,eff:=[(o,some (.row e ty l'))] } | none=>none) else none
    | none=>none
   | some (.raw _)=>none
   | some (.iter ..)=>none
   | some (.map ..)=>none
   | none=>none
  | _=>none
 else none
def tk (t:TypeId) (f:Nat):Option (Nat × TypeId) :=
 match P.underlying t with
 | some (.struct fs)=>(match fs[f]? with | some fl=>some (fl.offset,fl.type) | none=>none)
 | _=>none
def FU (op:BinOp) (k:IntKind) (a b:Int):Option aB :=
 match op with
 | .add=>some { val:=.c (.lit (.int k (k.wrap (a+b)))) }
 | .sub=>some { val:=.c (.lit (.int k (k.wrap (a - b)))) }
 | .mul=>some { val:=.c (.lit (.int k (k.wrap (a*b)))) }
 | .quo=>some { pre:=[b≠0],val:=.c (.lit (.int k (k.wrap (a.tdiv b)))) }
 | .rem=>some { pre:=[b≠0],val:=.c (.lit (.int k (a.tmod b))) }
 | .and=>some { val:=.c (.lit (.int k (k.wrap (Ba k.bits a b)))) }
 | .or=>some { val:=.c (.lit (.int k (k.wrap (p9 k.bits a b)))) }
 | .xor=>some { val:=.c (.lit (.int k (k.wrap (jl k.bits a b)))) }
 | .andNot=>some { val:=.c (.lit (.int k (k.wrap (He k.bits a b)))) }
 | .eql=>some { val:=bl (ak a b) }
 | .neq=>some { val:=bl (aT a b) }
 | .lss=>some { val:=bl (aa (a < b)) }
 | .leq=>some { val:=bl (aa (a≤b)) }
 | .gtr=>some { val:=bl (aa (b < a)) }
 | .geq=>some { val:=bl (aa (b≤a)) }
 | _=>none
def tK (op:BinOp) (k:IntKind) (a y:Int):Option aB :=
 match op with
 | .shl=>some { pre:=[0≤y],val:=.c (.lit (.int k (k.wrap (a*p2 y k.bits)))) }
 | .shr=>some { pre:=[0≤y],val:=.c (.lit (.int k (a.fdiv (p2 y k.bits)))) }
 | _=>none
def DW (op:BinOp) (x y:ByteArray):Option aB :=
 match op with
 | .add=>some { pre:=[x.size+y.size≤9223372036854775807],val:=str (x++y) }
 | .eql=>some { val:=bl (lP x y) }
 | .neq=>some { val:=bl (!(lP x y)) }
 | .lss=>some { val:=bl (Op.bytesLess x.toList y.toList) }
 | .leq=>some { val:=bl (Op.bytesLess x.toList y.toList||lP x y) }
 | .gtr=>some { val:=bl (!(Op.bytesLess x.toList y.toList||lP x y)) }
 | .geq=>some { val:=bl (!(Op.bytesLess x.toList y.toList)) }
 | _=>none
def zM:Nat→TypeId→V→V→Option Bool
 | 0,_,_,_=>none
 | d+1,t,x,y =>
  match P.underlying t,x,y with
  | some (.int _), .c (.lit (.int k a)), .c (.lit (.int k' b))=>if k = k' then some (ak a b) else none
  | some .bool, .c (.lit (.bool a)), .c (.lit (.bool b))=>some (MJ a b)
  | some .string, .c (.lit (.string a)), .c (.lit (.string b))=>some (lP a b)
  | some (.struct fs), .agg xs, .agg ys =>
   bif P.stoodInHeld t then none else
   fs.toList.foldr (fun f acc=>bif f.name == "_" then none else
    bif Nat.ble (f.offset+sz P f.type) xs.length&&Nat.ble (f.offset+sz P f.type) ys.length&&dJ P f.type then
    match zM d f.type (j7 (ee P f.type) xs f.offset (sz P f.type)) (j7 (ee P f.type) ys f.offset (sz P f.type)),acc with
    | some a,some b=>some (a&&b)
    | _,_=>none
    else none) (some true)
  | some (.array len e), .agg xs, .agg ys =>
   bif Nat.ble (len*sz P e) xs.length&&Nat.ble (len*sz P e) ys.length&&dJ P e then
   (List.range len).foldr (fun i acc =>
    match zM d e (j7 (ee P e) xs (i*sz P e) (sz P e)) (j7 (ee P e) ys (i*sz P e) (sz P e)),acc with
    | some a,some b=>some (a&&b)
    | _,_=>none) (some true)
   else none
  | _,_,_=>none
def Lo (op:BinOp) (t:TypeId) (x y:V):Option aB :=
 match x,y with
 | .c (.lit (.int k a)), .c (.lit (.int k' b)) =>
  match op with
  | .shl=>tK op k a b
  | .shr=>tK op k a b
  | op=>if k = k' then FU op k a b else none
 | .c (.lit (.string a)), .c (.lit (.string b))=>DW op a b
 | .c (.lit (.bool a)), .c (.lit (.bool b)) =>
  match P.underlying t,op with
  | some .bool, .eql=>some { val:=bl (MJ a b) }
  | some .bool, .neq=>some { val:=bl (!(MJ a b)) }
  | _,_=>none
 | .agg xs, .agg ys =>
  bif P.eqGuardType P.depth t then none else
  match op,zM P 10 t (.agg xs) (.agg ys) with
  | .eql,some b=>some { val:=bl b }
  | .neq,some b=>some { val:=bl (!b) }
  | _,_=>none
 | .ptr .., .c (.lit (.pointer none)) =>
  match P.underlying t,op with
  | some (.pointer _), .eql=>some { val:=bl false }
  | some (.pointer _), .neq=>some { val:=bl true }
  | _,_=>none
 | _,_=>none
def M4 (op:UnOp) (x:V):Option aB :=
 match op,x with
 | .neg, .c (.lit (.int k n))=>some { val:=.c (.lit (.int k (k.wrap (0 - n)))) }
 | .xor, .c (.lit (.int k n))=>some { val:=.c (.lit (.int k (k.wrap (jl k.bits (if k.signed then -1 else k.max) n)))) }
 | .not, .c (.lit (.bool b))=>some { val:=bl (!b) }
 | _,_=>none
def HJ (src dst:TypeId) (x:V):Option aB :=
 match P.underlying src,P.underlying dst,x with
 | some (.int _),some (.int k), .c (.lit (.int _ n))=>some { val:=.c (.lit (.int k (k.wrap n))) }
 | some .string,some .string, .c (.lit (.string s))=>some { val:=str s }
 | _,_,_=>none
def bN (H:ab) (t:Ty):V→Option (List t.T)
 | .c .nil=>some []
 | .c (.sl t' l)=>kL t' t l
 | .row o k=>match H.get o with | some (.row _ t' l)=>bif Nat.beq t'.k k then kL t' t l else none | _=>none
 | .sub o k off n=>match H.get o with | some (.row _ t' l)=>bif Nat.beq t'.k k then (kL t' t l).map fun l=>aj l off n else none | _=>none
 | _=>none
def zq (H:ab) (x:V):Option aB:=(bN H (.i .u8) x).map fun l=>{ val:=str (bg l) }
def tj (H:ab) (t:TypeId) (x:V):Option aB :=
 match P.underlying t,x with
 | some (.slice _), .c .nil=>some { val:=i64 0 }
 | some (.slice _), .c (.sl _ l)=>some { val:=i64 l.length }
 | some (.slice _), .row o _=>(match H.get o with | some (.row _ _ l)=>some { val:=i64 l.length } | _=>none)
 | some (.slice _), .sub _ _ _ n=>some { val:=i64 n }
 | some .string, .c (.lit (.string s))=>some { val:=i64 s.size }
 | some (.map _ _),x=>(match kS H x with | some (_, .map _ _ _ ks _)=>some { val:=i64 ks.length } | _=>none)
 | _,_=>none
def Bm (m x:V):Option V :=
 match m,x with | .c (.lit (.int k a)), .c (.lit (.int _ b))=>some (V.c (.lit (.int k (bif aa (b < a) then b else a)))) | _,_=>none
def BO (m x:V):Option V :=
 match m,x with | .c (.lit (.int k a)), .c (.lit (.int _ b))=>some (V.c (.lit (.int k (bif aa (a < b) then b else a)))) | _,_=>none
def Hz:List V→Option V
 | []=>none
 | x :: r=>r.foldlM Bm x
def IM:List V→Option V
 | []=>none
 | x :: r=>r.foldlM BO x
def nu (t:TypeId):Option (List D):=match ny P t with | some v=>v.cells.mapM V.toD | none=>none
def G4 (e:TypeId):Bool:=match nu P e with | some z=>Nat.beq z.length (sz P e) | none=>false
def lu (H:ab) (nid:Nat) (t:TypeId) (s x:V):Option aB :=
 match P.underlying t with
 | some (.slice e) =>
  match s with
  | .c .nil=>match B8 P e with
   | some ty=>match bN H ty x with
    | some l2=>bif Nat.blt 0 ty.k&&eU P e&&G4 P e then some { pre:=[l2.length*oC P e≤140737488355328,l2.length≤140737488355328],val:=.row nid ty.k,eff:=[(nid,some (.row e ty l2))] } else none
    | none=>none
   | none=>none
  | .row o k =>
   match H.get o with
   | some (.row e' ty l)=>match bN H ty x with
    | some l2=>bif Nat.beq e' e&&Nat.beq ty.k k&&Nat.beq k (sz P e)&&Nat.blt 0 k&&G4 P e then
      some { pre:=[(l.length+l2.length)*oC P e≤140737488355328,l.length+l2.length≤140737488355328],val:=.row o k,eff:=[(o,some (.row e ty (l++l2)))],kill:=[o] } else none
    | none=>none
   | _=>none
  | _=>none
 | _=>none
def pw (dX:Nat→Option (Nat × Nat)) (cs:List V) (p:Nat × V):Option (List V) :=
 match dX p.1 with
 | some (off,size)=>bif Nat.beq p.2.cells.length size&&p.2.cells.all V.isCell&&Nat.ble (off+size) cs.length then some (setL cs off p.2.cells) else none
 | none=>none
def sa (fs:Array Field) (i:Nat):Option (Nat × Nat):=match fs[i]? with | some f=>some (f.offset,sz P f.type) | none=>none
def Em (t:TypeId) (parts:List (Nat × V)):Option aB :=
 match P.underlying t,ny P t with
 | some (.struct fs),some z=>bif fs.toList.all (fun f=>eU P f.type) then (match parts.foldlM (pw (sa P fs)) z.cells with | some cs=>some { val:=.agg cs } | none=>none) else none
 | some (.array _ e),some z=>bif eU P e then (match parts.foldlM (pw fun i=>some (i*sz P e,sz P e)) z.cells with | some cs=>some { val:=.agg cs } | none=>none) else none
 | _,_=>none
def qZ (z:List V) (k n:Nat):List V:=(List.range (n*k)).map fun q=>z.getD (q % k) (.c .unk)
def rO (nid:Nat) (t:TypeId) (len:Nat) (parts:List (Nat × V)):Option aB :=
 match P.underlying t with
 | some (.slice e) =>
  match ny P e,B8 P e with
  | some z,some ty =>
   bif Nat.beq z.cells.length (sz P e)&&Nat.blt 0 (sz P e)&&Nat.ble (len*sz P e) 16777216&&eU P e then
   match parts.foldlM (pw fun i=>some (i*sz P e,sz P e)) (qZ z.cells (sz P e) len) with
   | some cs=>match cs.mapM V.toD with
    | some ds=>match rE (je ty) (sz P e) len ds with
     | some l=>some { val:=.row nid (sz P e),eff:=[(nid,some (.row e ty l))] }
     | none=>none
    | none=>none
   | none=>none
   else none
  | _,_=>none
 | _=>none
def kz (o:Nat):Option Ob→Option Ob
 | some (.box cs)=>some (.box (V.kills o cs))
 | some (.iter m s l)=>some (.iter (V.kill o m) s l)
 | b=>b
def dt (os:List Nat) (H:ab):ab :=
 match os with
 | []=>H
 | o :: r=>dt r (H.map fun x=>(x.1,kz o x.2))
mutual
def V.noP:V→Bool
 | .agg vs=>V.noPs vs
 | .tup vs=>V.noPs vs
 | .ptr ..=>false
 | .fn _ vs=>V.noPs vs
 | _=>true
def V.noPs:List V→Bool
 | []=>true
 | v :: r=>V.noP v&&V.noPs r
end
mutual
def V.fz (o:Nat) (t:Ty) (l:List t.T):V→V
 | .c d=>.c d
 | .agg vs=>.agg (V.fzs o t l vs)
 | .tup vs=>.tup (V.fzs o t l vs)
 | .ptr o' k i j=>bif Nat.beq o' o then .c .unk else .ptr o' k i j
 | .row o' k=>bif Nat.beq o' o then (bif Nat.beq t.k k then .c (.sl t l) else .c .unk) else .row o' k
 | .sub o' k off n=>bif Nat.beq o' o then (bif Nat.beq t.k k then .c (.sl t (aj l off n)) else .c .unk) else .sub o' k off n
 | .dptr k cs j=>.dptr k cs j
 | .fn f vs=>.fn f (V.fzs o t l vs)
def V.fzs (o:Nat) (t:Ty) (l:List t.T):List V→List V
 | []=>[]
 | v :: r=>V.fz o t l v :: V.fzs o t l r
end
def iF (f:ab→List V→Option aB):List Nat→ab→List V→Option aB
 | [],H,vs=>f H vs
 | o :: fl,H,vs=>match H.get o with
  | some (.row e t l)=>(iF f fl ((o,some (.row e t [])) :: dt [o] H) (V.fzs o t l vs)).map fun r=>{ r with eff:=r.eff++[(o,some (.row e t []))],kill:=o :: r.kill }
  | _=>none
def JA (nid:Nat) (t:TypeId) (len:Nat) (ps:List Nat) (H:ab) (vs:List V):Option aB:=iF (fun _ vs=>rO P nid t len (ps.zip vs)) (V.refss vs) H vs
def sM (t:TypeId) (H:ab):List V→Option aB
 | [a,x]=>nV P H t a x
 | _=>none
def sj (H:ab) (t:TypeId) (a x:V):Option aB :=
 match a with
 | .ptr o _ _ _=>match H.get o with
  | some (.row _ _ _)=>iF (sM P t) (V.refs x) H [a,x]
  | _=>nV P H t a x
 | _=>nV P H t a x
def tg (nid:Nat) (t:TypeId) (l c:V):Option aB :=
 match P.underlying t,l,c with
 | some (.slice e), .c (.lit (.int .i64 a)), .c (.lit (.int .i64 b)) =>
  match nu P e,B8 P e with
  | some z,some ty=>match je ty z with
   | some x=>bif Nat.beq z.length (sz P e)&&Nat.blt 0 (sz P e)&&Nat.blt 0 (oC P e)&&eU P e then some { pre:=[0≤a,a≤b,b*oC P e≤140737488355328],val:=.row nid (sz P e),eff:=[(nid,some (.row e ty (List.replicate a.toNat x)))] } else none
   | none=>none
  | _,_=>none
 | _,_,_=>none
def Ar:V→Option (Int)
 | .c (.lit (.int _ n))=>some n
 | _=>none
def Ht:Option V→Option Int
 | none=>some 0
 | some v=>Ar v
def Hj (n:Int):Option V→Option Int
 | none=>some n
 | some v=>Ar v
def lY (H:ab) (t:TypeId) (x:V) (lo hi:Option V):Option aB :=
 match P.underlying t,x with
 | some (.slice e), .c .nil=>match P.underlying e,Ht lo,Hj 0 hi with | some _,some l,some h=>some { pre:=[l = 0,h = 0],val:=.c .nil } | _,_,_=>none
 | some (.slice e), .c (.sl ty xs)=>bif Nat.beq (sz P e) ty.k then (match P.underlying e,Ht lo,Hj xs.length hi with | some _,some l,some h=>some { pre:=[0≤l,l≤h,h≤xs.length],val:=.c (.sl ty (aj xs l.toNat (h - l).toNat)) } | _,_,_=>none) else none
 | some (.slice e), .row o k=>(match H.get o with
  | some (.row _ _ xs)=>bif Nat.beq (sz P e) k then (match P.underlying e,Ht lo,Hj xs.length hi with | some _,some l,some h=>some { pre:=[0≤l,l≤h,h≤xs.length],val:=.sub o k l.toNat (h - l).toNat } | _,_,_=>none) else none
  | _=>none)
 | some (.slice e), .sub o k off n=>bif Nat.beq (sz P e) k then (match P.underlying e,Ht lo,Hj n hi with | some _,some l,some h=>some { pre:=[0≤l,l≤h,h≤n],val:=.sub o k (off+l.toNat) (h - l).toNat } | _,_,_=>none) else none
 | some .string, .c (.lit (.string s))=>match Ht lo,Hj s.size hi with | some l,some h=>some { pre:=[0≤l,l≤h,h≤s.size],val:=str (s.extract l.toNat h.toNat) } | _,_=>none
 | _,_=>none
def j5 (H:ab) (t:TypeId) (x ix:V):Option aB :=
 match P.underlying t,x,ix with
 | some (.slice e), .c (.sl ty l), .c (.lit (.int _ i))=>bif Nat.beq (sz P e) ty.k then (match P.underlying e with | some _=>some { pre:=[0≤i,i < l.length],val:=.dptr ty.k (els ty l i.toNat) 0 } | none=>none) else none
 | some (.slice e), .c .nil, .c (.lit (.int _ _))=>some { pre:=[False],val:=.dptr (sz P e) (match nu P e with | some z=>z | none=>[]) 0 }
 | some (.slice e), .row o k, .c (.lit (.int _ i))=>(match H.get o with
  | some (.row _ _ l)=>bif Nat.beq (sz P e) k then (match P.underlying e with | some _=>some { pre:=[0≤i,i < l.length],val:=.ptr o k i.toNat 0 } | none=>none) else none
  | _=>none)
 | some (.slice e), .sub o k off n, .c (.lit (.int _ i))=>bif Nat.beq (sz P e) k then (match P.underlying e with | some _=>some { pre:=[0≤i,i < n],val:=.ptr o k (off+i.toNat) 0 } | none=>none) else none
 | some (.array len e), .ptr o k q j, .c (.lit (.int _ i)) =>
  (match H.get o with
  | some (.row _ ty l)=>bif Nat.beq q 0&&Nat.beq j 0&&Nat.beq ty.k k&&Nat.beq k (sz P e) then (match P.underlying e with | some _=>some { pre:=[l.length = len,0≤i,i < len],val:=.ptr o k i.toNat 0 } | none=>none) else none
  | some (.box _)=>(match P.underlying e with | some _=>some { pre:=[0≤i,i < len],val:=.ptr o k q (j+i.toNat*sz P e) } | none=>none)
  | some (.raw _)=>none
  | some (.iter ..)=>none
  | some (.map ..)=>none
  | none=>none)
 | some (.array len e), .dptr k cs j, .c (.lit (.int _ i))=>(match P.underlying e with | some _=>some { pre:=[0≤i,i < len],val:=.dptr k cs (j+i.toNat*sz P e) } | none=>none)
 | _,_,_=>none
def Eu (t:TypeId) (x ix:V):Option aB :=
 match P.underlying t,x,ix with
 | some .string, .c (.lit (.string s)), .c (.lit (.int _ i))=>some { pre:=[0≤i,i < s.size],val:=.c (.lit (.int .u8 (s.data.getD i.toNat 0).toNat)) }
 | some (.array len e), .agg cs, .c (.lit (.int _ i))=>bif Nat.ble (len*sz P e) cs.length&&dJ P e then some { pre:=[0≤i,i < len],val:=j7 (ee P e) cs (i.toNat*sz P e) (sz P e) } else none
 | _,_,_=>none
def nY (nid:Nat) (t:TypeId) (v:V):Option aB :=
 bif v.cells.all V.isCell&&Nat.beq v.cells.length (sz P t) then
  match P.underlying t,v.cells.mapM V.toD with
  | some (.array len e),some ds =>
   bif Nat.beq (len*sz P e) (sz P t)&&Nat.blt 0 (sz P e)&&Nat.blt 0 len&&Nat.ble len 1000000 then
    match B8 P e with
    | some ty=>match rE (je ty) (sz P e) len ds with
     | some l=>some { val:=.ptr nid (sz P e) 0 0,eff:=[(nid,some (.row t ty l))] }
     | none=>none
    | none=>none
   else none
  | _,_=>some { val:=.ptr nid v.cells.length 0 0,eff:=[(nid,some (.box v.cells))] }
 else none
variable (C:FuncId→Option CC)
def fe (vs:List V):Bool:=match V.refss vs with | []=>false | _=>true
mutual
def V.scalar:V→Bool
 | .c (.lit (.int _ _))=>true
 | .c (.lit (.bool _))=>true
 | .c (.lit (.string _))=>true
 | .c .nil=>true
 | .c .unk=>true
 | .c .any=>true
 | .agg vs=>V.scalars vs
 | .tup vs=>V.scalars vs
 | _=>false
def V.scalars:List V→Bool
 | []=>true
 | v :: r=>V.scalar v&&V.scalars r
end
def gP (H:ab) (nid:Nat) (f:FuncId) (args:List V):Option aB :=
 match C f with
 | none=>none
 | some (.mut m)=>m (bu (aO H args) H) nid args
 | some (.pure con)=>match con (V.views H args) with
  | none=>none
  | some (b, .data v)=>bif (!fe args)||v.scalar then some { pre:=[b = true],val:=v } else none
  | some (b, .new v)=>some { pre:=[b = true],val:=v }
  | some (b, .own fr e t l)=>bif (!fe args)||fr then some { pre:=[b = true],val:=.row nid t.k,eff:=[(nid,some (.row e t l))] } else none
def o7 (f:FuncId) (nid:Nat) (H:ab) (args:List V):Option aB :=
 bif V.noPs args then match C f with | some (.pure _)=>gP C H nid f args | _=>none else none
def no (H:ab) (nid:Nat) (f:FuncId) (args:List V):Option aB :=
 match gP C H nid f args with
 | some r=>some r
 | none=>iF (o7 C f nid) (V.refss args) H args
def oh (x:V):Option aB:=match x with | .ptr ..=>some { val:=x } | .dptr ..=>some { val:=x } | .fn f _=>bif Nat.blt f 1000000000 then some { val:=x } else none | _=>none
def tU (t:TypeId) (f:Nat) (a:V):Option aB :=
 match tk P t f with
 | some (off,ft)=>bif Nat.beq (sz P ft) 0 then none else (match a with | .ptr o k i j=>some { val:=.ptr o k i (j+off) } | .dptr k cs j=>some { val:=.dptr k cs (j+off) } | _=>none)
 | none=>none
def EH (t:TypeId) (f:Nat) (x:V):Option aB :=
 match x,tk P t f with
 | .agg cs,some (off,ft)=>bif Nat.ble (off+sz P ft) cs.length&&dJ P ft then some { val:=j7 (ee P ft) cs off (sz P ft) } else none
 | _,_=>none
def yf (ix:Nat) (x:V):Option aB :=
 match x with
 | .tup vs=>match vs[ix]? with | some v=>some { val:=v } | none=>none
 | .c (.opt b us)=>(match ix with
  | 0=>some { val:=bl b }
  | i+1=>match us[i]? with | some v=>some { pre:=[b = true],val:=.c (.lit v) } | none=>none)
 | _=>none
def Ef (nid:Nat) (t:TypeId) (x:V):Option aB :=
 match P.underlying t,x with
 | some .string, .c (.lit (.string s))=>some { val:=.ptr nid 1 0 0,eff:=[(nid,some (.raw (.stringIter s 0)))] }
 | _,_=>none
def sw (H:ab) (nid:Nat) (t:TypeId) (x:V):Option aB :=
 match P.underlying t with
 | some (.map _ _)=>(match kS H x with
  | some (_, .map _ _ _ ks _)=>some { val:=.ptr nid 1 0 0,eff:=[(nid,some (.iter x ks.length []))] }
  | _=>none)
 | _=>none
def M5:Ty→Bool
 | .i _=>true
 | .b=>true
 | .s=>true
 | _=>false
def Ty.key:Ty→Bool
 | .st k=>(lf k).all M5
 | .i _=>true
 | .b=>true
 | .s=>true
 | _=>false
def se (H:ab) (x:V):Option aB :=
 match x with
 | .ptr o k i j=>match H.get o with
  | some (.iter m s l)=>bif Nat.beq (i*k+j) 0 then (match kS H m,l with
   | some (_, .map _ kt vt ks vs),p :: _=>bif kt.key then some { pre:=[ak ks.length s = true,0≤p,p.toNat < ks.length],val:=.tup [encV kt (gD ks p.toNat kt.z),encV vt (gD vs p.toNat vt.z)] } else none
   | _,_=>none) else none
  | _=>none
 | _=>none
def wD (H:ab) (x:V):Option aB :=
 match x with
 | .ptr o k i j=>match H.get o with
  | some (.raw (.stringIter s pos))=>bif Nat.beq (i*k+j) 0 then
    some { val:=.c (.opt (Nat.blt pos s.size) [.int .i64 pos, .int .i32 (gV s pos)]),eff:=[(o,some (.raw (.stringIter s (l3 s pos))))] } else none
  | _=>none
 | _=>none
def vH {T:Type} (z:T) (l:List T) (off n:Nat):List T:=l.take off++(List.replicate n z++l.drop (off+n))
def nZ (H:ab) (t:TypeId) (x:V):Option aB :=
 match P.underlying t with
 | some (.slice e)=>match nu P e with
  | some z=>match x with
   | .row o k=>(match H.get o with
    | some (.row e' ty l)=>(match je ty z with
     | some y=>bif Nat.beq e' e&&Nat.beq ty.k k&&Nat.beq k (sz P e)&&Nat.beq z.length k&&Nat.blt 0 k&&eU P e then some { val:=.c .unk,eff:=[(o,some (.row e' ty (List.replicate l.length y)))] } else none
     | none=>none)
    | _=>none)
   | .sub o k off n=>(match H.get o with
    | some (.row e' ty l)=>(match je ty z with
     | some y=>bif Nat.beq e' e&&Nat.beq ty.k k&&Nat.beq k (sz P e)&&Nat.beq z.length k&&Nat.blt 0 k&&eU P e then some { pre:=[off+n≤l.length],val:=.c .unk,eff:=[(o,some (.row e' ty (vH y l off n)))] } else none
     | none=>none)
    | _=>none)
   | _=>none
  | none=>none
 | _=>none
def lR (f:Field) (off:Nat):Bool:=!(f.name == "_")&&(Nat.beq f.offset off&&(match P.underlying f.type with | some (.int .i64)=>dJ P f.type&&(!(ee P f.type)&&Nat.beq (sz P f.type) 1) | _=>false))
def jc (k:TypeId):Ty→Bool
 | .i q=>(match P.underlying k with | some (.int q')=>decide (q' = q) | _=>false)
 | .st s=>(match P.underlying k with
  | some (.struct fs)=>(match fs.toList with
   | [f,g]=>lR P f 0&&(lR P g 1&&(!(P.stoodInHeld k)&&tq s))
   | _=>false)
  | _=>false)
 | _=>false
def xR (nid:Nat) (t:TypeId):Option aB :=
 match P.underlying t with
 | some (.map k e)=>match B8 P k,B8 P e with
  | some kt,some vt=>some { val:=MB nid,eff:=[(nid,some (.map t kt vt [] []))] }
  | _,_=>none
 | _=>none
def pm (H:ab) (t:TypeId) (m k:V) (ok:Bool):Option aB :=
 match P.underlying t,kS H m with
 | some (.map kk e),some (_, .map _ kt vt ks vs)=>(match Dz kt k,ny P e with
  | some key,some z0=>(match xE vt z0 with
   | some z=>bif jc P kk kt then some { val:=bif ok then .tup [encV vt (k5 kt ks vs key z),bl (dS kt ks key)] else encV vt (k5 kt ks vs key z) } else none
   | none=>none)
  | _,_=>none)
 | _,_=>none
def tv (t:TypeId) (H:ab):List V→Option aB
 | [m,k,v]=>match P.underlying t,kS H m with
  | some (.map kk _),some (o, .map t' kt vt ks vs)=>(match Dz kt k,xE vt v with
   | some key,some x=>bif jc P kk kt then some { val:=.c .unk,eff:=[(o,some (.map t' kt vt (fY kt ks key) (ji kt ks vs key x)))] } else none
   | _,_=>none)
  | _,_=>none
 | _=>none
def IO (H:ab) (t:TypeId) (m k v:V):Option aB:=iF (tv P t) (V.refs v) H [m,k,v]
def oB (H:ab) (nid:Nat) (o:Oper) (vs:List V):Option aB :=
 match o.op,vs with
 | .move _,[x]=>some { val:=x }
 | .assign _,[x]=>some { val:=x }
 | .alloc t,[]=>match ny P t with | some z=>nY P nid t z | none=>none
 | .box t _,[x]=>nY P nid t x
 | .build t parts,vs=>Em P t ((parts.toList.map (·.1)).zip vs)
 | .buildSlice t len parts,vs=>JA P nid t len (parts.toList.map (·.1)) H vs
 | .load t _,[a]=>mi P H t a
 | .store t _ _,[a,x]=>sj P H t a x
 | .nilCheck _,[x]=>oh x
 | .binOp op t _ _ _,[x,y]=>Lo P op t x y
 | .unOp op _ _,[x]=>M4 op x
 | .convert s d _,[x]=>(match P.underlying s,P.underlying d with
  | some (.slice e),some .string=>(match P.underlying e with | some (.int .u8)=>zq H x | _=>none)
  | _,_=>HJ P s d x)
 | .fieldAddr t _ f,[a]=>tU P t f a
 | .field t _ f,[x]=>EH P t f x
 | .indexAddr t _ _,[x,i]=>j5 P H t x i
 | .index t _ _,[x,i]=>Eu P t x i
 | .slice t _ none none none,[x]=>lY P H t x none none
 | .slice t _ (some _) none none,[x,l]=>lY P H t x (some l) none
 | .slice t _ none (some _) none,[x,h]=>lY P H t x none (some h)
 | .slice t _ (some _) (some _) none,[x,l,h]=>lY P H t x (some l) (some h)
 | .makeSlice t _ _,[l,c]=>tg P nid t l c
 | .makeFunc (.func f) first _,vs=>bif first.isEmpty&&Nat.blt f 1000000000 then some { val:=.fn f vs } else none
 | .makeMap t none,[]=>xR P nid t
 | .lookup t _ _ ok,[m,k]=>pm P H t m k ok
 | .mapUpdate t _ _ _,[m,k,v]=>IO P H t m k v
 | .makeInterface t _,[x]=>(match P.underlying t with | some (.slice _)=>bif V.isCell x&&Nat.blt t 1000000000 then some { val:=.fn (1000000000+t) [x] } else none | _=>none)
 | .extract _ ix,[x]=>yf ix x
 | .range t _,[x]=>(match Ef P nid t x with | some r=>some r | none=>sw P H nid t x)
 | .next _ true,[x]=>wD H x
 | .entry _,[x]=>se H x
 | .call { callee:=.builtin .len,argTypes, .. },[x]=>(match argTypes[0]? with | some t=>tj P H t x | none=>none)
 | .call { callee:=.builtin .clear,argTypes, .. },[x]=>(match argTypes[0]? with | some t=>nZ P H t x | none=>none)
 | .call { callee:=.builtin .min, .. },vs=>(Hz vs).map fun v=>{ val:=v }
 | .call { callee:=.builtin .max, .. },vs=>(IM vs).map fun v=>{ val:=v }
 | .call { callee:=.builtin .append,argTypes, .. },[s,x]=>(match argTypes.toList with | [t,t']=>bif Nat.beq t t' then lu P H nid t s x else none | _=>none)
 | .call { callee:=.value _, .. }, .fn f caps :: vs=>bif Nat.blt f 1000000000 then no C H nid f (vs++caps) else none
 | _,_=>none
end
abbrev aL:=List (Nat × Bool)
structure az where
  ch:aL
  v:V
structure St where
  tm:List (Nat × az)
  hp:ab
  nx:Nat
def au:List (Nat × az)→Nat→Option az
 | [],_=>none
 | (t',s) :: r,t=>bif Nat.beq t' t then some s else au r t
def fo:List (Nat × az)→Nat→az→List (Nat × az)
 | [],t,s=>[(t,s)]
 | (t',s') :: r,t,s=>bif Nat.beq t' t then (t,s) :: r else bif Nat.blt t t' then (t,s) :: (t',s') :: r else (t',s') :: fo r t s
def KW (x:Nat × Bool) (ch:aL):Bool:=ch.any fun y=>Nat.beq x.1 y.1&&(x.2 == y.2)
def m9 (a b:aL):Bool:=a.all fun x=>KW x b
def bC (σ:St) (ch:aL):Operand→Option V
 | .tmp t=>bif Nat.blt t 1000000 then (match au σ.tm t with | some s=>bif m9 s.ch ch then some s.v else none | none=>none) else none
 | .const v=>some (V.ofValue v)
 | .func f=>bif Nat.blt f 1000000000 then some (.fn f []) else none
 | .global _=>none
def holds (tm:List (Nat × az)):aL→Bool
 | []=>true
 | (t,w) :: r=>(match au tm t with | some { v:=.c (.lit (.bool b)), .. }=>(bif w then b else !b) | _=>false)&&holds tm r
def ce (ops:List Oper) (tm:List (Nat × az)):Option (Nat × Bool)→Option aL
 | none=>some []
 | some (j,w)=>match ops[j]? with
  | some o=>match o.dst with
   | some t=>bif Nat.blt t 1000000 then (match au tm t with | some { ch,v:=.c (.lit (.bool _)) }=>some ((t,w) :: ch) | _=>none) else none
   | none=>none
  | none=>none
def jN (σ:St) (ch:aL) (xs:List Operand):Option (List V):=xs.mapM (bC σ ch)
def nA (c:Operand) (w:Bool) (ch:aL):aL:=match c with | .tmp t=>(t,w) :: ch | _=>ch
def m6 (σ:St) (ch:aL) (c a b:Operand):Option V :=
 match bC σ ch c with
 | some (.c (.lit (.bool x))) =>
  match bC σ (nA c true ch) a,bC σ (nA c false ch) b with
  | some (.c (.lit (.bool y))),some (.c (.lit (.bool z)))=>some (bl (bif x then y else z))
  | _,_=>none
 | _=>none
def cS:Op→List Operand
 | .call c=>(match c.callee with | .value f=>f :: c.args.toList | _=>c.args.toList)
 | op=>op.operands.toList
def Dy:Option V→Option V
 | some (.c (.lit (.bool y)))=>some (bl y)
 | _=>none
def qW (σ:St) (ch:aL) (c a b:Operand):Option V :=
 match bC σ ch c with
 | some (.c (.lit (.bool x)))=>bif x then Dy (bC σ (nA c true ch) a) else Dy (bC σ (nA c false ch) b)
 | _=>none
def wm (P:Program) (C:FuncId→Option CC) (H:ab) (nid:Nat) (ch:aL) (o:Oper) (vs:List V):Option aB :=
 match oB P C H nid o vs with
 | some r=>some r
 | none=>bif ch.isEmpty then none else some { pre:=[false = true],val:=.c .unk }
def jH (P:Program) (C:FuncId→Option CC) (σ:St) (nid:Nat) (ch:aL) (o:Oper):Option (List V × aB) :=
 match o.op with
 | .pick c a b=>match m6 σ ch c a b with
  | some v=>some ([],{ val:=v })
  | none=>(qW σ ch c a b).map fun v=>([.c .unk],{ val:=v })
 | op=>match jN σ ch (cS op) with
  | some vs=>(wm P C σ.hp nid ch o vs).map fun r=>(vs,r)
  | none=>none
def oO (os:List Nat) (tm:List (Nat × az)):List (Nat × az) :=
 match os with
 | []=>tm
 | o :: r=>oO r (tm.map fun x=>(x.1,{ ch:=x.2.ch,v:=x.2.v.kill o }))
def V.isBool:V→Bool
 | .c (.lit (.bool _))=>true
 | _=>false
def la (tm:List (Nat × az)) (ch:aL) (ps:List Prop):List Prop :=
 match ch with
 | []=>ps
 | ch=>ps.map fun p=>(holds tm ch = true→p)
def ld (d:Nat) (tm:List (Nat × az)):List (Nat × az):=tm.map fun x=>(x.1,bif x.2.ch.any (fun y=>Nat.beq y.1 d) then ⟨[], .c .unk⟩ else x.2)
def jB:List Operand→List Nat
 | []=>[]
 | .tmp t :: r=>t :: jB r
 | _ :: r=>jB r
structure bj where
  dst:Option Nat
  rds:List Nat
  ch:aL
  nid:Nat
  vs:List V
  reach:List Nat
  rws:Bool × List Nat
  res:aB
def after (σ:St) (r:bj):St :=
  let tm:=oO r.res.kill σ.tm
  { tm:=match r.dst with | some t=>fo (ld t tm) t { ch:=r.ch,v:=r.res.val } | none=>tm
    hp:=r.res.eff++dt r.res.kill σ.hp
    nx:=σ.nx }
def fQ (dst:Option Nat) (ch:aL):Bool:=match dst with | some t=>ch.all fun y=>!(Nat.beq y.1 t) | none=>true
def gg (N:Nat) (dst:Option Nat):Bool:=match dst with | some t=>Nat.blt t N | none=>true
def cP (tm:List (Nat × az)) (t:Nat):Bool:=match au tm t with | some s=>s.v.isBool | none=>false
def cU (tm:List (Nat × az)) (ch:aL) (t:Nat):Bool:=match au tm t with | some s=>s.v.isBool&&m9 s.ch ch | none=>false
def lk (o:Oper) (vs:List V):List V:=match o.op with | .move _=>[] | _=>vs
def qe (P:Program) (C:FuncId→Option CC) (N:Nat) (ops:List Oper) (σ:St) (nid:Nat) (o:Oper):Option bj :=
 bif gg N o.dst then
  match ce ops σ.tm o.guard with
  | some ch =>
   bif ch.all fun x=>cU σ.tm ch x.1 then
   match jH P C σ nid ch o with
   | some (vs,r)=>bif ch.isEmpty||fQ o.dst ch then
     some { dst:=o.dst,rds:=jB (cS o.op)++ch.map (·.1),ch,nid,vs,reach:=aO σ.hp (lk o vs),rws:=lE σ.hp (lk o vs),res:=r } else none
   | none=>none
   else none
  | none=>none
 else none
def wA (rc:bj):Bool:=rc.ch.isEmpty||(rc.res.eff.isEmpty&&rc.res.kill.isEmpty)
def mr (P:Program) (C:FuncId→Option CC) (N:Nat) (ops:List Oper) (σ:St) (nid:Nat) (o:Oper):Option bj :=
 match qe P C N ops σ nid o with
 | some rc=>bif wA rc then some rc else none
 | none=>none
def NA (P:Program) (t:TypeId):V:=match ny P t with | some v=>v | none=>.c .unk
def LL (P:Program) (o:Oper) (ch:aL) (nid:Nat):bj:={ dst:=o.dst,rds:=ch.map (·.1),ch:=ch,nid:=nid,vs:=[],reach:=[],rws:=(true,[]),res:={ val:=NA P o.type } }
def lW (tm:List (Nat × az)):List (Nat × az):=tm.map fun x=>(x.1,bif x.2.ch.isEmpty then x.2 else ⟨[], .c .unk⟩)
def AP:List Prop→Prop→Prop
 | [],k=>k
 | p :: r,k=>p∧AP r k
def nb (P:Program) (C:FuncId→Option CC) (N:Nat) (all:List Oper) (σ:St) (o:Oper) (k:St→Prop):Prop :=
 match mr P C N all σ σ.nx { o with guard:=none } with
 | some rc=>AP rc.res.pre (k { after σ rc with nx:=σ.nx+8 })
 | none=>False
def AG (o:Oper) (ch:aL) (nid:Nat):bj:={ dst:=o.dst,rds:=[],ch:=ch,nid:=nid,vs:=[],reach:=[],rws:=(true,[]),res:={ val:=bl false } }
def nf (N:Nat) (σ:St) (o:Oper) (ch:aL) (k:St→Prop):Prop :=
 bif gg N o.dst&&fQ o.dst ch then k { after σ (AG o ch σ.nx) with nx:=σ.nx+8 } else False
def qB (P:Program) (C:FuncId→Option CC) (N:Nat) (all:List Oper):List Oper→St→(St→Prop)→Prop
 | [],σ,K=>K { σ with tm:=lW σ.tm }
 | o :: r,σ,K =>
  match o.guard with
  | none=>nb P C N all σ o fun σ'=>qB P C N all r σ' K
  | some g =>
   match ce all σ.tm (some g) with
   | some ((t,w) :: ch)=>bif ((t,w) :: ch).all (fun x=>cU σ.tm ((t,w) :: ch) x.1) then
     (match au σ.tm t with
     | some ⟨c0, .c (.lit (.bool b))⟩ =>
      bif holds σ.tm ch then
       (bif b then
        (bif w then nb P C N all { σ with tm:=fo σ.tm t ⟨c0,bl true⟩ } o fun σ'=>qB P C N all r σ' K
        else nf N { σ with tm:=fo σ.tm t ⟨c0,bl true⟩ } o ((t,w) :: ch) fun σ'=>qB P C N all r σ' K)
       else
        (bif w then nf N { σ with tm:=fo σ.tm t ⟨c0,bl false⟩ } o ((t,w) :: ch) fun σ'=>qB P C N all r σ' K
        else nb P C N all { σ with tm:=fo σ.tm t ⟨c0,bl false⟩ } o fun σ'=>qB P C N all r σ' K))
      else nf N σ o ((t,w) :: ch) fun σ'=>qB P C N all r σ' K
     | _=>False) else False
   | _=>False
def Im (a b:List Nat):Bool:=a.all fun x=>!(b.any fun y=>Nat.beq x y)
def kw (d:Option Nat):List Nat:=match d with | some t=>[t] | none=>[]
def cC (H:ab):List Nat:=H.map (·.1)
def DA (a b:bj):Bool :=
 Im (kw a.dst) (b.rds++kw b.dst)&&Im (cC a.res.eff) (b.reach++cC b.res.eff) &&
 (a.res.kill.isEmpty||(b.rws.1&&Im a.res.kill (b.reach++(b.rws.2++(V.refs b.res.val++(wE b.res.eff++V.refss b.vs))))&&b.res.kill.isEmpty))
def oP (a b:bj):Bool:=DA a b&&DA b a&&V.noUnks a.vs&&V.noUnks b.vs
def Fs (acc:List Nat) (o:Oper):Nat:=o.after.toList.foldl (fun s e=>bif Region.binds .any e then s ||| (2 ^ e.on ||| acc.getD e.on 0) else s) 0
def wT:List Oper→List Nat→List Nat
 | [],acc=>acc
 | o :: r,acc=>wT r (acc++[Fs acc o])
def zL (m:Nat) (r:bj):Nat→List bj→Bool
 | _,[]=>true
 | j,q :: l=>(m.testBit j||oP q r)&&zL m r (j+1) l
def Mu (n:Nat) (o:Oper):Bool:=o.after.toList.all fun e=>!(Region.binds .any e)||Nat.blt e.on n
def mQ:Nat→List Oper→Bool
 | _,[]=>true
 | n,o :: r=>Mu n o&&mQ (n+1) r
def su (ms:List Nat):List bj→List bj→Bool
 | _,[]=>true
 | done,r :: l=>zL (ms.getD done.length 0) r 0 done&&su ms (done++[r]) l
end Go.Ax
