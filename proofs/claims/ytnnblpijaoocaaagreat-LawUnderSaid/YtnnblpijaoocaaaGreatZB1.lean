import Derived.Below
import Derived.Orders
import Derived.KernelRfl
import Derived.WalkKit
import Derived.ChangeKeysEq
import Derived.Test.YtnnblpijaoocaaaGreatZB0
set_option linter.all false
/- Abstract values, abstract heaps and an abstract interpreter for the model's code. -/
namespace Go.Ax
inductive D where
  | unk
  | nil
  | lit (v:Value)
  | sl (t:Ty) (l:List t.T)
  | opt (b:Bool) (us:List Value)
  | any
def iQ:(t:Ty)→t.T→D
  | .i k,x=>.lit (.int k x)
  | .b,x=>.lit (.bool x)
  | .s,x=>.lit (.string x)
  | .ls t,l=>.sl t l
  | .st _,_=>.unk
  | .arr _ _,_=>.unk
def ii:(ts:List Ty)→HP ts→List D
  | [],_=>[]
  | [t],x=>[iQ t x]
  | t :: u :: r,x=>iQ t x.1 :: ii (u :: r) x.2
def Ty.z:(t:Ty)→t.T
  | .i _=>(0:Int)
  | .b=>false
  | .s=>ab []
  | .st k=>zS k
  | .ls _=>[]
  | .arr n t=>List.replicate n t.z
def Ty.k:Ty→Nat
  | .st k=>(lf k).length
  | .arr n t=>n*t.k
  | _=>1
abbrev gD {α:Type} (l:List α) (i:Nat) (z:α):α:=l.getD i z
abbrev aa (p:Prop) [d:Decidable p]:Bool:=@decide p d
abbrev ai (a b:Int):Bool:=a == b
abbrev br (a b:Int):Bool:=a != b
abbrev My (a b:Bool):Bool:=a == b
abbrev p2 (y:Int) (b:Nat):Int:=2 ^ min y.toNat b
abbrev Ja (n:Nat) (a b:Int):Int:=((BitVec.ofInt n a &&& BitVec.ofInt n b).toNat:Int)
abbrev Ix (n:Nat) (a b:Int):Int:=((BitVec.ofInt n a ||| BitVec.ofInt n b).toNat:Int)
abbrev Jm (n:Nat) (a b:Int):Int:=((BitVec.ofInt n a ^^^ BitVec.ofInt n b).toNat:Int)
abbrev Ig (n:Nat) (a b:Int):Int:=((BitVec.ofInt n a &&& ~~~(BitVec.ofInt n b)).toNat:Int)
abbrev aK (a b:ByteArray):Bool:=a.toList == b.toList
def Ty.enc:(t:Ty)→t.T→List D
  | .st k,x=>ii (lf k) (IL k x)
  | .arr n t,l=>(List.range n).flatMap fun i=>t.enc (gD l i t.z)
  | .i k,x=>[iQ (.i k) x]
  | .b,x=>[iQ .b x]
  | .s,x=>[iQ .s x]
  | .ls t,x=>[iQ (.ls t) x]
def els (t:Ty) (l:List t.T) (i:Nat):List D:=t.enc (gD l i t.z)
def kH (t' t:Ty) (l:List t'.T):Option (List t.T):=if h:t' = t then some (h ▸ l) else none
def uB:(t:Ty)→D→Option t.T
  | .i k, .lit (.int k' n)=>if k = k' then some n else none
  | .b, .lit (.bool b)=>some b
  | .s, .lit (.string s)=>some s
  | .ls t, .sl t' l=>kH t' t l
  | .ls _, .nil=>some []
  | _,_=>none
def zE:(ts:List Ty)→List D→Option (HP ts)
  | [],[]=>some ()
  | [t],[d]=>uB t d
  | t :: u :: r,d :: ds=>match uB t d,zE (u :: r) ds with
    | some x,some y=>some (x,y)
    | _,_=>none
  | _,_=>none
def rE {α:Type} (f:List D→Option α) (k:Nat):Nat→List D→Option (List α)
  | 0,ds=>bif ds.isEmpty then some [] else none
  | n+1,ds=>match f (ds.take k),rE f k n (ds.drop k) with
    | some x,some l=>some (x :: l)
    | _,_=>none
def iT:(t:Ty)→List D→Option t.T
  | .st k,ds=>(zE (lf k) ds).map (IC k)
  | .arr n t,ds=>rE (iT t) t.k n ds
  | .i k,[d]=>uB (.i k) d
  | .b,[d]=>uB .b d
  | .s,[d]=>uB .s d
  | .ls t,[d]=>uB (.ls t) d
  | _,_=>none
inductive V where
  | c (d:D)
  | agg (vs:List V)
  | tup (vs:List V)
  | ptr (o k i j:Nat)
  | row (o k:Nat)
  | sub (o k off n:Nat)
  | dptr (k:Nat) (cs:List D) (j:Nat)
  | fn (f:FuncId) (caps:List V)
inductive Ob where
  | box (cs:List V)
  | row (e:TypeId) (t:Ty) (l:List t.T)
  | raw (x:Obj)
  | map (t:TypeId) (kt vt:Ty) (ks:List kt.T) (vs:List vt.T)
  | iter (m:V)
abbrev ae:=List (Nat × Option Ob)
def ae.get:ae→Nat→Option Ob
  | [],_=>none
  | (o',b) :: r,o=>bif Nat.beq o' o then b else ae.get r o
abbrev i64 (n:Int):V:=.c (.lit (.int .i64 n))
abbrev bl (b:Bool):V:=.c (.lit (.bool b))
abbrev Ms (s:ByteArray):V:=.c (.lit (.string s))
def D.ofCell:Value→D
  | .slice none 0 0=>.nil
  | v=>.lit v
def V.ofValue:Value→V
  | .agg cs=>.agg (cs.toList.map fun v=>.c (D.ofCell v))
  | .tuple vs=>match vs.toList with | []=>.c .unk | _=>.c (.lit (.tuple vs))
  | v=>.c (D.ofCell v)
def V.isCell:V→Bool
  | .c .unk=>false
  | .c (.lit (.agg _))=>false
  | .c (.lit (.tuple _))=>false
  | .c (.opt ..)=>false
  | .c _=>true
  | .ptr ..=>true
  | .row ..=>true
  | .sub ..=>true
  | .fn ..=>true
  | _=>false
def V.cells:V→List V
  | .agg vs=>vs
  | v=>[v]
def V.toD:V→Option D
  | .c .unk=>none
  | .c (.lit (.agg _))=>none
  | .c (.lit (.tuple _))=>none
  | .c (.opt ..)=>none
  | .c d=>some d
  | _=>none
def encV:(t:Ty)→t.T→V
  | .st k,x=>.agg ((Ty.enc (.st k) x).map .c)
  | .arr n t,x=>.agg ((Ty.enc (.arr n t) x).map .c)
  | .i k,x=>.c (iQ (.i k) x)
  | .b,x=>.c (iQ .b x)
  | .s,x=>.c (iQ .s x)
  | .ls t,x=>.c (.sl t x)
def DM:(t:Ty)→V→Option t.T
  | .st k, .agg cs=>match cs.mapM V.toD with | some ds=>iT (.st k) ds | none=>none
  | .arr n t, .agg cs=>match cs.mapM V.toD with | some ds=>iT (.arr n t) ds | none=>none
  | .i k, .c d=>uB (.i k) d
  | .b, .c d=>uB .b d
  | .s, .c d=>uB .s d
  | .ls t, .c d=>uB (.ls t) d
  | _,_=>none
def Jk (o:Nat):V:=.fn 2000000000 [.ptr o 1 0 0]
def ED:D→Value
  | .lit v=>v
  | _=>undef
def LA:(t:Ty)→t.T→Value
  | .st k,x=>.agg ((Ty.enc (.st k) x).map ED).toArray
  | t,x=>ED ((t.enc x).headD .unk)
def Mv:(t:Ty)→t.T→t.T→Bool
  | .i _,a,b=>ai a b
  | _,_,_=>false
def JC:(t:Ty)→V→Option t.T
  | .i k, .c (.lit (.int k' n))=>if k = k' then some n else none
  | _,_=>none
def dN (t:Ty):List t.T→t.T→Nat
  | [],_=>0
  | x :: r,k=>bif Mv t x k then 0 else dN t r k+1
def og (t:Ty) (ks:List t.T) (k:t.T):Bool:=Nat.blt (dN t ks k) ks.length
def qa (t:Ty) {T:Type} (ks:List t.T) (vs:List T) (k:t.T) (z:T):T:=vs.getD (dN t ks k) z
def qH (t:Ty) (ks:List t.T) (k:t.T):List t.T:=bif og t ks k then ks else ks++[k]
def xg (t:Ty) {T:Type} (ks:List t.T) (vs:List T) (k:t.T) (v:T):List T:=bif og t ks k then vs.set (dN t ks k) v else vs++[v]
def lg (H:ae):V→Option (Nat × Ob)
  | .fn f [.ptr o _ _ _]=>bif Nat.beq f 2000000000 then (match H.get o with | some b=>some (o,b) | none=>none) else none
  | _=>none
def pn (H:ae) (o k:Nat):V :=
  match H.get o with
  | some (.row _ t l)=>bif Nat.beq t.k k then .c (.sl t l) else .c .unk
  | _=>.c .unk
def ap {T:Type} (l:List T) (off n:Nat):List T:=(l.drop off).take n
def p9 (H:ae) (o k off n:Nat):V :=
  match H.get o with
  | some (.row _ t l)=>bif Nat.beq t.k k then .c (.sl t (ap l off n)) else .c .unk
  | _=>.c .unk
def nd (H:ae):V→D
  | .c d=>d
  | .row o k=>match pn H o k with | .c d=>d | _=>.unk
  | .sub o k off n=>match p9 H o k off n with | .c d=>d | _=>.unk
  | _=>.unk
def F8 (H:ae) (o k i j:Nat):V :=
  match H.get o with
  | some (.row _ t l)=>bif Nat.beq t.k k then .dptr k (els t l i) j else .c .unk
  | some (.box cs)=>bif Nat.beq cs.length k then .dptr k (cs.map (nd H)) j else .c .unk
  | some (.raw _)=>.c .unk
  | some (.iter _)=>.c .unk
  | some (.map ..)=>.c .unk
  | none=>.c .unk
def sD (l:List Int):ByteArray:=⟨(l.map fun x=>UInt8.ofNat x.toNat).toArray⟩
def AJ (s:ByteArray) (pos:Nat):Int:=(Utf8.decode s pos).1
def A5 (s:ByteArray) (pos:Nat):Nat:=(Utf8.decode s pos).2
mutual
def V.view (H:ae):V→V
  | .c d=>.c d
  | .agg vs=>.agg (V.views H vs)
  | .tup vs=>.tup (V.views H vs)
  | .ptr o k i j=>F8 H o k i j
  | .row o k=>pn H o k
  | .sub o k off n=>p9 H o k off n
  | .dptr k cs j=>.dptr k cs j
  | .fn f caps=>.fn f (V.views H caps)
def V.views (H:ae):List V→List V
  | []=>[]
  | v :: r=>V.view H v :: V.views H r
end
mutual
def V.refs:V→List Nat
  | .c _=>[]
  | .agg vs=>V.refss vs
  | .tup vs=>V.refss vs
  | .ptr o _ _ _=>[o]
  | .row o _=>[o]
  | .sub o _ _ _=>[o]
  | .dptr ..=>[]
  | .fn _ caps=>V.refss caps
def V.refss:List V→List Nat
  | []=>[]
  | v :: r=>V.refs v++V.refss r
end
mutual
def V.kill (o:Nat):V→V
  | .c d=>.c d
  | .agg vs=>.agg (V.kills o vs)
  | .tup vs=>.tup (V.kills o vs)
  | .ptr o' k i j=>bif Nat.beq o' o then .c .unk else .ptr o' k i j
  | .row o' k=>bif Nat.beq o' o then .c .unk else .row o' k
  | .sub o' k off n=>bif Nat.beq o' o then .c .unk else .sub o' k off n
  | .dptr k cs j=>.dptr k cs j
  | .fn f caps=>.fn f (V.kills o caps)
def V.kills (o:Nat):List V→List V
  | []=>[]
  | v :: r=>V.kill o v :: V.kills o r
end
inductive iw where
  | data (v:V)
  | new (v:V)
  | own (fresh:Bool) (e:TypeId) (t:Ty) (l:List t.T)
abbrev IE:=List V→Option (Bool × iw)
inductive ea:List Prop→Type
  | nil:ea []
  | cons {p:Prop} {ps:List Prop} (d:Decidable p) (r:ea ps):ea (p :: ps)
attribute [class] ea
instance:ea []:=.nil
instance {p:Prop} {ps:List Prop} [d:Decidable p] [r:ea ps]:ea (p :: ps):=.cons d r
structure ax where
  pre:List Prop:=[]
  dec:ea pre:=by infer_instance
  val:V
  eff:ae:=[]
  kill:List Nat:=[]
inductive CC where
  | pure (c:IE)
  | mut (m:ae→Nat→List V→Option ax)
def aD (H:ae) (vs:List V):List Nat :=
  V.refss vs++(V.refss vs).flatMap fun o=>match H.get o with | some (.box cs)=>V.refss cs | some (.iter m)=>V.refs m | _=>[]
def aR:List Nat→ae→ae
  | [],_=>[]
  | o :: r,H=>match ae.get H o with | some b=>(o,some b) :: aR r H | none=>aR r H
def JB:Option Ob→Bool
  | some (.row ..)=>true
  | _=>false
mutual
def V.noUnk:V→Bool
  | .c .unk=>false
  | .c _=>true
  | .agg vs=>V.noUnks vs
  | .tup vs=>V.noUnks vs
  | .ptr ..=>true
  | .row ..=>true
  | .sub ..=>true
  | .dptr ..=>true
  | .fn _ vs=>V.noUnks vs
def V.noUnks:List V→Bool
  | []=>true
  | v :: r=>V.noUnk v&&V.noUnks r
end
def EO:Option Ob→Bool
  | some (.row ..)=>true
  | some (.raw _)=>true
  | some (.map ..)=>true
  | some (.box cs)=>V.noUnks cs
  | some (.iter m)=>V.noUnk m
  | none=>false
def mz:Option Ob→List Nat
  | some (.box cs)=>V.refss cs
  | some (.iter m)=>V.refs m
  | _=>[]
def mC (H:ae) (vs:List V):Bool × List Nat:=((aD H vs).all fun o=>EO (H.get o),(aD H vs).flatMap fun o=>mz (H.get o))
def wJ (H:ae):List Nat:=H.flatMap fun x=>mz x.2
section
variable (P:Program)
def sz (t:TypeId):Nat:=match P.underlying t,P.info? t with | some _,some i=>i.size | _,_=>0
def oD (t:TypeId):Nat:=match P.info? t with | some i=>i.bytes | none=>0
def eL (t:TypeId):Bool:=match P.underlying t with | some (.struct _)=>true | some (.array _ _)=>true | _=>false
def ez (t:TypeId):Bool:=eL P t||Nat.blt 0 (sz P t)
def oT (t:TypeId):Option V:=match P.info? t with | some i=>(match i.zero with | some (.tuple _)=>none | some v=>some (V.ofValue v) | none=>none) | none=>none
def eG (t:TypeId):Bool:=match P.underlying t with | some _=>true | none=>false
def IZ:List (Nat × SK)→Nat→Option SK
  | [],_=>none
  | (i,k) :: r,t=>bif Nat.beq i t then some k else IZ r t
def NS:Nat→TypeId→Option Ty
  | 0,_=>none
  | d+1,t=>match P.underlying t with
    | some (.int k)=>some (.i k)
    | some .bool=>some .b
    | some .string=>some .s
    | some (.slice e)=>(NS d e).map .ls
    | some (.struct _)=>(IZ MA t).map .st
    | some (.array n e)=>(NS d e).map (.arr n)
    | _=>none
def Dr (t:TypeId):Option Ty:=match NS P 9 t with | some ty=>bif Nat.beq ty.k (sz P t) then some ty else none | none=>none
def kK (ag:Bool) (cs:List V) (j n:Nat):V :=
  bif ag then .agg ((cs.drop j).take n) else (cs.drop j).headD (.c .unk)
def EH (ag:Bool) (cs:List D) (j n:Nat):V :=
  bif ag then .agg ((List.range n).map fun q=>.c (cs.getD (j+q) .unk)) else .c (cs.getD j .unk)
def setL {α:Type}:List α→Nat→List α→List α
  | cs,_,[]=>cs
  | cs,off,x :: r=>setL (cs.set off x) (off+1) r
def lj (H:ae) (t:TypeId) (a:V):Option ax :=
  match a with
  | .ptr o k i j =>
    match H.get o with
    | some (.box cs)=>bif Nat.beq cs.length k&&Nat.ble (j+sz P t) k&&ez P t then some { val:=kK (eL P t) cs j (sz P t) } else none
    | some (.row _ ty l) =>
      bif Nat.beq ty.k k&&Nat.ble (j+sz P t) k&&ez P t then some { val:=EH (eL P t) (els ty l i) j (sz P t) }
      else bif Nat.beq ty.k k&&Nat.beq i 0&&Nat.beq j 0&&eL P t&&Nat.blt 0 k then
        some { pre:=[l.length*k = sz P t],val:=.agg ((List.range (sz P t / k)).flatMap fun i=>(List.range k).map fun q=>.c ((els ty l i).getD q .unk)) }
      else none
    | some (.raw _)=>none
    | some (.iter _)=>none
    | some (.map ..)=>none
    | none=>none
  | .dptr k cs j=>bif Nat.ble (j+sz P t) k&&ez P t then some { val:=EH (eL P t) cs j (sz P t) } else none
  | _=>none
def no (H:ae) (t:TypeId) (a x:V):Option ax :=
  bif Nat.beq x.cells.length (sz P t)&&x.cells.all V.isCell&&eG P t then
    match a with
    | .ptr o k i j =>
      match H.get o with
      | some (.box cs)=>bif Nat.beq cs.length k&&Nat.ble (j+sz P t) k then some { val:=.c .unk,eff:=[(o,some (.box (setL cs j x.cells)))] } else none
      | some (.row e ty l) =>
        match x.cells.mapM V.toD with
        | some ds=>bif Nat.beq ty.k k&&Nat.ble (j+sz P t) k then
            (match iT ty (setL (els ty l i) j ds) with | some y=>some { val:=.c .unk,eff:=[(o,some (.row e ty (l.set i y)))] } | none=>none)
          else bif Nat.beq ty.k k&&Nat.beq i 0&&Nat.beq j 0&&Nat.blt 0 k then
            (match rE (iT ty) k (sz P t / k) ds with | some l'=>some { pre:=[l.length*k = sz P t],val:=.c .unk,eff:=[(o,some (.row e ty l'))] } | none=>none) else none
        | none=>none
      | some (.raw _)=>none
      | some (.iter _)=>none
      | some (.map ..)=>none
      | none=>none
    | _=>none
  else none
def tk (t:TypeId) (f:Nat):Option (Nat × TypeId) :=
  match P.underlying t with
  | some (.struct fs)=>(match fs[f]? with | some fl=>some (fl.offset,fl.type) | none=>none)
  | _=>none
def F5 (op:BinOp) (k:IntKind) (a b:Int):Option ax :=
  match op with
  | .add=>some { val:=.c (.lit (.int k (k.wrap (a+b)))) }
  | .sub=>some { val:=.c (.lit (.int k (k.wrap (a - b)))) }
  | .mul=>some { val:=.c (.lit (.int k (k.wrap (a*b)))) }
  | .quo=>some { pre:=[b≠0],val:=.c (.lit (.int k (k.wrap (a.tdiv b)))) }
  | .rem=>some { pre:=[b≠0],val:=.c (.lit (.int k (a.tmod b))) }
  | .and=>some { val:=.c (.lit (.int k (k.wrap (Ja k.bits a b)))) }
  | .or=>some { val:=.c (.lit (.int k (k.wrap (Ix k.bits a b)))) }
  | .xor=>some { val:=.c (.lit (.int k (k.wrap (Jm k.bits a b)))) }
  | .andNot=>some { val:=.c (.lit (.int k (k.wrap (Ig k.bits a b)))) }
  | .eql=>some { val:=bl (ai a b) }
  | .neq=>some { val:=bl (br a b) }
  | .lss=>some { val:=bl (aa (a < b)) }
  | .leq=>some { val:=bl (aa (a≤b)) }
  | .gtr=>some { val:=bl (aa (b < a)) }
  | .geq=>some { val:=bl (aa (b≤a)) }
  | _=>none
def tn (op:BinOp) (k:IntKind) (a y:Int):Option ax :=
  match op with
  | .shl=>some { pre:=[0≤y],val:=.c (.lit (.int k (k.wrap (a*p2 y k.bits)))) }
  | .shr=>some { pre:=[0≤y],val:=.c (.lit (.int k (a.fdiv (p2 y k.bits)))) }
  | _=>none
def F7 (op:BinOp) (x y:ByteArray):Option ax :=
  match op with
  | .add=>some { pre:=[x.size+y.size≤9223372036854775807],val:=Ms (x++y) }
  | .eql=>some { val:=bl (aK x y) }
  | .neq=>some { val:=bl (!(aK x y)) }
  | .lss=>some { val:=bl (Op.bytesLess x.toList y.toList) }
  | .leq=>some { val:=bl (Op.bytesLess x.toList y.toList||aK x y) }
  | .gtr=>some { val:=bl (!(Op.bytesLess x.toList y.toList||aK x y)) }
  | .geq=>some { val:=bl (!(Op.bytesLess x.toList y.toList)) }
  | _=>none
def Fz:Nat→TypeId→V→V→Option Bool
  | 0,_,_,_=>none
  | d+1,t,x,y =>
    match P.underlying t,x,y with
    | some (.int _), .c (.lit (.int k a)), .c (.lit (.int k' b))=>if k = k' then some (ai a b) else none
    | some .bool, .c (.lit (.bool a)), .c (.lit (.bool b))=>some (My a b)
    | some .string, .c (.lit (.string a)), .c (.lit (.string b))=>some (aK a b)
    | some (.struct fs), .agg xs, .agg ys =>
      bif P.stoodInHeld t then none else
      fs.toList.foldr (fun f acc=>bif f.name == "_" then none else
        bif Nat.ble (f.offset+sz P f.type) xs.length&&Nat.ble (f.offset+sz P f.type) ys.length&&ez P f.type then
        match Fz d f.type (kK (eL P f.type) xs f.offset (sz P f.type)) (kK (eL P f.type) ys f.offset (sz P f.type)),acc with
        | some a,some b=>some (a&&b)
        | _,_=>none
        else none) (some true)
    | some (.array len e), .agg xs, .agg ys =>
      bif Nat.ble (len*sz P e) xs.length&&Nat.ble (len*sz P e) ys.length&&ez P e then
      (List.range len).foldr (fun i acc =>
        match Fz d e (kK (eL P e) xs (i*sz P e) (sz P e)) (kK (eL P e) ys (i*sz P e) (sz P e)),acc with
        | some a,some b=>some (a&&b)
        | _,_=>none) (some true)
      else none
    | _,_,_=>none
def Ml (op:BinOp) (t:TypeId) (x y:V):Option ax :=
  match x,y with
  | .c (.lit (.int k a)), .c (.lit (.int k' b)) =>
    match op with
    | .shl=>tn op k a b
    | .shr=>tn op k a b
    | op=>if k = k' then F5 op k a b else none
  | .c (.lit (.string a)), .c (.lit (.string b))=>F7 op a b
  | .c (.lit (.bool a)), .c (.lit (.bool b)) =>
    match P.underlying t,op with
    | some .bool, .eql=>some { val:=bl (My a b) }
    | some .bool, .neq=>some { val:=bl (!(My a b)) }
    | _,_=>none
  | .agg xs, .agg ys =>
    bif P.eqGuardType P.depth t then none else
    match op,Fz P 10 t (.agg xs) (.agg ys) with
    | .eql,some b=>some { val:=bl b }
    | .neq,some b=>some { val:=bl (!b) }
    | _,_=>none
  | _,_=>none
def Nq (op:UnOp) (x:V):Option ax :=
  match op,x with
  | .neg, .c (.lit (.int k n))=>some { val:=.c (.lit (.int k (k.wrap (0 - n)))) }
  | .xor, .c (.lit (.int k n))=>some { val:=.c (.lit (.int k (k.wrap (Jm k.bits (if k.signed then -1 else k.max) n)))) }
  | .not, .c (.lit (.bool b))=>some { val:=bl (!b) }
  | _,_=>none
def Ju (src dst:TypeId) (x:V):Option ax :=
  match P.underlying src,P.underlying dst,x with
  | some (.int _),some (.int k), .c (.lit (.int _ n))=>some { val:=.c (.lit (.int k (k.wrap n))) }
  | some .string,some .string, .c (.lit (.string s))=>some { val:=Ms s }
  | _,_,_=>none
def bG (H:ae) (t:Ty):V→Option (List t.T)
  | .c .nil=>some []
  | .c (.sl t' l)=>kH t' t l
  | .row o k=>match H.get o with | some (.row _ t' l)=>bif Nat.beq t'.k k then kH t' t l else none | _=>none
  | .sub o k off n=>match H.get o with | some (.row _ t' l)=>bif Nat.beq t'.k k then (kH t' t l).map fun l=>ap l off n else none | _=>none
  | _=>none
def A0 (H:ae) (x:V):Option ax:=(bG H (.i .u8) x).map fun l=>{ val:=Ms (sD l) }
def tX (H:ae) (t:TypeId) (x:V):Option ax :=
  match P.underlying t,x with
  | some (.slice _), .c .nil=>some { val:=i64 0 }
  | some (.slice _), .c (.sl _ l)=>some { val:=i64 l.length }
  | some (.slice _), .row o _=>(match H.get o with | some (.row _ _ l)=>some { val:=i64 l.length } | _=>none)
  | some (.slice _), .sub _ _ _ n=>some { val:=i64 n }
  | some .string, .c (.lit (.string s))=>some { val:=i64 s.size }
  | _,_=>none
def Bt (m x:V):Option V :=
  match m,x with | .c (.lit (.int k a)), .c (.lit (.int _ b))=>some (V.c (.lit (.int k (bif aa (b < a) then b else a)))) | _,_=>none
def CD (m x:V):Option V :=
  match m,x with | .c (.lit (.int k a)), .c (.lit (.int _ b))=>some (V.c (.lit (.int k (bif aa (a < b) then b else a)))) | _,_=>none
def JJ:List V→Option V
  | []=>none
  | x :: r=>r.foldlM Bt x
def I1:List V→Option V
  | []=>none
  | x :: r=>r.foldlM CD x
def m4 (t:TypeId):Option (List D):=match oT P t with | some v=>v.cells.mapM V.toD | none=>none
def Io (e:TypeId):Bool:=match m4 P e with | some z=>Nat.beq z.length (sz P e) | none=>false
def k5 (H:ae) (nid:Nat) (t:TypeId) (s x:V):Option ax :=
  match P.underlying t with
  | some (.slice e) =>
    match s with
    | .c .nil=>match Dr P e with
      | some ty=>match bG H ty x with
        | some l2=>bif Nat.blt 0 ty.k&&eG P e&&Io P e then some { pre:=[l2.length*oD P e≤140737488355328,l2.length≤140737488355328],val:=.row nid ty.k,eff:=[(nid,some (.row e ty l2))] } else none
        | none=>none
      | none=>none
    | .row o k =>
      match H.get o with
      | some (.row e' ty l)=>match bG H ty x with
        | some l2=>bif Nat.beq e' e&&Nat.beq ty.k k&&Nat.beq k (sz P e)&&Nat.blt 0 k&&Io P e then
            some { pre:=[(l.length+l2.length)*oD P e≤140737488355328,l.length+l2.length≤140737488355328],val:=.row o k,eff:=[(o,some (.row e ty (l++l2)))],kill:=[o] } else none
        | none=>none
      | _=>none
    | _=>none
  | _=>none
def pg (eM:Nat→Option (Nat × Nat)) (cs:List V) (p:Nat × V):Option (List V) :=
  match eM p.1 with
  | some (off,size)=>bif Nat.beq p.2.cells.length size&&p.2.cells.all V.isCell&&Nat.ble (off+size) cs.length then some (setL cs off p.2.cells) else none
  | none=>none
def rU (fs:Array Field) (i:Nat):Option (Nat × Nat):=match fs[i]? with | some f=>some (f.offset,sz P f.type) | none=>none
def Gx (t:TypeId) (parts:List (Nat × V)):Option ax :=
  match P.underlying t,oT P t with
  | some (.struct fs),some z=>bif fs.toList.all (fun f=>eG P f.type) then (match parts.foldlM (pg (rU P fs)) z.cells with | some cs=>some { val:=.agg cs } | none=>none) else none
  | some (.array _ e),some z=>bif eG P e then (match parts.foldlM (pg fun i=>some (i*sz P e,sz P e)) z.cells with | some cs=>some { val:=.agg cs } | none=>none) else none
  | _,_=>none
def qp (z:List V) (k n:Nat):List V:=(List.range (n*k)).map fun q=>z.getD (q % k) (.c .unk)
def rA (nid:Nat) (t:TypeId) (len:Nat) (parts:List (Nat × V)):Option ax :=
  match P.underlying t with
  | some (.slice e) =>
    match oT P e,Dr P e with
    | some z,some ty =>
      bif Nat.beq z.cells.length (sz P e)&&Nat.blt 0 (sz P e)&&Nat.ble (len*sz P e) 16777216&&eG P e then
      match parts.foldlM (pg fun i=>some (i*sz P e,sz P e)) (qp z.cells (sz P e) len) with
      | some cs=>match cs.mapM V.toD with
        | some ds=>match rE (iT ty) (sz P e) len ds with
          | some l=>some { val:=.row nid (sz P e),eff:=[(nid,some (.row e ty l))] }
          | none=>none
        | none=>none
      | none=>none
      else none
    | _,_=>none
  | _=>none
def kx (o:Nat):Option Ob→Option Ob
  | some (.box cs)=>some (.box (V.kills o cs))
  | some (.iter m)=>some (.iter (V.kill o m))
  | b=>b
def dt (os:List Nat) (H:ae):ae :=
  match os with
  | []=>H
  | o :: r=>dt r (H.map fun x=>(x.1,kx o x.2))
mutual
def V.noP:V→Bool
  | .agg vs=>V.noPs vs
  | .tup vs=>V.noPs vs
  | .ptr ..=>false
  | .fn _ vs=>V.noPs vs
  | _=>true
def V.noPs:List V→Bool
  | []=>true
  | v :: r=>V.noP v&&V.noPs r
end
mutual
def V.fz (o:Nat) (t:Ty) (l:List t.T):V→V
  | .c d=>.c d
  | .agg vs=>.agg (V.fzs o t l vs)
  | .tup vs=>.tup (V.fzs o t l vs)
  | .ptr o' k i j=>bif Nat.beq o' o then .c .unk else .ptr o' k i j
  | .row o' k=>bif Nat.beq o' o then (bif Nat.beq t.k k then .c (.sl t l) else .c .unk) else .row o' k
  | .sub o' k off n=>bif Nat.beq o' o then (bif Nat.beq t.k k then .c (.sl t (ap l off n)) else .c .unk) else .sub o' k off n
  | .dptr k cs j=>.dptr k cs j
  | .fn f vs=>.fn f (V.fzs o t l vs)
def V.fzs (o:Nat) (t:Ty) (l:List t.T):List V→List V
  | []=>[]
  | v :: r=>V.fz o t l v :: V.fzs o t l r
end
def iA (f:ae→List V→Option ax):List Nat→ae→List V→Option ax
  | [],H,vs=>f H vs
  | o :: fl,H,vs=>match H.get o with
    | some (.row e t l)=>(iA f fl ((o,some (.row e t [])) :: dt [o] H) (V.fzs o t l vs)).map fun r=>{ r with eff:=r.eff++[(o,some (.row e t []))],kill:=o :: r.kill }
    | _=>none
def J6 (nid:Nat) (t:TypeId) (len:Nat) (ps:List Nat) (H:ae) (vs:List V):Option ax:=iA (fun _ vs=>rA P nid t len (ps.zip vs)) (V.refss vs) H vs
def rT (t:TypeId) (H:ae):List V→Option ax
  | [a,x]=>no P H t a x
  | _=>none
def sF (H:ae) (t:TypeId) (a x:V):Option ax :=
  match a with
  | .ptr o _ _ _=>match H.get o with
    | some (.row _ _ _)=>iA (rT P t) (V.refs x) H [a,x]
    | _=>no P H t a x
  | _=>no P H t a x
def s5 (nid:Nat) (t:TypeId) (l c:V):Option ax :=
  match P.underlying t,l,c with
  | some (.slice e), .c (.lit (.int .i64 a)), .c (.lit (.int .i64 b)) =>
    match m4 P e,Dr P e with
    | some z,some ty=>match iT ty z with
      | some x=>bif Nat.beq z.length (sz P e)&&Nat.blt 0 (sz P e)&&Nat.blt 0 (oD P e)&&eG P e then some { pre:=[0≤a,a≤b,b*oD P e≤140737488355328],val:=.row nid (sz P e),eff:=[(nid,some (.row e ty (List.replicate a.toNat x)))] } else none
      | none=>none
    | _,_=>none
  | _,_,_=>none
def AI:V→Option (Int)
  | .c (.lit (.int _ n))=>some n
  | _=>none
def IH:Option V→Option Int
  | none=>some 0
  | some v=>AI v
def IJ (n:Int):Option V→Option Int
  | none=>some n
  | some v=>AI v
def lB (H:ae) (t:TypeId) (x:V) (lo hi:Option V):Option ax :=
  match P.underlying t,x with
  | some (.slice e), .c .nil=>match P.underlying e,IH lo,IJ 0 hi with | some _,some l,some h=>some { pre:=[l = 0,h = 0],val:=.c .nil } | _,_,_=>none
  | some (.slice e), .c (.sl ty xs)=>bif Nat.beq (sz P e) ty.k then (match P.underlying e,IH lo,IJ xs.length hi with | some _,some l,some h=>some { pre:=[0≤l,l≤h,h≤xs.length],val:=.c (.sl ty (ap xs l.toNat (h - l).toNat)) } | _,_,_=>none) else none
  | some (.slice e), .row o k=>(match H.get o with
    | some (.row _ _ xs)=>bif Nat.beq (sz P e) k then (match P.underlying e,IH lo,IJ xs.length hi with | some _,some l,some h=>some { pre:=[0≤l,l≤h,h≤xs.length],val:=.sub o k l.toNat (h - l).toNat } | _,_,_=>none) else none
    | _=>none)
  | some (.slice e), .sub o k off n=>bif Nat.beq (sz P e) k then (match P.underlying e,IH lo,IJ n hi with | some _,some l,some h=>some { pre:=[0≤l,l≤h,h≤n],val:=.sub o k (off+l.toNat) (h - l).toNat } | _,_,_=>none) else none
  | some .string, .c (.lit (.string s))=>match IH lo,IJ s.size hi with | some l,some h=>some { pre:=[0≤l,l≤h,h≤s.size],val:=Ms (s.extract l.toNat h.toNat) } | _,_=>none
  | _,_=>none
def jU (H:ae) (t:TypeId) (x ix:V):Option ax :=
  match P.underlying t,x,ix with
  | some (.slice e), .c (.sl ty l), .c (.lit (.int _ i))=>bif Nat.beq (sz P e) ty.k then (match P.underlying e with | some _=>some { pre:=[0≤i,i < l.length],val:=.dptr ty.k (els ty l i.toNat) 0 } | none=>none) else none
  | some (.slice e), .c .nil, .c (.lit (.int _ _))=>some { pre:=[False],val:=.dptr (sz P e) (match m4 P e with | some z=>z | none=>[]) 0 }
  | some (.slice e), .row o k, .c (.lit (.int _ i))=>(match H.get o with
    | some (.row _ _ l)=>bif Nat.beq (sz P e) k then (match P.underlying e with | some _=>some { pre:=[0≤i,i < l.length],val:=.ptr o k i.toNat 0 } | none=>none) else none
    | _=>none)
  | some (.slice e), .sub o k off n, .c (.lit (.int _ i))=>bif Nat.beq (sz P e) k then (match P.underlying e with | some _=>some { pre:=[0≤i,i < n],val:=.ptr o k (off+i.toNat) 0 } | none=>none) else none
  | some (.array len e), .ptr o k q j, .c (.lit (.int _ i)) =>
    (match H.get o with
    | some (.row _ ty l)=>bif Nat.beq q 0&&Nat.beq j 0&&Nat.beq ty.k k&&Nat.beq k (sz P e) then (match P.underlying e with | some _=>some { pre:=[l.length = len,0≤i,i < len],val:=.ptr o k i.toNat 0 } | none=>none) else none
    | some (.box _)=>(match P.underlying e with | some _=>some { pre:=[0≤i,i < len],val:=.ptr o k q (j+i.toNat*sz P e) } | none=>none)
    | some (.raw _)=>none
    | some (.iter _)=>none
    | some (.map ..)=>none
    | none=>none)
  | some (.array len e), .dptr k cs j, .c (.lit (.int _ i))=>(match P.underlying e with | some _=>some { pre:=[0≤i,i < len],val:=.dptr k cs (j+i.toNat*sz P e) } | none=>none)
  | _,_,_=>none
def Gp (t:TypeId) (x ix:V):Option ax :=
  match P.underlying t,x,ix with
  | some .string, .c (.lit (.string s)), .c (.lit (.int _ i))=>some { pre:=[0≤i,i < s.size],val:=.c (.lit (.int .u8 (s.data.getD i.toNat 0).toNat)) }
  | some (.array len e), .agg cs, .c (.lit (.int _ i))=>bif Nat.ble (len*sz P e) cs.length&&ez P e then some { pre:=[0≤i,i < len],val:=kK (eL P e) cs (i.toNat*sz P e) (sz P e) } else none
  | _,_,_=>none
def nO (nid:Nat) (t:TypeId) (v:V):Option ax :=
  bif v.cells.all V.isCell&&Nat.beq v.cells.length (sz P t) then
    match P.underlying t,v.cells.mapM V.toD with
    | some (.array len e),some ds =>
      bif Nat.beq (len*sz P e) (sz P t)&&Nat.blt 0 (sz P e)&&Nat.blt 0 len&&Nat.ble len 1000000 then
        match Dr P e with
        | some ty=>match rE (iT ty) (sz P e) len ds with
          | some l=>some { val:=.ptr nid (sz P e) 0 0,eff:=[(nid,some (.row t ty l))] }
          | none=>none
        | none=>none
      else none
    | _,_=>some { val:=.ptr nid v.cells.length 0 0,eff:=[(nid,some (.box v.cells))] }
  else none
variable (C:FuncId→Option CC)
def eT (vs:List V):Bool:=match V.refss vs with | []=>false | _=>true
mutual
def V.scalar:V→Bool
  | .c (.lit (.int _ _))=>true
  | .c (.lit (.bool _))=>true
  | .c (.lit (.string _))=>true
  | .c .nil=>true
  | .c .unk=>true
  | .c .any=>true
  | .agg vs=>V.scalars vs
  | .tup vs=>V.scalars vs
  | _=>false
def V.scalars:List V→Bool
  | []=>true
  | v :: r=>V.scalar v&&V.scalars r
end
def fH (H:ae) (nid:Nat) (f:FuncId) (args:List V):Option ax :=
  match C f with
  | none=>none
  | some (.mut m)=>m (aR (aD H args) H) nid args
  | some (.pure con)=>match con (V.views H args) with
    | none=>none
    | some (b, .data v)=>bif (!eT args)||v.scalar then some { pre:=[b = true],val:=v } else none
    | some (b, .new v)=>some { pre:=[b = true],val:=v }
    | some (b, .own fr e t l)=>bif (!eT args)||fr then some { pre:=[b = true],val:=.row nid t.k,eff:=[(nid,some (.row e t l))] } else none
def oL (f:FuncId) (nid:Nat) (H:ae) (args:List V):Option ax :=
  bif V.noPs args then match C f with | some (.pure _)=>fH C H nid f args | _=>none else none
def kJ (H:ae) (nid:Nat) (f:FuncId) (args:List V):Option ax :=
  match fH C H nid f args with
  | some r=>some r
  | none=>iA (oL C f nid) (V.refss args) H args
def nT (x:V):Option ax:=match x with | .ptr ..=>some { val:=x } | .dptr ..=>some { val:=x } | .fn f _=>bif Nat.blt f 1000000000 then some { val:=x } else none | _=>none
def sI (t:TypeId) (f:Nat) (a:V):Option ax :=
  match tk P t f with
  | some (off,ft)=>bif Nat.beq (sz P ft) 0 then none else (match a with | .ptr o k i j=>some { val:=.ptr o k i (j+off) } | .dptr k cs j=>some { val:=.dptr k cs (j+off) } | _=>none)
  | none=>none
def FF (t:TypeId) (f:Nat) (x:V):Option ax :=
  match x,tk P t f with
  | .agg cs,some (off,ft)=>bif Nat.ble (off+sz P ft) cs.length&&ez P ft then some { val:=kK (eL P ft) cs off (sz P ft) } else none
  | _,_=>none
def yQ (ix:Nat) (x:V):Option ax :=
  match x with
  | .tup vs=>match vs[ix]? with | some v=>some { val:=v } | none=>none
  | .c (.opt b us)=>(match ix with
    | 0=>some { val:=bl b }
    | i+1=>match us[i]? with | some v=>some { pre:=[b = true],val:=.c (.lit v) } | none=>none)
  | _=>none
def Fu (nid:Nat) (t:TypeId) (x:V):Option ax :=
  match P.underlying t,x with
  | some .string, .c (.lit (.string s))=>some { val:=.ptr nid 1 0 0,eff:=[(nid,some (.raw (.stringIter s 0)))] }
  | _,_=>none
def sj (H:ae) (nid:Nat) (t:TypeId) (x:V):Option ax :=
  match P.underlying t with
  | some (.map _ _)=>(match lg H x with
    | some (_, .map ..)=>some { val:=.ptr nid 1 0 0,eff:=[(nid,some (.iter x))] }
    | _=>none)
  | _=>none
def wZ (H:ae) (x:V):Option ax :=
  match x with
  | .ptr o k i j=>match H.get o with
    | some (.iter m)=>bif Nat.beq (i*k+j) 0 then (match lg H m with
      | some (_, .map _ _ _ ks _)=>some { pre:=[ks.length = 0],val:=.tup [bl false] }
      | _=>none) else none
    | _=>none
  | _=>none
def xf (H:ae) (x:V):Option ax :=
  match x with
  | .ptr o k i j=>match H.get o with
    | some (.raw (.stringIter s pos))=>bif Nat.beq (i*k+j) 0 then
        some { val:=.c (.opt (Nat.blt pos s.size) [.int .i64 pos, .int .i32 (AJ s pos)]),eff:=[(o,some (.raw (.stringIter s (bif Nat.blt pos s.size then pos+A5 s pos else pos))))] } else none
    | _=>none
  | _=>none
def vI {T:Type} (z:T) (l:List T) (off n:Nat):List T:=l.take off++(List.replicate n z++l.drop (off+n))
def nG (H:ae) (t:TypeId) (x:V):Option ax :=
  match P.underlying t with
  | some (.slice e)=>match m4 P e with
    | some z=>match x with
      | .row o k=>(match H.get o with
        | some (.row e' ty l)=>(match iT ty z with
          | some y=>bif Nat.beq e' e&&Nat.beq ty.k k&&Nat.beq k (sz P e)&&Nat.beq z.length k&&Nat.blt 0 k&&eG P e then some { val:=.c .unk,eff:=[(o,some (.row e' ty (List.replicate l.length y)))] } else none
          | none=>none)
        | _=>none)
      | .sub o k off n=>(match H.get o with
        | some (.row e' ty l)=>(match iT ty z with
          | some y=>bif Nat.beq e' e&&Nat.beq ty.k k&&Nat.beq k (sz P e)&&Nat.beq z.length k&&Nat.blt 0 k&&eG P e then some { pre:=[off+n≤l.length],val:=.c .unk,eff:=[(o,some (.row e' ty (vI y l off n)))] } else none
          | none=>none)
        | _=>none)
      | _=>none
    | none=>none
  | _=>none
def wI (k:TypeId):Ty→Bool
  | .i q=>(match P.underlying k with | some (.int q')=>decide (q' = q) | _=>false)
  | _=>false
def zd (nid:Nat) (t:TypeId):Option ax :=
  match P.underlying t with
  | some (.map k e)=>match Dr P k,Dr P e with
    | some kt,some vt=>some { val:=Jk nid,eff:=[(nid,some (.map t kt vt [] []))] }
    | _,_=>none
  | _=>none
def oZ (H:ae) (t:TypeId) (m k:V) (ok:Bool):Option ax :=
  match P.underlying t,lg H m with
  | some (.map kk e),some (_, .map _ kt vt ks vs)=>(match JC kt k,oT P e with
    | some key,some z0=>(match DM vt z0 with
      | some z=>bif wI P kk kt then some { val:=bif ok then .tup [encV vt (qa kt ks vs key z),bl (og kt ks key)] else encV vt (qa kt ks vs key z) } else none
      | none=>none)
    | _,_=>none)
  | _,_=>none
def tN (t:TypeId) (H:ae):List V→Option ax
  | [m,k,v]=>match P.underlying t,lg H m with
    | some (.map kk _),some (o, .map t' kt vt ks vs)=>(match JC kt k,DM vt v with
      | some key,some x=>bif wI P kk kt then some { val:=.c .unk,eff:=[(o,some (.map t' kt vt (qH kt ks key) (xg kt ks vs key x)))] } else none
      | _,_=>none)
    | _,_=>none
  | _=>none
def JO (H:ae) (t:TypeId) (m k v:V):Option ax:=iA (tN P t) (V.refs v) H [m,k,v]
def rO (H:ae) (nid:Nat) (o:Oper) (vs:List V):Option ax :=
  match o.op,vs with
  | .move _,[x]=>some { val:=x }
  | .assign _,[x]=>some { val:=x }
  | .alloc t,[]=>match oT P t with | some z=>nO P nid t z | none=>none
  | .box t _,[x]=>nO P nid t x
  | .build t parts,vs=>Gx P t ((parts.toList.map (·.1)).zip vs)
  | .buildSlice t len parts,vs=>J6 P nid t len (parts.toList.map (·.1)) H vs
  | .load t _,[a]=>lj P H t a
  | .store t _ _,[a,x]=>sF P H t a x
  | .nilCheck _,[x]=>nT x
  | .binOp op t _ _ _,[x,y]=>Ml P op t x y
  | .unOp op _ _,[x]=>Nq op x
  | .convert s d _,[x]=>(match P.underlying s,P.underlying d with
    | some (.slice e),some .string=>(match P.underlying e with | some (.int .u8)=>A0 H x | _=>none)
    | _,_=>Ju P s d x)
  | .fieldAddr t _ f,[a]=>sI P t f a
  | .field t _ f,[x]=>FF P t f x
  | .indexAddr t _ _,[x,i]=>jU P H t x i
  | .index t _ _,[x,i]=>Gp P t x i
  | .slice t _ none none none,[x]=>lB P H t x none none
  | .slice t _ (some _) none none,[x,l]=>lB P H t x (some l) none
  | .slice t _ none (some _) none,[x,h]=>lB P H t x none (some h)
  | .slice t _ (some _) (some _) none,[x,l,h]=>lB P H t x (some l) (some h)
  | .makeSlice t _ _,[l,c]=>s5 P nid t l c
  | .makeFunc (.func f) first _,vs=>bif first.isEmpty&&Nat.blt f 1000000000 then some { val:=.fn f vs } else none
  | .makeMap t none,[]=>zd P nid t
  | .lookup t _ _ ok,[m,k]=>oZ P H t m k ok
  | .mapUpdate t _ _ _,[m,k,v]=>JO P H t m k v
  | .makeInterface t _,[x]=>(match P.underlying t with | some (.slice _)=>bif V.isCell x&&Nat.blt t 1000000000 then some { val:=.fn (1000000000+t) [x] } else none | _=>none)
  | .extract _ ix,[x]=>yQ ix x
  | .range t _,[x]=>(match Fu P nid t x with | some r=>some r | none=>sj P H nid t x)
  | .next _ true,[x]=>xf H x
  | .next _ false,[x]=>wZ H x
  | .call { callee:=.builtin .len,argTypes, .. },[x]=>(match argTypes[0]? with | some t=>tX P H t x | none=>none)
  | .call { callee:=.builtin .clear,argTypes, .. },[x]=>(match argTypes[0]? with | some t=>nG P H t x | none=>none)
  | .call { callee:=.builtin .min, .. },vs=>(JJ vs).map fun v=>{ val:=v }
  | .call { callee:=.builtin .max, .. },vs=>(I1 vs).map fun v=>{ val:=v }
  | .call { callee:=.builtin .append,argTypes, .. },[s,x]=>(match argTypes.toList with | [t,t']=>bif Nat.beq t t' then k5 P H nid t s x else none | _=>none)
  | .call { callee:=.value _, .. }, .fn f caps :: vs=>bif Nat.blt f 1000000000 then kJ C H nid f (vs++caps) else none
  | _,_=>none
end
abbrev aE:=List (Nat × Bool)
structure av where
  ch:aE
  v:V
structure St where
  tm:List (Nat × av)
  hp:ae
  nx:Nat
def ar:List (Nat × av)→Nat→Option av
  | [],_=>none
  | (t',s) :: r,t=>bif Nat.beq t' t then some s else ar r t
def eX:List (Nat × av)→Nat→av→List (Nat × av)
  | [],t,s=>[(t,s)]
  | (t',s') :: r,t,s=>bif Nat.beq t' t then (t,s) :: r else bif Nat.blt t t' then (t,s) :: (t',s') :: r else (t',s') :: eX r t s
def LR (x:Nat × Bool) (ch:aE):Bool:=ch.any fun y=>Nat.beq x.1 y.1&&(x.2 == y.2)
def mV (a b:aE):Bool:=a.all fun x=>LR x b
def bt (σ:St) (ch:aE):Operand→Option V
  | .tmp t=>bif Nat.blt t 1000000 then (match ar σ.tm t with | some s=>bif mV s.ch ch then some s.v else none | none=>none) else none
  | .const v=>some (V.ofValue v)
  | .func f=>bif Nat.blt f 1000000000 then some (.fn f []) else none
  | .global _=>none
def holds (tm:List (Nat × av)):aE→Bool
  | []=>true
  | (t,w) :: r=>(match ar tm t with | some { v:=.c (.lit (.bool b)), .. }=>(bif w then b else !b) | _=>false)&&holds tm r
def dv (ops:List Oper) (tm:List (Nat × av)):Option (Nat × Bool)→Option aE
  | none=>some []
  | some (j,w)=>match ops[j]? with
    | some o=>match o.dst with
      | some t=>bif Nat.blt t 1000000 then (match ar tm t with | some { ch,v:=.c (.lit (.bool _)) }=>some ((t,w) :: ch) | _=>none) else none
      | none=>none
    | none=>none
def jh (σ:St) (ch:aE) (xs:List Operand):Option (List V):=xs.mapM (bt σ ch)
def m6 (c:Operand) (w:Bool) (ch:aE):aE:=match c with | .tmp t=>(t,w) :: ch | _=>ch
def mY (σ:St) (ch:aE) (c a b:Operand):Option V :=
  match bt σ ch c with
  | some (.c (.lit (.bool x))) =>
    match bt σ (m6 c true ch) a,bt σ (m6 c false ch) b with
    | some (.c (.lit (.bool y))),some (.c (.lit (.bool z)))=>some (bl (bif x then y else z))
    | _,_=>none
  | _=>none
def cO:Op→List Operand
  | .call c=>(match c.callee with | .value f=>f :: c.args.toList | _=>c.args.toList)
  | op=>op.operands.toList
def EM:Option V→Option V
  | some (.c (.lit (.bool y)))=>some (bl y)
  | _=>none
def qm (σ:St) (ch:aE) (c a b:Operand):Option V :=
  match bt σ ch c with
  | some (.c (.lit (.bool x)))=>bif x then EM (bt σ (m6 c true ch) a) else EM (bt σ (m6 c false ch) b)
  | _=>none
def wH (P:Program) (C:FuncId→Option CC) (H:ae) (nid:Nat) (ch:aE) (o:Oper) (vs:List V):Option ax :=
  match rO P C H nid o vs with
  | some r=>some r
  | none=>bif ch.isEmpty then none else some { pre:=[false = true],val:=.c .unk }
def jl (P:Program) (C:FuncId→Option CC) (σ:St) (nid:Nat) (ch:aE) (o:Oper):Option (List V × ax) :=
  match o.op with
  | .pick c a b=>match mY σ ch c a b with
    | some v=>some ([],{ val:=v })
    | none=>(qm σ ch c a b).map fun v=>([.c .unk],{ val:=v })
  | op=>match jh σ ch (cO op) with
    | some vs=>(wH P C σ.hp nid ch o vs).map fun r=>(vs,r)
    | none=>none
def oN (os:List Nat) (tm:List (Nat × av)):List (Nat × av) :=
  match os with
  | []=>tm
  | o :: r=>oN r (tm.map fun x=>(x.1,{ ch:=x.2.ch,v:=x.2.v.kill o }))
def V.isBool:V→Bool
  | .c (.lit (.bool _))=>true
  | _=>false
def im (tm:List (Nat × av)) (ch:aE) (ps:List Prop):List Prop :=
  match ch with
  | []=>ps
  | ch=>ps.map fun p=>(holds tm ch = true→p)
def lc (d:Nat) (tm:List (Nat × av)):List (Nat × av):=tm.map fun x=>(x.1,bif x.2.ch.any (fun y=>Nat.beq y.1 d) then ⟨[], .c .unk⟩ else x.2)
def jq:List Operand→List Nat
  | []=>[]
  | .tmp t :: r=>t :: jq r
  | _ :: r=>jq r
structure bz where
  dst:Option Nat
  rds:List Nat
  ch:aE
  nid:Nat
  vs:List V
  reach:List Nat
  rws:Bool × List Nat
  res:ax
def after (σ:St) (r:bz):St :=
  let tm:=oN r.res.kill σ.tm
  { tm:=match r.dst with | some t=>eX (lc t tm) t { ch:=r.ch,v:=r.res.val } | none=>tm
    hp:=r.res.eff++dt r.res.kill σ.hp
    nx:=σ.nx }
def eJ (dst:Option Nat) (ch:aE):Bool:=match dst with | some t=>ch.all fun y=>!(Nat.beq y.1 t) | none=>true
def ja (N:Nat) (dst:Option Nat):Bool:=match dst with | some t=>Nat.blt t N | none=>true
def cK (tm:List (Nat × av)) (t:Nat):Bool:=match ar tm t with | some s=>s.v.isBool | none=>false
def eh (tm:List (Nat × av)) (ch:aE) (t:Nat):Bool:=match ar tm t with | some s=>s.v.isBool&&mV s.ch ch | none=>false
def recOf (P:Program) (C:FuncId→Option CC) (N:Nat) (ops:List Oper) (σ:St) (nid:Nat) (o:Oper):Option bz :=
  bif ja N o.dst then
    match dv ops σ.tm o.guard with
    | some ch =>
      bif ch.all fun x=>eh σ.tm ch x.1 then
      match jl P C σ nid ch o with
      | some (vs,r)=>bif ch.isEmpty||(r.eff.isEmpty&&r.kill.isEmpty&&eJ o.dst ch) then
          some { dst:=o.dst,rds:=jq (cO o.op)++ch.map (·.1),ch,nid,vs,reach:=aD σ.hp vs,rws:=mC σ.hp vs,res:=r } else none
      | none=>none
      else none
    | none=>none
  else none
def lJ (tm:List (Nat × av)):List (Nat × av):=tm.map fun x=>(x.1,bif x.2.ch.isEmpty then x.2 else ⟨[], .c .unk⟩)
def tW (P:Program) (C:FuncId→Option CC) (N:Nat) (all:List Oper):List Oper→St→Option (List Prop × St)
  | [],σ=>some ([],{ σ with tm:=lJ σ.tm })
  | o :: r,σ=>match recOf P C N all σ σ.nx o with
    | some rc=>match tW P C N all r { after σ rc with nx:=σ.nx+8 } with
      | some (qs,σ'')=>some (im σ.tm rc.ch rc.res.pre++qs,σ'')
      | none=>none
    | none=>none
def Bl:List Prop→Prop→Prop
  | [],k=>k
  | p :: r,k=>p∧Bl r k
def m9 (P:Program) (C:FuncId→Option CC) (N:Nat) (all:List Oper) (σ:St) (o:Oper) (k:St→Prop):Prop :=
  match recOf P C N all σ σ.nx { o with guard:=none } with
  | some rc=>Bl rc.res.pre (k { after σ rc with nx:=σ.nx+8 })
  | none=>False
def BH (o:Oper) (ch:aE) (nid:Nat):bz:={ dst:=o.dst,rds:=[],ch:=ch,nid:=nid,vs:=[],reach:=[],rws:=(true,[]),res:={ val:=bl false } }
def nf (N:Nat) (σ:St) (o:Oper) (ch:aE) (k:St→Prop):Prop :=
  bif ja N o.dst&&eJ o.dst ch then k { after σ (BH o ch σ.nx) with nx:=σ.nx+8 } else False
def qC (P:Program) (C:FuncId→Option CC) (N:Nat) (all:List Oper):List Oper→St→(St→Prop)→Prop
  | [],σ,K=>K { σ with tm:=lJ σ.tm }
  | o :: r,σ,K =>
    match o.guard with
    | none=>m9 P C N all σ o fun σ'=>qC P C N all r σ' K
    | some g =>
      match dv all σ.tm (some g) with
      | some ((t,w) :: ch)=>bif ((t,w) :: ch).all (fun x=>eh σ.tm ((t,w) :: ch) x.1) then
          (match ar σ.tm t with
          | some ⟨c0, .c (.lit (.bool b))⟩ =>
            bif holds σ.tm ch then
              (bif b then
                (bif w then m9 P C N all { σ with tm:=eX σ.tm t ⟨c0,bl true⟩ } o fun σ'=>qC P C N all r σ' K
                else nf N { σ with tm:=eX σ.tm t ⟨c0,bl true⟩ } o ((t,w) :: ch) fun σ'=>qC P C N all r σ' K)
              else
                (bif w then nf N { σ with tm:=eX σ.tm t ⟨c0,bl false⟩ } o ((t,w) :: ch) fun σ'=>qC P C N all r σ' K
                else m9 P C N all { σ with tm:=eX σ.tm t ⟨c0,bl false⟩ } o fun σ'=>qC P C N all r σ' K))
            else nf N σ o ((t,w) :: ch) fun σ'=>qC P C N all r σ' K
          | _=>False) else False
      | _=>False
def JQ (a b:List Nat):Bool:=a.all fun x=>!(b.any fun y=>Nat.beq x y)
def ka (d:Option Nat):List Nat:=match d with | some t=>[t] | none=>[]
def cn (H:ae):List Nat:=H.map (·.1)
def EF (a b:bz):Bool :=
  JQ (ka a.dst) (b.rds++ka b.dst)&&JQ (cn a.res.eff) (b.reach++cn b.res.eff) &&
  (a.res.kill.isEmpty||(b.rws.1&&JQ a.res.kill (b.reach++(b.rws.2++(V.refs b.res.val++wJ b.res.eff)))&&b.res.kill.isEmpty))
def oQ (a b:bz):Bool:=EF a b&&EF b a&&V.noUnks a.vs&&V.noUnks b.vs
def GB (P:Program) (C:FuncId→Option CC) (N:Nat) (all:List Oper):List Oper→Nat→St→Option (List Prop × List bz × St)
  | [],_,σ=>some ([],[],{ σ with tm:=lJ σ.tm })
  | o :: r,nid,σ=>match recOf P C N all σ nid o with
    | some rc=>match GB P C N all r (nid+8) (after σ rc) with
      | some (qs,rcs,σ'')=>some (im σ.tm rc.ch rc.res.pre++qs,rc :: rcs,σ'')
      | none=>none
    | none=>none
def GR (acc:List Nat) (o:Oper):Nat:=o.after.toList.foldl (fun s e=>bif Region.binds .any e then s ||| (2 ^ e.on ||| acc.getD e.on 0) else s) 0
def xc:List Oper→List Nat→List Nat
  | [],acc=>acc
  | o :: r,acc=>xc r (acc++[GR acc o])
def Ae (m:Nat) (r:bz):Nat→List bz→Bool
  | _,[]=>true
  | j,q :: l=>(m.testBit j||oQ q r)&&Ae m r (j+1) l
def MN (n:Nat) (o:Oper):Bool:=o.after.toList.all fun e=>!(Region.binds .any e)||Nat.blt e.on n
def mL:Nat→List Oper→Bool
  | _,[]=>true
  | n,o :: r=>MN n o&&mL (n+1) r
def rX (ms:List Nat):List bz→List bz→Bool
  | _,[]=>true
  | done,r :: l=>Ae (ms.getD done.length 0) r 0 done&&rX ms (done++[r]) l
end Go.Ax
