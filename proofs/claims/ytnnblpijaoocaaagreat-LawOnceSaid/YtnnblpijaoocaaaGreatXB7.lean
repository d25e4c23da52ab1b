import Derived.Test.YtnnblpijaoocaaaGreatXB6g
set_option linter.all false
/- An evaluation of code that can be run: functions as plain functions with an option. -/
namespace Go.Ax
open Go.RowKit
def RS:Nat:=2000000
inductive dt where
  | data (c:Cd)
  | new (c:Cd)
  | own (fr:Bool) (e:TypeId) (t:Ty)
  | gen (T:Tm)
  | gen2 (T T':Tm)
def dt.tys:dt→List Ty
 | .gen T=>T.tys
 | .gen2 T T'=>.b :: (T.tys++T'.tys)
 | .data c=>c.tys
 | .new c=>c.tys
 | .own _ _ t=>[.ls t]
def dt.isGen:dt→Bool
 | .gen _=>true
 | .gen2 _ _=>true
 | _=>false
def dt.out:(o:dt)→HP o.tys→ko
 | .gen _,_=>.data (.c .unk)
 | .gen2 _ _,_=>.data (.c .unk)
 | .data c,x=>.data (filC c (gU c.tys x)).1
 | .new c,x=>.new (filC c (gU c.tys x)).1
 | .own fr e t,x=>.own fr e t x
def dt.rd:(o:dt)→ah→V→Option (HP o.tys)
 | .gen _,_,_=>none
 | .gen2 _ _,_,_=>none
 | .data c,H,v=>match colC c (v.view H) with | some us=>lr c.tys us | none=>none
 | .new c,H,v=>bif newV H v then (match colC c (v.view H) with | some us=>lr c.tys us | none=>none) else none
 | .own fr e t,H,v=>match v with
  | .c .nil=>some ([]:List t.T)
  | .row o k=>(match ah.get H o with
   | some (.row e' t' l)=>bif Nat.beq t'.k k&&Nat.beq e e'&&(!fr||t.sc) then lZ t' t l else none
   | _=>none)
  | _=>none
theorem dt.rd_ok {o:dt} {H:ah} {v:V} {x:HP o.tys} (h:o.rd H v = some x):rU (o.out x) H v:=by
 have key:∀ (c:Cd) (x:HP c.tys),(match colC c (v.view H) with | some us=>lr c.tys us | none=>none) = some x→VLe (v.view H) (filC c (gU c.tys x)).1:=by
  intro c x h
  split at h
  ·next us hu =>
   have hr:=tz _ _ _ h
   exact (colC_le c _ us [] _ hu (by rw [List.append_nil];exact hr)).1
  ·cases h
 cases o with
 | gen T=>cases h
 | gen2 T T'=>cases h
 | data c=>exact key c x h
 | new c =>
  simp only [dt.rd] at h
  cases hn:newV H v with
  | false=>rw [hn] at h;cases h
  | true=>rw [hn] at h;exact ⟨key c x h,hn⟩
 | own fr e t =>
  simp only [dt.rd] at h
  split at h
  ·cases h;exact .inl ⟨rfl,rfl⟩
  ·next o k =>
   split at h
   ·next e' t' l hg =>
    cases hc:(Nat.beq t'.k k&&Nat.beq e e'&&(!fr||t.sc)) with
    | false=>rw [hc] at h;cases h
    | true =>
     rw [hc] at h
     have h:lZ t' t l = some x:=h
     simp only [Bool.and_eq_true,Nat.beq_eq,Bool.or_eq_true,Bool.not_eq_true'] at hc
     obtain ⟨he,hx⟩:=jZ h
     subst he
     obtain ⟨⟨rfl,rfl⟩,h3⟩:=hc
     refine .inr ⟨o,rfl, ?_,fun hf=>?_⟩
     ·rw [hg];have:x = l:=hx;rw [this]
     ·rcases h3 with h3 | h3
      ·rw [hf] at h3;cases h3
      ·exact h3
   ·cases h
  ·cases h
structure Ep where
  T:Tm
  T':Tm
  f:HP T.tys→Option (HP T'.tys)
structure FI where
  fid:FuncId
  fn:Func
  c:Code
  ins:Tm
  out:dt
  cuts:List (Nat × Tm):=[]
  hd:List (Nat × Ep):=[]
abbrev XT:=(fi:FI)→HP fi.ins.tys→Option (HP fi.out.tys)
abbrev JT:=(fi:FI)→(π:Nat)→(T:Tm)→HP T.tys→Option (HP fi.out.tys)
def Ac (fi:FI) (vs:List V):Option (HP fi.ins.tys) :=
 bif !fi.out.isGen&&(Nat.beq vs.length fi.ins.sl.length&&fi.ins.ob.isEmpty) then rd fi.ins { tm:=kQ vs 0,hp:=[],nx:=0 } else none
def iV {R:Type} (X:XT) (vs:List V) (k:ko→Option R):List FI→Option R
 | []=>none
 | fi :: r=>match Ac fi vs with
  | some a=>(X fi a).bind fun y=>k (fi.out.out y)
  | none=>iV X vs k r
def cX {α:Type}:List (Nat × α)→Nat→Option α
 | [],_=>none
 | (g,x) :: r,f=>bif Nat.beq g f then some x else cX r f
def DE (T:Tm) (xs:List TV):St:=let p:=oK T.sl xs; { tm:=p.1,hp:=lK 0 T.ob p.2,nx:=T.ob.length }
def nf (H:ah):List Nat:=Ey [] (H.map (·.1))
def wB:List Nat→Nat
 | []=>0
 | o :: r=>Nat.max (o+1) (wB r)
def S7 (os:List Nat) (H:ah):Bool:=os.all fun o=>match ah.get H o with | some b=>MJ os b | none=>true
def Ut (N:Nat) (H:ah) (args:List V):St:={ tm:=kQ args 0++kQ args 1000000,hp:=qc (nf H) H,nx:=wB (nf H) }
def rdG (fi:FI) (H:ah) (args:List V):Option (HP fi.ins.tys) :=
 bif Nat.ble args.length fi.fn.ntmps&&(V.refss args).all (fun o=>eJ o (nf H))&&S7 (nf H) H then zp fi.ins (Ut fi.fn.ntmps H args) else none
def kG (args:List V):List (Nat × Cd)→ql
 | []=>[]
 | (t, .k (.ptr q k i j)) :: r=>bif Nat.ble 1000000 t then (match args[t - 1000000]? with | some (.ptr o _ _ _)=>(q,o,true) :: kG args r | _=>kG args r) else kG args r
 | (t, .k (.row q k)) :: r=>bif Nat.ble 1000000 t then (match args[t - 1000000]? with | some (.row o _)=>(q,o,false) :: kG args r | _=>kG args r) else kG args r
 | _ :: r=>kG args r
def ww:Option Od→Bool
 | some (.box _)=>true
 | some (.map ..)=>true
 | _=>false
def HK:Option Ob→Bool
 | some (.row ..)=>false
 | none=>false
 | _=>true
def LH (T:Tm) (H:ah) (bk:ql):Bool:=Nat.ble T.ob.length 8&&(iB (T.sl.map (·.1))&&(Fw bk&&bk.all fun x=>eJ x.2.1 (nf H)&&(Nat.blt x.1 T.ob.length&&(!x.2.2||(ww T.ob[x.1]?&&HK (ah.get H x.2.1))))))
def jQ {R:Type} (T:Tm) (xs:List TV) (H:ah) (nid:Nat) (args:List V) (k:aA→Option R):Option R :=
 match au (DE T xs).tm RS with
 | some ⟨_, .tup [v]⟩=>bif LH T H (kG args T.sl) then k (KK nid (nf H) (kG args T.sl) (DE T xs).hp v) else none
 | _=>none
def kL {R:Type} (o:dt) (y:HP o.tys) (H:ah) (nid:Nat) (args:List V) (k:aA→Option R):Option R :=
 match o,y with
 | .gen T,y=>jQ T (gU T.tys y) H nid args k
 | .gen2 T T',y=>(match gU (.b :: (T.tys++T'.tys)) y with
  | ⟨.b,t⟩ :: xs=>bif t then jQ T xs H nid args k else jQ T' (xs.drop T.tys.length) H nid args k
  | _=>none)
 | _,_=>none
def jX {R:Type} (X:XT) (H:ah) (nid:Nat) (args:List V) (k:aA→Option R):List FI→Option R
 | []=>none
 | fi :: r=>match rdG fi H args with
  | some a=>(X fi a).bind fun y=>kL fi.out y H nid args k
  | none=>jX X H nid args k r
def Om (T:Tm) (σ:St):Option (List V) :=
 let τ:=yC T σ
 let ts:=T.sl.map (·.1)
 bif lj ts τ then
  let τ':=canonN ts τ
  bif Nat.ble τ'.nx T.ob.length then (match ye τ'.tm T.sl,A3 τ'.hp 0 T.ob with
   | some a,some b=>(match lr T.tys (a++b) with | some _=>some (a++b) | none=>none)
   | _,_=>none) else none
 else none
def Of (ts:List Ty):List V:=ts.map fun t=>encV t t.z
def dt.rdG:(o:dt)→St→V→Option (HP o.tys)
 | .gen T,σ,v=>zp T { σ with tm:=(RS,⟨[], .tup [v]⟩) :: σ.tm }
 | .gen2 T T',σ,v=>match Om T { σ with tm:=(RS,⟨[], .tup [v]⟩) :: σ.tm } with
  | some us=>lr (.b :: (T.tys++T'.tys)) (bl true :: (us++Of T'.tys))
  | none=>(match Om T' { σ with tm:=(RS,⟨[], .tup [v]⟩) :: σ.tm } with
   | some us=>lr (.b :: (T.tys++T'.tys)) (bl false :: (Of T.tys++us))
   | none=>none)
 | _,_,_=>none
theorem Ld {H:ah}:∀ (cs:List Od) (i:Nat) (us us2:List V) (xs:List TV),A3 H i cs = some us→RV (us++us2) xs→sU H (lK i cs xs)
 | [],i,us,us2,xs,h,hr=>by rw [lK];trivial
 | c :: cs,i,us,us2,xs,h,hr=>by
  rw [A3] at h
  split at h
  ·next b hg =>
   split at h
   ·next a b' ha hb =>
    cases h
    rw [List.append_assoc] at hr
    obtain ⟨h1,h2⟩:=NX c b a (b'++us2) xs ha hr
    show sU H ((i,some _) :: _)
    rw [sU,hg]
    exact ⟨h1,Ld cs (i+1) b' us2 _ hb h2⟩
   ·cases h
  ·cases h
theorem Ou {T:Tm} {σ:St} {us us2:List V} {xs:List TV} (h:Om T σ = some us) (hr:RV (us++us2) xs):dB σ (DE T xs):=by
 unfold Om at h
 simp only at h
 cases hc:lj (T.sl.map (·.1)) (yC T σ) with
 | false=>rw [hc] at h;cases h
 | true =>
  rw [hc,cond_true] at h
  cases hb:Nat.ble (canonN (T.sl.map (·.1)) (yC T σ)).nx T.ob.length with
  | false=>rw [hb] at h;cases h
  | true =>
   rw [hb,cond_true] at h
   split at h
   ·next a b ha hb' =>
    split at h
    ·cases h
     rw [List.append_assoc] at hr
     obtain ⟨h1,h2⟩:=Gj T.sl a (b++us2) xs ha hr
     exact ((IQ T σ).trans (dB.canonN _ hc)).trans (.le ⟨h1,Ld T.ob 0 b us2 _ hb' h2,Nat.ble_eq.mp hb⟩)
    ·cases h
   ·cases h
theorem NZ:∀ {us us2:List V} {xs:List TV},RV (us++us2) xs→RV us2 (xs.drop us.length)
 | [],us2,xs,h=>h
 | u :: us,us2,x :: xs,h=>NZ (us:=us) h.2
 | u :: us,us2,[],h=>h.elim
theorem Us {b:Bool} {x:TV} (h:VLe (bl b) x.v):x = ⟨.b,b⟩:=by
 obtain ⟨t,x⟩:=x
 match t,x,h with
 | .b,x,h1 =>
  change VLe (.c (.lit (.bool b))) (.c (.lit (.bool x))) at h1
  rw [VLe] at h1
  cases h1
  rfl
 | .st k,x,h1=>change VLe (.c (.lit (.bool b))) (.agg _) at h1;simp [VLe] at h1
 | .arr n t,x,h1=>change VLe (.c (.lit (.bool b))) (.agg _) at h1;simp [VLe] at h1
 | .i k,x,h1=>change VLe (.c (.lit (.bool b))) (.c (.lit (.int k x))) at h1;rw [VLe] at h1;cases h1
 | .ls t,x,h1=>change VLe (.c (.lit (.bool b))) (.c (.sl t x)) at h1;rw [VLe] at h1;cases h1
 | .s,x,h1=>change VLe (.c (.lit (.bool b))) (.c (.lit (.string x))) at h1;rw [VLe] at h1;cases h1
theorem Sk {R:Type} (T:Tm) (y:HP T.tys) (H:ah) (nid:Nat) (args:List V) (k:aA→Option R):kL (.gen T) y H nid args k = jQ T (gU T.tys y) H nid args k:=rfl
theorem TJ (T:Tm) (σ:St) (v:V):dt.rdG (.gen T) σ v = zp T { σ with tm:=(RS,⟨[], .tup [v]⟩) :: σ.tm }:=rfl
theorem RZ {T:Tm} {σ:St} {x:HP T.tys} (h:zp T σ = some x):dB σ (DE T (gU T.tys x)):=sy h
theorem Mm {R:Type} (T T':Tm) (y:HP (.b :: (T.tys++T'.tys))) {t:Bool} {xs:List TV} (hx:gU (.b :: (T.tys++T'.tys)) y = (⟨.b,t⟩:TV) :: xs) (H:ah) (nid:Nat) (args:List V) (k:aA→Option R) :
  kL (.gen2 T T') y H nid args k = bif t then jQ T xs H nid args k else jQ T' (xs.drop T.tys.length) H nid args k:=by
 show (match gU (.b :: (T.tys++T'.tys)) y with | ⟨.b,t⟩ :: xs=>bif t then jQ T xs H nid args k else jQ T' (xs.drop T.tys.length) H nid args k | _=>none) = _
 rw [hx]
theorem Sn (T T':Tm) (σ:St) (v:V):dt.rdG (.gen2 T T') σ v = match Om T { σ with tm:=(RS,⟨[], .tup [v]⟩) :: σ.tm } with
  | some us=>lr (.b :: (T.tys++T'.tys)) (bl true :: (us++Of T'.tys))
  | none=>(match Om T' { σ with tm:=(RS,⟨[], .tup [v]⟩) :: σ.tm } with
   | some us=>lr (.b :: (T.tys++T'.tys)) (bl false :: (Of T.tys++us))
   | none=>none):=rfl
theorem T7 {T T':Tm} {σ:St} {v:V} {y:HP (dt.gen2 T T').tys} (h:(dt.gen2 T T').rdG σ v = some y):∃ (T0:Tm) (xs:List TV),dB { σ with tm:=(RS,⟨[], .tup [v]⟩) :: σ.tm } (DE T0 xs) ∧
  ∀ {R:Type} (H:ah) (nid:Nat) (args:List V) (k:aA→Option R),kL (.gen2 T T') y H nid args k = jQ T0 xs H nid args k:=by
 rw [Sn] at h
 have key:∀ (b:Bool) (us:List V),lr (.b :: (T.tys++T'.tys)) (bl b :: us) = some y→∃ xs,gU (.b :: (T.tys++T'.tys)) y = (⟨.b,b⟩:TV) :: xs∧RV us xs:=by
  intro b us hh
  have hr:=tz _ _ _ hh
  revert hr
  generalize gU (.b :: (T.tys++T'.tys)) y = l
  intro hr
  match l,hr with
  | [],hr=>exact hr.elim
  | x :: xs,hr=>exact ⟨xs,by rw [Us hr.1],hr.2⟩
 split at h
 ·next us hu =>
  obtain ⟨xs,hx,hr⟩:=key _ _ h
  exact ⟨T,xs,Ou hu hr,fun H nid args k=>by rw [Mm T T' y hx,cond_true]⟩
 ·split at h
  ·next us hu =>
   obtain ⟨xs,hx,hr⟩:=key _ _ h
   have h2:=NZ hr
   have e:(Of T.tys).length = T.tys.length:=by simp [Of]
   rw [e] at h2
   exact ⟨T',xs.drop T.tys.length,Ou (us2:=[]) hu (by rw [List.append_nil];exact h2),fun H nid args k=>by rw [Mm T T' y hx,cond_false]⟩
  ·cases h
theorem UR {o:dt} {σ:St} {v:V} {y:HP o.tys} (h:o.rdG σ v = some y):∃ (T:Tm) (xs:List TV),dB { σ with tm:=(RS,⟨[], .tup [v]⟩) :: σ.tm } (DE T xs) ∧
  ∀ {R:Type} (H:ah) (nid:Nat) (args:List V) (k:aA→Option R),kL o y H nid args k = jQ T xs H nid args k:=by
 cases o with
 | gen T =>
  rw [TJ] at h
  exact ⟨T,gU T.tys y,RZ h,fun H nid args k=>Sk T y H nid args k⟩
 | gen2 T T'=>exact @T7 T T' σ v y h
 | data c =>
  have h:(none:Option (HP (dt.data c).tys)) = some y:=h
  cases h
 | new c =>
  have h:(none:Option (HP (dt.new c).tys)) = some y:=h
  cases h
 | own fr e t =>
  have h:(none:Option (HP (dt.own fr e t).tys)) = some y:=h
  cases h
inductive Sp where
  | none
  | hand (fi:FI) (h:XT→HP fi.ins.tys→Option (HP fi.out.tys))
  | mut (m:XT→ah→Nat→List V→Option aA)
structure jL where
  P:Program
  fs:List (FuncId × List FI)
  sp:FuncId→Sp
def GM:List FI→Bool
 | fi :: _=>fi.out.isGen
 | []=>false
def m8 {R:Type} (fi:FI) (h:HP fi.ins.tys→Option (HP fi.out.tys)) (H:ah) (nid:Nat) (args:List V) (k:aA→Option R):Option R:=match rdG fi H args with
 | some a=>(h a).bind fun y=>kL fi.out y H nid args k
 | none=>none
def mS {R:Type} (fi:FI) (h:HP fi.ins.tys→Option (HP fi.out.tys)) (vs:List V) (k:ko→Option R):Option R:=match Ac fi vs with
 | some a=>(h a).bind fun y=>k (fi.out.out y)
 | none=>none
def fm (Tb:jL) (X:XT) (f:FuncId):CC:=match cX Tb.fs f with
 | some l=>bif GM l then .mut fun H nid args=>jX X H nid args some l else .pure fun vs=>(iV X vs some l).map fun o=>(true,o)
 | none=>match Tb.sp f with
  | .hand fi h=>bif fi.out.isGen then .mut fun H nid args=>m8 fi (h X) H nid args some else .pure fun vs=>(mS fi (h X) vs some).map fun o=>(true,o)
  | .mut m=>.mut (m X)
  | .none=>.pure fun _=>none
def nY (C:FuncId→CC) (fs:List FuncId):FuncId→Option CC:=fun f=>bif eJ f fs then some (.pure fun _=>some (false, .data (.c .unk))) else some (C f)
theorem EV {R:Type} (X:XT) (vs:List V) (k:ko→Option R):∀ l:List FI,iV X vs k l = (iV X vs some l).bind k
 | []=>rfl
 | fi :: r=>by
  unfold iV
  split
  ·next a ha=>cases X fi a <;> rfl
  ·exact EV X vs k r
theorem Is {R:Type} (T:Tm) (xs:List TV) (H:ah) (nid:Nat) (args:List V) (k:aA→Option R):jQ T xs H nid args k = (jQ T xs H nid args some).bind k:=by
 unfold jQ
 split
 ·cases LH T H (kG args T.sl) <;> rfl
 ·rfl
theorem IP {R:Type} (o:dt) (y:HP o.tys) (H:ah) (nid:Nat) (args:List V) (k:aA→Option R):kL o y H nid args k = (kL o y H nid args some).bind k:=by
 unfold kL
 split
 ·exact Is ..
 ·split
  ·next t xs _=>cases t <;> exact Is ..
  ·rfl
 ·rfl
theorem Fi {R:Type} (X:XT) (H:ah) (nid:Nat) (args:List V) (k:aA→Option R):∀ l:List FI,jX X H nid args k l = (jX X H nid args some l).bind k
 | []=>rfl
 | fi :: r=>by
  unfold jX
  split
  ·next a ha =>
   cases X fi a with
   | none=>rfl
   | some y=>rw [Option.bind_some,Option.bind_some];exact IP ..
  ·exact Fi X H nid args k r
def gb {α:Type} (b:Bool) (o:Option α):Option α:=bif b then o else none
def gL {α:Type}:List Bool→Option α→Option α
 | [],o=>o
 | b :: r,o=>gb b (gL r o)
theorem sx {α:Type} {o:Option α} {y:α}:∀ {l:List Bool},gL l o = some y→(∀ b∈l,b = true)∧o = some y
 | [],h=>⟨fun b hb=>by simp at hb,h⟩
 | b :: l,h=>by
  unfold gL gb at h
  cases b with
  | false=>cases h
  | true =>
   obtain ⟨h1,h2⟩:=sx (l:=l) h
   exact ⟨fun c hc=>by rcases List.mem_cons.1 hc with rfl | hc;rfl;exact h1 c hc,h2⟩
def fU.bools:{ps:List Prop}→fU ps→List Bool
 | _, .nil=>[]
 | _, .cons (p:=p) d r=>@aa p d :: r.bools
def KJ (tm:List (Nat × az)) (ch:aQ) (bs:List Bool):List Bool:=match ch with
 | []=>bs
 | ch=>bs.map fun b=>!(holds tm ch)||b
theorem uw:∀ {ps:List Prop} (d:fU ps),(∀ b∈d.bools,b = true)→∀ p∈ps,p
 | _, .nil,_,p,hp=>by simp at hp
 | _, .cons d r,h,p,hp=>by
  rcases List.mem_cons.1 hp with rfl | hp
  ·exact of_decide_eq_true (h _ (by simp [fU.bools]))
  ·exact uw r (fun b hb=>h b (by simp [fU.bools,hb])) p hp
theorem Ix {c:Prop} {b:Bool} (hb:b = true↔c):∀ {ps:List Prop} (d:fU ps),(∀ x∈d.bools.map (fun y=>!b||y),x = true)→∀ p∈ps,c→p
 | _, .nil,_,p,hp=>by simp at hp
 | _, .cons d r,h,p,hp=>by
  intro hc
  rcases List.mem_cons.1 hp with rfl | hp
  ·have:=h (!b||@decide _ d) (by simp [fU.bools])
   rw [hb.2 hc] at this
   exact of_decide_eq_true (by simpa using this)
  ·exact Ix hb r (fun x hx=>h x (by simp only [fU.bools,List.map_cons,List.mem_cons];exact .inr hx)) p hp hc
theorem QE {tm:List (Nat × az)} {ch:aQ} {ps:List Prop} (d:fU ps) (h:∀ b∈KJ tm ch d.bools,b = true):∀ p∈jW tm ch ps,p:=by
 unfold KJ jW at *
 cases ch with
 | nil=>exact uw d h
 | cons x l =>
  intro p hp
  simp only [List.mem_map] at hp
  obtain ⟨q,hq,rfl⟩:=hp
  exact Ix Iff.rfl d h q hq
def sK (nid:Nat) (args:List V):ko→Option aA
 | .data v=>bif (!gP args)||v.scalar then some { pre:=[true = true],val:=v } else none
 | .new v=>some { pre:=[true = true],val:=v }
 | .own fr e t l=>bif (!gP args)||fr then some { pre:=[true = true],val:=.row nid t.k,eff:=[(nid,some (.row e t l))] } else none
def rW (H:ah) (nid:Nat) (args:List V) (out:ko):Option aA:=match sK nid args out with
 | some r=>some r
 | none=>bif V.noPs args then ku (fun _ vs=>sK nid vs out) (V.refss args) H args else none
theorem QF {o:Nat} {e:TypeId} {t:Ty} (H:ah) {q:Nat} (h:q≠o):ah.get ((o,some (.row e t [])) :: eH [o] H) q = mH o (ah.get H q):=by
 rw [ah.get_cons,if_neg (Ne.symm h),eL]
mutual
theorem view_fz {o:Nat} {e:TypeId} {t:Ty} {l:List t.T} {H:ah} (hg:H.get o = some (.row e t l)):∀ v:V,v.noP = true→(V.fz o t l v).view ((o,some (.row e t [])) :: eH [o] H) = v.view H
 | .c d,_=>rfl
 | .agg vs,hn=>by rw [V.fz,V.view,V.view,views_fz hg vs (by simpa [V.noP] using hn)]
 | .tup vs,hn=>by rw [V.fz,V.view,V.view,views_fz hg vs (by simpa [V.noP] using hn)]
 | .ptr ..,hn=>by simp [V.noP] at hn
 | .row o' k,_=>by
  rw [V.fz]
  cases hb:Nat.beq o' o with
  | true =>
   have:=Nat.eq_of_beq_eq_true hb
   subst this
   rw [cond_true,V.view,tM,hg]
   simp only
   cases Nat.beq t.k k <;> rfl
  | false =>
   have hne:o'≠o:=fun h=>by subst h;simp at hb
   rw [cond_false,V.view,V.view,tM,tM,QF H hne]
   cases ah.get H o' with
   | none=>rfl
   | some b=>cases b <;> rfl
 | .sub o' k off n,_=>by
  rw [V.fz]
  cases hb:Nat.beq o' o with
  | true =>
   have:=Nat.eq_of_beq_eq_true hb
   subst this
   rw [cond_true,V.view,tF,hg]
   simp only
   cases Nat.beq t.k k <;> rfl
  | false =>
   have hne:o'≠o:=fun h=>by subst h;simp at hb
   rw [cond_false,V.view,V.view,tF,tF,QF H hne]
   cases ah.get H o' with
   | none=>rfl
   | some b=>cases b <;> rfl
 | .dptr ..,_=>rfl
 | .fn f vs,hn=>by rw [V.fz,V.view,V.view,views_fz hg vs (by simpa [V.noP] using hn)]
theorem views_fz {o:Nat} {e:TypeId} {t:Ty} {l:List t.T} {H:ah} (hg:H.get o = some (.row e t l)):∀ vs:List V,V.noPs vs = true→V.views ((o,some (.row e t [])) :: eH [o] H) (V.fzs o t l vs) = V.views H vs
 | [],_=>rfl
 | v :: r,hn=>by
  rw [V.noPs,Bool.and_eq_true] at hn
  rw [V.fzs,V.views,V.views,view_fz hg v hn.1,views_fz hg r hn.2]
end
mutual
theorem noP_fz (o:Nat) (t:Ty) (l:List t.T):∀ v:V,v.noP = true→(V.fz o t l v).noP = true
 | .c d,_=>rfl
 | .agg vs,hn=>by rw [V.fz,V.noP];exact noPs_fz o t l vs (by simpa [V.noP] using hn)
 | .tup vs,hn=>by rw [V.fz,V.noP];exact noPs_fz o t l vs (by simpa [V.noP] using hn)
 | .ptr ..,hn=>by simp [V.noP] at hn
 | .row o' k,_=>by
  rw [V.fz]
  cases Nat.beq o' o with
  | false=>rfl
  | true=>rw [cond_true];cases Nat.beq t.k k <;> rfl
 | .sub o' k off n,_=>by
  rw [V.fz]
  cases Nat.beq o' o with
  | false=>rfl
  | true=>rw [cond_true];cases Nat.beq t.k k <;> rfl
 | .dptr ..,_=>rfl
 | .fn f vs,hn=>by rw [V.fz,V.noP];exact noPs_fz o t l vs (by simpa [V.noP] using hn)
theorem noPs_fz (o:Nat) (t:Ty) (l:List t.T):∀ vs:List V,V.noPs vs = true→V.noPs (V.fzs o t l vs) = true
 | [],_=>rfl
 | v :: r,hn=>by
  rw [V.noPs,Bool.and_eq_true] at hn
  rw [V.fzs,V.noPs,noP_fz o t l v hn.1,noPs_fz o t l r hn.2];rfl
end
theorem CB {C:FuncId→Option CC} {H:ah} {nid:Nat} {f:FuncId} {args:List V} {con:N3} {out:ko} (hc:C f = some (.pure con)) (ho:con (V.views H args) = some (true,out)):iD C H nid f args = sK nid args out:=by
 unfold iD
 rw [hc]
 simp only [ho]
 cases out <;> rfl
theorem Mh {C:FuncId→Option CC} {nid:Nat} {f:FuncId} {con:N3} {out:ko} (hc:C f = some (.pure con)):∀ (fl:List Nat) (H:ah) (args:List V),V.noPs args = true→con (V.views H args) = some (true,out) →
  ku (sg C f nid) fl H args = ku (fun _ vs=>sK nid vs out) fl H args
 | [],H,args,hn,ho=>by
  rw [ku,ku]
  unfold sg
  rw [hn,cond_true,hc]
  simp only
  exact CB hc ho
 | q :: fl,H,args,hn,ho=>by
  rw [ku,ku]
  split
  ·next e t l hg =>
   rw [Mh hc fl _ _ (noPs_fz q t l args hn) (by rw [views_fz hg args hn];exact ho)]
  ·rfl
theorem Ml {C:FuncId→Option CC} {H:ah} {nid:Nat} {f:FuncId} {args:List V} {con:N3} {out:ko} {r:aA} (hc:C f = some (.pure con)) (ho:con (V.views H args) = some (true,out)) (h:rW H nid args out = some r):mX C H nid f args = some r:=by
 unfold mX
 rw [CB hc ho]
 unfold rW at h
 split at h
 ·next r' hr=>rw [hr];exact h
 ·next hr =>
  rw [hr]
  cases hn:V.noPs args with
  | false=>rw [hn] at h;cases h
  | true =>
   rw [hn,cond_true] at h
   simp only
   rw [Mh hc _ _ _ hn ho]
   exact h
theorem Ox {f:ah→List V→Option aA} {P0:List Prop→Prop} (hf:∀ H vs r,f H vs = some r→P0 r.pre):∀ (fl:List Nat) (H:ah) (vs:List V) (r:aA),ku f fl H vs = some r→P0 r.pre
 | [],H,vs,r,h=>hf H vs r h
 | q :: fl,H,vs,r,h=>by
  rw [ku] at h
  split at h
  ·next e t l hg =>
   cases hb:ku f fl ((q,some (.row e t [])) :: eH [q] H) (V.fzs q t l vs) with
   | none=>rw [hb] at h;cases h
   | some r0=>rw [hb] at h;cases h;exact Ox hf fl _ _ r0 hb
  ·cases h
theorem Fa {nid:Nat} {args:List V} {out:ko} {r:aA} (hr:sK nid args out = some r):r.pre = [true = true]:=by
 cases out with
 | data v =>
  simp only [sK] at hr
  cases hq:((!gP args)||v.scalar) <;> rw [hq] at hr <;> cases hr
  rfl
 | new v=>cases hr;rfl
 | own fr e t l =>
  simp only [sK] at hr
  cases hq:((!gP args)||fr) <;> rw [hq] at hr <;> cases hr
  rfl
theorem It {H:ah} {nid:Nat} {args:List V} {out:ko} {r:aA} (h:rW H nid args out = some r):r.pre = [true = true]:=by
 unfold rW at h
 split at h
 ·next r' hr=>cases h;exact Fa hr
 ·cases hn:V.noPs args with
  | false=>rw [hn] at h;cases h
  | true=>rw [hn,cond_true] at h;exact Ox (P0:=fun ps=>ps = [true = true]) (fun _ _ _ h=>Fa h) _ _ _ _ h
def OI {R:Type} (X:XT) (l:List FI) (H:ah) (nid:Nat) (args:List V) (k:aA→Option R):Option R :=
 bif GM l then jX X (br (aK H args) H) nid args k l
 else iV X (V.views H args) (fun out=>match rW H nid args out with | some r=>k r | none=>none) l
def ya {R:Type} (Tb:jL) (X:XT) (f:FuncId) (H:ah) (nid:Nat) (args:List V) (k:aA→Option R):Option R :=
 match cX Tb.fs f with
 | some l=>OI X l H nid args k
 | none=>match Tb.sp f with
  | .hand fi h=>bif fi.out.isGen then m8 fi (h X) (br (aK H args) H) nid args k else mS fi (h X) (V.views H args) fun out=>match rW H nid args out with | some r=>k r | none=>none
  | .mut m=>(m X (br (aK H args) H) nid args).bind fun r=>gL r.dec.bools (k r)
  | .none=>none
theorem z7 {C:FuncId→Option CC} {H:ah} {nid:Nat} {f:FuncId} {args:List V} {m:ah→Nat→List V→Option aA} {r:aA} (hc:C f = some (.mut m)) (hm:m (br (aK H args) H) nid args = some r):mX C H nid f args = some r:=by
 have h0:iD C H nid f args = some r:=by
  unfold iD
  rw [hc]
  exact hm
 unfold mX
 rw [h0]
theorem yx {T:Tm} {xs:List TV} {H:ah} {nid:Nat} {args:List V} {r:aA} (h:jQ T xs H nid args some = some r):r.pre = [true = true]:=by
 unfold jQ at h
 split at h
 ·cases hb:LH T H (kG args T.sl) with
  | false=>rw [hb] at h;cases h
  | true=>rw [hb] at h;cases h;rfl
 ·cases h
theorem Ip {X:XT} {H:ah} {nid:Nat} {args:List V} {r:aA}:∀ {l:List FI},jX X H nid args some l = some r→r.pre = [true = true]
 | [],h=>by cases h
 | fi :: l,h=>by
  unfold jX at h
  split at h
  ·rw [Option.bind_eq_some_iff] at h
   obtain ⟨y,_,h⟩:=h
   unfold kL at h
   split at h
   ·exact yx h
   ·split at h
    ·next t xs _=>cases t <;> exact yx h
    ·cases h
   ·cases h
  ·exact Ip h
theorem Pj {R:Type} (fi:FI) (h:HP fi.ins.tys→Option (HP fi.out.tys)) (H:ah) (nid:Nat) (args:List V) (k:aA→Option R):m8 fi h H nid args k = (m8 fi h H nid args some).bind k:=by
 unfold m8
 split
 ·next a _ =>
  cases h a with
  | none=>rfl
  | some y=>rw [Option.bind_some,Option.bind_some];exact IP ..
 ·rfl
theorem Pr {R:Type} (fi:FI) (h:HP fi.ins.tys→Option (HP fi.out.tys)) (vs:List V) (k:ko→Option R):mS fi h vs k = (mS fi h vs some).bind k:=by
 unfold mS
 split
 ·next a _=>cases h a <;> rfl
 ·rfl
theorem Si {o:dt} {y:HP o.tys} {H:ah} {nid:Nat} {args:List V} {r:aA} (h:kL o y H nid args some = some r):r.pre = [true = true]:=by
 unfold kL at h
 split at h
 ·exact yx h
 ·split at h
  ·next t xs _=>cases t <;> exact yx h
  ·cases h
 ·cases h
theorem Rs {fi:FI} {h:HP fi.ins.tys→Option (HP fi.out.tys)} {H:ah} {nid:Nat} {args:List V} {r:aA} (hh:m8 fi h H nid args some = some r):r.pre = [true = true]:=by
 unfold m8 at hh
 split at hh
 ·rw [Option.bind_eq_some_iff] at hh
  obtain ⟨y,_,hh⟩:=hh
  exact Si hh
 ·cases hh
theorem FF {R:Type} {Tb:jL} {X:XT} {f:FuncId} {H:ah} {nid:Nat} {args:List V} {k:aA→Option R} {y:R} (h:ya Tb X f H nid args k = some y) :
  ∃ r,k r = some y∧(∀ p∈r.pre,p)∧∀ C:FuncId→Option CC,C f = some (fm Tb X f)→mX C H nid f args = some r:=by
 have one:∀ {ps:List Prop},ps = [true = true]→∀ p∈ps,p:=fun e p hp=>by subst e;rw [List.mem_singleton] at hp;subst hp;rfl
 unfold ya at h
 split at h
 ·next l hl =>
  unfold OI at h
  cases hg:GM l with
  | true =>
   rw [hg,cond_true,Fi,Option.bind_eq_some_iff] at h
   obtain ⟨r,h1,h2⟩:=h
   refine ⟨r,h2,one (Ip h1),fun C hC=>z7 (m:=fun H nid args=>jX X H nid args some l) (by rw [hC];unfold fm;rw [hl];simp only [hg,cond_true]) h1⟩
  | false =>
   rw [hg,cond_false,EV,Option.bind_eq_some_iff] at h
   obtain ⟨out,h1,h2⟩:=h
   split at h2
   ·next r hr=>exact ⟨r,h2,one (It hr),fun C hC=>Ml (con:=fun vs=>(iV X vs some l).map fun o=>(true,o)) (by rw [hC];unfold fm;rw [hl];simp only [hg,cond_false]) (by simp only [h1,Option.map_some]) hr⟩
   ·cases h2
 ·next hl =>
  split at h
  ·next fi hd hc =>
   cases hg:fi.out.isGen with
   | true =>
    rw [hg,cond_true,Pj,Option.bind_eq_some_iff] at h
    obtain ⟨r,h1,h2⟩:=h
    exact ⟨r,h2,one (Rs h1),fun C hC=>z7 (m:=fun H nid args=>m8 fi (hd X) H nid args some) (by rw [hC];unfold fm;rw [hl];simp only [hc,hg,cond_true]) h1⟩
   | false =>
    rw [hg,cond_false,Pr,Option.bind_eq_some_iff] at h
    obtain ⟨out,h1,h2⟩:=h
    split at h2
    ·next r hr=>exact ⟨r,h2,one (It hr),fun C hC=>Ml (con:=fun vs=>(mS fi (hd X) vs some).map fun o=>(true,o)) (by rw [hC];unfold fm;rw [hl];simp only [hc,hg,cond_false]) (by simp only [h1,Option.map_some]) hr⟩
    ·cases h2
  ·next m hm =>
   rw [Option.bind_eq_some_iff] at h
   obtain ⟨r,h1,h2⟩:=h
   obtain ⟨h3,h4⟩:=sx h2
   exact ⟨r,h4,uw _ h3,fun C hC=>z7 (m:=m X) (by rw [hC];unfold fm;rw [hl];simp only [hm]) h1⟩
  ·cases h
def K5 (o:Oper) (vs:List V):Option (FuncId × List V):=match o.op,vs with
 | .call { callee:=.value _, .. }, .fn f caps :: vs=>bif Nat.blt f 1000000000 then some (f,vs++caps) else none
 | _,_=>none
def pu (o:Oper):Bool:=match o.op with
 | .call { callee:=.value _, .. }=>true
 | _=>false
def JS (o:Oper) (σ:St) (ch:aQ) (nid:Nat) (vs:List V) (r:aA):cE:={ dst:=o.dst,rds:=lk (dS o.op)++ch.map (·.1),ch,nid,vs,reach:=aK σ.hp vs,rws:=pd σ.hp vs,res:=r }
def MH:List (Nat × az)→Nat→az→List (Nat × az)
 | [],_,_=>[]
 | (t',s') :: r,t,s=>bif Nat.beq t' t then (t',s) :: r else (t',s') :: MH r t s
theorem zq:∀ {tm:List (Nat × az)} {t:Nat} {s:az},au tm t = some s→MH tm t s = tm
 | [],t,s,h=>rfl
 | (t',s') :: r,t,s,h=>by
  unfold MH
  unfold au at h
  cases hb:Nat.beq t' t with
  | true=>rw [hb] at h;cases h;rfl
  | false=>rw [hb,cond_false] at h;rw [cond_false,zq h]
def nv {R:Type}:aQ→St→(St→Option R)→Option R
 | [],σ,k=>k σ
 | (t,_) :: r,σ,k=>match au σ.tm t with
  | some ⟨c0, .c (.lit (.bool b))⟩=>bif b then nv r { σ with tm:=MH σ.tm t ⟨c0,bl true⟩ } k else nv r { σ with tm:=MH σ.tm t ⟨c0,bl false⟩ } k
  | _=>none
theorem sP {R:Type} {y:R}:∀ {ch:aQ} {σ:St} {k:St→Option R},nv ch σ k = some y→k σ = some y
 | [],σ,k,h=>h
 | (t,w) :: r,σ,k,h=>by
  unfold nv at h
  split at h
  ·next c0 b hg =>
   cases b with
   | true =>
    rw [cond_true,zq hg] at h
    exact sP h
   | false =>
    rw [cond_false,zq hg] at h
    exact sP h
  ·cases h
section
variable {R:Type} (Tb:jL) (X:XT) (N:Nat) (all:List Oper)
def H4 (σ:St) (nid:Nat) (o:Oper) (fT fF:List FuncId) (k:St→cE→List FuncId→List FuncId→Option R):Option R :=
 bif pu o then
  (bif jf N o.dst then
   match em all σ.tm o.guard with
   | some ch =>
    bif ch.all fun x=>ga σ.tm ch x.1 then
     nv ch σ fun σ=>match lq σ ch (dS o.op) with
      | some vs=>(match K5 o vs with
       | some (f,args) =>
        bif holds σ.tm ch then
         (bif eJ f fF then none else ya Tb X f σ.hp nid args fun r=>bif ch.isEmpty||(r.eff.isEmpty&&r.kill.isEmpty&&gJ o.dst ch) then k σ (JS o σ ch nid vs r) (f :: fT) fF else none)
        else (bif eJ f fT then ya Tb X f σ.hp nid args fun r=>bif r.eff.isEmpty&&r.kill.isEmpty&&gJ o.dst ch then k σ (JS o σ ch nid vs r) fT fF else none
         else bif gJ o.dst ch then k σ (JS o σ ch nid vs { pre:=[false = true],val:=.c .unk }) fT (f :: fF) else none)
       | none=>none)
      | none=>none
    else none
   | none=>none
  else none)
 else match recOf Tb.P (fun _=>none) N all σ nid o with
  | some rc=>gL (KJ σ.tm rc.ch rc.res.dec.bools) (k σ rc fT fF)
  | none=>none
end
theorem Ss {P:Program} {C:FuncId→Option CC} {H:ah} {nid:Nat} {o:Oper} {vs:List V} {f:FuncId} {args:List V} (h:K5 o vs = some (f,args)):vP P C H nid o vs = mX C H nid f args:=by
 unfold K5 at h
 split at h
 ·next g caps vs' ho =>
  cases hb:Nat.blt g 1000000000 with
  | false=>rw [hb] at h;cases h
  | true =>
   rw [hb] at h;cases h
   unfold vP
   rw [ho]
   simp only [hb,cond_true]
 ·cases h
theorem Ns {P:Program} {C:FuncId→Option CC} {σ:St} {nid:Nat} {ch:aQ} {o:Oper} (ho:pu o = true) {vs:List V} (hv:lq σ ch (dS o.op) = some vs) {r:aA} (hr:vP P C σ.hp nid o vs = some r):lE P C σ nid ch o = some (vs,r):=by
 unfold pu at ho
 split at ho
 ·next f args ats hop =>
  unfold lE
  rw [hop] at hv ⊢
  simp only [hv]
  unfold zF
  rw [hr]
  rfl
 ·cases ho
section
variable {R:Type} {Tb:jL} {X:XT} {N:Nat} {all:List Oper}
theorem TW {P:Program} {C:FuncId→Option CC} {H:ah} {nid:Nat} {o:Oper} {vs:List V} (ho:pu o = false):vP P (fun _=>none) H nid o vs = vP P C H nid o vs:=by
 unfold vP
 split <;> try rfl
 next hop=>unfold pu at ho;rw [hop] at ho;cases ho
theorem Qn {P:Program} {C:FuncId→Option CC} {σ:St} {nid:Nat} {o:Oper} (ho:pu o = false):recOf P (fun _=>none) N all σ nid o = recOf P C N all σ nid o:=by
 have e:∀ ch,lE P (fun _=>none) σ nid ch o = lE P C σ nid ch o:=by
  intro ch
  unfold lE zF
  simp only [TW (C:=C) ho]
 unfold recOf
 simp only [e]
theorem DU {σ:St} {nid:Nat} {o:Oper} {fT fF:List FuncId} {k:St→cE→List FuncId→List FuncId→Option R} {y:R} (h:H4 Tb X N all σ nid o fT fF k = some y) :
  ∃ rc fT' fF',k σ rc fT' fF' = some y∧(∀ f∈fT,f∈fT')∧(∀ f∈fF,f∈fF')∧((∀ f∈fT,f ∉ fF)→∀ f∈fT',f ∉ fF')∧(o.guard = none→fF' = fF) ∧
   ∀ Ff:List FuncId,(∀ f∈fF',f∈Ff)→(∀ f∈fT',f ∉ Ff)→recOf Tb.P (nY (fm Tb X) Ff) N all σ nid o = some rc∧∀ p∈jW σ.tm rc.ch rc.res.pre,p:=by
 unfold H4 at h
 cases hc:pu o with
 | false =>
  rw [hc,cond_false] at h
  split at h
  ·next rc hrc =>
   obtain ⟨h1,h2⟩:=sx h
   refine ⟨rc,fT,fF,h2,fun _ h=>h,fun _ h=>h,fun h=>h,fun _=>rfl,fun Ff _ _=>⟨?_,QE _ h1⟩⟩
   rw [← Qn hc];exact hrc
  ·cases h
 | true =>
  rw [hc,cond_true] at h
  cases hd:jf N o.dst with
  | false=>rw [hd] at h;cases h
  | true =>
   rw [hd,cond_true] at h
   split at h
   ·next ch hch =>
    cases hg:(ch.all fun x=>ga σ.tm ch x.1) with
    | false=>rw [hg] at h;cases h
    | true =>
     rw [hg,cond_true] at h
     have h:=sP h
     split at h
     ·next vs hvs =>
      split at h
      ·next f args hca =>
       have rec_:∀ (C:FuncId→Option CC) (r:aA),mX C σ.hp nid f args = some r→(ch.isEmpty||(r.eff.isEmpty&&r.kill.isEmpty&&gJ o.dst ch)) = true→recOf Tb.P C N all σ nid o = some (JS o σ ch nid vs r):=by
        intro C r hr hx
        unfold recOf
        rw [hd,cond_true,hch]
        simp only [hg,cond_true]
        rw [Ns hc hvs ((Ss hca).trans hr)]
        simp only [hx,cond_true]
        rfl
       cases hh:holds σ.tm ch with
       | true =>
        rw [hh,cond_true] at h
        cases hm:eJ f fF with
        | true=>rw [hm] at h;cases h
        | false =>
         rw [hm,cond_false] at h
         obtain ⟨r,h,hpre,hcv⟩:=FF h
         cases hx:(ch.isEmpty||(r.eff.isEmpty&&r.kill.isEmpty&&gJ o.dst ch)) with
         | false=>rw [hx] at h;cases h
         | true =>
          rw [hx,cond_true] at h
          refine ⟨_,f :: fT,fF,h,fun g hg=>List.mem_cons_of_mem _ hg,fun _ h=>h,fun hdj g hg=>?_,fun _=>rfl,fun Ff h1 h2=>⟨rec_ _ r ?_ hx, ?_⟩⟩
          ·rcases List.mem_cons.1 hg with rfl | hg
           ·intro hf
            have:eJ g fF = true:=List.any_eq_true.2 ⟨g,hf,by simp⟩
            rw [hm] at this;cases this
           ·exact hdj g hg
          ·have hnf:eJ f Ff = false:=by
            cases hb:eJ f Ff with
            | false=>rfl
            | true=>exact absurd (gq hb) (h2 f (by simp))
           exact hcv _ (by unfold nY;rw [hnf,cond_false])
          ·intro p hp
           have hp':p∈jW σ.tm ch r.pre:=hp
           unfold jW at hp'
           split at hp'
           ·exact hpre p hp'
           ·obtain ⟨q,hq,rfl⟩:=List.mem_map.1 hp'
            exact fun _=>hpre q hq
       | false =>
        rw [hh,cond_false] at h
        cases hm:eJ f fT with
        | true =>
         rw [hm,cond_true] at h
         obtain ⟨r,h,hpre,hcv⟩:=FF h
         cases hx:(r.eff.isEmpty&&r.kill.isEmpty&&gJ o.dst ch) with
         | false=>rw [hx] at h;cases h
         | true =>
          rw [hx,cond_true] at h
          refine ⟨_,fT,fF,h,fun _ h=>h,fun _ h=>h,fun hdj=>hdj,fun _=>rfl,fun Ff h1 h2=>⟨rec_ _ r ?_ (by rw [hx,Bool.or_true]), ?_⟩⟩
          ·have hnf:eJ f Ff = false:=by
            cases hb:eJ f Ff with
            | false=>rfl
            | true=>exact absurd (gq hb) (h2 f (gq hm))
           exact hcv _ (by unfold nY;rw [hnf,cond_false])
          ·intro p hp
           have hp':p∈jW σ.tm ch r.pre:=hp
           unfold jW at hp'
           split at hp'
           ·exact hpre p hp'
           ·obtain ⟨q,hq,rfl⟩:=List.mem_map.1 hp'
            exact fun _=>hpre q hq
        | false =>
         rw [hm,cond_false] at h
         cases hn:gJ o.dst ch with
         | false=>rw [hn] at h;cases h
         | true =>
          rw [hn,cond_true] at h
          refine ⟨_,fT,f :: fF,h,fun _ h=>h,fun g hg=>List.mem_cons_of_mem _ hg,fun hdj g hg hf=>?_,fun hno=>?_,fun Ff h1 h2=>⟨rec_ _ _ ?_ ?_, ?_⟩⟩
          ·rcases List.mem_cons.1 hf with rfl | hf
           ·have:eJ g fT = true:=List.any_eq_true.2 ⟨g,hg,by simp⟩
            rw [hm] at this;cases this
           ·exact hdj g hg hf
          ·rw [hno] at hch;cases hch;cases hh
          ·have hnf:eJ f Ff = true:=List.any_eq_true.2 ⟨f,h1 f (by simp),by simp⟩
           unfold mX iD nY
           simp only [hnf,cond_true,V.scalar,Bool.or_true]
          ·simp [hn]
          ·intro p hp
           have hp':p∈jW σ.tm ch [false = true]:=hp
           unfold jW at hp'
           split at hp'
           ·simp [holds] at hh
           ·simp only [List.map_cons,List.map_nil,List.mem_singleton] at hp'; subst hp'; intro h0;rw [hh] at h0;cases h0
      ·cases h
     ·cases h
   ·cases h
end
end Go.Ax
