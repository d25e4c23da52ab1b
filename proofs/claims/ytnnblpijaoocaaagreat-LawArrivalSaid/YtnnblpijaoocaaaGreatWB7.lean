import Derived.Test.YtnnblpijaoocaaaGreatWB6g
set_option linter.all false
/- An evaluation of code that can be run: functions as plain functions with an option. -/
namespace Go.Ax
open Go.RowKit
def RS:Nat:=2000000
inductive cP where
  | data (c:Cd)
  | new (c:Cd)
  | own (fr:Bool) (e:TypeId) (t:Ty)
  | gen (T:Tm)
  | gen2 (T T':Tm)
def cP.tys:cP→List Ty
 | .gen T=>T.tys
 | .gen2 T T'=>.b :: (T.tys++T'.tys)
 | .data c=>c.tys
 | .new c=>c.tys
 | .own _ _ t=>[.ls t]
def cP.isGen:cP→Bool
 | .gen _=>true
 | .gen2 _ _=>true
 | _=>false
def cP.out:(o:cP)→HP o.tys→js
 | .gen _,_=>.data (.c .unk)
 | .gen2 _ _,_=>.data (.c .unk)
 | .data c,x=>.data (filC c (gE c.tys x)).1
 | .new c,x=>.new (filC c (gE c.tys x)).1
 | .own fr e t,x=>.own fr e t x
def cP.rd:(o:cP)→ae→V→Option (HP o.tys)
 | .gen _,_,_=>none
 | .gen2 _ _,_,_=>none
 | .data c,H,v=>match colC c (v.view H) with | some us=>ka c.tys us | none=>none
 | .new c,H,v=>bif newV H v then (match colC c (v.view H) with | some us=>ka c.tys us | none=>none) else none
 | .own fr e t,H,v=>match v with
  | .c .nil=>some ([]:List t.T)
  | .row o k=>(match ae.get H o with
   | some (.row e' t' l)=>bif Nat.beq t'.k k&&Nat.beq e e'&&(!fr||t.sc) then kL t' t l else none
   | _=>none)
  | _=>none
theorem cP.rd_ok {o:cP} {H:ae} {v:V} {x:HP o.tys} (h:o.rd H v = some x):pH (o.out x) H v:=by
 have key:∀ (c:Cd) (x:HP c.tys),(match colC c (v.view H) with | some us=>ka c.tys us | none=>none) = some x→VLe (v.view H) (filC c (gE c.tys x)).1:=by
  intro c x h
  split at h
  ·next us hu =>
   have hr:=qr _ _ _ h
   exact (colC_le c _ us [] _ hu (by rw [List.append_nil];exact hr)).1
  ·cases h
 cases o with
 | gen T=>cases h
 | gen2 T T'=>cases h
 | data c=>exact key c x h
 | new c =>
  simp only [cP.rd] at h
  cases hn:newV H v with
  | false=>rw [hn] at h;cases h
  | true=>rw [hn] at h;exact ⟨key c x h,hn⟩
 | own fr e t =>
  simp only [cP.rd] at h
  split at h
  ·cases h;exact .inl ⟨rfl,rfl⟩
  ·next o k =>
   split at h
   ·next e' t' l hg =>
    cases hc:(Nat.beq t'.k k&&Nat.beq e e'&&(!fr||t.sc)) with
    | false=>rw [hc] at h;cases h
    | true =>
     rw [hc] at h
     have h:kL t' t l = some x:=h
     simp only [Bool.and_eq_true,Nat.beq_eq,Bool.or_eq_true,Bool.not_eq_true'] at hc
     obtain ⟨he,hx⟩:=jg h
     subst he
     obtain ⟨⟨rfl,rfl⟩,h3⟩:=hc
     refine .inr ⟨o,rfl, ?_,fun hf=>?_⟩
     ·rw [hg];have:x = l:=hx;rw [this]
     ·rcases h3 with h3 | h3
      ·rw [hf] at h3;cases h3
      ·exact h3
   ·cases h
  ·cases h
structure CJ where
  T:Tm
  T':Tm
  f:HP T.tys→Option (HP T'.tys)
structure FI where
  fid:FuncId
  fn:Func
  c:Code
  ins:Tm
  out:cP
  cuts:List (Nat × Tm):=[]
  hd:List (Nat × CJ):=[]
abbrev XT:=(fi:FI)→HP fi.ins.tys→Option (HP fi.out.tys)
abbrev JT:=(fi:FI)→(π:Nat)→(T:Tm)→HP T.tys→Option (HP fi.out.tys)
def yt (fi:FI) (vs:List V):Option (HP fi.ins.tys) :=
 bif !fi.out.isGen&&(Nat.beq vs.length fi.ins.sl.length&&fi.ins.ob.isEmpty) then rd fi.ins { tm:=jS vs 0,hp:=[],nx:=0 } else none
def gZ {R:Type} (X:XT) (vs:List V) (k:js→Option R):List FI→Option R
 | []=>none
 | fi :: r=>match yt fi vs with
  | some a=>(X fi a).bind fun y=>k (fi.out.out y)
  | none=>gZ X vs k r
def cA {α:Type}:List (Nat × α)→Nat→Option α
 | [],_=>none
 | (g,x) :: r,f=>bif Nat.beq g f then some x else cA r f
def Bc (T:Tm) (xs:List TV):St:=let p:=mT T.sl xs; { tm:=p.1,hp:=kg 0 T.ob p.2,nx:=T.ob.length }
def lW (H:ae):List Nat:=BT [] (H.map (·.1))
def tW:List Nat→Nat
 | []=>0
 | o :: r=>Nat.max (o+1) (tW r)
def PB (os:List Nat) (H:ae):Bool:=os.all fun o=>match ae.get H o with | some b=>IP os b | none=>true
def QU (N:Nat) (H:ae) (args:List V):St:={ tm:=jS args 0++jS args 1000000,hp:=ov (lW H) H,nx:=tW (lW H) }
def rdG (fi:FI) (H:ae) (args:List V):Option (HP fi.ins.tys) :=
 bif Nat.ble args.length fi.fn.ntmps&&(V.refss args).all (fun o=>dR o (lW H))&&PB (lW H) H then xQ fi.ins (QU fi.fn.ntmps H args) else none
def jG (args:List V):List (Nat × Cd)→oz
 | []=>[]
 | (t, .k (.ptr q k i j)) :: r=>bif Nat.ble 1000000 t then (match args[t - 1000000]? with | some (.ptr o _ _ _)=>(q,o,true) :: jG args r | _=>jG args r) else jG args r
 | (t, .k (.row q k)) :: r=>bif Nat.ble 1000000 t then (match args[t - 1000000]? with | some (.row o _)=>(q,o,false) :: jG args r | _=>jG args r) else jG args r
 | _ :: r=>jG args r
def tv:Option Od→Bool
 | some (.box _)=>true
 | some (.map ..)=>true
 | _=>false
def Dx:Option Ob→Bool
 | some (.row ..)=>false
 | none=>false
 | _=>true
def It (T:Tm) (H:ae) (bk:oz):Bool:=Nat.ble T.ob.length 8&&(hZ (T.sl.map (·.1))&&(BR bk&&bk.all fun x=>dR x.2.1 (lW H)&&(Nat.blt x.1 T.ob.length&&(!x.2.2||(tv T.ob[x.1]?&&Dx (ae.get H x.2.1))))))
def jd {R:Type} (T:Tm) (xs:List TV) (H:ae) (nid:Nat) (args:List V) (k:av→Option R):Option R :=
 match ap (Bc T xs).tm RS with
 | some ⟨_, .tup [v]⟩=>bif It T H (jG args T.sl) then k (I6 nid (lW H) (jG args T.sl) (Bc T xs).hp v) else none
 | _=>none
def jE {R:Type} (o:cP) (y:HP o.tys) (H:ae) (nid:Nat) (args:List V) (k:av→Option R):Option R :=
 match o,y with
 | .gen T,y=>jd T (gE T.tys y) H nid args k
 | .gen2 T T',y=>(match gE (.b :: (T.tys++T'.tys)) y with
  | ⟨.b,t⟩ :: xs=>bif t then jd T xs H nid args k else jd T' (xs.drop T.tys.length) H nid args k
  | _=>none)
 | _,_=>none
def je {R:Type} (X:XT) (H:ae) (nid:Nat) (args:List V) (k:av→Option R):List FI→Option R
 | []=>none
 | fi :: r=>match rdG fi H args with
  | some a=>(X fi a).bind fun y=>jE fi.out y H nid args k
  | none=>je X H nid args k r
def KC (T:Tm) (σ:St):Option (List V) :=
 let τ:=ul T σ
 let ts:=T.sl.map (·.1)
 bif kc ts τ then
  let τ':=canonN ts τ
  bif Nat.ble τ'.nx T.ob.length then (match ue τ'.tm T.sl,yi τ'.hp 0 T.ob with
   | some a,some b=>(match ka T.tys (a++b) with | some _=>some (a++b) | none=>none)
   | _,_=>none) else none
 else none
def Kp (ts:List Ty):List V:=ts.map fun t=>encV t t.z
def cP.rdG:(o:cP)→St→V→Option (HP o.tys)
 | .gen T,σ,v=>xQ T { σ with tm:=(RS,⟨[], .tup [v]⟩) :: σ.tm }
 | .gen2 T T',σ,v=>match KC T { σ with tm:=(RS,⟨[], .tup [v]⟩) :: σ.tm } with
  | some us=>ka (.b :: (T.tys++T'.tys)) (bl true :: (us++Kp T'.tys))
  | none=>(match KC T' { σ with tm:=(RS,⟨[], .tup [v]⟩) :: σ.tm } with
   | some us=>ka (.b :: (T.tys++T'.tys)) (bl false :: (Kp T.tys++us))
   | none=>none)
 | _,_,_=>none
theorem GZ {H:ae}:∀ (cs:List Od) (i:Nat) (us us2:List V) (xs:List TV),yi H i cs = some us→RV (us++us2) xs→qu H (kg i cs xs)
 | [],i,us,us2,xs,h,hr=>by rw [kg];trivial
 | c :: cs,i,us,us2,xs,h,hr=>by
  rw [yi] at h
  split at h
  ·next b hg =>
   split at h
   ·next a b' ha hb =>
    cases h
    rw [List.append_assoc] at hr
    obtain ⟨h1,h2⟩:=Kh c b a (b'++us2) xs ha hr
    show qu H ((i,some _) :: _)
    rw [qu,hg]
    exact ⟨h1,GZ cs (i+1) b' us2 _ hb h2⟩
   ·cases h
  ·cases h
theorem KP {T:Tm} {σ:St} {us us2:List V} {xs:List TV} (h:KC T σ = some us) (hr:RV (us++us2) xs):cR σ (Bc T xs):=by
 unfold KC at h
 simp only at h
 cases hc:kc (T.sl.map (·.1)) (ul T σ) with
 | false=>rw [hc] at h;cases h
 | true =>
  rw [hc,cond_true] at h
  cases hb:Nat.ble (canonN (T.sl.map (·.1)) (ul T σ)).nx T.ob.length with
  | false=>rw [hb] at h;cases h
  | true =>
   rw [hb,cond_true] at h
   split at h
   ·next a b ha hb' =>
    split at h
    ·cases h
     rw [List.append_assoc] at hr
     obtain ⟨h1,h2⟩:=DS T.sl a (b++us2) xs ha hr
     exact ((FR T σ).trans (cR.canonN _ hc)).trans (.le ⟨h1,GZ T.ob 0 b us2 _ hb' h2,Nat.ble_eq.mp hb⟩)
    ·cases h
   ·cases h
theorem Ke:∀ {us us2:List V} {xs:List TV},RV (us++us2) xs→RV us2 (xs.drop us.length)
 | [],us2,xs,h=>h
 | u :: us,us2,x :: xs,h=>Ke (us:=us) h.2
 | u :: us,us2,[],h=>h.elim
theorem Q5 {b:Bool} {x:TV} (h:VLe (bl b) x.v):x = ⟨.b,b⟩:=by
 obtain ⟨t,x⟩:=x
 match t,x,h with
 | .b,x,h1 =>
  change VLe (.c (.lit (.bool b))) (.c (.lit (.bool x))) at h1
  rw [VLe] at h1
  cases h1
  rfl
 | .st k,x,h1=>change VLe (.c (.lit (.bool b))) (.agg _) at h1;simp [VLe] at h1
 | .arr n t,x,h1=>change VLe (.c (.lit (.bool b))) (.agg _) at h1;simp [VLe] at h1
 | .i k,x,h1=>change VLe (.c (.lit (.bool b))) (.c (.lit (.int k x))) at h1;rw [VLe] at h1;cases h1
 | .ls t,x,h1=>change VLe (.c (.lit (.bool b))) (.c (.sl t x)) at h1;rw [VLe] at h1;cases h1
 | .s,x,h1=>change VLe (.c (.lit (.bool b))) (.c (.lit (.string x))) at h1;rw [VLe] at h1;cases h1
theorem Pc {R:Type} (T:Tm) (y:HP T.tys) (H:ae) (nid:Nat) (args:List V) (k:av→Option R):jE (.gen T) y H nid args k = jd T (gE T.tys y) H nid args k:=rfl
theorem PR (T:Tm) (σ:St) (v:V):cP.rdG (.gen T) σ v = xQ T { σ with tm:=(RS,⟨[], .tup [v]⟩) :: σ.tm }:=rfl
theorem Oz {T:Tm} {σ:St} {x:HP T.tys} (h:xQ T σ = some x):cR σ (Bc T (gE T.tys x)):=qa h
theorem IF {R:Type} (T T':Tm) (y:HP (.b :: (T.tys++T'.tys))) {t:Bool} {xs:List TV} (hx:gE (.b :: (T.tys++T'.tys)) y = (⟨.b,t⟩:TV) :: xs) (H:ae) (nid:Nat) (args:List V) (k:av→Option R) :
  jE (.gen2 T T') y H nid args k = bif t then jd T xs H nid args k else jd T' (xs.drop T.tys.length) H nid args k:=by
 show (match gE (.b :: (T.tys++T'.tys)) y with | ⟨.b,t⟩ :: xs=>bif t then jd T xs H nid args k else jd T' (xs.drop T.tys.length) H nid args k | _=>none) = _
 rw [hx]
theorem OZ (T T':Tm) (σ:St) (v:V):cP.rdG (.gen2 T T') σ v = match KC T { σ with tm:=(RS,⟨[], .tup [v]⟩) :: σ.tm } with
  | some us=>ka (.b :: (T.tys++T'.tys)) (bl true :: (us++Kp T'.tys))
  | none=>(match KC T' { σ with tm:=(RS,⟨[], .tup [v]⟩) :: σ.tm } with
   | some us=>ka (.b :: (T.tys++T'.tys)) (bl false :: (Kp T.tys++us))
   | none=>none):=rfl
theorem QC {T T':Tm} {σ:St} {v:V} {y:HP (cP.gen2 T T').tys} (h:(cP.gen2 T T').rdG σ v = some y):∃ (T0:Tm) (xs:List TV),cR { σ with tm:=(RS,⟨[], .tup [v]⟩) :: σ.tm } (Bc T0 xs) ∧
  ∀ {R:Type} (H:ae) (nid:Nat) (args:List V) (k:av→Option R),jE (.gen2 T T') y H nid args k = jd T0 xs H nid args k:=by
 rw [OZ] at h
 have key:∀ (b:Bool) (us:List V),ka (.b :: (T.tys++T'.tys)) (bl b :: us) = some y→∃ xs,gE (.b :: (T.tys++T'.tys)) y = (⟨.b,b⟩:TV) :: xs∧RV us xs:=by
  intro b us hh
  have hr:=qr _ _ _ hh
  revert hr
  generalize gE (.b :: (T.tys++T'.tys)) y = l
  intro hr
  match l,hr with
  | [],hr=>exact hr.elim
  | x :: xs,hr=>exact ⟨xs,by rw [Q5 hr.1],hr.2⟩
 split at h
 ·next us hu =>
  obtain ⟨xs,hx,hr⟩:=key _ _ h
  exact ⟨T,xs,KP hu hr,fun H nid args k=>by rw [IF T T' y hx,cond_true]⟩
 ·split at h
  ·next us hu =>
   obtain ⟨xs,hx,hr⟩:=key _ _ h
   have h2:=Ke hr
   have e:(Kp T.tys).length = T.tys.length:=by simp [Kp]
   rw [e] at h2
   exact ⟨T',xs.drop T.tys.length,KP (us2:=[]) hu (by rw [List.append_nil];exact h2),fun H nid args k=>by rw [IF T T' y hx,cond_false]⟩
  ·cases h
theorem QK {o:cP} {σ:St} {v:V} {y:HP o.tys} (h:o.rdG σ v = some y):∃ (T:Tm) (xs:List TV),cR { σ with tm:=(RS,⟨[], .tup [v]⟩) :: σ.tm } (Bc T xs) ∧
  ∀ {R:Type} (H:ae) (nid:Nat) (args:List V) (k:av→Option R),jE o y H nid args k = jd T xs H nid args k:=by
 cases o with
 | gen T =>
  rw [PR] at h
  exact ⟨T,gE T.tys y,Oz h,fun H nid args k=>Pc T y H nid args k⟩
 | gen2 T T'=>exact @QC T T' σ v y h
 | data c =>
  have h:(none:Option (HP (cP.data c).tys)) = some y:=h
  cases h
 | new c =>
  have h:(none:Option (HP (cP.new c).tys)) = some y:=h
  cases h
 | own fr e t =>
  have h:(none:Option (HP (cP.own fr e t).tys)) = some y:=h
  cases h
inductive Sp where
  | none
  | hand (fi:FI) (h:XT→HP fi.ins.tys→Option (HP fi.out.tys))
  | mut (m:XT→ae→Nat→List V→Option av)
structure iW where
  P:Program
  fs:List (FuncId × List FI)
  sp:FuncId→Sp
def DA:List FI→Bool
 | fi :: _=>fi.out.isGen
 | []=>false
def lO {R:Type} (fi:FI) (h:HP fi.ins.tys→Option (HP fi.out.tys)) (H:ae) (nid:Nat) (args:List V) (k:av→Option R):Option R:=match rdG fi H args with
 | some a=>(h a).bind fun y=>jE fi.out y H nid args k
 | none=>none
def lT {R:Type} (fi:FI) (h:HP fi.ins.tys→Option (HP fi.out.tys)) (vs:List V) (k:js→Option R):Option R:=match yt fi vs with
 | some a=>(h a).bind fun y=>k (fi.out.out y)
 | none=>none
def et (Tb:iW) (X:XT) (f:FuncId):CC:=match cA Tb.fs f with
 | some l=>bif DA l then .mut fun H nid args=>je X H nid args some l else .pure fun vs=>(gZ X vs some l).map fun o=>(true,o)
 | none=>match Tb.sp f with
  | .hand fi h=>bif fi.out.isGen then .mut fun H nid args=>lO fi (h X) H nid args some else .pure fun vs=>(lT fi (h X) vs some).map fun o=>(true,o)
  | .mut m=>.mut (m X)
  | .none=>.pure fun _=>none
def mK (C:FuncId→CC) (fs:List FuncId):FuncId→Option CC:=fun f=>bif dR f fs then some (.pure fun _=>some (false, .data (.c .unk))) else some (C f)
theorem Cz {R:Type} (X:XT) (vs:List V) (k:js→Option R):∀ l:List FI,gZ X vs k l = (gZ X vs some l).bind k
 | []=>rfl
 | fi :: r=>by
  unfold gZ
  split
  ·next a ha=>cases X fi a <;> rfl
  ·exact Cz X vs k r
theorem ER {R:Type} (T:Tm) (xs:List TV) (H:ae) (nid:Nat) (args:List V) (k:av→Option R):jd T xs H nid args k = (jd T xs H nid args some).bind k:=by
 unfold jd
 split
 ·cases It T H (jG args T.sl) <;> rfl
 ·rfl
theorem EQ {R:Type} (o:cP) (y:HP o.tys) (H:ae) (nid:Nat) (args:List V) (k:av→Option R):jE o y H nid args k = (jE o y H nid args some).bind k:=by
 unfold jE
 split
 ·exact ER ..
 ·split
  ·next t xs _=>cases t <;> exact ER ..
  ·rfl
 ·rfl
theorem B0 {R:Type} (X:XT) (H:ae) (nid:Nat) (args:List V) (k:av→Option R):∀ l:List FI,je X H nid args k l = (je X H nid args some l).bind k
 | []=>rfl
 | fi :: r=>by
  unfold je
  split
  ·next a ha =>
   cases X fi a with
   | none=>rfl
   | some y=>rw [Option.bind_some,Option.bind_some];exact EQ ..
  ·exact B0 X H nid args k r
def gb {α:Type} (b:Bool) (o:Option α):Option α:=bif b then o else none
def gL {α:Type}:List Bool→Option α→Option α
 | [],o=>o
 | b :: r,o=>gb b (gL r o)
theorem pX {α:Type} {o:Option α} {y:α}:∀ {l:List Bool},gL l o = some y→(∀ b∈l,b = true)∧o = some y
 | [],h=>⟨fun b hb=>by simp at hb,h⟩
 | b :: l,h=>by
  unfold gL gb at h
  cases b with
  | false=>cases h
  | true =>
   obtain ⟨h1,h2⟩:=pX (l:=l) h
   exact ⟨fun c hc=>by rcases List.mem_cons.1 hc with rfl | hc;rfl;exact h1 c hc,h2⟩
def eZ.bools:{ps:List Prop}→eZ ps→List Bool
 | _, .nil=>[]
 | _, .cons (p:=p) d r=>@aa p d :: r.bools
def Hm (tm:List (Nat × au)) (ch:aI) (bs:List Bool):List Bool:=match ch with
 | []=>bs
 | ch=>bs.map fun b=>!(holds tm ch)||b
theorem sA:∀ {ps:List Prop} (d:eZ ps),(∀ b∈d.bools,b = true)→∀ p∈ps,p
 | _, .nil,_,p,hp=>by simp at hp
 | _, .cons d r,h,p,hp=>by
  rcases List.mem_cons.1 hp with rfl | hp
  ·exact of_decide_eq_true (h _ (by simp [eZ.bools]))
  ·exact sA r (fun b hb=>h b (by simp [eZ.bools,hb])) p hp
theorem EY {c:Prop} {b:Bool} (hb:b = true↔c):∀ {ps:List Prop} (d:eZ ps),(∀ x∈d.bools.map (fun y=>!b||y),x = true)→∀ p∈ps,c→p
 | _, .nil,_,p,hp=>by simp at hp
 | _, .cons d r,h,p,hp=>by
  intro hc
  rcases List.mem_cons.1 hp with rfl | hp
  ·have:=h (!b||@decide _ d) (by simp [eZ.bools])
   rw [hb.2 hc] at this
   exact of_decide_eq_true (by simpa using this)
  ·exact EY hb r (fun x hx=>h x (by simp only [eZ.bools,List.map_cons,List.mem_cons];exact .inr hx)) p hp hc
theorem Nd {tm:List (Nat × au)} {ch:aI} {ps:List Prop} (d:eZ ps) (h:∀ b∈Hm tm ch d.bools,b = true):∀ p∈jo tm ch ps,p:=by
 unfold Hm jo at *
 cases ch with
 | nil=>exact sA d h
 | cons x l =>
  intro p hp
  simp only [List.mem_map] at hp
  obtain ⟨q,hq,rfl⟩:=hp
  exact EY Iff.rfl d h q hq
def qQ (nid:Nat) (args:List V):js→Option av
 | .data v=>bif (!fU args)||v.scalar then some { pre:=[true = true],val:=v } else none
 | .new v=>some { pre:=[true = true],val:=v }
 | .own fr e t l=>bif (!fU args)||fr then some { pre:=[true = true],val:=.row nid t.k,eff:=[(nid,some (.row e t l))] } else none
def pP (H:ae) (nid:Nat) (args:List V) (out:js):Option av:=match qQ nid args out with
 | some r=>some r
 | none=>bif V.noPs args then ju (fun _ vs=>qQ nid vs out) (V.refss args) H args else none
theorem Nt {o:Nat} {e:TypeId} {t:Ty} (H:ae) {q:Nat} (h:q≠o):ae.get ((o,some (.row e t [])) :: dU [o] H) q = lw o (ae.get H q):=by
 rw [ae.get_cons,if_neg (Ne.symm h),dL]
mutual
theorem view_fz {o:Nat} {e:TypeId} {t:Ty} {l:List t.T} {H:ae} (hg:H.get o = some (.row e t l)):∀ v:V,v.noP = true→(V.fz o t l v).view ((o,some (.row e t [])) :: dU [o] H) = v.view H
 | .c d,_=>rfl
 | .agg vs,hn=>by rw [V.fz,V.view,V.view,views_fz hg vs (by simpa [V.noP] using hn)]
 | .tup vs,hn=>by rw [V.fz,V.view,V.view,views_fz hg vs (by simpa [V.noP] using hn)]
 | .ptr ..,hn=>by simp [V.noP] at hn
 | .row o' k,_=>by
  rw [V.fz]
  cases hb:Nat.beq o' o with
  | true =>
   have:=Nat.eq_of_beq_eq_true hb
   subst this
   rw [cond_true,V.view,rz,hg]
   simp only
   cases Nat.beq t.k k <;> rfl
  | false =>
   have hne:o'≠o:=fun h=>by subst h;simp at hb
   rw [cond_false,V.view,V.view,rz,rz,Nt H hne]
   cases ae.get H o' with
   | none=>rfl
   | some b=>cases b <;> rfl
 | .sub o' k off n,_=>by
  rw [V.fz]
  cases hb:Nat.beq o' o with
  | true =>
   have:=Nat.eq_of_beq_eq_true hb
   subst this
   rw [cond_true,V.view,qt,hg]
   simp only
   cases Nat.beq t.k k <;> rfl
  | false =>
   have hne:o'≠o:=fun h=>by subst h;simp at hb
   rw [cond_false,V.view,V.view,qt,qt,Nt H hne]
   cases ae.get H o' with
   | none=>rfl
   | some b=>cases b <;> rfl
 | .dptr ..,_=>rfl
 | .fn f vs,hn=>by rw [V.fz,V.view,V.view,views_fz hg vs (by simpa [V.noP] using hn)]
theorem views_fz {o:Nat} {e:TypeId} {t:Ty} {l:List t.T} {H:ae} (hg:H.get o = some (.row e t l)):∀ vs:List V,V.noPs vs = true→V.views ((o,some (.row e t [])) :: dU [o] H) (V.fzs o t l vs) = V.views H vs
 | [],_=>rfl
 | v :: r,hn=>by
  rw [V.noPs,Bool.and_eq_true] at hn
  rw [V.fzs,V.views,V.views,view_fz hg v hn.1,views_fz hg r hn.2]
end
mutual
theorem noP_fz (o:Nat) (t:Ty) (l:List t.T):∀ v:V,v.noP = true→(V.fz o t l v).noP = true
 | .c d,_=>rfl
 | .agg vs,hn=>by rw [V.fz,V.noP];exact noPs_fz o t l vs (by simpa [V.noP] using hn)
 | .tup vs,hn=>by rw [V.fz,V.noP];exact noPs_fz o t l vs (by simpa [V.noP] using hn)
 | .ptr ..,hn=>by simp [V.noP] at hn
 | .row o' k,_=>by
  rw [V.fz]
  cases Nat.beq o' o with
  | false=>rfl
  | true=>rw [cond_true];cases Nat.beq t.k k <;> rfl
 | .sub o' k off n,_=>by
  rw [V.fz]
  cases Nat.beq o' o with
  | false=>rfl
  | true=>rw [cond_true];cases Nat.beq t.k k <;> rfl
 | .dptr ..,_=>rfl
 | .fn f vs,hn=>by rw [V.fz,V.noP];exact noPs_fz o t l vs (by simpa [V.noP] using hn)
theorem noPs_fz (o:Nat) (t:Ty) (l:List t.T):∀ vs:List V,V.noPs vs = true→V.noPs (V.fzs o t l vs) = true
 | [],_=>rfl
 | v :: r,hn=>by
  rw [V.noPs,Bool.and_eq_true] at hn
  rw [V.fzs,V.noPs,noP_fz o t l v hn.1,noPs_fz o t l r hn.2];rfl
end
theorem zV {C:FuncId→Option CC} {H:ae} {nid:Nat} {f:FuncId} {args:List V} {con:J8} {out:js} (hc:C f = some (.pure con)) (ho:con (V.views H args) = some (true,out)):gV C H nid f args = qQ nid args out:=by
 unfold gV
 rw [hc]
 simp only [ho]
 cases out <;> rfl
theorem IZ {C:FuncId→Option CC} {nid:Nat} {f:FuncId} {con:J8} {out:js} (hc:C f = some (.pure con)):∀ (fl:List Nat) (H:ae) (args:List V),V.noPs args = true→con (V.views H args) = some (true,out) →
  ju (pV C f nid) fl H args = ju (fun _ vs=>qQ nid vs out) fl H args
 | [],H,args,hn,ho=>by
  rw [ju,ju]
  unfold pV
  rw [hn,cond_true,hc]
  simp only
  exact zV hc ho
 | q :: fl,H,args,hn,ho=>by
  rw [ju,ju]
  split
  ·next e t l hg =>
   rw [IZ hc fl _ _ (noPs_fz q t l args hn) (by rw [views_fz hg args hn];exact ho)]
  ·rfl
theorem HW {C:FuncId→Option CC} {H:ae} {nid:Nat} {f:FuncId} {args:List V} {con:J8} {out:js} {r:av} (hc:C f = some (.pure con)) (ho:con (V.views H args) = some (true,out)) (h:pP H nid args out = some r):lP C H nid f args = some r:=by
 unfold lP
 rw [zV hc ho]
 unfold pP at h
 split at h
 ·next r' hr=>rw [hr];exact h
 ·next hr =>
  rw [hr]
  cases hn:V.noPs args with
  | false=>rw [hn] at h;cases h
  | true =>
   rw [hn,cond_true] at h
   simp only
   rw [IZ hc _ _ _ hn ho]
   exact h
theorem KA {f:ae→List V→Option av} {P0:List Prop→Prop} (hf:∀ H vs r,f H vs = some r→P0 r.pre):∀ (fl:List Nat) (H:ae) (vs:List V) (r:av),ju f fl H vs = some r→P0 r.pre
 | [],H,vs,r,h=>hf H vs r h
 | q :: fl,H,vs,r,h=>by
  rw [ju] at h
  split at h
  ·next e t l hg =>
   cases hb:ju f fl ((q,some (.row e t [])) :: dU [q] H) (V.fzs q t l vs) with
   | none=>rw [hb] at h;cases h
   | some r0=>rw [hb] at h;cases h;exact KA hf fl _ _ r0 hb
  ·cases h
theorem CD {nid:Nat} {args:List V} {out:js} {r:av} (hr:qQ nid args out = some r):r.pre = [true = true]:=by
 cases out with
 | data v =>
  simp only [qQ] at hr
  cases hq:((!fU args)||v.scalar) <;> rw [hq] at hr <;> cases hr
  rfl
 | new v=>cases hr;rfl
 | own fr e t l =>
  simp only [qQ] at hr
  cases hq:((!fU args)||fr) <;> rw [hq] at hr <;> cases hr
  rfl
theorem FX {H:ae} {nid:Nat} {args:List V} {out:js} {r:av} (h:pP H nid args out = some r):r.pre = [true = true]:=by
 unfold pP at h
 split at h
 ·next r' hr=>cases h;exact CD hr
 ·cases hn:V.noPs args with
  | false=>rw [hn] at h;cases h
  | true=>rw [hn,cond_true] at h;exact KA (P0:=fun ps=>ps = [true = true]) (fun _ _ _ h=>CD h) _ _ _ _ h
def Mf {R:Type} (X:XT) (l:List FI) (H:ae) (nid:Nat) (args:List V) (k:av→Option R):Option R :=
 bif DA l then je X (aY (aC H args) H) nid args k l
 else gZ X (V.views H args) (fun out=>match pP H nid args out with | some r=>k r | none=>none) l
def uT {R:Type} (Tb:iW) (X:XT) (f:FuncId) (H:ae) (nid:Nat) (args:List V) (k:av→Option R):Option R :=
 match cA Tb.fs f with
 | some l=>Mf X l H nid args k
 | none=>match Tb.sp f with
  | .hand fi h=>bif fi.out.isGen then lO fi (h X) (aY (aC H args) H) nid args k else lT fi (h X) (V.views H args) fun out=>match pP H nid args out with | some r=>k r | none=>none
  | .mut m=>(m X (aY (aC H args) H) nid args).bind fun r=>gL r.dec.bools (k r)
  | .none=>none
theorem yl {C:FuncId→Option CC} {H:ae} {nid:Nat} {f:FuncId} {args:List V} {m:ae→Nat→List V→Option av} {r:av} (hc:C f = some (.mut m)) (hm:m (aY (aC H args) H) nid args = some r):lP C H nid f args = some r:=by
 have h0:gV C H nid f args = some r:=by
  unfold gV
  rw [hc]
  exact hm
 unfold lP
 rw [h0]
theorem wc {T:Tm} {xs:List TV} {H:ae} {nid:Nat} {args:List V} {r:av} (h:jd T xs H nid args some = some r):r.pre = [true = true]:=by
 unfold jd at h
 split at h
 ·cases hb:It T H (jG args T.sl) with
  | false=>rw [hb] at h;cases h
  | true=>rw [hb] at h;cases h;rfl
 ·cases h
theorem FH {X:XT} {H:ae} {nid:Nat} {args:List V} {r:av}:∀ {l:List FI},je X H nid args some l = some r→r.pre = [true = true]
 | [],h=>by cases h
 | fi :: l,h=>by
  unfold je at h
  split at h
  ·rw [Option.bind_eq_some_iff] at h
   obtain ⟨y,_,h⟩:=h
   unfold jE at h
   split at h
   ·exact wc h
   ·split at h
    ·next t xs _=>cases t <;> exact wc h
    ·cases h
   ·cases h
  ·exact FH h
theorem LD {R:Type} (fi:FI) (h:HP fi.ins.tys→Option (HP fi.out.tys)) (H:ae) (nid:Nat) (args:List V) (k:av→Option R):lO fi h H nid args k = (lO fi h H nid args some).bind k:=by
 unfold lO
 split
 ·next a _ =>
  cases h a with
  | none=>rfl
  | some y=>rw [Option.bind_some,Option.bind_some];exact EQ ..
 ·rfl
theorem Lh {R:Type} (fi:FI) (h:HP fi.ins.tys→Option (HP fi.out.tys)) (vs:List V) (k:js→Option R):lT fi h vs k = (lT fi h vs some).bind k:=by
 unfold lT
 split
 ·next a _=>cases h a <;> rfl
 ·rfl
theorem Pe {o:cP} {y:HP o.tys} {H:ae} {nid:Nat} {args:List V} {r:av} (h:jE o y H nid args some = some r):r.pre = [true = true]:=by
 unfold jE at h
 split at h
 ·exact wc h
 ·split at h
  ·next t xs _=>cases t <;> exact wc h
  ·cases h
 ·cases h
theorem Nx {fi:FI} {h:HP fi.ins.tys→Option (HP fi.out.tys)} {H:ae} {nid:Nat} {args:List V} {r:av} (hh:lO fi h H nid args some = some r):r.pre = [true = true]:=by
 unfold lO at hh
 split at hh
 ·rw [Option.bind_eq_some_iff] at hh
  obtain ⟨y,_,hh⟩:=hh
  exact Pe hh
 ·cases hh
theorem Co {R:Type} {Tb:iW} {X:XT} {f:FuncId} {H:ae} {nid:Nat} {args:List V} {k:av→Option R} {y:R} (h:uT Tb X f H nid args k = some y) :
  ∃ r,k r = some y∧(∀ p∈r.pre,p)∧∀ C:FuncId→Option CC,C f = some (et Tb X f)→lP C H nid f args = some r:=by
 have one:∀ {ps:List Prop},ps = [true = true]→∀ p∈ps,p:=fun e p hp=>by subst e;rw [List.mem_singleton] at hp;subst hp;rfl
 unfold uT at h
 split at h
 ·next l hl =>
  unfold Mf at h
  cases hg:DA l with
  | true =>
   rw [hg,cond_true,B0,Option.bind_eq_some_iff] at h
   obtain ⟨r,h1,h2⟩:=h
   refine ⟨r,h2,one (FH h1),fun C hC=>yl (m:=fun H nid args=>je X H nid args some l) (by rw [hC];unfold et;rw [hl];simp only [hg,cond_true]) h1⟩
  | false =>
   rw [hg,cond_false,Cz,Option.bind_eq_some_iff] at h
   obtain ⟨out,h1,h2⟩:=h
   split at h2
   ·next r hr=>exact ⟨r,h2,one (FX hr),fun C hC=>HW (con:=fun vs=>(gZ X vs some l).map fun o=>(true,o)) (by rw [hC];unfold et;rw [hl];simp only [hg,cond_false]) (by simp only [h1,Option.map_some]) hr⟩
   ·cases h2
 ·next hl =>
  split at h
  ·next fi hd hc =>
   cases hg:fi.out.isGen with
   | true =>
    rw [hg,cond_true,LD,Option.bind_eq_some_iff] at h
    obtain ⟨r,h1,h2⟩:=h
    exact ⟨r,h2,one (Nx h1),fun C hC=>yl (m:=fun H nid args=>lO fi (hd X) H nid args some) (by rw [hC];unfold et;rw [hl];simp only [hc,hg,cond_true]) h1⟩
   | false =>
    rw [hg,cond_false,Lh,Option.bind_eq_some_iff] at h
    obtain ⟨out,h1,h2⟩:=h
    split at h2
    ·next r hr=>exact ⟨r,h2,one (FX hr),fun C hC=>HW (con:=fun vs=>(lT fi (hd X) vs some).map fun o=>(true,o)) (by rw [hC];unfold et;rw [hl];simp only [hc,hg,cond_false]) (by simp only [h1,Option.map_some]) hr⟩
    ·cases h2
  ·next m hm =>
   rw [Option.bind_eq_some_iff] at h
   obtain ⟨r,h1,h2⟩:=h
   obtain ⟨h3,h4⟩:=pX h2
   exact ⟨r,h4,sA _ h3,fun C hC=>yl (m:=m X) (by rw [hC];unfold et;rw [hl];simp only [hm]) h1⟩
  ·cases h
def GS (o:Oper) (vs:List V):Option (FuncId × List V):=match o.op,vs with
 | .call { callee:=.value _, .. }, .fn f caps :: vs=>bif Nat.blt f 1000000000 then some (f,vs++caps) else none
 | _,_=>none
def nP (o:Oper):Bool:=match o.op with
 | .call { callee:=.value _, .. }=>true
 | _=>false
def GN (o:Oper) (σ:St) (ch:aI) (nid:Nat) (vs:List V) (r:av):bY:={ dst:=o.dst,rds:=ku (dm o.op)++ch.map (·.1),ch,nid,vs,reach:=aC σ.hp (lk o vs),rws:=nG σ.hp (lk o vs),res:=r }
def I0:List (Nat × au)→Nat→au→List (Nat × au)
 | [],_,_=>[]
 | (t',s') :: r,t,s=>bif Nat.beq t' t then (t',s) :: r else (t',s') :: I0 r t s
theorem xg:∀ {tm:List (Nat × au)} {t:Nat} {s:au},ap tm t = some s→I0 tm t s = tm
 | [],t,s,h=>rfl
 | (t',s') :: r,t,s,h=>by
  unfold I0
  unfold ap at h
  cases hb:Nat.beq t' t with
  | true=>rw [hb] at h;cases h;rfl
  | false=>rw [hb,cond_false] at h;rw [cond_false,xg h]
def mf {R:Type}:aI→St→(St→Option R)→Option R
 | [],σ,k=>k σ
 | (t,_) :: r,σ,k=>match ap σ.tm t with
  | some ⟨c0, .c (.lit (.bool b))⟩=>bif b then mf r { σ with tm:=I0 σ.tm t ⟨c0,bl true⟩ } k else mf r { σ with tm:=I0 σ.tm t ⟨c0,bl false⟩ } k
  | _=>none
theorem qf {R:Type} {y:R}:∀ {ch:aI} {σ:St} {k:St→Option R},mf ch σ k = some y→k σ = some y
 | [],σ,k,h=>h
 | (t,w) :: r,σ,k,h=>by
  unfold mf at h
  split at h
  ·next c0 b hg =>
   cases b with
   | true =>
    rw [cond_true,xg hg] at h
    exact qf h
   | false =>
    rw [cond_false,xg hg] at h
    exact qf h
  ·cases h
section
variable {R:Type} (Tb:iW) (X:XT) (N:Nat) (all:List Oper)
def FN (σ:St) (nid:Nat) (o:Oper) (fT fF:List FuncId) (k:St→bY→List FuncId→List FuncId→Option R):Option R :=
 bif nP o then
  (bif iq N o.dst then
   match dB all σ.tm o.guard with
   | some ch =>
    bif ch.all fun x=>fg σ.tm ch x.1 then
     mf ch σ fun σ=>match kj σ ch (dm o.op) with
      | some vs=>(match GS o vs with
       | some (f,args) =>
        bif holds σ.tm ch then
         (bif dR f fF then none else uT Tb X f σ.hp nid args fun r=>bif ch.isEmpty||(r.eff.isEmpty&&r.kill.isEmpty&&fJ o.dst ch) then k σ (GN o σ ch nid vs r) (f :: fT) fF else none)
        else (bif dR f fT then uT Tb X f σ.hp nid args fun r=>bif r.eff.isEmpty&&r.kill.isEmpty&&fJ o.dst ch then k σ (GN o σ ch nid vs r) fT fF else none
         else bif fJ o.dst ch then k σ (GN o σ ch nid vs { pre:=[false = true],val:=.c .unk }) fT (f :: fF) else none)
       | none=>none)
      | none=>none
    else none
   | none=>none
  else none)
 else match recOf Tb.P (fun _=>none) N all σ nid o with
  | some rc=>gL (Hm σ.tm rc.ch rc.res.dec.bools) (k σ rc fT fF)
  | none=>none
end
theorem Pn {P:Program} {C:FuncId→Option CC} {H:ae} {nid:Nat} {o:Oper} {vs:List V} {f:FuncId} {args:List V} (h:GS o vs = some (f,args)):pt P C H nid o vs = lP C H nid f args:=by
 unfold GS at h
 split at h
 ·next g caps vs' ho =>
  cases hb:Nat.blt g 1000000000 with
  | false=>rw [hb] at h;cases h
  | true =>
   rw [hb] at h;cases h
   unfold pt
   rw [ho]
   simp only [hb,cond_true]
 ·cases h
theorem JM {P:Program} {C:FuncId→Option CC} {σ:St} {nid:Nat} {ch:aI} {o:Oper} (ho:nP o = true) {vs:List V} (hv:kj σ ch (dm o.op) = some vs) {r:av} (hr:pt P C σ.hp nid o vs = some r):j6 P C σ nid ch o = some (vs,r):=by
 unfold nP at ho
 split at ho
 ·next f args ats hop =>
  unfold j6
  rw [hop] at hv ⊢
  simp only [hv]
  unfold yL
  rw [hr]
  rfl
 ·cases ho
section
variable {R:Type} {Tb:iW} {X:XT} {N:Nat} {all:List Oper}
theorem Qb {P:Program} {C:FuncId→Option CC} {H:ae} {nid:Nat} {o:Oper} {vs:List V} (ho:nP o = false):pt P (fun _=>none) H nid o vs = pt P C H nid o vs:=by
 unfold pt
 split <;> try rfl
 next hop=>unfold nP at ho;rw [hop] at ho;cases ho
theorem Nw {P:Program} {C:FuncId→Option CC} {σ:St} {nid:Nat} {o:Oper} (ho:nP o = false):recOf P (fun _=>none) N all σ nid o = recOf P C N all σ nid o:=by
 have e:∀ ch,j6 P (fun _=>none) σ nid ch o = j6 P C σ nid ch o:=by
  intro ch
  unfold j6 yL
  simp only [Qb (C:=C) ho]
 unfold recOf
 simp only [e]
theorem A2 {σ:St} {nid:Nat} {o:Oper} {fT fF:List FuncId} {k:St→bY→List FuncId→List FuncId→Option R} {y:R} (h:FN Tb X N all σ nid o fT fF k = some y) :
  ∃ rc fT' fF',k σ rc fT' fF' = some y∧(∀ f∈fT,f∈fT')∧(∀ f∈fF,f∈fF')∧((∀ f∈fT,f ∉ fF)→∀ f∈fT',f ∉ fF')∧(o.guard = none→fF' = fF) ∧
   ∀ Ff:List FuncId,(∀ f∈fF',f∈Ff)→(∀ f∈fT',f ∉ Ff)→recOf Tb.P (mK (et Tb X) Ff) N all σ nid o = some rc∧∀ p∈jo σ.tm rc.ch rc.res.pre,p:=by
 unfold FN at h
 cases hc:nP o with
 | false =>
  rw [hc,cond_false] at h
  split at h
  ·next rc hrc =>
   obtain ⟨h1,h2⟩:=pX h
   refine ⟨rc,fT,fF,h2,fun _ h=>h,fun _ h=>h,fun h=>h,fun _=>rfl,fun Ff _ _=>⟨?_,Nd _ h1⟩⟩
   rw [← Nw hc];exact hrc
  ·cases h
 | true =>
  rw [hc,cond_true] at h
  cases hd:iq N o.dst with
  | false=>rw [hd] at h;cases h
  | true =>
   rw [hd,cond_true] at h
   split at h
   ·next ch hch =>
    cases hg:(ch.all fun x=>fg σ.tm ch x.1) with
    | false=>rw [hg] at h;cases h
    | true =>
     rw [hg,cond_true] at h
     have h:=qf h
     split at h
     ·next vs hvs =>
      split at h
      ·next f args hca =>
       have rec_:∀ (C:FuncId→Option CC) (r:av),lP C σ.hp nid f args = some r→(ch.isEmpty||(r.eff.isEmpty&&r.kill.isEmpty&&fJ o.dst ch)) = true→recOf Tb.P C N all σ nid o = some (GN o σ ch nid vs r):=by
        intro C r hr hx
        unfold recOf
        rw [hd,cond_true,hch]
        simp only [hg,cond_true]
        rw [JM hc hvs ((Pn hca).trans hr)]
        simp only [hx,cond_true]
        rfl
       cases hh:holds σ.tm ch with
       | true =>
        rw [hh,cond_true] at h
        cases hm:dR f fF with
        | true=>rw [hm] at h;cases h
        | false =>
         rw [hm,cond_false] at h
         obtain ⟨r,h,hpre,hcv⟩:=Co h
         cases hx:(ch.isEmpty||(r.eff.isEmpty&&r.kill.isEmpty&&fJ o.dst ch)) with
         | false=>rw [hx] at h;cases h
         | true =>
          rw [hx,cond_true] at h
          refine ⟨_,f :: fT,fF,h,fun g hg=>List.mem_cons_of_mem _ hg,fun _ h=>h,fun hdj g hg=>?_,fun _=>rfl,fun Ff h1 h2=>⟨rec_ _ r ?_ hx, ?_⟩⟩
          ·rcases List.mem_cons.1 hg with rfl | hg
           ·intro hf
            have:dR g fF = true:=List.any_eq_true.2 ⟨g,hf,by simp⟩
            rw [hm] at this;cases this
           ·exact hdj g hg
          ·have hnf:dR f Ff = false:=by
            cases hb:dR f Ff with
            | false=>rfl
            | true=>exact absurd (fC hb) (h2 f (by simp))
           exact hcv _ (by unfold mK;rw [hnf,cond_false])
          ·intro p hp
           have hp':p∈jo σ.tm ch r.pre:=hp
           unfold jo at hp'
           split at hp'
           ·exact hpre p hp'
           ·obtain ⟨q,hq,rfl⟩:=List.mem_map.1 hp'
            exact fun _=>hpre q hq
       | false =>
        rw [hh,cond_false] at h
        cases hm:dR f fT with
        | true =>
         rw [hm,cond_true] at h
         obtain ⟨r,h,hpre,hcv⟩:=Co h
         cases hx:(r.eff.isEmpty&&r.kill.isEmpty&&fJ o.dst ch) with
         | false=>rw [hx] at h;cases h
         | true =>
          rw [hx,cond_true] at h
          refine ⟨_,fT,fF,h,fun _ h=>h,fun _ h=>h,fun hdj=>hdj,fun _=>rfl,fun Ff h1 h2=>⟨rec_ _ r ?_ (by rw [hx,Bool.or_true]), ?_⟩⟩
          ·have hnf:dR f Ff = false:=by
            cases hb:dR f Ff with
            | false=>rfl
            | true=>exact absurd (fC hb) (h2 f (fC hm))
           exact hcv _ (by unfold mK;rw [hnf,cond_false])
          ·intro p hp
           have hp':p∈jo σ.tm ch r.pre:=hp
           unfold jo at hp'
           split at hp'
           ·exact hpre p hp'
           ·obtain ⟨q,hq,rfl⟩:=List.mem_map.1 hp'
            exact fun _=>hpre q hq
        | false =>
         rw [hm,cond_false] at h
         cases hn:fJ o.dst ch with
         | false=>rw [hn] at h;cases h
         | true =>
          rw [hn,cond_true] at h
          refine ⟨_,fT,f :: fF,h,fun _ h=>h,fun g hg=>List.mem_cons_of_mem _ hg,fun hdj g hg hf=>?_,fun hno=>?_,fun Ff h1 h2=>⟨rec_ _ _ ?_ ?_, ?_⟩⟩
          ·rcases List.mem_cons.1 hf with rfl | hf
           ·have:dR g fT = true:=List.any_eq_true.2 ⟨g,hg,by simp⟩
            rw [hm] at this;cases this
           ·exact hdj g hg hf
          ·rw [hno] at hch;cases hch;cases hh
          ·have hnf:dR f Ff = true:=List.any_eq_true.2 ⟨f,h1 f (by simp),by simp⟩
           unfold lP gV mK
           simp only [hnf,cond_true,V.scalar,Bool.or_true]
          ·simp [hn]
          ·intro p hp
           have hp':p∈jo σ.tm ch [false = true]:=hp
           unfold jo at hp'
           split at hp'
           ·simp [holds] at hh
           ·simp only [List.map_cons,List.map_nil,List.mem_singleton] at hp'; subst hp'; intro h0;rw [hh] at h0;cases h0
      ·cases h
     ·cases h
   ·cases h
end
end Go.Ax
