import Derived.Test.YtbjfcadcipfolaaGreatZB6g
set_option linter.all false
/- An evaluation of code that can be run: functions as plain functions with an option. -/
namespace Go.Ax
open Go.RowKit
def RS:Nat:=2000000
inductive cq where
  | data (c:Cd)
  | new (c:Cd)
  | own (fr:Bool) (e:TypeId) (t:Ty)
  | gen (T:Tm)
  | gen2 (T T':Tm)
def cq.tys:cq→List Ty
 | .gen T=>T.tys
 | .gen2 T T'=>.b :: (T.tys++T'.tys)
 | .data c=>c.tys
 | .new c=>c.tys
 | .own _ _ t=>[.ls t]
def cq.isGen:cq→Bool
 | .gen _=>true
 | .gen2 _ _=>true
 | _=>false
def cq.out:(o:cq)→HP o.tys→gW
 | .gen _,_=>.data (.c .unk)
 | .gen2 _ _,_=>.data (.c .unk)
 | .data c,x=>.data (filC c (fE c.tys x)).1
 | .new c,x=>.new (filC c (fE c.tys x)).1
 | .own fr e t,x=>.own fr e t x
def cq.rd:(o:cq)→ab→V→Option (HP o.tys)
 | .gen _,_,_=>none
 | .gen2 _ _,_,_=>none
 | .data c,H,v=>match colC c (v.view H) with | some us=>jA c.tys us | none=>none
 | .new c,H,v=>bif newV H v then (match colC c (v.view H) with | some us=>jA c.tys us | none=>none) else none
 | .own fr e t,H,v=>match v with
  | .c .nil=>some ([]:List t.T)
  | .row o k=>(match ab.get H o with
   | some (.row e' t' l)=>bif Nat.beq t'.k k&&Nat.beq e e'&&(!fr||t.sc) then kL t' t l else none
   | _=>none)
  | _=>none
theorem cq.rd_ok {o:cq} {H:ab} {v:V} {x:HP o.tys} (h:o.rd H v = some x):pc (o.out x) H v:=by
 have key:∀ (c:Cd) (x:HP c.tys),(match colC c (v.view H) with | some us=>jA c.tys us | none=>none) = some x→VLe (v.view H) (filC c (fE c.tys x)).1:=by
  intro c x h
  split at h
  ·next us hu =>
   have hr:=pN _ _ _ h
   exact (colC_le c _ us [] _ hu (by rw [List.append_nil];exact hr)).1
  ·cases h
 cases o with
 | gen T=>cases h
 | gen2 T T'=>cases h
 | data c=>exact key c x h
 | new c =>
  simp only [cq.rd] at h
  cases hn:newV H v with
  | false=>rw [hn] at h;cases h
  | true=>rw [hn] at h;exact ⟨key c x h,hn⟩
 | own fr e t =>
  simp only [cq.rd] at h
  split at h
  ·cases h;exact .inl ⟨rfl,rfl⟩
  ·next o k =>
   split at h
   ·next e' t' l hg =>
    cases hc:(Nat.beq t'.k k&&Nat.beq e e'&&(!fr||t.sc)) with
    | false=>rw [hc] at h;cases h
    | true =>
     rw [hc] at h
     have h:kL t' t l = some x:=h
     simp only [Bool.and_eq_true,Nat.beq_eq,Bool.or_eq_true,Bool.not_eq_true'] at hc
     obtain ⟨he,hx⟩:=jV h
     subst he
     obtain ⟨⟨rfl,rfl⟩,h3⟩:=hc
     refine .inr ⟨o,rfl, ?_,fun hf=>?_⟩
     ·rw [hg];have:x = l:=hx;rw [this]
     ·rcases h3 with h3 | h3
      ·rw [hf] at h3;cases h3
      ·exact h3
   ·cases h
  ·cases h
structure zN where
  T:Tm
  T':Tm
  f:HP T.tys→Option (HP T'.tys)
structure FI where
  fid:FuncId
  fn:Func
  c:Code
  ins:Tm
  out:cq
  cuts:List (Nat × Tm):=[]
  hd:List (Nat × zN):=[]
abbrev XT:=(fi:FI)→HP fi.ins.tys→Option (HP fi.out.tys)
abbrev JT:=(fi:FI)→(π:Nat)→(T:Tm)→HP T.tys→Option (HP fi.out.tys)
def uH (fi:FI) (vs:List V):Option (HP fi.ins.tys) :=
 bif !fi.out.isGen&&(Nat.beq vs.length fi.ins.sl.length&&fi.ins.ob.isEmpty) then rd fi.ins { tm:=iY vs 0,hp:=[],nx:=0 } else none
def fB {R:Type} (X:XT) (vs:List V) (k:gW→Option R):List FI→Option R
 | []=>none
 | fi :: r=>match uH fi vs with
  | some a=>(X fi a).bind fun y=>k (fi.out.out y)
  | none=>fB X vs k r
def bK {α:Type}:List (Nat × α)→Nat→Option α
 | [],_=>none
 | (g,x) :: r,f=>bif Nat.beq g f then some x else bK r f
def ya (T:Tm) (xs:List TV):St:=let p:=lN T.sl xs; { tm:=p.1,hp:=jI 0 T.ob p.2,nx:=T.ob.length }
def k9 (H:ab):List Nat:=zx [] (H.map (·.1))
def rZ:List Nat→Nat
 | []=>0
 | o :: r=>Nat.max (o+1) (rZ r)
def LI (os:List Nat) (H:ab):Bool:=os.all fun o=>match ab.get H o with | some b=>F5 os b | none=>true
def MT (N:Nat) (H:ab) (args:List V):St:={ tm:=iY args 0++iY args 1000000,hp:=m5 (k9 H) H,nx:=rZ (k9 H) }
def rdG (fi:FI) (H:ab) (args:List V):Option (HP fi.ins.tys) :=
 bif Nat.ble args.length fi.fn.ntmps&&(V.refss args).all (fun o=>kx o (k9 H))&&LI (k9 H) H then sI fi.ins (MT fi.fn.ntmps H args) else none
def fF (args:List V):List (Nat × Cd)→nP
 | []=>[]
 | (t, .k (.ptr q k i j)) :: r=>bif Nat.ble 1000000 t then (match args[t - 1000000]? with | some (.ptr o _ _ _)=>(q,o,true) :: fF args r | _=>fF args r) else fF args r
 | (t, .k (.row q k)) :: r=>bif Nat.ble 1000000 t then (match args[t - 1000000]? with | some (.row o _)=>(q,o,false) :: fF args r | _=>fF args r) else fF args r
 | (t, .k (.fn g [.ptr q k i j])) :: r=>bif Nat.ble 1000000 t&&Nat.beq g 2000000000 then (match args[t - 1000000]? with | some (.fn g' [.ptr o _ _ _])=>bif Nat.beq g' 2000000000 then (q,o,true) :: fF args r else fF args r | _=>fF args r) else fF args r
 | _ :: r=>fF args r
def nJ:Option Od→Bool
 | some (.box _)=>true
 | some (.map ..)=>true
 | _=>false
def A7:Option Ob→Bool
 | some (.row ..)=>false
 | none=>false
 | _=>true
def FT (T:Tm) (H:ab) (bk:nP):Bool:=Nat.ble T.ob.length 8&&(fO (T.sl.map (·.1))&&(zE bk&&bk.all fun x=>kx x.2.1 (k9 H)&&(Nat.blt x.1 T.ob.length&&(!x.2.2||(nJ T.ob[x.1]?&&A7 (ab.get H x.2.1))))))
def ig {R:Type} (T:Tm) (xs:List TV) (H:ab) (nid:Nat) (args:List V) (k:aB→Option R):Option R :=
 match au (ya T xs).tm RS with
 | some ⟨_, .tup [v]⟩=>bif FT T H (fF args T.sl) then k (DJ nid (k9 H) (fF args T.sl) (ya T xs).hp v) else none
 | _=>none
def iT {R:Type} (o:cq) (y:HP o.tys) (H:ab) (nid:Nat) (args:List V) (k:aB→Option R):Option R :=
 match o,y with
 | .gen T,y=>ig T (fE T.tys y) H nid args k
 | .gen2 T T',y=>(match fE (.b :: (T.tys++T'.tys)) y with
  | ⟨.b,t⟩ :: xs=>bif t then ig T xs H nid args k else ig T' (xs.drop T.tys.length) H nid args k
  | _=>none)
 | _,_=>none
def im {R:Type} (X:XT) (H:ab) (nid:Nat) (args:List V) (k:aB→Option R):List FI→Option R
 | []=>none
 | fi :: r=>match rdG fi H args with
  | some a=>(X fi a).bind fun y=>iT fi.out y H nid args k
  | none=>im X H nid args k r
def Hu (T:Tm) (σ:St):Option (List V) :=
 let τ:=ug T σ
 let ts:=T.sl.map (·.1)
 bif mW ts τ then
  let τ':=canonN ts τ
  bif Nat.ble τ'.nx T.ob.length then (match sR τ'.tm T.sl,wi τ'.hp 0 T.ob with
   | some a,some b=>(match jA T.tys (a++b) with | some _=>some (a++b) | none=>none)
   | _,_=>none) else none
 else none
def GS (ts:List Ty):List V:=ts.map fun t=>encV t t.z
def cq.rdG:(o:cq)→St→V→Option (HP o.tys)
 | .gen T,σ,v=>sI T { σ with tm:=(RS,⟨[], .tup [v]⟩) :: σ.tm }
 | .gen2 T T',σ,v=>match Hu T { σ with tm:=(RS,⟨[], .tup [v]⟩) :: σ.tm } with
  | some us=>jA (.b :: (T.tys++T'.tys)) (bl true :: (us++GS T'.tys))
  | none=>(match Hu T' { σ with tm:=(RS,⟨[], .tup [v]⟩) :: σ.tm } with
   | some us=>jA (.b :: (T.tys++T'.tys)) (bl false :: (GS T.tys++us))
   | none=>none)
 | _,_,_=>none
theorem Eh {H:ab}:∀ (cs:List Od) (i:Nat) (us us2:List V) (xs:List TV),wi H i cs = some us→RV (us++us2) xs→pD H (jI i cs xs)
 | [],i,us,us2,xs,h,hr=>by rw [jI];trivial
 | c :: cs,i,us,us2,xs,h,hr=>by
  rw [wi] at h
  split at h
  ·next b hg =>
   split at h
   ·next a b' ha hb =>
    cases h
    rw [List.append_assoc] at hr
    obtain ⟨h1,h2⟩:=Hk c b a (b'++us2) xs ha hr
    show pD H ((i,some _) :: _)
    rw [pD,hg]
    exact ⟨h1,Eh cs (i+1) b' us2 _ hb h2⟩
   ·cases h
  ·cases h
theorem GM {T:Tm} {σ:St} {us us2:List V} {xs:List TV} (h:Hu T σ = some us) (hr:RV (us++us2) xs):cO σ (ya T xs):=by
 unfold Hu at h
 simp only at h
 cases hc:mW (T.sl.map (·.1)) (ug T σ) with
 | false=>rw [hc] at h;cases h
 | true =>
  rw [hc,cond_true] at h
  cases hb:Nat.ble (canonN (T.sl.map (·.1)) (ug T σ)).nx T.ob.length with
  | false=>rw [hb] at h;cases h
  | true =>
   rw [hb,cond_true] at h
   split at h
   ·next a b ha hb' =>
    split at h
    ·cases h
     rw [List.append_assoc] at hr
     obtain ⟨h1,h2⟩:=BS T.sl a (b++us2) xs ha hr
     exact ((CV T σ).trans (cO.canonN _ hc)).trans (.le ⟨h1,Eh T.ob 0 b us2 _ hb' h2,Nat.ble_eq.mp hb⟩)
    ·cases h
   ·cases h
theorem Hq:∀ {us us2:List V} {xs:List TV},RV (us++us2) xs→RV us2 (xs.drop us.length)
 | [],us2,xs,h=>h
 | u :: us,us2,x :: xs,h=>Hq (us:=us) h.2
 | u :: us,us2,[],h=>h.elim
theorem M7 {b:Bool} {x:TV} (h:VLe (bl b) x.v):x = ⟨.b,b⟩:=by
 obtain ⟨t,x⟩:=x
 match t,x,h with
 | .b,x,h1 =>
  change VLe (.c (.lit (.bool b))) (.c (.lit (.bool x))) at h1
  rw [VLe] at h1
  cases h1
  rfl
 | .st k,x,h1=>change VLe (.c (.lit (.bool b))) (.agg _) at h1;simp [VLe] at h1
 | .arr n t,x,h1=>change VLe (.c (.lit (.bool b))) (.agg _) at h1;simp [VLe] at h1
 | .i k,x,h1=>change VLe (.c (.lit (.bool b))) (.c (.lit (.int k x))) at h1;rw [VLe] at h1;cases h1
 | .ls t,x,h1=>change VLe (.c (.lit (.bool b))) (.c (.sl t x)) at h1;rw [VLe] at h1;cases h1
 | .s,x,h1=>change VLe (.c (.lit (.bool b))) (.c (.lit (.string x))) at h1;rw [VLe] at h1;cases h1
theorem KV {R:Type} (T:Tm) (y:HP T.tys) (H:ab) (nid:Nat) (args:List V) (k:aB→Option R):iT (.gen T) y H nid args k = ig T (fE T.tys y) H nid args k:=rfl
theorem Mj (T:Tm) (σ:St) (v:V):cq.rdG (.gen T) σ v = sI T { σ with tm:=(RS,⟨[], .tup [v]⟩) :: σ.tm }:=rfl
theorem KI {T:Tm} {σ:St} {x:HP T.tys} (h:sI T σ = some x):cO σ (ya T (fE T.tys x)):=m3 h
theorem Ez {R:Type} (T T':Tm) (y:HP (.b :: (T.tys++T'.tys))) {t:Bool} {xs:List TV} (hx:fE (.b :: (T.tys++T'.tys)) y = (⟨.b,t⟩:TV) :: xs) (H:ab) (nid:Nat) (args:List V) (k:aB→Option R) :
  iT (.gen2 T T') y H nid args k = bif t then ig T xs H nid args k else ig T' (xs.drop T.tys.length) H nid args k:=by
 show (match fE (.b :: (T.tys++T'.tys)) y with | ⟨.b,t⟩ :: xs=>bif t then ig T xs H nid args k else ig T' (xs.drop T.tys.length) H nid args k | _=>none) = _
 rw [hx]
theorem KK (T T':Tm) (σ:St) (v:V):cq.rdG (.gen2 T T') σ v = match Hu T { σ with tm:=(RS,⟨[], .tup [v]⟩) :: σ.tm } with
  | some us=>jA (.b :: (T.tys++T'.tys)) (bl true :: (us++GS T'.tys))
  | none=>(match Hu T' { σ with tm:=(RS,⟨[], .tup [v]⟩) :: σ.tm } with
   | some us=>jA (.b :: (T.tys++T'.tys)) (bl false :: (GS T.tys++us))
   | none=>none):=rfl
theorem Md {T T':Tm} {σ:St} {v:V} {y:HP (cq.gen2 T T').tys} (h:(cq.gen2 T T').rdG σ v = some y):∃ (T0:Tm) (xs:List TV),cO { σ with tm:=(RS,⟨[], .tup [v]⟩) :: σ.tm } (ya T0 xs) ∧
  ∀ {R:Type} (H:ab) (nid:Nat) (args:List V) (k:aB→Option R),iT (.gen2 T T') y H nid args k = ig T0 xs H nid args k:=by
 rw [KK] at h
 have key:∀ (b:Bool) (us:List V),jA (.b :: (T.tys++T'.tys)) (bl b :: us) = some y→∃ xs,fE (.b :: (T.tys++T'.tys)) y = (⟨.b,b⟩:TV) :: xs∧RV us xs:=by
  intro b us hh
  have hr:=pN _ _ _ hh
  revert hr
  generalize fE (.b :: (T.tys++T'.tys)) y = l
  intro hr
  match l,hr with
  | [],hr=>exact hr.elim
  | x :: xs,hr=>exact ⟨xs,by rw [M7 hr.1],hr.2⟩
 split at h
 ·next us hu =>
  obtain ⟨xs,hx,hr⟩:=key _ _ h
  exact ⟨T,xs,GM hu hr,fun H nid args k=>by rw [Ez T T' y hx,cond_true]⟩
 ·split at h
  ·next us hu =>
   obtain ⟨xs,hx,hr⟩:=key _ _ h
   have h2:=Hq hr
   have e:(GS T.tys).length = T.tys.length:=by simp [GS]
   rw [e] at h2
   exact ⟨T',xs.drop T.tys.length,GM (us2:=[]) hu (by rw [List.append_nil];exact h2),fun H nid args k=>by rw [Ez T T' y hx,cond_false]⟩
  ·cases h
theorem M1 {o:cq} {σ:St} {v:V} {y:HP o.tys} (h:o.rdG σ v = some y):∃ (T:Tm) (xs:List TV),cO { σ with tm:=(RS,⟨[], .tup [v]⟩) :: σ.tm } (ya T xs) ∧
  ∀ {R:Type} (H:ab) (nid:Nat) (args:List V) (k:aB→Option R),iT o y H nid args k = ig T xs H nid args k:=by
 cases o with
 | gen T =>
  rw [Mj] at h
  exact ⟨T,fE T.tys y,KI h,fun H nid args k=>KV T y H nid args k⟩
 | gen2 T T'=>exact @Md T T' σ v y h
 | data c =>
  have h:(none:Option (HP (cq.data c).tys)) = some y:=h
  cases h
 | new c =>
  have h:(none:Option (HP (cq.new c).tys)) = some y:=h
  cases h
 | own fr e t =>
  have h:(none:Option (HP (cq.own fr e t).tys)) = some y:=h
  cases h
inductive Sp where
  | none
  | hand (fi:FI) (h:XT→HP fi.ins.tys→Option (HP fi.out.tys))
  | mut (m:XT→ab→Nat→List V→Option aB)
structure iE where
  P:Program
  fs:List (FuncId × List FI)
  sp:FuncId→Sp
def yl:List FI→Bool
 | fi :: _=>fi.out.isGen
 | []=>false
def kR {R:Type} (fi:FI) (h:HP fi.ins.tys→Option (HP fi.out.tys)) (H:ab) (nid:Nat) (args:List V) (k:aB→Option R):Option R:=match rdG fi H args with
 | some a=>(h a).bind fun y=>iT fi.out y H nid args k
 | none=>none
def kM {R:Type} (fi:FI) (h:HP fi.ins.tys→Option (HP fi.out.tys)) (vs:List V) (k:gW→Option R):Option R:=match uH fi vs with
 | some a=>(h a).bind fun y=>k (fi.out.out y)
 | none=>none
def dN (Tb:iE) (X:XT) (f:FuncId):CC:=match bK Tb.fs f with
 | some l=>bif yl l then .mut fun H nid args=>im X H nid args some l else .pure fun vs=>(fB X vs some l).map fun o=>(true,o)
 | none=>match Tb.sp f with
  | .hand fi h=>bif fi.out.isGen then .mut fun H nid args=>kR fi (h X) H nid args some else .pure fun vs=>(kM fi (h X) vs some).map fun o=>(true,o)
  | .mut m=>.mut (m X)
  | .none=>.pure fun _=>none
theorem Ap {R:Type} (X:XT) (vs:List V) (k:gW→Option R):∀ l:List FI,fB X vs k l = (fB X vs some l).bind k
 | []=>rfl
 | fi :: r=>by
  unfold fB
  split
  ·next a ha=>cases X fi a <;> rfl
  ·exact Ap X vs k r
theorem CI {R:Type} (T:Tm) (xs:List TV) (H:ab) (nid:Nat) (args:List V) (k:aB→Option R):ig T xs H nid args k = (ig T xs H nid args some).bind k:=by
 unfold ig
 split
 ·cases FT T H (fF args T.sl) <;> rfl
 ·rfl
theorem CT {R:Type} (o:cq) (y:HP o.tys) (H:ab) (nid:Nat) (args:List V) (k:aB→Option R):iT o y H nid args k = (iT o y H nid args some).bind k:=by
 unfold iT
 split
 ·exact CI ..
 ·split
  ·next t xs _=>cases t <;> exact CI ..
  ·rfl
 ·rfl
theorem Au {R:Type} (X:XT) (H:ab) (nid:Nat) (args:List V) (k:aB→Option R):∀ l:List FI,im X H nid args k l = (im X H nid args some l).bind k
 | []=>rfl
 | fi :: r=>by
  unfold im
  split
  ·next a ha =>
   cases X fi a with
   | none=>rfl
   | some y=>rw [Option.bind_some,Option.bind_some];exact CT ..
  ·exact Au X H nid args k r
def gb {α:Type} (b:Bool) (o:Option α):Option α:=bif b then o else none
def gL {α:Type}:List Bool→Option α→Option α
 | [],o=>o
 | b :: r,o=>gb b (gL r o)
theorem pj {α:Type} {o:Option α} {y:α}:∀ {l:List Bool},gL l o = some y→(∀ b∈l,b = true)∧o = some y
 | [],h=>⟨fun b hb=>by simp at hb,h⟩
 | b :: l,h=>by
  unfold gL gb at h
  cases b with
  | false=>cases h
  | true =>
   obtain ⟨h1,h2⟩:=pj (l:=l) h
   exact ⟨fun c hc=>by rcases List.mem_cons.1 hc with rfl | hc;rfl;exact h1 c hc,h2⟩
def en.bools:{ps:List Prop}→en ps→List Bool
 | _, .nil=>[]
 | _, .cons (p:=p) d r=>@aa p d :: r.bools
def D3 (tm:List (Nat × az)) (ch:aL) (bs:List Bool):List Bool:=match ch with
 | []=>bs
 | ch=>bs.map fun b=>!(holds tm ch)||b
theorem qJ:∀ {ps:List Prop} (d:en ps),(∀ b∈d.bools,b = true)→∀ p∈ps,p
 | _, .nil,_,p,hp=>by simp at hp
 | _, .cons d r,h,p,hp=>by
  rcases List.mem_cons.1 hp with rfl | hp
  ·exact of_decide_eq_true (h _ (by simp [en.bools]))
  ·exact qJ r (fun b hb=>h b (by simp [en.bools,hb])) p hp
theorem CR {c:Prop} {b:Bool} (hb:b = true↔c):∀ {ps:List Prop} (d:en ps),(∀ x∈d.bools.map (fun y=>!b||y),x = true)→∀ p∈ps,c→p
 | _, .nil,_,p,hp=>by simp at hp
 | _, .cons d r,h,p,hp=>by
  intro hc
  rcases List.mem_cons.1 hp with rfl | hp
  ·have:=h (!b||@decide _ d) (by simp [en.bools])
   rw [hb.2 hc] at this
   exact of_decide_eq_true (by simpa using this)
  ·exact CR hb r (fun x hx=>h x (by simp only [en.bools,List.map_cons,List.mem_cons];exact .inr hx)) p hp hc
theorem JF {tm:List (Nat × az)} {ch:aL} {ps:List Prop} (d:en ps) (h:∀ b∈D3 tm ch d.bools,b = true):∀ p∈la tm ch ps,p:=by
 unfold D3 la at *
 cases ch with
 | nil=>exact qJ d h
 | cons x l =>
  intro p hp
  simp only [List.mem_map] at hp
  obtain ⟨q,hq,rfl⟩:=hp
  exact CR Iff.rfl d h q hq
def pF (nid:Nat) (args:List V):gW→Option aB
 | .data v=>bif (!fe args)||v.scalar then some { pre:=[true = true],val:=v } else none
 | .new v=>some { pre:=[true = true],val:=v }
 | .own fr e t l=>bif (!fe args)||fr then some { pre:=[true = true],val:=.row nid t.k,eff:=[(nid,some (.row e t l))] } else none
def ph (H:ab) (nid:Nat) (args:List V) (out:gW):Option aB:=match pF nid args out with
 | some r=>some r
 | none=>bif V.noPs args then iF (fun _ vs=>pF nid vs out) (V.refss args) H args else none
theorem JH {o:Nat} {e:TypeId} {t:Ty} (H:ab) {q:Nat} (h:q≠o):ab.get ((o,some (.row e t [])) :: dt [o] H) q = kz o (ab.get H q):=by
 rw [ab.get_cons,if_neg (Ne.symm h),dY]
mutual
theorem view_fz {o:Nat} {e:TypeId} {t:Ty} {l:List t.T} {H:ab} (hg:H.get o = some (.row e t l)):∀ v:V,v.noP = true→(V.fz o t l v).view ((o,some (.row e t [])) :: dt [o] H) = v.view H
 | .c d,_=>rfl
 | .agg vs,hn=>by rw [V.fz,V.view,V.view,views_fz hg vs (by simpa [V.noP] using hn)]
 | .tup vs,hn=>by rw [V.fz,V.view,V.view,views_fz hg vs (by simpa [V.noP] using hn)]
 | .ptr ..,hn=>by simp [V.noP] at hn
 | .row o' k,_=>by
  rw [V.fz]
  cases hb:Nat.beq o' o with
  | true =>
   have:=Nat.eq_of_beq_eq_true hb
   subst this
   rw [cond_true,V.view,pP,hg]
   simp only
   cases Nat.beq t.k k <;> rfl
  | false =>
   have hne:o'≠o:=fun h=>by subst h;simp at hb
   rw [cond_false,V.view,V.view,pP,pP,JH H hne]
   cases ab.get H o' with
   | none=>rfl
   | some b=>cases b <;> rfl
 | .sub o' k off n,_=>by
  rw [V.fz]
  cases hb:Nat.beq o' o with
  | true =>
   have:=Nat.eq_of_beq_eq_true hb
   subst this
   rw [cond_true,V.view,pH,hg]
   simp only
   cases Nat.beq t.k k <;> rfl
  | false =>
   have hne:o'≠o:=fun h=>by subst h;simp at hb
   rw [cond_false,V.view,V.view,pH,pH,JH H hne]
   cases ab.get H o' with
   | none=>rfl
   | some b=>cases b <;> rfl
 | .dptr ..,_=>rfl
 | .fn f vs,hn=>by rw [V.fz,V.view,V.view,views_fz hg vs (by simpa [V.noP] using hn)]
theorem views_fz {o:Nat} {e:TypeId} {t:Ty} {l:List t.T} {H:ab} (hg:H.get o = some (.row e t l)):∀ vs:List V,V.noPs vs = true→V.views ((o,some (.row e t [])) :: dt [o] H) (V.fzs o t l vs) = V.views H vs
 | [],_=>rfl
 | v :: r,hn=>by
  rw [V.noPs,Bool.and_eq_true] at hn
  rw [V.fzs,V.views,V.views,view_fz hg v hn.1,views_fz hg r hn.2]
end
mutual
theorem noP_fz (o:Nat) (t:Ty) (l:List t.T):∀ v:V,v.noP = true→(V.fz o t l v).noP = true
 | .c d,_=>rfl
 | .agg vs,hn=>by rw [V.fz,V.noP];exact noPs_fz o t l vs (by simpa [V.noP] using hn)
 | .tup vs,hn=>by rw [V.fz,V.noP];exact noPs_fz o t l vs (by simpa [V.noP] using hn)
 | .ptr ..,hn=>by simp [V.noP] at hn
 | .row o' k,_=>by
  rw [V.fz]
  cases Nat.beq o' o with
  | false=>rfl
  | true=>rw [cond_true];cases Nat.beq t.k k <;> rfl
 | .sub o' k off n,_=>by
  rw [V.fz]
  cases Nat.beq o' o with
  | false=>rfl
  | true=>rw [cond_true];cases Nat.beq t.k k <;> rfl
 | .dptr ..,_=>rfl
 | .fn f vs,hn=>by rw [V.fz,V.noP];exact noPs_fz o t l vs (by simpa [V.noP] using hn)
theorem noPs_fz (o:Nat) (t:Ty) (l:List t.T):∀ vs:List V,V.noPs vs = true→V.noPs (V.fzs o t l vs) = true
 | [],_=>rfl
 | v :: r,hn=>by
  rw [V.noPs,Bool.and_eq_true] at hn
  rw [V.fzs,V.noPs,noP_fz o t l v hn.1,noPs_fz o t l r hn.2];rfl
end
theorem xx {C:FuncId→Option CC} {H:ab} {nid:Nat} {f:FuncId} {args:List V} {con:G1} {out:gW} (hc:C f = some (.pure con)) (ho:con (V.views H args) = some (true,out)):gP C H nid f args = pF nid args out:=by
 unfold gP
 rw [hc]
 simp only [ho]
 cases out <;> rfl
theorem EB {C:FuncId→Option CC} {nid:Nat} {f:FuncId} {con:G1} {out:gW} (hc:C f = some (.pure con)):∀ (fl:List Nat) (H:ab) (args:List V),V.noPs args = true→con (V.views H args) = some (true,out) →
  iF (o7 C f nid) fl H args = iF (fun _ vs=>pF nid vs out) fl H args
 | [],H,args,hn,ho=>by
  rw [iF,iF]
  unfold o7
  rw [hn,cond_true,hc]
  simp only
  exact xx hc ho
 | q :: fl,H,args,hn,ho=>by
  rw [iF,iF]
  split
  ·next e t l hg =>
   rw [EB hc fl _ _ (noPs_fz q t l args hn) (by rw [views_fz hg args hn];exact ho)]
  ·rfl
theorem Ei {C:FuncId→Option CC} {H:ab} {nid:Nat} {f:FuncId} {args:List V} {con:G1} {out:gW} {r:aB} (hc:C f = some (.pure con)) (ho:con (V.views H args) = some (true,out)) (h:ph H nid args out = some r):no C H nid f args = some r:=by
 unfold no
 rw [xx hc ho]
 unfold ph at h
 split at h
 ·next r' hr=>rw [hr];exact h
 ·next hr =>
  rw [hr]
  cases hn:V.noPs args with
  | false=>rw [hn] at h;cases h
  | true =>
   rw [hn,cond_true] at h
   simp only
   rw [EB hc _ _ _ hn ho]
   exact h
theorem GZ {f:ab→List V→Option aB} {P0:List Prop→Prop} (hf:∀ H vs r,f H vs = some r→P0 r.pre):∀ (fl:List Nat) (H:ab) (vs:List V) (r:aB),iF f fl H vs = some r→P0 r.pre
 | [],H,vs,r,h=>hf H vs r h
 | q :: fl,H,vs,r,h=>by
  rw [iF] at h
  split at h
  ·next e t l hg =>
   cases hb:iF f fl ((q,some (.row e t [])) :: dt [q] H) (V.fzs q t l vs) with
   | none=>rw [hb] at h;cases h
   | some r0=>rw [hb] at h;cases h;exact GZ hf fl _ _ r0 hb
  ·cases h
theorem Am {nid:Nat} {args:List V} {out:gW} {r:aB} (hr:pF nid args out = some r):r.pre = [true = true]:=by
 cases out with
 | data v =>
  simp only [pF] at hr
  cases hq:((!fe args)||v.scalar) <;> rw [hq] at hr <;> cases hr
  rfl
 | new v=>cases hr;rfl
 | own fr e t l =>
  simp only [pF] at hr
  cases hq:((!fe args)||fr) <;> rw [hq] at hr <;> cases hr
  rfl
theorem Ch {H:ab} {nid:Nat} {args:List V} {out:gW} {r:aB} (h:ph H nid args out = some r):r.pre = [true = true]:=by
 unfold ph at h
 split at h
 ·next r' hr=>cases h;exact Am hr
 ·cases hn:V.noPs args with
  | false=>rw [hn] at h;cases h
  | true=>rw [hn,cond_true] at h;exact GZ (P0:=fun ps=>ps = [true = true]) (fun _ _ _ h=>Am h) _ _ _ _ h
def Hv {R:Type} (X:XT) (l:List FI) (H:ab) (nid:Nat) (args:List V) (k:aB→Option R):Option R :=
 bif yl l then im X (bu (aO H args) H) nid args k l
 else fB X (V.views H args) (fun out=>match ph H nid args out with | some r=>k r | none=>none) l
def wP {R:Type} (Tb:iE) (X:XT) (f:FuncId) (H:ab) (nid:Nat) (args:List V) (k:aB→Option R):Option R :=
 match bK Tb.fs f with
 | some l=>Hv X l H nid args k
 | none=>match Tb.sp f with
  | .hand fi h=>bif fi.out.isGen then kR fi (h X) (bu (aO H args) H) nid args k else kM fi (h X) (V.views H args) fun out=>match ph H nid args out with | some r=>k r | none=>none
  | .mut m=>(m X (bu (aO H args) H) nid args).bind fun r=>gL r.dec.bools (k r)
  | .none=>none
theorem wh {C:FuncId→Option CC} {H:ab} {nid:Nat} {f:FuncId} {args:List V} {m:ab→Nat→List V→Option aB} {r:aB} (hc:C f = some (.mut m)) (hm:m (bu (aO H args) H) nid args = some r):no C H nid f args = some r:=by
 have h0:gP C H nid f args = some r:=by
  unfold gP
  rw [hc]
  exact hm
 unfold no
 rw [h0]
theorem um {T:Tm} {xs:List TV} {H:ab} {nid:Nat} {args:List V} {r:aB} (h:ig T xs H nid args some = some r):r.pre = [true = true]:=by
 unfold ig at h
 split at h
 ·cases hb:FT T H (fF args T.sl) with
  | false=>rw [hb] at h;cases h
  | true=>rw [hb] at h;cases h;rfl
 ·cases h
theorem CD {X:XT} {H:ab} {nid:Nat} {args:List V} {r:aB}:∀ {l:List FI},im X H nid args some l = some r→r.pre = [true = true]
 | [],h=>by cases h
 | fi :: l,h=>by
  unfold im at h
  split at h
  ·rw [Option.bind_eq_some_iff] at h
   obtain ⟨y,_,h⟩:=h
   unfold iT at h
   split at h
   ·exact um h
   ·split at h
    ·next t xs _=>cases t <;> exact um h
    ·cases h
   ·cases h
  ·exact CD h
theorem HM {R:Type} (fi:FI) (h:HP fi.ins.tys→Option (HP fi.out.tys)) (H:ab) (nid:Nat) (args:List V) (k:aB→Option R):kR fi h H nid args k = (kR fi h H nid args some).bind k:=by
 unfold kR
 split
 ·next a _ =>
  cases h a with
  | none=>rfl
  | some y=>rw [Option.bind_some,Option.bind_some];exact CT ..
 ·rfl
theorem HE {R:Type} (fi:FI) (h:HP fi.ins.tys→Option (HP fi.out.tys)) (vs:List V) (k:gW→Option R):kM fi h vs k = (kM fi h vs some).bind k:=by
 unfold kM
 split
 ·next a _=>cases h a <;> rfl
 ·rfl
theorem Ku {o:cq} {y:HP o.tys} {H:ab} {nid:Nat} {args:List V} {r:aB} (h:iT o y H nid args some = some r):r.pre = [true = true]:=by
 unfold iT at h
 split at h
 ·exact um h
 ·split at h
  ·next t xs _=>cases t <;> exact um h
  ·cases h
 ·cases h
theorem Jy {fi:FI} {h:HP fi.ins.tys→Option (HP fi.out.tys)} {H:ab} {nid:Nat} {args:List V} {r:aB} (hh:kR fi h H nid args some = some r):r.pre = [true = true]:=by
 unfold kR at hh
 split at hh
 ·rw [Option.bind_eq_some_iff] at hh
  obtain ⟨y,_,hh⟩:=hh
  exact Ku hh
 ·cases hh
theorem HR {R:Type} {Tb:iE} {X:XT} {f:FuncId} {H:ab} {nid:Nat} {args:List V} {k:aB→Option R} {y:R} (h:wP Tb X f H nid args k = some y) :
  ∃ r,k r = some y∧(∀ p∈r.pre,p)∧∀ C:FuncId→Option CC,C f = some (dN Tb X f)→no C H nid f args = some r:=by
 have one:∀ {ps:List Prop},ps = [true = true]→∀ p∈ps,p:=fun e p hp=>by subst e;rw [List.mem_singleton] at hp;subst hp;rfl
 unfold wP at h
 split at h
 ·next l hl =>
  unfold Hv at h
  cases hg:yl l with
  | true =>
   rw [hg,cond_true,Au,Option.bind_eq_some_iff] at h
   obtain ⟨r,h1,h2⟩:=h
   refine ⟨r,h2,one (CD h1),fun C hC=>wh (m:=fun H nid args=>im X H nid args some l) (by rw [hC];unfold dN;rw [hl];simp only [hg,cond_true]) h1⟩
  | false =>
   rw [hg,cond_false,Ap,Option.bind_eq_some_iff] at h
   obtain ⟨out,h1,h2⟩:=h
   split at h2
   ·next r hr=>exact ⟨r,h2,one (Ch hr),fun C hC=>Ei (con:=fun vs=>(fB X vs some l).map fun o=>(true,o)) (by rw [hC];unfold dN;rw [hl];simp only [hg,cond_false]) (by simp only [h1,Option.map_some]) hr⟩
   ·cases h2
 ·next hl =>
  split at h
  ·next fi hd hc =>
   cases hg:fi.out.isGen with
   | true =>
    rw [hg,cond_true,HM,Option.bind_eq_some_iff] at h
    obtain ⟨r,h1,h2⟩:=h
    exact ⟨r,h2,one (Jy h1),fun C hC=>wh (m:=fun H nid args=>kR fi (hd X) H nid args some) (by rw [hC];unfold dN;rw [hl];simp only [hc,hg,cond_true]) h1⟩
   | false =>
    rw [hg,cond_false,HE,Option.bind_eq_some_iff] at h
    obtain ⟨out,h1,h2⟩:=h
    split at h2
    ·next r hr=>exact ⟨r,h2,one (Ch hr),fun C hC=>Ei (con:=fun vs=>(kM fi (hd X) vs some).map fun o=>(true,o)) (by rw [hC];unfold dN;rw [hl];simp only [hc,hg,cond_false]) (by simp only [h1,Option.map_some]) hr⟩
    ·cases h2
  ·next m hm =>
   rw [Option.bind_eq_some_iff] at h
   obtain ⟨r,h1,h2⟩:=h
   obtain ⟨h3,h4⟩:=pj h2
   exact ⟨r,h4,qJ _ h3,fun C hC=>wh (m:=m X) (by rw [hC];unfold dN;rw [hl];simp only [hm]) h1⟩
  ·cases h
def DU (o:Oper) (vs:List V):Option (FuncId × List V):=match o.op,vs with
 | .call { callee:=.value _, .. }, .fn f caps :: vs=>bif Nat.blt f 1000000000 then some (f,vs++caps) else none
 | _,_=>none
def mM (o:Oper):Bool:=match o.op with
 | .call { callee:=.value _, .. }=>true
 | _=>false
def Nq (o:Oper) (σ:St) (ch:aL) (nid:Nat) (vs:List V) (r:aB):bj:={ dst:=o.dst,rds:=jB (cS o.op)++ch.map (·.1),ch,nid,vs,reach:=aO σ.hp (lk o vs),rws:=lE σ.hp (lk o vs),res:=r }
def E3:List (Nat × az)→Nat→az→List (Nat × az)
 | [],_,_=>[]
 | (t',s') :: r,t,s=>bif Nat.beq t' t then (t',s) :: r else (t',s') :: E3 r t s
theorem vF:∀ {tm:List (Nat × az)} {t:Nat} {s:az},au tm t = some s→E3 tm t s = tm
 | [],t,s,h=>rfl
 | (t',s') :: r,t,s,h=>by
  unfold E3
  unfold au at h
  cases hb:Nat.beq t' t with
  | true=>rw [hb] at h;cases h;rfl
  | false=>rw [hb,cond_false] at h;rw [cond_false,vF h]
def lr {R:Type}:aL→St→(St→Option R)→Option R
 | [],σ,k=>k σ
 | (t,_) :: r,σ,k=>match au σ.tm t with
  | some ⟨c0, .c (.lit (.bool b))⟩=>bif b then lr r { σ with tm:=E3 σ.tm t ⟨c0,bl true⟩ } k else lr r { σ with tm:=E3 σ.tm t ⟨c0,bl false⟩ } k
  | _=>none
theorem pB {R:Type} {y:R}:∀ {ch:aL} {σ:St} {k:St→Option R},lr ch σ k = some y→k σ = some y
 | [],σ,k,h=>h
 | (t,w) :: r,σ,k,h=>by
  unfold lr at h
  split at h
  ·next c0 b hg =>
   cases b with
   | true =>
    rw [cond_true,vF hg] at h
    exact pB h
   | false =>
    rw [cond_false,vF hg] at h
    exact pB h
  ·cases h
section
variable {R:Type} (Tb:iE) (X:XT) (N:Nat) (all:List Oper)
def CE (σ:St) (nid:Nat) (o:Oper) (k:St→bj→Option R):Option R :=
 bif mM o then
  (bif gg N o.dst then
   match ce all σ.tm o.guard with
   | some ch =>
    bif ch.all fun x=>cU σ.tm ch x.1 then
     lr ch σ fun σ =>
      bif holds σ.tm ch then (match jN σ ch (cS o.op) with
       | some vs=>(match DU o vs with
        | some (f,args)=>wP Tb X f σ.hp nid args fun r=>bif ch.isEmpty||fQ o.dst ch then k σ (Nq o σ ch nid vs r) else none
        | none=>none)
       | none=>none)
      else bif fQ o.dst ch then k σ (LL Tb.P o ch nid) else none
    else none
   | none=>none
  else none)
 else match mr Tb.P (fun _=>none) N all σ nid o with
  | some rc=>gL (D3 σ.tm rc.ch rc.res.dec.bools) (k σ rc)
  | none=>none
end
theorem Lg {P:Program} {C:FuncId→Option CC} {H:ab} {nid:Nat} {o:Oper} {vs:List V} {f:FuncId} {args:List V} (h:DU o vs = some (f,args)):oB P C H nid o vs = no C H nid f args:=by
 unfold DU at h
 split at h
 ·next g caps vs' ho =>
  cases hb:Nat.blt g 1000000000 with
  | false=>rw [hb] at h;cases h
  | true =>
   rw [hb] at h;cases h
   unfold oB
   rw [ho]
   simp only [hb,cond_true]
 ·cases h
theorem Gr {P:Program} {C:FuncId→Option CC} {σ:St} {nid:Nat} {ch:aL} {o:Oper} (ho:mM o = true) {vs:List V} (hv:jN σ ch (cS o.op) = some vs) {r:aB} (hr:oB P C σ.hp nid o vs = some r):jH P C σ nid ch o = some (vs,r):=by
 unfold mM at ho
 split at ho
 ·next f args ats hop =>
  unfold jH
  rw [hop] at hv ⊢
  simp only [hv]
  unfold wm
  rw [hr]
  rfl
 ·cases ho
section
variable {R:Type} {Tb:iE} {X:XT} {N:Nat} {all:List Oper}
theorem Mq {P:Program} {C:FuncId→Option CC} {H:ab} {nid:Nat} {o:Oper} {vs:List V} (ho:mM o = false):oB P (fun _=>none) H nid o vs = oB P C H nid o vs:=by
 unfold oB
 split <;> try rfl
 next hop=>unfold mM at ho;rw [hop] at ho;cases ho
theorem Ju {P:Program} {C:FuncId→Option CC} {σ:St} {nid:Nat} {o:Oper} (ho:mM o = false):mr P (fun _=>none) N all σ nid o = mr P C N all σ nid o:=by
 have e:∀ ch,jH P (fun _=>none) σ nid ch o = jH P C σ nid ch o:=by
  intro ch
  unfold jH wm
  simp only [Mq (C:=C) ho]
 unfold mr qe
 simp only [e]
theorem yF {σ:St} {nid:Nat} {o:Oper} {k:St→bj→Option R} {y:R} (h:CE Tb X N all σ nid o k = some y) :
  ∃ rc,k σ rc = some y∧∀ C:FuncId→Option CC,(∀ f,C f = some (dN Tb X f))→eC Tb.P C N all σ nid o rc∧∀ p∈la σ.tm rc.ch rc.res.pre,p:=by
 unfold CE at h
 cases hc:mM o with
 | false =>
  rw [hc,cond_false] at h
  split at h
  ·next rc hrc =>
   obtain ⟨h1,h2⟩:=pj h
   refine ⟨rc,h2,fun C _=>⟨.of ?_,JF _ h1⟩⟩
   rw [← Ju hc];exact hrc
  ·cases h
 | true =>
  rw [hc,cond_true] at h
  cases hd:gg N o.dst with
  | false=>rw [hd] at h;cases h
  | true =>
   rw [hd,cond_true] at h
   split at h
   ·next ch hch =>
    cases hg:(ch.all fun x=>cU σ.tm ch x.1) with
    | false=>rw [hg] at h;cases h
    | true =>
     rw [hg,cond_true] at h
     have h:=pB h
     cases hh:holds σ.tm ch with
     | true =>
      rw [hh,cond_true] at h
      split at h
      ·next vs hvs =>
       split at h
       ·next f args hca =>
        obtain ⟨r,h,hpre,hcv⟩:=HR h
        cases hx:(ch.isEmpty||fQ o.dst ch) with
        | false=>rw [hx] at h;cases h
        | true =>
         rw [hx,cond_true] at h
         refine ⟨_,h,fun C hC=>⟨.inl ⟨?_, .inl hh⟩,fun p hp=>?_⟩⟩
         ·unfold qe
          rw [hd,cond_true,hch]
          simp only [hg,cond_true]
          rw [Gr hc hvs ((Lg hca).trans (hcv C (hC f)))]
          simp only [hx,cond_true]
          rfl
         ·have hp':p∈la σ.tm ch r.pre:=hp
          unfold la at hp'
          split at hp'
          ·exact hpre p hp'
          ·obtain ⟨q,hq,rfl⟩:=List.mem_map.1 hp'
           exact fun _=>hpre q hq
       ·cases h
      ·cases h
     | false =>
      rw [hh,cond_false] at h
      cases hn:fQ o.dst ch with
      | false=>rw [hn] at h;cases h
      | true =>
       rw [hn,cond_true] at h
       refine ⟨_,h,fun C _=>⟨.inr ⟨rfl,hd,hch,hg,hn,hh⟩,fun p hp=>?_⟩⟩
       have hp':p∈la σ.tm ch []:=hp
       unfold la at hp'
       split at hp' <;> simp at hp'
   ·cases h
end
end Go.Ax
