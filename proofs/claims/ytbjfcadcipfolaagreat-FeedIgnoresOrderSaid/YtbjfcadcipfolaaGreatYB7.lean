import Derived.Test.YtbjfcadcipfolaaGreatYB6g
set_option linter.all false
/- An evaluation of code that can be run: functions as plain functions with an option. -/
namespace Go.Ax
open Go.RowKit
def RS:Nat:=2000000
inductive cS where
  | data (c:Cd)
  | new (c:Cd)
  | own (fr:Bool) (e:TypeId) (t:Ty)
  | gen (T:Tm)
  | gen2 (T T':Tm)
def cS.tys:cS→List Ty
 | .gen T=>T.tys
 | .gen2 T T'=>.b :: (T.tys++T'.tys)
 | .data c=>c.tys
 | .new c=>c.tys
 | .own _ _ t=>[.ls t]
def cS.isGen:cS→Bool
 | .gen _=>true
 | .gen2 _ _=>true
 | _=>false
def cS.out:(o:cS)→HP o.tys→jY
 | .gen _,_=>.data (.c .unk)
 | .gen2 _ _,_=>.data (.c .unk)
 | .data c,x=>.data (filC c (gc c.tys x)).1
 | .new c,x=>.new (filC c (gc c.tys x)).1
 | .own fr e t,x=>.own fr e t x
def cS.rd:(o:cS)→ae→V→Option (HP o.tys)
 | .gen _,_,_=>none
 | .gen2 _ _,_,_=>none
 | .data c,H,v=>match colC c (v.view H) with | some us=>kQ c.tys us | none=>none
 | .new c,H,v=>bif newV H v then (match colC c (v.view H) with | some us=>kQ c.tys us | none=>none) else none
 | .own fr e t,H,v=>match v with
  | .c .nil=>some ([]:List t.T)
  | .row o k=>(match ae.get H o with
   | some (.row e' t' l)=>bif Nat.beq t'.k k&&Nat.beq e e'&&(!fr||t.sc) then lu t' t l else none
   | _=>none)
  | _=>none
theorem cS.rd_ok {o:cS} {H:ae} {v:V} {x:HP o.tys} (h:o.rd H v = some x):rK (o.out x) H v:=by
 have key:∀ (c:Cd) (x:HP c.tys),(match colC c (v.view H) with | some us=>kQ c.tys us | none=>none) = some x→VLe (v.view H) (filC c (gc c.tys x)).1:=by
  intro c x h
  split at h
  ·next us hu =>
   have hr:=th _ _ _ h
   exact (colC_le c _ us [] _ hu (by rw [List.append_nil];exact hr)).1
  ·cases h
 cases o with
 | gen T=>cases h
 | gen2 T T'=>cases h
 | data c=>exact key c x h
 | new c =>
  simp only [cS.rd] at h
  cases hn:newV H v with
  | false=>rw [hn] at h;cases h
  | true=>rw [hn] at h;exact ⟨key c x h,hn⟩
 | own fr e t =>
  simp only [cS.rd] at h
  split at h
  ·cases h;exact .inl ⟨rfl,rfl⟩
  ·next o k =>
   split at h
   ·next e' t' l hg =>
    cases hc:(Nat.beq t'.k k&&Nat.beq e e'&&(!fr||t.sc)) with
    | false=>rw [hc] at h;cases h
    | true =>
     rw [hc] at h
     have h:lu t' t l = some x:=h
     simp only [Bool.and_eq_true,Nat.beq_eq,Bool.or_eq_true,Bool.not_eq_true'] at hc
     obtain ⟨he,hx⟩:=jF h
     subst he
     obtain ⟨⟨rfl,rfl⟩,h3⟩:=hc
     refine .inr ⟨o,rfl, ?_,fun hf=>?_⟩
     ·rw [hg];have:x = l:=hx;rw [this]
     ·rcases h3 with h3 | h3
      ·rw [hf] at h3;cases h3
      ·exact h3
   ·cases h
  ·cases h
structure JR where
  T:Tm
  T':Tm
  f:HP T.tys→Option (HP T'.tys)
structure FI where
  fid:FuncId
  fn:Func
  c:Code
  ins:Tm
  out:cS
  cuts:List (Nat × Tm):=[]
  hd:List (Nat × JR):=[]
abbrev XT:=(fi:FI)→HP fi.ins.tys→Option (HP fi.out.tys)
abbrev JT:=(fi:FI)→(π:Nat)→(T:Tm)→HP T.tys→Option (HP fi.out.tys)
def zp (fi:FI) (vs:List V):Option (HP fi.ins.tys) :=
 bif !fi.out.isGen&&(Nat.beq vs.length fi.ins.sl.length&&fi.ins.ob.isEmpty) then rd fi.ins { tm:=kB vs 0,hp:=[],nx:=0 } else none
def gZ {R:Type} (X:XT) (vs:List V) (k:jY→Option R):List FI→Option R
 | []=>none
 | fi :: r=>match zp fi vs with
  | some a=>(X fi a).bind fun y=>k (fi.out.out y)
  | none=>gZ X vs k r
def cB {α:Type}:List (Nat × α)→Nat→Option α
 | [],_=>none
 | (g,x) :: r,f=>bif Nat.beq g f then some x else cB r f
def Bf (T:Tm) (xs:List TV):St:=let p:=nJ T.sl xs; { tm:=p.1,hp:=kD 0 T.ob p.2,nx:=T.ob.length }
def mY (H:ae):List Nat:=Dg [] (H.map (·.1))
def ve:List Nat→Nat
 | []=>0
 | o :: r=>Nat.max (o+1) (ve r)
def Pz (os:List Nat) (H:ae):Bool:=os.all fun o=>match ae.get H o with | some b=>JA os b | none=>true
def Qv (N:Nat) (H:ae) (args:List V):St:={ tm:=kB args 0++kB args 1000000,hp:=pu (mY H) H,nx:=ve (mY H) }
def rdG (fi:FI) (H:ae) (args:List V):Option (HP fi.ins.tys) :=
 bif Nat.ble args.length fi.fn.ntmps&&(V.refss args).all (fun o=>l5 o (mY H))&&Pz (mY H) H then zI fi.ins (Qv fi.fn.ntmps H args) else none
def gz (args:List V):List (Nat × Cd)→p5
 | []=>[]
 | (t, .k (.ptr q k i j)) :: r=>bif Nat.ble 1000000 t then (match args[t - 1000000]? with | some (.ptr o _ _ _)=>(q,o,true) :: gz args r | _=>gz args r) else gz args r
 | (t, .k (.row q k)) :: r=>bif Nat.ble 1000000 t then (match args[t - 1000000]? with | some (.row o _)=>(q,o,false) :: gz args r | _=>gz args r) else gz args r
 | (t, .k (.fn g [.ptr q k i j])) :: r=>bif Nat.ble 1000000 t&&Nat.beq g 2000000000 then (match args[t - 1000000]? with | some (.fn g' [.ptr o _ _ _])=>bif Nat.beq g' 2000000000 then (q,o,true) :: gz args r else gz args r | _=>gz args r) else gz args r
 | _ :: r=>gz args r
def qC:Option Od→Bool
 | some (.box _)=>true
 | some (.map ..)=>true
 | _=>false
def Fa:Option Ob→Bool
 | some (.row ..)=>false
 | none=>false
 | _=>true
def HJ (T:Tm) (H:ae) (bk:p5):Bool:=Nat.ble T.ob.length 8&&(gX (T.sl.map (·.1))&&(CR bk&&bk.all fun x=>l5 x.2.1 (mY H)&&(Nat.blt x.1 T.ob.length&&(!x.2.2||(qC T.ob[x.1]?&&Fa (ae.get H x.2.1))))))
def jM {R:Type} (T:Tm) (xs:List TV) (H:ae) (nid:Nat) (args:List V) (k:aH→Option R):Option R :=
 match aw (Bf T xs).tm RS with
 | some ⟨_, .tup [v]⟩=>bif HJ T H (gz args T.sl) then k (HE nid (mY H) (gz args T.sl) (Bf T xs).hp v) else none
 | _=>none
def j9 {R:Type} (o:cS) (y:HP o.tys) (H:ae) (nid:Nat) (args:List V) (k:aH→Option R):Option R :=
 match o,y with
 | .gen T,y=>jM T (gc T.tys y) H nid args k
 | .gen2 T T',y=>(match gc (.b :: (T.tys++T'.tys)) y with
  | ⟨.b,t⟩ :: xs=>bif t then jM T xs H nid args k else jM T' (xs.drop T.tys.length) H nid args k
  | _=>none)
 | _,_=>none
def jA {R:Type} (X:XT) (H:ae) (nid:Nat) (args:List V) (k:aH→Option R):List FI→Option R
 | []=>none
 | fi :: r=>match rdG fi H args with
  | some a=>(X fi a).bind fun y=>j9 fi.out y H nid args k
  | none=>jA X H nid args k r
def KP (T:Tm) (σ:St):Option (List V) :=
 let τ:=wZ T σ
 let ts:=T.sl.map (·.1)
 bif pt ts τ then
  let τ':=canonN ts τ
  bif Nat.ble τ'.nx T.ob.length then (match wD τ'.tm T.sl,yO τ'.hp 0 T.ob with
   | some a,some b=>(match kQ T.tys (a++b) with | some _=>some (a++b) | none=>none)
   | _,_=>none) else none
 else none
def Lo (ts:List Ty):List V:=ts.map fun t=>encV t t.z
def cS.rdG:(o:cS)→St→V→Option (HP o.tys)
 | .gen T,σ,v=>zI T { σ with tm:=(RS,⟨[], .tup [v]⟩) :: σ.tm }
 | .gen2 T T',σ,v=>match KP T { σ with tm:=(RS,⟨[], .tup [v]⟩) :: σ.tm } with
  | some us=>kQ (.b :: (T.tys++T'.tys)) (bl true :: (us++Lo T'.tys))
  | none=>(match KP T' { σ with tm:=(RS,⟨[], .tup [v]⟩) :: σ.tm } with
   | some us=>kQ (.b :: (T.tys++T'.tys)) (bl false :: (Lo T.tys++us))
   | none=>none)
 | _,_,_=>none
theorem Hh {H:ae}:∀ (cs:List Od) (i:Nat) (us us2:List V) (xs:List TV),yO H i cs = some us→RV (us++us2) xs→sB H (kD i cs xs)
 | [],i,us,us2,xs,h,hr=>by rw [kD];trivial
 | c :: cs,i,us,us2,xs,h,hr=>by
  rw [yO] at h
  split at h
  ·next b hg =>
   split at h
   ·next a b' ha hb =>
    cases h
    rw [List.append_assoc] at hr
    obtain ⟨h1,h2⟩:=Ll c b a (b'++us2) xs ha hr
    show sB H ((i,some _) :: _)
    rw [sB,hg]
    exact ⟨h1,Hh cs (i+1) b' us2 _ hb h2⟩
   ·cases h
  ·cases h
theorem K5 {T:Tm} {σ:St} {us us2:List V} {xs:List TV} (h:KP T σ = some us) (hr:RV (us++us2) xs):dj σ (Bf T xs):=by
 unfold KP at h
 simp only at h
 cases hc:pt (T.sl.map (·.1)) (wZ T σ) with
 | false=>rw [hc] at h;cases h
 | true =>
  rw [hc,cond_true] at h
  cases hb:Nat.ble (canonN (T.sl.map (·.1)) (wZ T σ)).nx T.ob.length with
  | false=>rw [hb] at h;cases h
  | true =>
   rw [hb,cond_true] at h
   split at h
   ·next a b ha hb' =>
    split at h
    ·cases h
     rw [List.append_assoc] at hr
     obtain ⟨h1,h2⟩:=E3 T.sl a (b++us2) xs ha hr
     exact ((Fx T σ).trans (dj.canonN _ hc)).trans (.le ⟨h1,Hh T.ob 0 b us2 _ hb' h2,Nat.ble_eq.mp hb⟩)
    ·cases h
   ·cases h
theorem Lk:∀ {us us2:List V} {xs:List TV},RV (us++us2) xs→RV us2 (xs.drop us.length)
 | [],us2,xs,h=>h
 | u :: us,us2,x :: xs,h=>Lk (us:=us) h.2
 | u :: us,us2,[],h=>h.elim
theorem QN {b:Bool} {x:TV} (h:VLe (bl b) x.v):x = ⟨.b,b⟩:=by
 obtain ⟨t,x⟩:=x
 match t,x,h with
 | .b,x,h1 =>
  change VLe (.c (.lit (.bool b))) (.c (.lit (.bool x))) at h1
  rw [VLe] at h1
  cases h1
  rfl
 | .st k,x,h1=>change VLe (.c (.lit (.bool b))) (.agg _) at h1;simp [VLe] at h1
 | .arr n t,x,h1=>change VLe (.c (.lit (.bool b))) (.agg _) at h1;simp [VLe] at h1
 | .i k,x,h1=>change VLe (.c (.lit (.bool b))) (.c (.lit (.int k x))) at h1;rw [VLe] at h1;cases h1
 | .ls t,x,h1=>change VLe (.c (.lit (.bool b))) (.c (.sl t x)) at h1;rw [VLe] at h1;cases h1
 | .s,x,h1=>change VLe (.c (.lit (.bool b))) (.c (.lit (.string x))) at h1;rw [VLe] at h1;cases h1
theorem Pu {R:Type} (T:Tm) (y:HP T.tys) (H:ae) (nid:Nat) (args:List V) (k:aH→Option R):j9 (.gen T) y H nid args k = jM T (gc T.tys y) H nid args k:=rfl
theorem PX (T:Tm) (σ:St) (v:V):cS.rdG (.gen T) σ v = zI T { σ with tm:=(RS,⟨[], .tup [v]⟩) :: σ.tm }:=rfl
theorem Ol {T:Tm} {σ:St} {x:HP T.tys} (h:zI T σ = some x):dj σ (Bf T (gc T.tys x)):=sj h
theorem Jj {R:Type} (T T':Tm) (y:HP (.b :: (T.tys++T'.tys))) {t:Bool} {xs:List TV} (hx:gc (.b :: (T.tys++T'.tys)) y = (⟨.b,t⟩:TV) :: xs) (H:ae) (nid:Nat) (args:List V) (k:aH→Option R) :
  j9 (.gen2 T T') y H nid args k = bif t then jM T xs H nid args k else jM T' (xs.drop T.tys.length) H nid args k:=by
 show (match gc (.b :: (T.tys++T'.tys)) y with | ⟨.b,t⟩ :: xs=>bif t then jM T xs H nid args k else jM T' (xs.drop T.tys.length) H nid args k | _=>none) = _
 rw [hx]
theorem Pr (T T':Tm) (σ:St) (v:V):cS.rdG (.gen2 T T') σ v = match KP T { σ with tm:=(RS,⟨[], .tup [v]⟩) :: σ.tm } with
  | some us=>kQ (.b :: (T.tys++T'.tys)) (bl true :: (us++Lo T'.tys))
  | none=>(match KP T' { σ with tm:=(RS,⟨[], .tup [v]⟩) :: σ.tm } with
   | some us=>kQ (.b :: (T.tys++T'.tys)) (bl false :: (Lo T.tys++us))
   | none=>none):=rfl
theorem PS {T T':Tm} {σ:St} {v:V} {y:HP (cS.gen2 T T').tys} (h:(cS.gen2 T T').rdG σ v = some y):∃ (T0:Tm) (xs:List TV),dj { σ with tm:=(RS,⟨[], .tup [v]⟩) :: σ.tm } (Bf T0 xs) ∧
  ∀ {R:Type} (H:ae) (nid:Nat) (args:List V) (k:aH→Option R),j9 (.gen2 T T') y H nid args k = jM T0 xs H nid args k:=by
 rw [Pr] at h
 have key:∀ (b:Bool) (us:List V),kQ (.b :: (T.tys++T'.tys)) (bl b :: us) = some y→∃ xs,gc (.b :: (T.tys++T'.tys)) y = (⟨.b,b⟩:TV) :: xs∧RV us xs:=by
  intro b us hh
  have hr:=th _ _ _ hh
  revert hr
  generalize gc (.b :: (T.tys++T'.tys)) y = l
  intro hr
  match l,hr with
  | [],hr=>exact hr.elim
  | x :: xs,hr=>exact ⟨xs,by rw [QN hr.1],hr.2⟩
 split at h
 ·next us hu =>
  obtain ⟨xs,hx,hr⟩:=key _ _ h
  exact ⟨T,xs,K5 hu hr,fun H nid args k=>by rw [Jj T T' y hx,cond_true]⟩
 ·split at h
  ·next us hu =>
   obtain ⟨xs,hx,hr⟩:=key _ _ h
   have h2:=Lk hr
   have e:(Lo T.tys).length = T.tys.length:=by simp [Lo]
   rw [e] at h2
   exact ⟨T',xs.drop T.tys.length,K5 (us2:=[]) hu (by rw [List.append_nil];exact h2),fun H nid args k=>by rw [Jj T T' y hx,cond_false]⟩
  ·cases h
theorem QB {o:cS} {σ:St} {v:V} {y:HP o.tys} (h:o.rdG σ v = some y):∃ (T:Tm) (xs:List TV),dj { σ with tm:=(RS,⟨[], .tup [v]⟩) :: σ.tm } (Bf T xs) ∧
  ∀ {R:Type} (H:ae) (nid:Nat) (args:List V) (k:aH→Option R),j9 o y H nid args k = jM T xs H nid args k:=by
 cases o with
 | gen T =>
  rw [PX] at h
  exact ⟨T,gc T.tys y,Ol h,fun H nid args k=>Pu T y H nid args k⟩
 | gen2 T T'=>exact @PS T T' σ v y h
 | data c =>
  have h:(none:Option (HP (cS.data c).tys)) = some y:=h
  cases h
 | new c =>
  have h:(none:Option (HP (cS.new c).tys)) = some y:=h
  cases h
 | own fr e t =>
  have h:(none:Option (HP (cS.own fr e t).tys)) = some y:=h
  cases h
inductive Sp where
  | none
  | hand (fi:FI) (h:XT→HP fi.ins.tys→Option (HP fi.out.tys))
  | mut (m:XT→ae→Nat→List V→Option aH)
structure jT where
  P:Program
  fs:List (FuncId × List FI)
  sp:FuncId→Sp
def Fd:List FI→Bool
 | fi :: _=>fi.out.isGen
 | []=>false
def mJ {R:Type} (fi:FI) (h:HP fi.ins.tys→Option (HP fi.out.tys)) (H:ae) (nid:Nat) (args:List V) (k:aH→Option R):Option R:=match rdG fi H args with
 | some a=>(h a).bind fun y=>j9 fi.out y H nid args k
 | none=>none
def mA {R:Type} (fi:FI) (h:HP fi.ins.tys→Option (HP fi.out.tys)) (vs:List V) (k:jY→Option R):Option R:=match zp fi vs with
 | some a=>(h a).bind fun y=>k (fi.out.out y)
 | none=>none
def eT (Tb:jT) (X:XT) (f:FuncId):CC:=match cB Tb.fs f with
 | some l=>bif Fd l then .mut fun H nid args=>jA X H nid args some l else .pure fun vs=>(gZ X vs some l).map fun o=>(true,o)
 | none=>match Tb.sp f with
  | .hand fi h=>bif fi.out.isGen then .mut fun H nid args=>mJ fi (h X) H nid args some else .pure fun vs=>(mA fi (h X) vs some).map fun o=>(true,o)
  | .mut m=>.mut (m X)
  | .none=>.pure fun _=>none
theorem CS {R:Type} (X:XT) (vs:List V) (k:jY→Option R):∀ l:List FI,gZ X vs k l = (gZ X vs some l).bind k
 | []=>rfl
 | fi :: r=>by
  unfold gZ
  split
  ·next a ha=>cases X fi a <;> rfl
  ·exact CS X vs k r
theorem F9 {R:Type} (T:Tm) (xs:List TV) (H:ae) (nid:Nat) (args:List V) (k:aH→Option R):jM T xs H nid args k = (jM T xs H nid args some).bind k:=by
 unfold jM
 split
 ·cases HJ T H (gz args T.sl) <;> rfl
 ·rfl
theorem Gb {R:Type} (o:cS) (y:HP o.tys) (H:ae) (nid:Nat) (args:List V) (k:aH→Option R):j9 o y H nid args k = (j9 o y H nid args some).bind k:=by
 unfold j9
 split
 ·exact F9 ..
 ·split
  ·next t xs _=>cases t <;> exact F9 ..
  ·rfl
 ·rfl
theorem Ck {R:Type} (X:XT) (H:ae) (nid:Nat) (args:List V) (k:aH→Option R):∀ l:List FI,jA X H nid args k l = (jA X H nid args some l).bind k
 | []=>rfl
 | fi :: r=>by
  unfold jA
  split
  ·next a ha =>
   cases X fi a with
   | none=>rfl
   | some y=>rw [Option.bind_some,Option.bind_some];exact Gb ..
  ·exact Ck X H nid args k r
def gb {α:Type} (b:Bool) (o:Option α):Option α:=bif b then o else none
def gL {α:Type}:List Bool→Option α→Option α
 | [],o=>o
 | b :: r,o=>gb b (gL r o)
theorem rY {α:Type} {o:Option α} {y:α}:∀ {l:List Bool},gL l o = some y→(∀ b∈l,b = true)∧o = some y
 | [],h=>⟨fun b hb=>by simp at hb,h⟩
 | b :: l,h=>by
  unfold gL gb at h
  cases b with
  | false=>cases h
  | true =>
   obtain ⟨h1,h2⟩:=rY (l:=l) h
   exact ⟨fun c hc=>by rcases List.mem_cons.1 hc with rfl | hc;rfl;exact h1 c hc,h2⟩
def eM.bools:{ps:List Prop}→eM ps→List Bool
 | _, .nil=>[]
 | _, .cons (p:=p) d r=>@aa p d :: r.bools
def Hs (tm:List (Nat × aF)) (ch:aN) (bs:List Bool):List Bool:=match ch with
 | []=>bs
 | ch=>bs.map fun b=>!(holds tm ch)||b
theorem tZ:∀ {ps:List Prop} (d:eM ps),(∀ b∈d.bools,b = true)→∀ p∈ps,p
 | _, .nil,_,p,hp=>by simp at hp
 | _, .cons d r,h,p,hp=>by
  rcases List.mem_cons.1 hp with rfl | hp
  ·exact of_decide_eq_true (h _ (by simp [eM.bools]))
  ·exact tZ r (fun b hb=>h b (by simp [eM.bools,hb])) p hp
theorem FB {c:Prop} {b:Bool} (hb:b = true↔c):∀ {ps:List Prop} (d:eM ps),(∀ x∈d.bools.map (fun y=>!b||y),x = true)→∀ p∈ps,c→p
 | _, .nil,_,p,hp=>by simp at hp
 | _, .cons d r,h,p,hp=>by
  intro hc
  rcases List.mem_cons.1 hp with rfl | hp
  ·have:=h (!b||@decide _ d) (by simp [eM.bools])
   rw [hb.2 hc] at this
   exact of_decide_eq_true (by simpa using this)
  ·exact FB hb r (fun x hx=>h x (by simp only [eM.bools,List.map_cons,List.mem_cons];exact .inr hx)) p hp hc
theorem M1 {tm:List (Nat × aF)} {ch:aN} {ps:List Prop} (d:eM ps) (h:∀ b∈Hs tm ch d.bools,b = true):∀ p∈mO tm ch ps,p:=by
 unfold Hs mO at *
 cases ch with
 | nil=>exact tZ d h
 | cons x l =>
  intro p hp
  simp only [List.mem_map] at hp
  obtain ⟨q,hq,rfl⟩:=hp
  exact FB Iff.rfl d h q hq
def sU (nid:Nat) (args:List V):jY→Option aH
 | .data v=>bif (!fO args)||v.scalar then some { pre:=[true = true],val:=v } else none
 | .new v=>some { pre:=[true = true],val:=v }
 | .own fr e t l=>bif (!fO args)||fr then some { pre:=[true = true],val:=.row nid t.k,eff:=[(nid,some (.row e t l))] } else none
def rC (H:ae) (nid:Nat) (args:List V) (out:jY):Option aH:=match sU nid args out with
 | some r=>some r
 | none=>bif V.noPs args then jW (fun _ vs=>sU nid vs out) (V.refss args) H args else none
theorem MR {o:Nat} {e:TypeId} {t:Ty} (H:ae) {q:Nat} (h:q≠o):ae.get ((o,some (.row e t [])) :: d7 [o] H) q = mn o (ae.get H q):=by
 rw [ae.get_cons,if_neg (Ne.symm h),eG]
mutual
theorem view_fz {o:Nat} {e:TypeId} {t:Ty} {l:List t.T} {H:ae} (hg:H.get o = some (.row e t l)):∀ v:V,v.noP = true→(V.fz o t l v).view ((o,some (.row e t [])) :: d7 [o] H) = v.view H
 | .c d,_=>rfl
 | .agg vs,hn=>by rw [V.fz,V.view,V.view,views_fz hg vs (by simpa [V.noP] using hn)]
 | .tup vs,hn=>by rw [V.fz,V.view,V.view,views_fz hg vs (by simpa [V.noP] using hn)]
 | .ptr ..,hn=>by simp [V.noP] at hn
 | .row o' k,_=>by
  rw [V.fz]
  cases hb:Nat.beq o' o with
  | true =>
   have:=Nat.eq_of_beq_eq_true hb
   subst this
   rw [cond_true,V.view,ss,hg]
   simp only
   cases Nat.beq t.k k <;> rfl
  | false =>
   have hne:o'≠o:=fun h=>by subst h;simp at hb
   rw [cond_false,V.view,V.view,ss,ss,MR H hne]
   cases ae.get H o' with
   | none=>rfl
   | some b=>cases b <;> rfl
 | .sub o' k off n,_=>by
  rw [V.fz]
  cases hb:Nat.beq o' o with
  | true =>
   have:=Nat.eq_of_beq_eq_true hb
   subst this
   rw [cond_true,V.view,tf,hg]
   simp only
   cases Nat.beq t.k k <;> rfl
  | false =>
   have hne:o'≠o:=fun h=>by subst h;simp at hb
   rw [cond_false,V.view,V.view,tf,tf,MR H hne]
   cases ae.get H o' with
   | none=>rfl
   | some b=>cases b <;> rfl
 | .dptr ..,_=>rfl
 | .fn f vs,hn=>by rw [V.fz,V.view,V.view,views_fz hg vs (by simpa [V.noP] using hn)]
theorem views_fz {o:Nat} {e:TypeId} {t:Ty} {l:List t.T} {H:ae} (hg:H.get o = some (.row e t l)):∀ vs:List V,V.noPs vs = true→V.views ((o,some (.row e t [])) :: d7 [o] H) (V.fzs o t l vs) = V.views H vs
 | [],_=>rfl
 | v :: r,hn=>by
  rw [V.noPs,Bool.and_eq_true] at hn
  rw [V.fzs,V.views,V.views,view_fz hg v hn.1,views_fz hg r hn.2]
end
mutual
theorem noP_fz (o:Nat) (t:Ty) (l:List t.T):∀ v:V,v.noP = true→(V.fz o t l v).noP = true
 | .c d,_=>rfl
 | .agg vs,hn=>by rw [V.fz,V.noP];exact noPs_fz o t l vs (by simpa [V.noP] using hn)
 | .tup vs,hn=>by rw [V.fz,V.noP];exact noPs_fz o t l vs (by simpa [V.noP] using hn)
 | .ptr ..,hn=>by simp [V.noP] at hn
 | .row o' k,_=>by
  rw [V.fz]
  cases Nat.beq o' o with
  | false=>rfl
  | true=>rw [cond_true];cases Nat.beq t.k k <;> rfl
 | .sub o' k off n,_=>by
  rw [V.fz]
  cases Nat.beq o' o with
  | false=>rfl
  | true=>rw [cond_true];cases Nat.beq t.k k <;> rfl
 | .dptr ..,_=>rfl
 | .fn f vs,hn=>by rw [V.fz,V.noP];exact noPs_fz o t l vs (by simpa [V.noP] using hn)
theorem noPs_fz (o:Nat) (t:Ty) (l:List t.T):∀ vs:List V,V.noPs vs = true→V.noPs (V.fzs o t l vs) = true
 | [],_=>rfl
 | v :: r,hn=>by
  rw [V.noPs,Bool.and_eq_true] at hn
  rw [V.fzs,V.noPs,noP_fz o t l v hn.1,noPs_fz o t l r hn.2];rfl
end
theorem AI {C:FuncId→Option CC} {H:ae} {nid:Nat} {f:FuncId} {args:List V} {con:KY} {out:jY} (hc:C f = some (.pure con)) (ho:con (V.views H args) = some (true,out)):ja C H nid f args = sU nid args out:=by
 unfold ja
 rw [hc]
 simp only [ho]
 cases out <;> rfl
theorem H8 {C:FuncId→Option CC} {nid:Nat} {f:FuncId} {con:KY} {out:jY} (hc:C f = some (.pure con)):∀ (fl:List Nat) (H:ae) (args:List V),V.noPs args = true→con (V.views H args) = some (true,out) →
  jW (rr C f nid) fl H args = jW (fun _ vs=>sU nid vs out) fl H args
 | [],H,args,hn,ho=>by
  rw [jW,jW]
  unfold rr
  rw [hn,cond_true,hc]
  simp only
  exact AI hc ho
 | q :: fl,H,args,hn,ho=>by
  rw [jW,jW]
  split
  ·next e t l hg =>
   rw [H8 hc fl _ _ (noPs_fz q t l args hn) (by rw [views_fz hg args hn];exact ho)]
  ·rfl
theorem JC {C:FuncId→Option CC} {H:ae} {nid:Nat} {f:FuncId} {args:List V} {con:KY} {out:jY} {r:aH} (hc:C f = some (.pure con)) (ho:con (V.views H args) = some (true,out)) (h:rC H nid args out = some r):pU C H nid f args = some r:=by
 unfold pU
 rw [AI hc ho]
 unfold rC at h
 split at h
 ·next r' hr=>rw [hr];exact h
 ·next hr =>
  rw [hr]
  cases hn:V.noPs args with
  | false=>rw [hn] at h;cases h
  | true =>
   rw [hn,cond_true] at h
   simp only
   rw [H8 hc _ _ _ hn ho]
   exact h
theorem K0 {f:ae→List V→Option aH} {P0:List Prop→Prop} (hf:∀ H vs r,f H vs = some r→P0 r.pre):∀ (fl:List Nat) (H:ae) (vs:List V) (r:aH),jW f fl H vs = some r→P0 r.pre
 | [],H,vs,r,h=>hf H vs r h
 | q :: fl,H,vs,r,h=>by
  rw [jW] at h
  split at h
  ·next e t l hg =>
   cases hb:jW f fl ((q,some (.row e t [])) :: d7 [q] H) (V.fzs q t l vs) with
   | none=>rw [hb] at h;cases h
   | some r0=>rw [hb] at h;cases h;exact K0 hf fl _ _ r0 hb
  ·cases h
theorem CI {nid:Nat} {args:List V} {out:jY} {r:aH} (hr:sU nid args out = some r):r.pre = [true = true]:=by
 cases out with
 | data v =>
  simp only [sU] at hr
  cases hq:((!fO args)||v.scalar) <;> rw [hq] at hr <;> cases hr
  rfl
 | new v=>cases hr;rfl
 | own fr e t l =>
  simp only [sU] at hr
  cases hq:((!fO args)||fr) <;> rw [hq] at hr <;> cases hr
  rfl
theorem Gg {H:ae} {nid:Nat} {args:List V} {out:jY} {r:aH} (h:rC H nid args out = some r):r.pre = [true = true]:=by
 unfold rC at h
 split at h
 ·next r' hr=>cases h;exact CI hr
 ·cases hn:V.noPs args with
  | false=>rw [hn] at h;cases h
  | true=>rw [hn,cond_true] at h;exact K0 (P0:=fun ps=>ps = [true = true]) (fun _ _ _ h=>CI h) _ _ _ _ h
def Lx {R:Type} (X:XT) (l:List FI) (H:ae) (nid:Nat) (args:List V) (k:aH→Option R):Option R :=
 bif Fd l then jA X (bB (aR H args) H) nid args k l
 else gZ X (V.views H args) (fun out=>match rC H nid args out with | some r=>k r | none=>none) l
def Ai {R:Type} (Tb:jT) (X:XT) (f:FuncId) (H:ae) (nid:Nat) (args:List V) (k:aH→Option R):Option R :=
 match cB Tb.fs f with
 | some l=>Lx X l H nid args k
 | none=>match Tb.sp f with
  | .hand fi h=>bif fi.out.isGen then mJ fi (h X) (bB (aR H args) H) nid args k else mA fi (h X) (V.views H args) fun out=>match rC H nid args out with | some r=>k r | none=>none
  | .mut m=>(m X (bB (aR H args) H) nid args).bind fun r=>gL r.dec.bools (k r)
  | .none=>none
theorem zl {C:FuncId→Option CC} {H:ae} {nid:Nat} {f:FuncId} {args:List V} {m:ae→Nat→List V→Option aH} {r:aH} (hc:C f = some (.mut m)) (hm:m (bB (aR H args) H) nid args = some r):pU C H nid f args = some r:=by
 have h0:ja C H nid f args = some r:=by
  unfold ja
  rw [hc]
  exact hm
 unfold pU
 rw [h0]
theorem wF {T:Tm} {xs:List TV} {H:ae} {nid:Nat} {args:List V} {r:aH} (h:jM T xs H nid args some = some r):r.pre = [true = true]:=by
 unfold jM at h
 split at h
 ·cases hb:HJ T H (gz args T.sl) with
  | false=>rw [hb] at h;cases h
  | true=>rw [hb] at h;cases h;rfl
 ·cases h
theorem Gl {X:XT} {H:ae} {nid:Nat} {args:List V} {r:aH}:∀ {l:List FI},jA X H nid args some l = some r→r.pre = [true = true]
 | [],h=>by cases h
 | fi :: l,h=>by
  unfold jA at h
  split at h
  ·rw [Option.bind_eq_some_iff] at h
   obtain ⟨y,_,h⟩:=h
   unfold j9 at h
   split at h
   ·exact wF h
   ·split at h
    ·next t xs _=>cases t <;> exact wF h
    ·cases h
   ·cases h
  ·exact Gl h
theorem MH {R:Type} (fi:FI) (h:HP fi.ins.tys→Option (HP fi.out.tys)) (H:ae) (nid:Nat) (args:List V) (k:aH→Option R):mJ fi h H nid args k = (mJ fi h H nid args some).bind k:=by
 unfold mJ
 split
 ·next a _ =>
  cases h a with
  | none=>rfl
  | some y=>rw [Option.bind_some,Option.bind_some];exact Gb ..
 ·rfl
theorem Lv {R:Type} (fi:FI) (h:HP fi.ins.tys→Option (HP fi.out.tys)) (vs:List V) (k:jY→Option R):mA fi h vs k = (mA fi h vs some).bind k:=by
 unfold mA
 split
 ·next a _=>cases h a <;> rfl
 ·rfl
theorem Pg {o:cS} {y:HP o.tys} {H:ae} {nid:Nat} {args:List V} {r:aH} (h:j9 o y H nid args some = some r):r.pre = [true = true]:=by
 unfold j9 at h
 split at h
 ·exact wF h
 ·split at h
  ·next t xs _=>cases t <;> exact wF h
  ·cases h
 ·cases h
theorem NY {fi:FI} {h:HP fi.ins.tys→Option (HP fi.out.tys)} {H:ae} {nid:Nat} {args:List V} {r:aH} (hh:mJ fi h H nid args some = some r):r.pre = [true = true]:=by
 unfold mJ at hh
 split at hh
 ·rw [Option.bind_eq_some_iff] at hh
  obtain ⟨y,_,hh⟩:=hh
  exact Pg hh
 ·cases hh
theorem Mx {R:Type} {Tb:jT} {X:XT} {f:FuncId} {H:ae} {nid:Nat} {args:List V} {k:aH→Option R} {y:R} (h:Ai Tb X f H nid args k = some y) :
  ∃ r,k r = some y∧(∀ p∈r.pre,p)∧∀ C:FuncId→Option CC,C f = some (eT Tb X f)→pU C H nid f args = some r:=by
 have one:∀ {ps:List Prop},ps = [true = true]→∀ p∈ps,p:=fun e p hp=>by subst e;rw [List.mem_singleton] at hp;subst hp;rfl
 unfold Ai at h
 split at h
 ·next l hl =>
  unfold Lx at h
  cases hg:Fd l with
  | true =>
   rw [hg,cond_true,Ck,Option.bind_eq_some_iff] at h
   obtain ⟨r,h1,h2⟩:=h
   refine ⟨r,h2,one (Gl h1),fun C hC=>zl (m:=fun H nid args=>jA X H nid args some l) (by rw [hC];unfold eT;rw [hl];simp only [hg,cond_true]) h1⟩
  | false =>
   rw [hg,cond_false,CS,Option.bind_eq_some_iff] at h
   obtain ⟨out,h1,h2⟩:=h
   split at h2
   ·next r hr=>exact ⟨r,h2,one (Gg hr),fun C hC=>JC (con:=fun vs=>(gZ X vs some l).map fun o=>(true,o)) (by rw [hC];unfold eT;rw [hl];simp only [hg,cond_false]) (by simp only [h1,Option.map_some]) hr⟩
   ·cases h2
 ·next hl =>
  split at h
  ·next fi hd hc =>
   cases hg:fi.out.isGen with
   | true =>
    rw [hg,cond_true,MH,Option.bind_eq_some_iff] at h
    obtain ⟨r,h1,h2⟩:=h
    exact ⟨r,h2,one (NY h1),fun C hC=>zl (m:=fun H nid args=>mJ fi (hd X) H nid args some) (by rw [hC];unfold eT;rw [hl];simp only [hc,hg,cond_true]) h1⟩
   | false =>
    rw [hg,cond_false,Lv,Option.bind_eq_some_iff] at h
    obtain ⟨out,h1,h2⟩:=h
    split at h2
    ·next r hr=>exact ⟨r,h2,one (Gg hr),fun C hC=>JC (con:=fun vs=>(mA fi (hd X) vs some).map fun o=>(true,o)) (by rw [hC];unfold eT;rw [hl];simp only [hc,hg,cond_false]) (by simp only [h1,Option.map_some]) hr⟩
    ·cases h2
  ·next m hm =>
   rw [Option.bind_eq_some_iff] at h
   obtain ⟨r,h1,h2⟩:=h
   obtain ⟨h3,h4⟩:=rY h2
   exact ⟨r,h4,tZ _ h3,fun C hC=>zl (m:=m X) (by rw [hC];unfold eT;rw [hl];simp only [hm]) h1⟩
  ·cases h
def I5 (o:Oper) (vs:List V):Option (FuncId × List V):=match o.op,vs with
 | .call { callee:=.value _, .. }, .fn f caps :: vs=>bif Nat.blt f 1000000000 then some (f,vs++caps) else none
 | _,_=>none
def pi (o:Oper):Bool:=match o.op with
 | .call { callee:=.value _, .. }=>true
 | _=>false
def Ry (o:Oper) (σ:St) (ch:aN) (nid:Nat) (vs:List V) (r:aH):bA:={ dst:=o.dst,rds:=kN (du o.op)++ch.map (·.1),ch,nid,vs,reach:=aR σ.hp (lk o vs),rws:=ny σ.hp (lk o vs),res:=r }
def Hn:List (Nat × aF)→Nat→aF→List (Nat × aF)
 | [],_,_=>[]
 | (t',s') :: r,t,s=>bif Nat.beq t' t then (t',s) :: r else (t',s') :: Hn r t s
theorem zu:∀ {tm:List (Nat × aF)} {t:Nat} {s:aF},aw tm t = some s→Hn tm t s = tm
 | [],t,s,h=>rfl
 | (t',s') :: r,t,s,h=>by
  unfold Hn
  unfold aw at h
  cases hb:Nat.beq t' t with
  | true=>rw [hb] at h;cases h;rfl
  | false=>rw [hb,cond_false] at h;rw [cond_false,zu h]
def m7 {R:Type}:aN→St→(St→Option R)→Option R
 | [],σ,k=>k σ
 | (t,_) :: r,σ,k=>match aw σ.tm t with
  | some ⟨c0, .c (.lit (.bool b))⟩=>bif b then m7 r { σ with tm:=Hn σ.tm t ⟨c0,bl true⟩ } k else m7 r { σ with tm:=Hn σ.tm t ⟨c0,bl false⟩ } k
  | _=>none
theorem sV {R:Type} {y:R}:∀ {ch:aN} {σ:St} {k:St→Option R},m7 ch σ k = some y→k σ = some y
 | [],σ,k,h=>h
 | (t,w) :: r,σ,k,h=>by
  unfold m7 at h
  split at h
  ·next c0 b hg =>
   cases b with
   | true =>
    rw [cond_true,zu hg] at h
    exact sV h
   | false =>
    rw [cond_false,zu hg] at h
    exact sV h
  ·cases h
section
variable {R:Type} (Tb:jT) (X:XT) (N:Nat) (all:List Oper)
def FZ (σ:St) (nid:Nat) (o:Oper) (k:St→bA→Option R):Option R :=
 bif pi o then
  (bif io N o.dst then
   match cC all σ.tm o.guard with
   | some ch =>
    bif ch.all fun x=>dv σ.tm ch x.1 then
     m7 ch σ fun σ =>
      bif holds σ.tm ch then (match ld σ ch (du o.op) with
       | some vs=>(match I5 o vs with
        | some (f,args)=>Ai Tb X f σ.hp nid args fun r=>bif ch.isEmpty||gU o.dst ch then k σ (Ry o σ ch nid vs r) else none
        | none=>none)
       | none=>none)
      else bif gU o.dst ch then k σ (PH Tb.P o ch nid) else none
    else none
   | none=>none
  else none)
 else match oc Tb.P (fun _=>none) N all σ nid o with
  | some rc=>gL (Hs σ.tm rc.ch rc.res.dec.bools) (k σ rc)
  | none=>none
end
theorem On {P:Program} {C:FuncId→Option CC} {H:ae} {nid:Nat} {o:Oper} {vs:List V} {f:FuncId} {args:List V} (h:I5 o vs = some (f,args)):qP P C H nid o vs = pU C H nid f args:=by
 unfold I5 at h
 split at h
 ·next g caps vs' ho =>
  cases hb:Nat.blt g 1000000000 with
  | false=>rw [hb] at h;cases h
  | true =>
   rw [hb] at h;cases h
   unfold qP
   rw [ho]
   simp only [hb,cond_true]
 ·cases h
theorem JX {P:Program} {C:FuncId→Option CC} {σ:St} {nid:Nat} {ch:aN} {o:Oper} (ho:pi o = true) {vs:List V} (hv:ld σ ch (du o.op) = some vs) {r:aH} (hr:qP P C σ.hp nid o vs = some r):kW P C σ nid ch o = some (vs,r):=by
 unfold pi at ho
 split at ho
 ·next f args ats hop =>
  unfold kW
  rw [hop] at hv ⊢
  simp only [hv]
  unfold zd
  rw [hr]
  rfl
 ·cases ho
section
variable {R:Type} {Tb:jT} {X:XT} {N:Nat} {all:List Oper}
theorem Qt {P:Program} {C:FuncId→Option CC} {H:ae} {nid:Nat} {o:Oper} {vs:List V} (ho:pi o = false):qP P (fun _=>none) H nid o vs = qP P C H nid o vs:=by
 unfold qP
 split <;> try rfl
 next hop=>unfold pi at ho;rw [hop] at ho;cases ho
theorem Np {P:Program} {C:FuncId→Option CC} {σ:St} {nid:Nat} {o:Oper} (ho:pi o = false):oc P (fun _=>none) N all σ nid o = oc P C N all σ nid o:=by
 have e:∀ ch,kW P (fun _=>none) σ nid ch o = kW P C σ nid ch o:=by
  intro ch
  unfold kW zd
  simp only [Qt (C:=C) ho]
 unfold oc tc
 simp only [e]
theorem BN {σ:St} {nid:Nat} {o:Oper} {k:St→bA→Option R} {y:R} (h:FZ Tb X N all σ nid o k = some y) :
  ∃ rc,k σ rc = some y∧∀ C:FuncId→Option CC,(∀ f,C f = some (eT Tb X f))→eX Tb.P C N all σ nid o rc∧∀ p∈mO σ.tm rc.ch rc.res.pre,p:=by
 unfold FZ at h
 cases hc:pi o with
 | false =>
  rw [hc,cond_false] at h
  split at h
  ·next rc hrc =>
   obtain ⟨h1,h2⟩:=rY h
   refine ⟨rc,h2,fun C _=>⟨.of ?_,M1 _ h1⟩⟩
   rw [← Np hc];exact hrc
  ·cases h
 | true =>
  rw [hc,cond_true] at h
  cases hd:io N o.dst with
  | false=>rw [hd] at h;cases h
  | true =>
   rw [hd,cond_true] at h
   split at h
   ·next ch hch =>
    cases hg:(ch.all fun x=>dv σ.tm ch x.1) with
    | false=>rw [hg] at h;cases h
    | true =>
     rw [hg,cond_true] at h
     have h:=sV h
     cases hh:holds σ.tm ch with
     | true =>
      rw [hh,cond_true] at h
      split at h
      ·next vs hvs =>
       split at h
       ·next f args hca =>
        obtain ⟨r,h,hpre,hcv⟩:=Mx h
        cases hx:(ch.isEmpty||gU o.dst ch) with
        | false=>rw [hx] at h;cases h
        | true =>
         rw [hx,cond_true] at h
         refine ⟨_,h,fun C hC=>⟨.inl ⟨?_, .inl hh⟩,fun p hp=>?_⟩⟩
         ·unfold tc
          rw [hd,cond_true,hch]
          simp only [hg,cond_true]
          rw [JX hc hvs ((On hca).trans (hcv C (hC f)))]
          simp only [hx,cond_true]
          rfl
         ·have hp':p∈mO σ.tm ch r.pre:=hp
          unfold mO at hp'
          split at hp'
          ·exact hpre p hp'
          ·obtain ⟨q,hq,rfl⟩:=List.mem_map.1 hp'
           exact fun _=>hpre q hq
       ·cases h
      ·cases h
     | false =>
      rw [hh,cond_false] at h
      cases hn:gU o.dst ch with
      | false=>rw [hn] at h;cases h
      | true =>
       rw [hn,cond_true] at h
       refine ⟨_,h,fun C _=>⟨.inr ⟨rfl,hd,hch,hg,hn,hh⟩,fun p hp=>?_⟩⟩
       have hp':p∈mO σ.tm ch []:=hp
       unfold mO at hp'
       split at hp' <;> simp at hp'
   ·cases h
end
end Go.Ax
