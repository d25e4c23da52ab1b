import Derived.Test.YtnnblpijaoocaaaGreatZB6g
set_option linter.all false
/- An evaluation of code that can be run: functions as plain functions with an option. -/
namespace Go.Ax
open Go.RowKit
def RS:Nat:=2000000
inductive dg where
  | data (c:Cd)
  | new (c:Cd)
  | own (fr:Bool) (e:TypeId) (t:Ty)
  | gen (T:Tm)
  | gen2 (T T':Tm)
def dg.tys:dg→List Ty
  | .gen T=>T.tys
  | .gen2 T T'=>.b :: (T.tys++T'.tys)
  | .data c=>c.tys
  | .new c=>c.tys
  | .own _ _ t=>[.ls t]
def dg.isGen:dg→Bool
  | .gen _=>true
  | .gen2 _ _=>true
  | _=>false
def dg.out:(o:dg)→HP o.tys→jU
  | .gen _,_=>.data (.c .unk)
  | .gen2 _ _,_=>.data (.c .unk)
  | .data c,x=>.data (filC c (gV c.tys x)).1
  | .new c,x=>.new (filC c (gV c.tys x)).1
  | .own fr e t,x=>.own fr e t x
def dg.rd:(o:dg)→af→V→Option (HP o.tys)
  | .gen _,_,_=>none
  | .gen2 _ _,_,_=>none
  | .data c,H,v=>match colC c (v.view H) with | some us=>kJ c.tys us | none=>none
  | .new c,H,v=>bif newV H v then (match colC c (v.view H) with | some us=>kJ c.tys us | none=>none) else none
  | .own fr e t,H,v=>match v with
    | .c .nil=>some ([]:List t.T)
    | .row o k=>(match af.get H o with
      | some (.row e' t' l)=>bif Nat.beq t'.k k&&Nat.beq e e'&&(!fr||t.sc) then lu t' t l else none
      | _=>none)
    | _=>none
theorem dg.rd_ok {o:dg} {H:af} {v:V} {x:HP o.tys} (h:o.rd H v = some x):qO (o.out x) H v:=by
  have key:∀ (c:Cd) (x:HP c.tys),(match colC c (v.view H) with | some us=>kJ c.tys us | none=>none) = some x→VLe (v.view H) (filC c (gV c.tys x)).1:=by
    intro c x h
    split at h
    · next us hu =>
      have hr:=s5 _ _ _ h
      exact (colC_le c _ us [] _ hu (by rw [List.append_nil];exact hr)).1
    · cases h
  cases o with
  | gen T=>cases h
  | gen2 T T'=>cases h
  | data c=>exact key c x h
  | new c =>
    simp only [dg.rd] at h
    cases hn:newV H v with
    | false=>rw [hn] at h;cases h
    | true=>rw [hn] at h;exact ⟨key c x h,hn⟩
  | own fr e t =>
    simp only [dg.rd] at h
    split at h
    · cases h;exact .inl ⟨rfl,rfl⟩
    · next o k =>
      split at h
      · next e' t' l hg =>
        cases hc:(Nat.beq t'.k k&&Nat.beq e e'&&(!fr||t.sc)) with
        | false=>rw [hc] at h;cases h
        | true =>
          rw [hc] at h
          have h:lu t' t l = some x:=h
          simp only [Bool.and_eq_true,Nat.beq_eq,Bool.or_eq_true,Bool.not_eq_true'] at hc
          obtain ⟨he,hx⟩:=jC h
          subst he
          obtain ⟨⟨rfl,rfl⟩,h3⟩:=hc
          refine .inr ⟨o,rfl, ?_,fun hf=>?_⟩
          · rw [hg];have:x = l:=hx;rw [this]
          · rcases h3 with h3 | h3
            · rw [hf] at h3;cases h3
            · exact h3
      · cases h
    · cases h
structure DN where
  T:Tm
  T':Tm
  f:HP T.tys→Option (HP T'.tys)
structure FI where
  fid:FuncId
  fn:Func
  c:Code
  ins:Tm
  out:dg
  cuts:List (Nat × Tm):=[]
  hd:List (Nat × DN):=[]
abbrev XT:=(fi:FI)→HP fi.ins.tys→Option (HP fi.out.tys)
abbrev JT:=(fi:FI)→(π:Nat)→(T:Tm)→HP T.tys→Option (HP fi.out.tys)
def zk (fi:FI) (vs:List V):Option (HP fi.ins.tys) :=
  bif !fi.out.isGen&&(Nat.beq vs.length fi.ins.sl.length&&fi.ins.ob.isEmpty) then rd fi.ins { tm:=kF vs 0,hp:=[],nx:=0 } else none
def it {R:Type} (X:XT) (vs:List V) (k:jU→Option R):List FI→Option R
  | []=>none
  | fi :: r=>match zk fi vs with
    | some a=>(X fi a).bind fun y=>k (fi.out.out y)
    | none=>it X vs k r
def cR {α:Type}:List (Nat × α)→Nat→Option α
  | [],_=>none
  | (g,x) :: r,f=>bif Nat.beq g f then some x else cR r f
def CS (T:Tm) (xs:List TV):St:=let p:=n8 T.sl xs; { tm:=p.1,hp:=kT 0 T.ob p.2,nx:=T.ob.length }
def mJ (H:af):List Nat:=Ds [] (H.map (·.1))
def vd:List Nat→Nat
  | []=>0
  | o :: r=>Nat.max (o+1) (vd r)
def RD (os:List Nat) (H:af):Bool:=os.all fun o=>match af.get H o with | some b=>Jr os b | none=>true
def Tt (N:Nat) (H:af) (args:List V):St:={ tm:=kF args 0++kF args 1000000,hp:=pE (mJ H) H,nx:=vd (mJ H) }
def rdG (fi:FI) (H:af) (args:List V):Option (HP fi.ins.tys) :=
  bif Nat.ble args.length fi.fn.ntmps&&(V.refss args).all (fun o=>ek o (mJ H))&&RD (mJ H) H then yw fi.ins (Tt fi.fn.ntmps H args) else none
def kn (args:List V):List (Nat × Cd)→pP
  | []=>[]
  | (t, .k (.ptr q k i j)) :: r=>bif Nat.ble 1000000 t then (match args[t - 1000000]? with | some (.ptr o _ _ _)=>(q,o,true) :: kn args r | _=>kn args r) else kn args r
  | (t, .k (.row q k)) :: r=>bif Nat.ble 1000000 t then (match args[t - 1000000]? with | some (.row o _)=>(q,o,false) :: kn args r | _=>kn args r) else kn args r
  | _ :: r=>kn args r
def vb:Option Od→Bool
  | some (.box _)=>true
  | some (.map ..)=>true
  | _=>false
def Gf:Option Ob→Bool
  | some (.row ..)=>false
  | none=>false
  | _=>true
def J4 (T:Tm) (H:af) (bk:pP):Bool:=Nat.ble T.ob.length 8&&(iy (T.sl.map (·.1))&&(Dm bk&&bk.all fun x=>ek x.2.1 (mJ H)&&(Nat.blt x.1 T.ob.length&&(!x.2.2||(vb T.ob[x.1]?&&Gf (af.get H x.2.1))))))
def jR {R:Type} (T:Tm) (xs:List TV) (H:af) (nid:Nat) (args:List V) (k:ay→Option R):Option R :=
  match aq (CS T xs).tm RS with
  | some ⟨_, .tup [v]⟩=>bif J4 T H (kn args T.sl) then k (La nid (mJ H) (kn args T.sl) (CS T xs).hp v) else none
  | _=>none
def ki {R:Type} (o:dg) (y:HP o.tys) (H:af) (nid:Nat) (args:List V) (k:ay→Option R):Option R :=
  match o,y with
  | .gen T,y=>jR T (gV T.tys y) H nid args k
  | .gen2 T T',y=>(match gV (.b :: (T.tys++T'.tys)) y with
    | ⟨.b,t⟩ :: xs=>bif t then jR T xs H nid args k else jR T' (xs.drop T.tys.length) H nid args k
    | _=>none)
  | _,_=>none
def jx {R:Type} (X:XT) (H:af) (nid:Nat) (args:List V) (k:ay→Option R):List FI→Option R
  | []=>none
  | fi :: r=>match rdG fi H args with
    | some a=>(X fi a).bind fun y=>ki fi.out y H nid args k
    | none=>jx X H nid args k r
def Mu (T:Tm) (σ:St):Option (List V) :=
  let τ:=w7 T σ
  let ts:=T.sl.map (·.1)
  bif lm ts τ then
    let τ':=canonN ts τ
    bif Nat.ble τ'.nx T.ob.length then (match wi τ'.tm T.sl,yN τ'.hp 0 T.ob with
      | some a,some b=>(match kJ T.tys (a++b) with | some _=>some (a++b) | none=>none)
      | _,_=>none) else none
  else none
def MN (ts:List Ty):List V:=ts.map fun t=>encV t t.z
def dg.rdG:(o:dg)→St→V→Option (HP o.tys)
  | .gen T,σ,v=>yw T { σ with tm:=(RS,⟨[], .tup [v]⟩) :: σ.tm }
  | .gen2 T T',σ,v=>match Mu T { σ with tm:=(RS,⟨[], .tup [v]⟩) :: σ.tm } with
    | some us=>kJ (.b :: (T.tys++T'.tys)) (bl true :: (us++MN T'.tys))
    | none=>(match Mu T' { σ with tm:=(RS,⟨[], .tup [v]⟩) :: σ.tm } with
      | some us=>kJ (.b :: (T.tys++T'.tys)) (bl false :: (MN T.tys++us))
      | none=>none)
  | _,_,_=>none
theorem JN {H:af}:∀ (cs:List Od) (i:Nat) (us us2:List V) (xs:List TV),yN H i cs = some us→RV (us++us2) xs→sw H (kT i cs xs)
  | [],i,us,us2,xs,h,hr=>by rw [kT];trivial
  | c :: cs,i,us,us2,xs,h,hr=>by
    rw [yN] at h
    split at h
    · next b hg =>
      split at h
      · next a b' ha hb =>
        cases h
        rw [List.append_assoc] at hr
        obtain ⟨h1,h2⟩:=M6 c b a (b'++us2) xs ha hr
        show sw H ((i,some _) :: _)
        rw [sw,hg]
        exact ⟨h1,JN cs (i+1) b' us2 _ hb h2⟩
      · cases h
    · cases h
theorem Mp {T:Tm} {σ:St} {us us2:List V} {xs:List TV} (h:Mu T σ = some us) (hr:RV (us++us2) xs):dn σ (CS T xs):=by
  unfold Mu at h
  simp only at h
  cases hc:lm (T.sl.map (·.1)) (w7 T σ) with
  | false=>rw [hc] at h;cases h
  | true =>
    rw [hc,cond_true] at h
    cases hb:Nat.ble (canonN (T.sl.map (·.1)) (w7 T σ)).nx T.ob.length with
    | false=>rw [hb] at h;cases h
    | true =>
      rw [hb,cond_true] at h
      split at h
      · next a b ha hb' =>
        split at h
        · cases h
          rw [List.append_assoc] at hr
          obtain ⟨h1,h2⟩:=Gi T.sl a (b++us2) xs ha hr
          exact ((GT T σ).trans (dn.canonN _ hc)).trans (.le ⟨h1,JN T.ob 0 b us2 _ hb' h2,Nat.ble_eq.mp hb⟩)
        · cases h
      · cases h
theorem MM:∀ {us us2:List V} {xs:List TV},RV (us++us2) xs→RV us2 (xs.drop us.length)
  | [],us2,xs,h=>h
  | u :: us,us2,x :: xs,h=>MM (us:=us) h.2
  | u :: us,us2,[],h=>h.elim
theorem Tz {b:Bool} {x:TV} (h:VLe (bl b) x.v):x = ⟨.b,b⟩:=by
  obtain ⟨t,x⟩:=x
  match t,x,h with
  | .b,x,h1 =>
    change VLe (.c (.lit (.bool b))) (.c (.lit (.bool x))) at h1
    rw [VLe] at h1
    cases h1
    rfl
  | .st k,x,h1=>change VLe (.c (.lit (.bool b))) (.agg _) at h1;simp [VLe] at h1
  | .arr n t,x,h1=>change VLe (.c (.lit (.bool b))) (.agg _) at h1;simp [VLe] at h1
  | .i k,x,h1=>change VLe (.c (.lit (.bool b))) (.c (.lit (.int k x))) at h1;rw [VLe] at h1;cases h1
  | .ls t,x,h1=>change VLe (.c (.lit (.bool b))) (.c (.sl t x)) at h1;rw [VLe] at h1;cases h1
  | .s,x,h1=>change VLe (.c (.lit (.bool b))) (.c (.lit (.string x))) at h1;rw [VLe] at h1;cases h1
theorem QO {R:Type} (T:Tm) (y:HP T.tys) (H:af) (nid:Nat) (args:List V) (k:ay→Option R):ki (.gen T) y H nid args k = jR T (gV T.tys y) H nid args k:=rfl
theorem Sr (T:Tm) (σ:St) (v:V):dg.rdG (.gen T) σ v = yw T { σ with tm:=(RS,⟨[], .tup [v]⟩) :: σ.tm }:=rfl
theorem QA {T:Tm} {σ:St} {x:HP T.tys} (h:yw T σ = some x):dn σ (CS T (gV T.tys x)):=ry h
theorem IP {R:Type} (T T':Tm) (y:HP (.b :: (T.tys++T'.tys))) {t:Bool} {xs:List TV} (hx:gV (.b :: (T.tys++T'.tys)) y = (⟨.b,t⟩:TV) :: xs) (H:af) (nid:Nat) (args:List V) (k:ay→Option R) :
    ki (.gen2 T T') y H nid args k = bif t then jR T xs H nid args k else jR T' (xs.drop T.tys.length) H nid args k:=by
  show (match gV (.b :: (T.tys++T'.tys)) y with | ⟨.b,t⟩ :: xs=>bif t then jR T xs H nid args k else jR T' (xs.drop T.tys.length) H nid args k | _=>none) = _
  rw [hx]
theorem QP (T T':Tm) (σ:St) (v:V):dg.rdG (.gen2 T T') σ v = match Mu T { σ with tm:=(RS,⟨[], .tup [v]⟩) :: σ.tm } with
    | some us=>kJ (.b :: (T.tys++T'.tys)) (bl true :: (us++MN T'.tys))
    | none=>(match Mu T' { σ with tm:=(RS,⟨[], .tup [v]⟩) :: σ.tm } with
      | some us=>kJ (.b :: (T.tys++T'.tys)) (bl false :: (MN T.tys++us))
      | none=>none):=rfl
theorem Sn {T T':Tm} {σ:St} {v:V} {y:HP (dg.gen2 T T').tys} (h:(dg.gen2 T T').rdG σ v = some y):∃ (T0:Tm) (xs:List TV),dn { σ with tm:=(RS,⟨[], .tup [v]⟩) :: σ.tm } (CS T0 xs) ∧
    ∀ {R:Type} (H:af) (nid:Nat) (args:List V) (k:ay→Option R),ki (.gen2 T T') y H nid args k = jR T0 xs H nid args k:=by
  rw [QP] at h
  have key:∀ (b:Bool) (us:List V),kJ (.b :: (T.tys++T'.tys)) (bl b :: us) = some y→∃ xs,gV (.b :: (T.tys++T'.tys)) y = (⟨.b,b⟩:TV) :: xs∧RV us xs:=by
    intro b us hh
    have hr:=s5 _ _ _ hh
    revert hr
    generalize gV (.b :: (T.tys++T'.tys)) y = l
    intro hr
    match l,hr with
    | [],hr=>exact hr.elim
    | x :: xs,hr=>exact ⟨xs,by rw [Tz hr.1],hr.2⟩
  split at h
  · next us hu =>
    obtain ⟨xs,hx,hr⟩:=key _ _ h
    exact ⟨T,xs,Mp hu hr,fun H nid args k=>by rw [IP T T' y hx,cond_true]⟩
  · split at h
    · next us hu =>
      obtain ⟨xs,hx,hr⟩:=key _ _ h
      have h2:=MM hr
      have e:(MN T.tys).length = T.tys.length:=by simp [MN]
      rw [e] at h2
      exact ⟨T',xs.drop T.tys.length,Mp (us2:=[]) hu (by rw [List.append_nil];exact h2),fun H nid args k=>by rw [IP T T' y hx,cond_false]⟩
    · cases h
theorem Tc {o:dg} {σ:St} {v:V} {y:HP o.tys} (h:o.rdG σ v = some y):∃ (T:Tm) (xs:List TV),dn { σ with tm:=(RS,⟨[], .tup [v]⟩) :: σ.tm } (CS T xs) ∧
    ∀ {R:Type} (H:af) (nid:Nat) (args:List V) (k:ay→Option R),ki o y H nid args k = jR T xs H nid args k:=by
  cases o with
  | gen T =>
    rw [Sr] at h
    exact ⟨T,gV T.tys y,QA h,fun H nid args k=>QO T y H nid args k⟩
  | gen2 T T'=>exact @Sn T T' σ v y h
  | data c =>
    have h:(none:Option (HP (dg.data c).tys)) = some y:=h
    cases h
  | new c =>
    have h:(none:Option (HP (dg.new c).tys)) = some y:=h
    cases h
  | own fr e t =>
    have h:(none:Option (HP (dg.own fr e t).tys)) = some y:=h
    cases h
inductive Sp where
  | none
  | hand (fi:FI) (h:XT→HP fi.ins.tys→Option (HP fi.out.tys))
  | mut (m:XT→af→Nat→List V→Option ay)
structure jv where
  P:Program
  fs:List (FuncId × List FI)
  sp:FuncId→Sp
def ER:List FI→Bool
  | fi :: _=>fi.out.isGen
  | []=>false
def mG {R:Type} (fi:FI) (h:HP fi.ins.tys→Option (HP fi.out.tys)) (H:af) (nid:Nat) (args:List V) (k:ay→Option R):Option R:=match rdG fi H args with
  | some a=>(h a).bind fun y=>ki fi.out y H nid args k
  | none=>none
def mw {R:Type} (fi:FI) (h:HP fi.ins.tys→Option (HP fi.out.tys)) (vs:List V) (k:jU→Option R):Option R:=match zk fi vs with
  | some a=>(h a).bind fun y=>k (fi.out.out y)
  | none=>none
def eX (Tb:jv) (X:XT) (f:FuncId):CC:=match cR Tb.fs f with
  | some l=>bif ER l then .mut fun H nid args=>jx X H nid args some l else .pure fun vs=>(it X vs some l).map fun o=>(true,o)
  | none=>match Tb.sp f with
    | .hand fi h=>bif fi.out.isGen then .mut fun H nid args=>mG fi (h X) H nid args some else .pure fun vs=>(mw fi (h X) vs some).map fun o=>(true,o)
    | .mut m=>.mut (m X)
    | .none=>.pure fun _=>none
def od (C:FuncId→CC) (fs:List FuncId):FuncId→Option CC:=fun f=>bif ek f fs then some (.pure fun _=>some (false, .data (.c .unk))) else some (C f)
theorem Es {R:Type} (X:XT) (vs:List V) (k:jU→Option R):∀ l:List FI,it X vs k l = (it X vs some l).bind k
  | []=>rfl
  | fi :: r=>by
    unfold it
    split
    · next a ha=>cases X fi a <;> rfl
    · exact Es X vs k r
theorem GR {R:Type} (T:Tm) (xs:List TV) (H:af) (nid:Nat) (args:List V) (k:ay→Option R):jR T xs H nid args k = (jR T xs H nid args some).bind k:=by
  unfold jR
  split
  · cases J4 T H (kn args T.sl) <;> rfl
  · rfl
theorem G5 {R:Type} (o:dg) (y:HP o.tys) (H:af) (nid:Nat) (args:List V) (k:ay→Option R):ki o y H nid args k = (ki o y H nid args some).bind k:=by
  unfold ki
  split
  · exact GR ..
  · split
    · next t xs _=>cases t <;> exact GR ..
    · rfl
  · rfl
theorem DS {R:Type} (X:XT) (H:af) (nid:Nat) (args:List V) (k:ay→Option R):∀ l:List FI,jx X H nid args k l = (jx X H nid args some l).bind k
  | []=>rfl
  | fi :: r=>by
    unfold jx
    split
    · next a ha =>
      cases X fi a with
      | none=>rfl
      | some y=>rw [Option.bind_some,Option.bind_some];exact G5 ..
    · exact DS X H nid args k r
def gb {α:Type} (b:Bool) (o:Option α):Option α:=bif b then o else none
def gL {α:Type}:List Bool→Option α→Option α
  | [],o=>o
  | b :: r,o=>gb b (gL r o)
theorem rC {α:Type} {o:Option α} {y:α}:∀ {l:List Bool},gL l o = some y→(∀ b∈l,b = true)∧o = some y
  | [],h=>⟨fun b hb=>by simp at hb,h⟩
  | b :: l,h=>by
    unfold gL gb at h
    cases b with
    | false=>cases h
    | true =>
      obtain ⟨h1,h2⟩:=rC (l:=l) h
      exact ⟨fun c hc=>by rcases List.mem_cons.1 hc with rfl | hc;rfl;exact h1 c hc,h2⟩
def fB.bools:{ps:List Prop}→fB ps→List Bool
  | _, .nil=>[]
  | _, .cons (p:=p) d r=>@aa p d :: r.bools
def KL (tm:List (Nat × aw)) (ch:aM) (bs:List Bool):List Bool:=match ch with
  | []=>bs
  | ch=>bs.map fun b=>!(holds tm ch)||b
theorem tP:∀ {ps:List Prop} (d:fB ps),(∀ b∈d.bools,b = true)→∀ p∈ps,p
  | _, .nil,_,p,hp=>by simp at hp
  | _, .cons d r,h,p,hp=>by
    rcases List.mem_cons.1 hp with rfl | hp
    · exact of_decide_eq_true (h _ (by simp [fB.bools]))
    · exact tP r (fun b hb=>h b (by simp [fB.bools,hb])) p hp
theorem GY {c:Prop} {b:Bool} (hb:b = true↔c):∀ {ps:List Prop} (d:fB ps),(∀ x∈d.bools.map (fun y=>!b||y),x = true)→∀ p∈ps,c→p
  | _, .nil,_,p,hp=>by simp at hp
  | _, .cons d r,h,p,hp=>by
    intro hc
    rcases List.mem_cons.1 hp with rfl | hp
    · have:=h (!b||@decide _ d) (by simp [fB.bools])
      rw [hb.2 hc] at this
      exact of_decide_eq_true (by simpa using this)
    · exact GY hb r (fun x hx=>h x (by simp only [fB.bools,List.map_cons,List.mem_cons];exact .inr hx)) p hp hc
theorem PC {tm:List (Nat × aw)} {ch:aM} {ps:List Prop} (d:fB ps) (h:∀ b∈KL tm ch d.bools,b = true):∀ p∈jH tm ch ps,p:=by
  unfold KL jH at *
  cases ch with
  | nil=>exact tP d h
  | cons x l =>
    intro p hp
    simp only [List.mem_map] at hp
    obtain ⟨q,hq,rfl⟩:=hp
    exact GY Iff.rfl d h q hq
def s6 (nid:Nat) (args:List V):jU→Option ay
  | .data v=>bif (!gG args)||v.scalar then some { pre:=[true = true],val:=v } else none
  | .new v=>some { pre:=[true = true],val:=v }
  | .own fr e t l=>bif (!gG args)||fr then some { pre:=[true = true],val:=.row nid t.k,eff:=[(nid,some (.row e t l))] } else none
def qW (H:af) (nid:Nat) (args:List V) (out:jU):Option ay:=match s6 nid args out with
  | some r=>some r
  | none=>bif V.noPs args then jV (fun _ vs=>s6 nid vs out) (V.refss args) H args else none
theorem Pc {o:Nat} {e:TypeId} {t:Ty} (H:af) {q:Nat} (h:q≠o):af.get ((o,some (.row e t [])) :: em [o] H) q = l4 o (af.get H q):=by
  rw [af.get_cons,if_neg (Ne.symm h),en]
mutual
theorem view_fz {o:Nat} {e:TypeId} {t:Ty} {l:List t.T} {H:af} (hg:H.get o = some (.row e t l)):∀ v:V,v.noP = true→(V.fz o t l v).view ((o,some (.row e t [])) :: em [o] H) = v.view H
  | .c d,_=>rfl
  | .agg vs,hn=>by rw [V.fz,V.view,V.view,views_fz hg vs (by simpa [V.noP] using hn)]
  | .tup vs,hn=>by rw [V.fz,V.view,V.view,views_fz hg vs (by simpa [V.noP] using hn)]
  | .ptr ..,hn=>by simp [V.noP] at hn
  | .row o' k,_=>by
    rw [V.fz]
    cases hb:Nat.beq o' o with
    | true =>
      have:=Nat.eq_of_beq_eq_true hb
      subst this
      rw [cond_true,V.view,sj,hg]
      simp only
      cases Nat.beq t.k k <;> rfl
    | false =>
      have hne:o'≠o:=fun h=>by subst h;simp at hb
      rw [cond_false,V.view,V.view,sj,sj,Pc H hne]
      cases af.get H o' with
      | none=>rfl
      | some b=>cases b <;> rfl
  | .sub o' k off n,_=>by
    rw [V.fz]
    cases hb:Nat.beq o' o with
    | true =>
      have:=Nat.eq_of_beq_eq_true hb
      subst this
      rw [cond_true,V.view,rL,hg]
      simp only
      cases Nat.beq t.k k <;> rfl
    | false =>
      have hne:o'≠o:=fun h=>by subst h;simp at hb
      rw [cond_false,V.view,V.view,rL,rL,Pc H hne]
      cases af.get H o' with
      | none=>rfl
      | some b=>cases b <;> rfl
  | .dptr ..,_=>rfl
  | .fn f vs,hn=>by rw [V.fz,V.view,V.view,views_fz hg vs (by simpa [V.noP] using hn)]
theorem views_fz {o:Nat} {e:TypeId} {t:Ty} {l:List t.T} {H:af} (hg:H.get o = some (.row e t l)):∀ vs:List V,V.noPs vs = true→V.views ((o,some (.row e t [])) :: em [o] H) (V.fzs o t l vs) = V.views H vs
  | [],_=>rfl
  | v :: r,hn=>by
    rw [V.noPs,Bool.and_eq_true] at hn
    rw [V.fzs,V.views,V.views,view_fz hg v hn.1,views_fz hg r hn.2]
end
mutual
theorem noP_fz (o:Nat) (t:Ty) (l:List t.T):∀ v:V,v.noP = true→(V.fz o t l v).noP = true
  | .c d,_=>rfl
  | .agg vs,hn=>by rw [V.fz,V.noP];exact noPs_fz o t l vs (by simpa [V.noP] using hn)
  | .tup vs,hn=>by rw [V.fz,V.noP];exact noPs_fz o t l vs (by simpa [V.noP] using hn)
  | .ptr ..,hn=>by simp [V.noP] at hn
  | .row o' k,_=>by
    rw [V.fz]
    cases Nat.beq o' o with
    | false=>rfl
    | true=>rw [cond_true];cases Nat.beq t.k k <;> rfl
  | .sub o' k off n,_=>by
    rw [V.fz]
    cases Nat.beq o' o with
    | false=>rfl
    | true=>rw [cond_true];cases Nat.beq t.k k <;> rfl
  | .dptr ..,_=>rfl
  | .fn f vs,hn=>by rw [V.fz,V.noP];exact noPs_fz o t l vs (by simpa [V.noP] using hn)
theorem noPs_fz (o:Nat) (t:Ty) (l:List t.T):∀ vs:List V,V.noPs vs = true→V.noPs (V.fzs o t l vs) = true
  | [],_=>rfl
  | v :: r,hn=>by
    rw [V.noPs,Bool.and_eq_true] at hn
    rw [V.fzs,V.noPs,noP_fz o t l v hn.1,noPs_fz o t l r hn.2];rfl
end
theorem Bt {C:FuncId→Option CC} {H:af} {nid:Nat} {f:FuncId} {args:List V} {con:Mt} {out:jU} (hc:C f = some (.pure con)) (ho:con (V.views H args) = some (true,out)):iu C H nid f args = s6 nid args out:=by
  unfold iu
  rw [hc]
  simp only [ho]
  cases out <;> rfl
theorem Kt {C:FuncId→Option CC} {nid:Nat} {f:FuncId} {con:Mt} {out:jU} (hc:C f = some (.pure con)):∀ (fl:List Nat) (H:af) (args:List V),V.noPs args = true→con (V.views H args) = some (true,out) →
    jV (qR C f nid) fl H args = jV (fun _ vs=>s6 nid vs out) fl H args
  | [],H,args,hn,ho=>by
    rw [jV,jV]
    unfold qR
    rw [hn,cond_true,hc]
    simp only
    exact Bt hc ho
  | q :: fl,H,args,hn,ho=>by
    rw [jV,jV]
    split
    · next e t l hg =>
      rw [Kt hc fl _ _ (noPs_fz q t l args hn) (by rw [views_fz hg args hn];exact ho)]
    · rfl
theorem Lh {C:FuncId→Option CC} {H:af} {nid:Nat} {f:FuncId} {args:List V} {con:Mt} {out:jU} {r:ay} (hc:C f = some (.pure con)) (ho:con (V.views H args) = some (true,out)) (h:qW H nid args out = some r):mq C H nid f args = some r:=by
  unfold mq
  rw [Bt hc ho]
  unfold qW at h
  split at h
  · next r' hr=>rw [hr];exact h
  · next hr =>
    rw [hr]
    cases hn:V.noPs args with
    | false=>rw [hn] at h;cases h
    | true =>
      rw [hn,cond_true] at h
      simp only
      rw [Kt hc _ _ _ hn ho]
      exact h
theorem Mk {f:af→List V→Option ay} {P0:List Prop→Prop} (hf:∀ H vs r,f H vs = some r→P0 r.pre):∀ (fl:List Nat) (H:af) (vs:List V) (r:ay),jV f fl H vs = some r→P0 r.pre
  | [],H,vs,r,h=>hf H vs r h
  | q :: fl,H,vs,r,h=>by
    rw [jV] at h
    split at h
    · next e t l hg =>
      cases hb:jV f fl ((q,some (.row e t [])) :: em [q] H) (V.fzs q t l vs) with
      | none=>rw [hb] at h;cases h
      | some r0=>rw [hb] at h;cases h;exact Mk hf fl _ _ r0 hb
    · cases h
theorem Eb {nid:Nat} {args:List V} {out:jU} {r:ay} (hr:s6 nid args out = some r):r.pre = [true = true]:=by
  cases out with
  | data v =>
    simp only [s6] at hr
    cases hq:((!gG args)||v.scalar) <;> rw [hq] at hr <;> cases hr
    rfl
  | new v=>cases hr;rfl
  | own fr e t l =>
    simp only [s6] at hr
    cases hq:((!gG args)||fr) <;> rw [hq] at hr <;> cases hr
    rfl
theorem HB {H:af} {nid:Nat} {args:List V} {out:jU} {r:ay} (h:qW H nid args out = some r):r.pre = [true = true]:=by
  unfold qW at h
  split at h
  · next r' hr=>cases h;exact Eb hr
  · cases hn:V.noPs args with
    | false=>rw [hn] at h;cases h
    | true=>rw [hn,cond_true] at h;exact Mk (P0:=fun ps=>ps = [true = true]) (fun _ _ _ h=>Eb h) _ _ _ _ h
def Nf {R:Type} (X:XT) (l:List FI) (H:af) (nid:Nat) (args:List V) (k:ay→Option R):Option R :=
  bif ER l then jx X (bn (aH H args) H) nid args k l
  else it X (V.views H args) (fun out=>match qW H nid args out with | some r=>k r | none=>none) l
def vH {R:Type} (Tb:jv) (X:XT) (f:FuncId) (H:af) (nid:Nat) (args:List V) (k:ay→Option R):Option R :=
  match cR Tb.fs f with
  | some l=>Nf X l H nid args k
  | none=>match Tb.sp f with
    | .hand fi h=>bif fi.out.isGen then mG fi (h X) (bn (aH H args) H) nid args k else mw fi (h X) (V.views H args) fun out=>match qW H nid args out with | some r=>k r | none=>none
    | .mut m=>(m X (bn (aH H args) H) nid args).bind fun r=>gL r.dec.bools (k r)
    | .none=>none
theorem yg {C:FuncId→Option CC} {H:af} {nid:Nat} {f:FuncId} {args:List V} {m:af→Nat→List V→Option ay} {r:ay} (hc:C f = some (.mut m)) (hm:m (bn (aH H args) H) nid args = some r):mq C H nid f args = some r:=by
  have h0:iu C H nid f args = some r:=by
    unfold iu
    rw [hc]
    exact hm
  unfold mq
  rw [h0]
theorem xk {T:Tm} {xs:List TV} {H:af} {nid:Nat} {args:List V} {r:ay} (h:jR T xs H nid args some = some r):r.pre = [true = true]:=by
  unfold jR at h
  split at h
  · cases hb:J4 T H (kn args T.sl) with
    | false=>rw [hb] at h;cases h
    | true=>rw [hb] at h;cases h;rfl
  · cases h
theorem GS {X:XT} {H:af} {nid:Nat} {args:List V} {r:ay}:∀ {l:List FI},jx X H nid args some l = some r→r.pre = [true = true]
  | [],h=>by cases h
  | fi :: l,h=>by
    unfold jx at h
    split at h
    · rw [Option.bind_eq_some_iff] at h
      obtain ⟨y,_,h⟩:=h
      unfold ki at h
      split at h
      · exact xk h
      · split at h
        · next t xs _=>cases t <;> exact xk h
        · cases h
      · cases h
    · exact GS h
theorem N3 {R:Type} (fi:FI) (h:HP fi.ins.tys→Option (HP fi.out.tys)) (H:af) (nid:Nat) (args:List V) (k:ay→Option R):mG fi h H nid args k = (mG fi h H nid args some).bind k:=by
  unfold mG
  split
  · next a _ =>
    cases h a with
    | none=>rfl
    | some y=>rw [Option.bind_some,Option.bind_some];exact G5 ..
  · rfl
theorem Nc {R:Type} (fi:FI) (h:HP fi.ins.tys→Option (HP fi.out.tys)) (vs:List V) (k:jU→Option R):mw fi h vs k = (mw fi h vs some).bind k:=by
  unfold mw
  split
  · next a _=>cases h a <;> rfl
  · rfl
theorem QX {o:dg} {y:HP o.tys} {H:af} {nid:Nat} {args:List V} {r:ay} (h:ki o y H nid args some = some r):r.pre = [true = true]:=by
  unfold ki at h
  split at h
  · exact xk h
  · split at h
    · next t xs _=>cases t <;> exact xk h
    · cases h
  · cases h
theorem Pt {fi:FI} {h:HP fi.ins.tys→Option (HP fi.out.tys)} {H:af} {nid:Nat} {args:List V} {r:ay} (hh:mG fi h H nid args some = some r):r.pre = [true = true]:=by
  unfold mG at hh
  split at hh
  · rw [Option.bind_eq_some_iff] at hh
    obtain ⟨y,_,hh⟩:=hh
    exact QX hh
  · cases hh
theorem DF {R:Type} {Tb:jv} {X:XT} {f:FuncId} {H:af} {nid:Nat} {args:List V} {k:ay→Option R} {y:R} (h:vH Tb X f H nid args k = some y) :
    ∃ r,k r = some y∧(∀ p∈r.pre,p)∧∀ C:FuncId→Option CC,C f = some (eX Tb X f)→mq C H nid f args = some r:=by
  have one:∀ {ps:List Prop},ps = [true = true]→∀ p∈ps,p:=fun e p hp=>by subst e;rw [List.mem_singleton] at hp;subst hp;rfl
  unfold vH at h
  split at h
  · next l hl =>
    unfold Nf at h
    cases hg:ER l with
    | true =>
      rw [hg,cond_true,DS,Option.bind_eq_some_iff] at h
      obtain ⟨r,h1,h2⟩:=h
      refine ⟨r,h2,one (GS h1),fun C hC=>yg (m:=fun H nid args=>jx X H nid args some l) (by rw [hC];unfold eX;rw [hl];simp only [hg,cond_true]) h1⟩
    | false =>
      rw [hg,cond_false,Es,Option.bind_eq_some_iff] at h
      obtain ⟨out,h1,h2⟩:=h
      split at h2
      · next r hr=>exact ⟨r,h2,one (HB hr),fun C hC=>Lh (con:=fun vs=>(it X vs some l).map fun o=>(true,o)) (by rw [hC];unfold eX;rw [hl];simp only [hg,cond_false]) (by simp only [h1,Option.map_some]) hr⟩
      · cases h2
  · next hl =>
    split at h
    · next fi hd hc =>
      cases hg:fi.out.isGen with
      | true =>
        rw [hg,cond_true,N3,Option.bind_eq_some_iff] at h
        obtain ⟨r,h1,h2⟩:=h
        exact ⟨r,h2,one (Pt h1),fun C hC=>yg (m:=fun H nid args=>mG fi (hd X) H nid args some) (by rw [hC];unfold eX;rw [hl];simp only [hc,hg,cond_true]) h1⟩
      | false =>
        rw [hg,cond_false,Nc,Option.bind_eq_some_iff] at h
        obtain ⟨out,h1,h2⟩:=h
        split at h2
        · next r hr=>exact ⟨r,h2,one (HB hr),fun C hC=>Lh (con:=fun vs=>(mw fi (hd X) vs some).map fun o=>(true,o)) (by rw [hC];unfold eX;rw [hl];simp only [hc,hg,cond_false]) (by simp only [h1,Option.map_some]) hr⟩
        · cases h2
    · next m hm =>
      rw [Option.bind_eq_some_iff] at h
      obtain ⟨r,h1,h2⟩:=h
      obtain ⟨h3,h4⟩:=rC h2
      exact ⟨r,h4,tP _ h3,fun C hC=>yg (m:=m X) (by rw [hC];unfold eX;rw [hl];simp only [hm]) h1⟩
    · cases h
def J5 (o:Oper) (vs:List V):Option (FuncId × List V):=match o.op,vs with
  | .call { callee:=.value _, .. }, .fn f caps :: vs=>bif Nat.blt f 1000000000 then some (f,vs++caps) else none
  | _,_=>none
def oR (o:Oper):Bool:=match o.op with
  | .call { callee:=.value _, .. }=>true
  | _=>false
def Iy (o:Oper) (σ:St) (ch:aM) (nid:Nat) (vs:List V) (r:ay):ct:={ dst:=o.dst,rds:=k8 (dK o.op)++ch.map (·.1),ch,nid,vs,reach:=aH σ.hp vs,rws:=o5 σ.hp vs,res:=r }
def Kl:List (Nat × aw)→Nat→aw→List (Nat × aw)
  | [],_,_=>[]
  | (t',s') :: r,t,s=>bif Nat.beq t' t then (t',s) :: r else (t',s') :: Kl r t s
theorem zg:∀ {tm:List (Nat × aw)} {t:Nat} {s:aw},aq tm t = some s→Kl tm t s = tm
  | [],t,s,h=>rfl
  | (t',s') :: r,t,s,h=>by
    unfold Kl
    unfold aq at h
    cases hb:Nat.beq t' t with
    | true=>rw [hb] at h;cases h;rfl
    | false=>rw [hb,cond_false] at h;rw [cond_false,zg h]
def na {R:Type}:aM→St→(St→Option R)→Option R
  | [],σ,k=>k σ
  | (t,_) :: r,σ,k=>match aq σ.tm t with
    | some ⟨c0, .c (.lit (.bool b))⟩=>bif b then na r { σ with tm:=Kl σ.tm t ⟨c0,bl true⟩ } k else na r { σ with tm:=Kl σ.tm t ⟨c0,bl false⟩ } k
    | _=>none
theorem sL {R:Type} {y:R}:∀ {ch:aM} {σ:St} {k:St→Option R},na ch σ k = some y→k σ = some y
  | [],σ,k,h=>h
  | (t,w) :: r,σ,k,h=>by
    unfold na at h
    split at h
    · next c0 b hg =>
      cases b with
      | true =>
        rw [cond_true,zg hg] at h
        exact sL h
      | false =>
        rw [cond_false,zg hg] at h
        exact sL h
    · cases h
section
variable {R:Type} (Tb:jv) (X:XT) (N:Nat) (all:List Oper)
def HN (σ:St) (nid:Nat) (o:Oper) (fT fF:List FuncId) (k:St→ct→List FuncId→List FuncId→Option R):Option R :=
  bif oR o then
    (bif iR N o.dst then
      match dX all σ.tm o.guard with
      | some ch =>
        bif ch.all fun x=>fL σ.tm ch x.1 then
          na ch σ fun σ=>match kX σ ch (dK o.op) with
            | some vs=>(match J5 o vs with
              | some (f,args) =>
                bif holds σ.tm ch then
                  (bif ek f fF then none else vH Tb X f σ.hp nid args fun r=>bif ch.isEmpty||(r.eff.isEmpty&&r.kill.isEmpty&&gv o.dst ch) then k σ (Iy o σ ch nid vs r) (f :: fT) fF else none)
                else (bif ek f fT then vH Tb X f σ.hp nid args fun r=>bif r.eff.isEmpty&&r.kill.isEmpty&&gv o.dst ch then k σ (Iy o σ ch nid vs r) fT fF else none
                  else bif gv o.dst ch then k σ (Iy o σ ch nid vs { pre:=[false = true],val:=.c .unk }) fT (f :: fF) else none)
              | none=>none)
            | none=>none
        else none
      | none=>none
    else none)
  else match recOf Tb.P (fun _=>none) N all σ nid o with
    | some rc=>gL (KL σ.tm rc.ch rc.res.dec.bools) (k σ rc fT fF)
    | none=>none
end
theorem Q0 {P:Program} {C:FuncId→Option CC} {H:af} {nid:Nat} {o:Oper} {vs:List V} {f:FuncId} {args:List V} (h:J5 o vs = some (f,args)):vp P C H nid o vs = mq C H nid f args:=by
  unfold J5 at h
  split at h
  · next g caps vs' ho =>
    cases hb:Nat.blt g 1000000000 with
    | false=>rw [hb] at h;cases h
    | true =>
      rw [hb] at h;cases h
      unfold vp
      rw [ho]
      simp only [hb,cond_true]
  · cases h
theorem Lr {P:Program} {C:FuncId→Option CC} {σ:St} {nid:Nat} {ch:aM} {o:Oper} (ho:oR o = true) {vs:List V} (hv:kX σ ch (dK o.op) = some vs) {r:ay} (hr:vp P C σ.hp nid o vs = some r):ld P C σ nid ch o = some (vs,r):=by
  unfold oR at ho
  split at ho
  · next f args ats hop =>
    unfold ld
    rw [hop] at hv ⊢
    simp only [hv]
    unfold yJ
    rw [hr]
    rfl
  · cases ho
section
variable {R:Type} {Tb:jv} {X:XT} {N:Nat} {all:List Oper}
theorem Sl {P:Program} {C:FuncId→Option CC} {H:af} {nid:Nat} {o:Oper} {vs:List V} (ho:oR o = false):vp P (fun _=>none) H nid o vs = vp P C H nid o vs:=by
  unfold vp
  split <;> try rfl
  next hop=>unfold oR at ho;rw [hop] at ho;cases ho
theorem OZ {P:Program} {C:FuncId→Option CC} {σ:St} {nid:Nat} {o:Oper} (ho:oR o = false):recOf P (fun _=>none) N all σ nid o = recOf P C N all σ nid o:=by
  have e:∀ ch,ld P (fun _=>none) σ nid ch o = ld P C σ nid ch o:=by
    intro ch
    unfold ld yJ
    simp only [Sl (C:=C) ho]
  unfold recOf
  simp only [e]
theorem B5 {σ:St} {nid:Nat} {o:Oper} {fT fF:List FuncId} {k:St→ct→List FuncId→List FuncId→Option R} {y:R} (h:HN Tb X N all σ nid o fT fF k = some y) :
    ∃ rc fT' fF',k σ rc fT' fF' = some y∧(∀ f∈fT,f∈fT')∧(∀ f∈fF,f∈fF')∧((∀ f∈fT,f ∉ fF)→∀ f∈fT',f ∉ fF')∧(o.guard = none→fF' = fF) ∧
      ∀ Ff:List FuncId,(∀ f∈fF',f∈Ff)→(∀ f∈fT',f ∉ Ff)→recOf Tb.P (od (eX Tb X) Ff) N all σ nid o = some rc∧∀ p∈jH σ.tm rc.ch rc.res.pre,p:=by
  unfold HN at h
  cases hc:oR o with
  | false =>
    rw [hc,cond_false] at h
    split at h
    · next rc hrc =>
      obtain ⟨h1,h2⟩:=rC h
      refine ⟨rc,fT,fF,h2,fun _ h=>h,fun _ h=>h,fun h=>h,fun _=>rfl,fun Ff _ _=>⟨?_,PC _ h1⟩⟩
      rw [← OZ hc];exact hrc
    · cases h
  | true =>
    rw [hc,cond_true] at h
    cases hd:iR N o.dst with
    | false=>rw [hd] at h;cases h
    | true =>
      rw [hd,cond_true] at h
      split at h
      · next ch hch =>
        cases hg:(ch.all fun x=>fL σ.tm ch x.1) with
        | false=>rw [hg] at h;cases h
        | true =>
          rw [hg,cond_true] at h
          have h:=sL h
          split at h
          · next vs hvs =>
            split at h
            · next f args hca =>
              have rec_:∀ (C:FuncId→Option CC) (r:ay),mq C σ.hp nid f args = some r→(ch.isEmpty||(r.eff.isEmpty&&r.kill.isEmpty&&gv o.dst ch)) = true→recOf Tb.P C N all σ nid o = some (Iy o σ ch nid vs r):=by
                intro C r hr hx
                unfold recOf
                rw [hd,cond_true,hch]
                simp only [hg,cond_true]
                rw [Lr hc hvs ((Q0 hca).trans hr)]
                simp only [hx,cond_true]
                rfl
              cases hh:holds σ.tm ch with
              | true =>
                rw [hh,cond_true] at h
                cases hm:ek f fF with
                | true=>rw [hm] at h;cases h
                | false =>
                  rw [hm,cond_false] at h
                  obtain ⟨r,h,hpre,hcv⟩:=DF h
                  cases hx:(ch.isEmpty||(r.eff.isEmpty&&r.kill.isEmpty&&gv o.dst ch)) with
                  | false=>rw [hx] at h;cases h
                  | true =>
                    rw [hx,cond_true] at h
                    refine ⟨_,f :: fT,fF,h,fun g hg=>List.mem_cons_of_mem _ hg,fun _ h=>h,fun hdj g hg=>?_,fun _=>rfl,fun Ff h1 h2=>⟨rec_ _ r ?_ hx, ?_⟩⟩
                    · rcases List.mem_cons.1 hg with rfl | hg
                      · intro hf
                        have:ek g fF = true:=List.any_eq_true.2 ⟨g,hf,by simp⟩
                        rw [hm] at this;cases this
                      · exact hdj g hg
                    · have hnf:ek f Ff = false:=by
                        cases hb:ek f Ff with
                        | false=>rfl
                        | true=>exact absurd (gc hb) (h2 f (by simp))
                      exact hcv _ (by unfold od;rw [hnf,cond_false])
                    · intro p hp
                      have hp':p∈jH σ.tm ch r.pre:=hp
                      unfold jH at hp'
                      split at hp'
                      · exact hpre p hp'
                      · obtain ⟨q,hq,rfl⟩:=List.mem_map.1 hp'
                        exact fun _=>hpre q hq
              | false =>
                rw [hh,cond_false] at h
                cases hm:ek f fT with
                | true =>
                  rw [hm,cond_true] at h
                  obtain ⟨r,h,hpre,hcv⟩:=DF h
                  cases hx:(r.eff.isEmpty&&r.kill.isEmpty&&gv o.dst ch) with
                  | false=>rw [hx] at h;cases h
                  | true =>
                    rw [hx,cond_true] at h
                    refine ⟨_,fT,fF,h,fun _ h=>h,fun _ h=>h,fun hdj=>hdj,fun _=>rfl,fun Ff h1 h2=>⟨rec_ _ r ?_ (by rw [hx,Bool.or_true]), ?_⟩⟩
                    · have hnf:ek f Ff = false:=by
                        cases hb:ek f Ff with
                        | false=>rfl
                        | true=>exact absurd (gc hb) (h2 f (gc hm))
                      exact hcv _ (by unfold od;rw [hnf,cond_false])
                    · intro p hp
                      have hp':p∈jH σ.tm ch r.pre:=hp
                      unfold jH at hp'
                      split at hp'
                      · exact hpre p hp'
                      · obtain ⟨q,hq,rfl⟩:=List.mem_map.1 hp'
                        exact fun _=>hpre q hq
                | false =>
                  rw [hm,cond_false] at h
                  cases hn:gv o.dst ch with
                  | false=>rw [hn] at h;cases h
                  | true =>
                    rw [hn,cond_true] at h
                    refine ⟨_,fT,f :: fF,h,fun _ h=>h,fun g hg=>List.mem_cons_of_mem _ hg,fun hdj g hg hf=>?_,fun hno=>?_,fun Ff h1 h2=>⟨rec_ _ _ ?_ ?_, ?_⟩⟩
                    · rcases List.mem_cons.1 hf with rfl | hf
                      · have:ek g fT = true:=List.any_eq_true.2 ⟨g,hg,by simp⟩
                        rw [hm] at this;cases this
                      · exact hdj g hg hf
                    · rw [hno] at hch;cases hch;cases hh
                    · have hnf:ek f Ff = true:=List.any_eq_true.2 ⟨f,h1 f (by simp),by simp⟩
                      unfold mq iu od
                      simp only [hnf,cond_true,V.scalar,Bool.or_true]
                    · simp [hn]
                    · intro p hp
                      have hp':p∈jH σ.tm ch [false = true]:=hp
                      unfold jH at hp'
                      split at hp'
                      · simp [holds] at hh
                      · simp only [List.map_cons,List.map_nil,List.mem_singleton] at hp'; subst hp'; intro h0;rw [hh] at h0;cases h0
            · cases h
          · cases h
      · cases h
end
end Go.Ax
