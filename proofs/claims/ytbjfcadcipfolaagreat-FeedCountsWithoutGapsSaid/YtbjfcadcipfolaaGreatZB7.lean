import Derived.Test.YtbjfcadcipfolaaGreatZB6g
set_option linter.all false
/- An evaluation of code that can be run: functions as plain functions with an option. -/
namespace Go.Ax
open Go.RowKit
def RS:Nat:=2000000
inductive dA where
  | data (c:Cd)
  | new (c:Cd)
  | own (fr:Bool) (e:TypeId) (t:Ty)
  | gen (T:Tm)
  | gen2 (T T':Tm)
def dA.tys:dA→List Ty
 | .gen T=>T.tys
 | .gen2 T T'=>.b :: (T.tys++T'.tys)
 | .data c=>c.tys
 | .new c=>c.tys
 | .own _ _ t=>[.ls t]
def dA.isGen:dA→Bool
 | .gen _=>true
 | .gen2 _ _=>true
 | _=>false
def dA.out:(o:dA)→HP o.tys→j8
 | .gen _,_=>.data (.c .unk)
 | .gen2 _ _,_=>.data (.c .unk)
 | .data c,x=>.data (filC c (dZ c.tys x)).1
 | .new c,x=>.new (filC c (dZ c.tys x)).1
 | .own fr e t,x=>.own fr e t x
def dA.rd:(o:dA)→ae→V→Option (HP o.tys)
 | .gen _,_,_=>none
 | .gen2 _ _,_,_=>none
 | .data c,H,v=>match colC c (v.view H) with | some us=>lz c.tys us | none=>none
 | .new c,H,v=>bif newV H v then (match colC c (v.view H) with | some us=>lz c.tys us | none=>none) else none
 | .own fr e t,H,v=>match v with
  | .c .nil=>some ([]:List t.T)
  | .row o k=>(match ae.get H o with
   | some (.row e' t' l)=>bif Nat.beq t'.k k&&Nat.beq e e'&&(!fr||t.sc) then lL t' t l else none
   | _=>none)
  | _=>none
theorem dA.rd_ok {o:dA} {H:ae} {v:V} {x:HP o.tys} (h:o.rd H v = some x):su (o.out x) H v:=by
 have key:∀ (c:Cd) (x:HP c.tys),(match colC c (v.view H) with | some us=>lz c.tys us | none=>none) = some x→VLe (v.view H) (filC c (dZ c.tys x)).1:=by
  intro c x h
  split at h
  ·next us hu =>
   have hr:=tT _ _ _ h
   exact (colC_le c _ us [] _ hu (by rw [List.append_nil];exact hr)).1
  ·cases h
 cases o with
 | gen T=>cases h
 | gen2 T T'=>cases h
 | data c=>exact key c x h
 | new c =>
  simp only [dA.rd] at h
  cases hn:newV H v with
  | false=>rw [hn] at h;cases h
  | true=>rw [hn] at h;exact ⟨key c x h,hn⟩
 | own fr e t =>
  simp only [dA.rd] at h
  split at h
  ·cases h;exact .inl ⟨rfl,rfl⟩
  ·next o k =>
   split at h
   ·next e' t' l hg =>
    cases hc:(Nat.beq t'.k k&&Nat.beq e e'&&(!fr||t.sc)) with
    | false=>rw [hc] at h;cases h
    | true =>
     rw [hc] at h
     have h:lL t' t l = some x:=h
     simp only [Bool.and_eq_true,Nat.beq_eq,Bool.or_eq_true,Bool.not_eq_true'] at hc
     obtain ⟨he,hx⟩:=jH h
     subst he
     obtain ⟨⟨rfl,rfl⟩,h3⟩:=hc
     refine .inr ⟨o,rfl, ?_,fun hf=>?_⟩
     ·rw [hg];have:x = l:=hx;rw [this]
     ·rcases h3 with h3 | h3
      ·rw [hf] at h3;cases h3
      ·exact h3
   ·cases h
  ·cases h
structure Jf where
  T:Tm
  T':Tm
  f:HP T.tys→Option (HP T'.tys)
structure FI where
  fid:FuncId
  fn:Func
  c:Code
  ins:Tm
  out:dA
  cuts:List (Nat × Tm):=[]
  hd:List (Nat × Jf):=[]
abbrev XT:=(fi:FI)→HP fi.ins.tys→Option (HP fi.out.tys)
abbrev JT:=(fi:FI)→(π:Nat)→(T:Tm)→HP T.tys→Option (HP fi.out.tys)
def zm (fi:FI) (vs:List V):Option (HP fi.ins.tys) :=
 bif !fi.out.isGen&&(Nat.beq vs.length fi.ins.sl.length&&fi.ins.ob.isEmpty) then rd fi.ins { tm:=kx vs 0,hp:=[],nx:=0 } else none
def ip {R:Type} (X:XT) (vs:List V) (k:j8→Option R):List FI→Option R
 | []=>none
 | fi :: r=>match zm fi vs with
  | some a=>(X fi a).bind fun y=>k (fi.out.out y)
  | none=>ip X vs k r
def cT {α:Type}:List (Nat × α)→Nat→Option α
 | [],_=>none
 | (g,x) :: r,f=>bif Nat.beq g f then some x else cT r f
def Cf (T:Tm) (xs:List TV):St:=let p:=nV T.sl xs; { tm:=p.1,hp:=lh 0 T.ob p.2,nx:=T.ob.length }
def nf (H:ae):List Nat:=DG [] (H.map (·.1))
def wN:List Nat→Nat
 | []=>0
 | o :: r=>Nat.max (o+1) (wN r)
def Qi (os:List Nat) (H:ae):Bool:=os.all fun o=>match ae.get H o with | some b=>J5 os b | none=>true
def Rl (N:Nat) (H:ae) (args:List V):St:={ tm:=kx args 0++kx args 1000000,hp:=qc (nf H) H,nx:=wN (nf H) }
def rdG (fi:FI) (H:ae) (args:List V):Option (HP fi.ins.tys) :=
 bif Nat.ble args.length fi.fn.ntmps&&(V.refss args).all (fun o=>mm o (nf H))&&Qi (nf H) H then y9 fi.ins (Rl fi.fn.ntmps H args) else none
def hU (args:List V):List (Nat × Cd)→qA
 | []=>[]
 | (t, .k (.ptr q k i j)) :: r=>bif Nat.ble 1000000 t then (match args[t - 1000000]? with | some (.ptr o _ _ _)=>(q,o,true) :: hU args r | _=>hU args r) else hU args r
 | (t, .k (.row q k)) :: r=>bif Nat.ble 1000000 t then (match args[t - 1000000]? with | some (.row o _)=>(q,o,false) :: hU args r | _=>hU args r) else hU args r
 | (t, .k (.fn g [.ptr q k i j])) :: r=>bif Nat.ble 1000000 t&&Nat.beq g 2000000000 then (match args[t - 1000000]? with | some (.fn g' [.ptr o _ _ _])=>bif Nat.beq g' 2000000000 then (q,o,true) :: hU args r else hU args r | _=>hU args r) else hU args r
 | _ :: r=>hU args r
def qV:Option Od→Bool
 | some (.box _)=>true
 | some (.map ..)=>true
 | _=>false
def FN:Option Ob→Bool
 | some (.row ..)=>false
 | none=>false
 | _=>true
def IV (T:Tm) (H:ae) (bk:qA):Bool:=Nat.ble T.ob.length 8&&(iF (T.sl.map (·.1))&&(DO bk&&bk.all fun x=>mm x.2.1 (nf H)&&(Nat.blt x.1 T.ob.length&&(!x.2.2||(qV T.ob[x.1]?&&FN (ae.get H x.2.1))))))
def jI {R:Type} (T:Tm) (xs:List TV) (H:ae) (nid:Nat) (args:List V) (k:aF→Option R):Option R :=
 match ax (Cf T xs).tm RS with
 | some ⟨_, .tup [v]⟩=>bif IV T H (hU args T.sl) then k (HM nid (nf H) (hU args T.sl) (Cf T xs).hp v) else none
 | _=>none
def ki {R:Type} (o:dA) (y:HP o.tys) (H:ae) (nid:Nat) (args:List V) (k:aF→Option R):Option R :=
 match o,y with
 | .gen T,y=>jI T (dZ T.tys y) H nid args k
 | .gen2 T T',y=>(match dZ (.b :: (T.tys++T'.tys)) y with
  | ⟨.b,t⟩ :: xs=>bif t then jI T xs H nid args k else jI T' (xs.drop T.tys.length) H nid args k
  | _=>none)
 | _,_=>none
def jS {R:Type} (X:XT) (H:ae) (nid:Nat) (args:List V) (k:aF→Option R):List FI→Option R
 | []=>none
 | fi :: r=>match rdG fi H args with
  | some a=>(X fi a).bind fun y=>ki fi.out y H nid args k
  | none=>jS X H nid args k r
def Lj (T:Tm) (σ:St):Option (List V) :=
 let τ:=xD T σ
 let ts:=T.sl.map (·.1)
 bif pE ts τ then
  let τ':=canonN ts τ
  bif Nat.ble τ'.nx T.ob.length then (match yp τ'.tm T.sl,Aa τ'.hp 0 T.ob with
   | some a,some b=>(match lz T.tys (a++b) with | some _=>some (a++b) | none=>none)
   | _,_=>none) else none
 else none
def LR (ts:List Ty):List V:=ts.map fun t=>encV t t.z
def dA.rdG:(o:dA)→St→V→Option (HP o.tys)
 | .gen T,σ,v=>y9 T { σ with tm:=(RS,⟨[], .tup [v]⟩) :: σ.tm }
 | .gen2 T T',σ,v=>match Lj T { σ with tm:=(RS,⟨[], .tup [v]⟩) :: σ.tm } with
  | some us=>lz (.b :: (T.tys++T'.tys)) (bl true :: (us++LR T'.tys))
  | none=>(match Lj T' { σ with tm:=(RS,⟨[], .tup [v]⟩) :: σ.tm } with
   | some us=>lz (.b :: (T.tys++T'.tys)) (bl false :: (LR T.tys++us))
   | none=>none)
 | _,_,_=>none
theorem JM {H:ae}:∀ (cs:List Od) (i:Nat) (us us2:List V) (xs:List TV),Aa H i cs = some us→RV (us++us2) xs→tW H (lh i cs xs)
 | [],i,us,us2,xs,h,hr=>by rw [lh];trivial
 | c :: cs,i,us,us2,xs,h,hr=>by
  rw [Aa] at h
  split at h
  ·next b hg =>
   split at h
   ·next a b' ha hb =>
    cases h
    rw [List.append_assoc] at hr
    obtain ⟨h1,h2⟩:=LH c b a (b'++us2) xs ha hr
    show tW H ((i,some _) :: _)
    rw [tW,hg]
    exact ⟨h1,JM cs (i+1) b' us2 _ hb h2⟩
   ·cases h
  ·cases h
theorem Lq {T:Tm} {σ:St} {us us2:List V} {xs:List TV} (h:Lj T σ = some us) (hr:RV (us++us2) xs):dD σ (Cf T xs):=by
 unfold Lj at h
 simp only at h
 cases hc:pE (T.sl.map (·.1)) (xD T σ) with
 | false=>rw [hc] at h;cases h
 | true =>
  rw [hc,cond_true] at h
  cases hb:Nat.ble (canonN (T.sl.map (·.1)) (xD T σ)).nx T.ob.length with
  | false=>rw [hb] at h;cases h
  | true =>
   rw [hb,cond_true] at h
   split at h
   ·next a b ha hb' =>
    split at h
    ·cases h
     rw [List.append_assoc] at hr
     obtain ⟨h1,h2⟩:=ET T.sl a (b++us2) xs ha hr
     exact ((GV T σ).trans (dD.canonN _ hc)).trans (.le ⟨h1,JM T.ob 0 b us2 _ hb' h2,Nat.ble_eq.mp hb⟩)
    ·cases h
   ·cases h
theorem Lo:∀ {us us2:List V} {xs:List TV},RV (us++us2) xs→RV us2 (xs.drop us.length)
 | [],us2,xs,h=>h
 | u :: us,us2,x :: xs,h=>Lo (us:=us) h.2
 | u :: us,us2,[],h=>h.elim
theorem Q8 {b:Bool} {x:TV} (h:VLe (bl b) x.v):x = ⟨.b,b⟩:=by
 obtain ⟨t,x⟩:=x
 match t,x,h with
 | .b,x,h1 =>
  change VLe (.c (.lit (.bool b))) (.c (.lit (.bool x))) at h1
  rw [VLe] at h1
  cases h1
  rfl
 | .st k,x,h1=>change VLe (.c (.lit (.bool b))) (.agg _) at h1;simp [VLe] at h1
 | .arr n t,x,h1=>change VLe (.c (.lit (.bool b))) (.agg _) at h1;simp [VLe] at h1
 | .i k,x,h1=>change VLe (.c (.lit (.bool b))) (.c (.lit (.int k x))) at h1;rw [VLe] at h1;cases h1
 | .ls t,x,h1=>change VLe (.c (.lit (.bool b))) (.c (.sl t x)) at h1;rw [VLe] at h1;cases h1
 | .s,x,h1=>change VLe (.c (.lit (.bool b))) (.c (.lit (.string x))) at h1;rw [VLe] at h1;cases h1
theorem P2 {R:Type} (T:Tm) (y:HP T.tys) (H:ae) (nid:Nat) (args:List V) (k:aF→Option R):ki (.gen T) y H nid args k = jI T (dZ T.tys y) H nid args k:=rfl
theorem Q2 (T:Tm) (σ:St) (v:V):dA.rdG (.gen T) σ v = y9 T { σ with tm:=(RS,⟨[], .tup [v]⟩) :: σ.tm }:=rfl
theorem O6 {T:Tm} {σ:St} {x:HP T.tys} (h:y9 T σ = some x):dD σ (Cf T (dZ T.tys x)):=sX h
theorem H1 {R:Type} (T T':Tm) (y:HP (.b :: (T.tys++T'.tys))) {t:Bool} {xs:List TV} (hx:dZ (.b :: (T.tys++T'.tys)) y = (⟨.b,t⟩:TV) :: xs) (H:ae) (nid:Nat) (args:List V) (k:aF→Option R) :
  ki (.gen2 T T') y H nid args k = bif t then jI T xs H nid args k else jI T' (xs.drop T.tys.length) H nid args k:=by
 show (match dZ (.b :: (T.tys++T'.tys)) y with | ⟨.b,t⟩ :: xs=>bif t then jI T xs H nid args k else jI T' (xs.drop T.tys.length) H nid args k | _=>none) = _
 rw [hx]
theorem Pu (T T':Tm) (σ:St) (v:V):dA.rdG (.gen2 T T') σ v = match Lj T { σ with tm:=(RS,⟨[], .tup [v]⟩) :: σ.tm } with
  | some us=>lz (.b :: (T.tys++T'.tys)) (bl true :: (us++LR T'.tys))
  | none=>(match Lj T' { σ with tm:=(RS,⟨[], .tup [v]⟩) :: σ.tm } with
   | some us=>lz (.b :: (T.tys++T'.tys)) (bl false :: (LR T.tys++us))
   | none=>none):=rfl
theorem Qy {T T':Tm} {σ:St} {v:V} {y:HP (dA.gen2 T T').tys} (h:(dA.gen2 T T').rdG σ v = some y):∃ (T0:Tm) (xs:List TV),dD { σ with tm:=(RS,⟨[], .tup [v]⟩) :: σ.tm } (Cf T0 xs) ∧
  ∀ {R:Type} (H:ae) (nid:Nat) (args:List V) (k:aF→Option R),ki (.gen2 T T') y H nid args k = jI T0 xs H nid args k:=by
 rw [Pu] at h
 have key:∀ (b:Bool) (us:List V),lz (.b :: (T.tys++T'.tys)) (bl b :: us) = some y→∃ xs,dZ (.b :: (T.tys++T'.tys)) y = (⟨.b,b⟩:TV) :: xs∧RV us xs:=by
  intro b us hh
  have hr:=tT _ _ _ hh
  revert hr
  generalize dZ (.b :: (T.tys++T'.tys)) y = l
  intro hr
  match l,hr with
  | [],hr=>exact hr.elim
  | x :: xs,hr=>exact ⟨xs,by rw [Q8 hr.1],hr.2⟩
 split at h
 ·next us hu =>
  obtain ⟨xs,hx,hr⟩:=key _ _ h
  exact ⟨T,xs,Lq hu hr,fun H nid args k=>by rw [H1 T T' y hx,cond_true]⟩
 ·split at h
  ·next us hu =>
   obtain ⟨xs,hx,hr⟩:=key _ _ h
   have h2:=Lo hr
   have e:(LR T.tys).length = T.tys.length:=by simp [LR]
   rw [e] at h2
   exact ⟨T',xs.drop T.tys.length,Lq (us2:=[]) hu (by rw [List.append_nil];exact h2),fun H nid args k=>by rw [H1 T T' y hx,cond_false]⟩
  ·cases h
theorem RJ {o:dA} {σ:St} {v:V} {y:HP o.tys} (h:o.rdG σ v = some y):∃ (T:Tm) (xs:List TV),dD { σ with tm:=(RS,⟨[], .tup [v]⟩) :: σ.tm } (Cf T xs) ∧
  ∀ {R:Type} (H:ae) (nid:Nat) (args:List V) (k:aF→Option R),ki o y H nid args k = jI T xs H nid args k:=by
 cases o with
 | gen T =>
  rw [Q2] at h
  exact ⟨T,dZ T.tys y,O6 h,fun H nid args k=>P2 T y H nid args k⟩
 | gen2 T T'=>exact @Qy T T' σ v y h
 | data c =>
  have h:(none:Option (HP (dA.data c).tys)) = some y:=h
  cases h
 | new c =>
  have h:(none:Option (HP (dA.new c).tys)) = some y:=h
  cases h
 | own fr e t =>
  have h:(none:Option (HP (dA.own fr e t).tys)) = some y:=h
  cases h
inductive Sp where
  | none
  | hand (fi:FI) (h:XT→HP fi.ins.tys→Option (HP fi.out.tys))
  | mut (m:XT→ae→Nat→List V→Option aF)
structure jZ where
  P:Program
  fs:List (FuncId × List FI)
  sp:FuncId→Sp
def Ev:List FI→Bool
 | fi :: _=>fi.out.isGen
 | []=>false
def mL {R:Type} (fi:FI) (h:HP fi.ins.tys→Option (HP fi.out.tys)) (H:ae) (nid:Nat) (args:List V) (k:aF→Option R):Option R:=match rdG fi H args with
 | some a=>(h a).bind fun y=>ki fi.out y H nid args k
 | none=>none
def mI {R:Type} (fi:FI) (h:HP fi.ins.tys→Option (HP fi.out.tys)) (vs:List V) (k:j8→Option R):Option R:=match zm fi vs with
 | some a=>(h a).bind fun y=>k (fi.out.out y)
 | none=>none
def fw (Tb:jZ) (X:XT) (f:FuncId):CC:=match cT Tb.fs f with
 | some l=>bif Ev l then .mut fun H nid args=>jS X H nid args some l else .pure fun vs=>(ip X vs some l).map fun o=>(true,o)
 | none=>match Tb.sp f with
  | .hand fi h=>bif fi.out.isGen then .mut fun H nid args=>mL fi (h X) H nid args some else .pure fun vs=>(mI fi (h X) vs some).map fun o=>(true,o)
  | .mut m=>.mut (m X)
  | .none=>.pure fun _=>none
theorem Ec {R:Type} (X:XT) (vs:List V) (k:j8→Option R):∀ l:List FI,ip X vs k l = (ip X vs some l).bind k
 | []=>rfl
 | fi :: r=>by
  unfold ip
  split
  ·next a ha=>cases X fi a <;> rfl
  ·exact Ec X vs k r
theorem Gp {R:Type} (T:Tm) (xs:List TV) (H:ae) (nid:Nat) (args:List V) (k:aF→Option R):jI T xs H nid args k = (jI T xs H nid args some).bind k:=by
 unfold jI
 split
 ·cases IV T H (hU args T.sl) <;> rfl
 ·rfl
theorem F4 {R:Type} (o:dA) (y:HP o.tys) (H:ae) (nid:Nat) (args:List V) (k:aF→Option R):ki o y H nid args k = (ki o y H nid args some).bind k:=by
 unfold ki
 split
 ·exact Gp ..
 ·split
  ·next t xs _=>cases t <;> exact Gp ..
  ·rfl
 ·rfl
theorem DY {R:Type} (X:XT) (H:ae) (nid:Nat) (args:List V) (k:aF→Option R):∀ l:List FI,jS X H nid args k l = (jS X H nid args some l).bind k
 | []=>rfl
 | fi :: r=>by
  unfold jS
  split
  ·next a ha =>
   cases X fi a with
   | none=>rfl
   | some y=>rw [Option.bind_some,Option.bind_some];exact F4 ..
  ·exact DY X H nid args k r
def gb {α:Type} (b:Bool) (o:Option α):Option α:=bif b then o else none
def gL {α:Type}:List Bool→Option α→Option α
 | [],o=>o
 | b :: r,o=>gb b (gL r o)
theorem sV {α:Type} {o:Option α} {y:α}:∀ {l:List Bool},gL l o = some y→(∀ b∈l,b = true)∧o = some y
 | [],h=>⟨fun b hb=>by simp at hb,h⟩
 | b :: l,h=>by
  unfold gL gb at h
  cases b with
  | false=>cases h
  | true =>
   obtain ⟨h1,h2⟩:=sV (l:=l) h
   exact ⟨fun c hc=>by rcases List.mem_cons.1 hc with rfl | hc;rfl;exact h1 c hc,h2⟩
def fx.bools:{ps:List Prop}→fx ps→List Bool
 | _, .nil=>[]
 | _, .cons (p:=p) d r=>@aa p d :: r.bools
def Kf (tm:List (Nat × aD)) (ch:aP) (bs:List Bool):List Bool:=match ch with
 | []=>bs
 | ch=>bs.map fun b=>!(holds tm ch)||b
theorem uX:∀ {ps:List Prop} (d:fx ps),(∀ b∈d.bools,b = true)→∀ p∈ps,p
 | _, .nil,_,p,hp=>by simp at hp
 | _, .cons d r,h,p,hp=>by
  rcases List.mem_cons.1 hp with rfl | hp
  ·exact of_decide_eq_true (h _ (by simp [fx.bools]))
  ·exact uX r (fun b hb=>h b (by simp [fx.bools,hb])) p hp
theorem F6 {c:Prop} {b:Bool} (hb:b = true↔c):∀ {ps:List Prop} (d:fx ps),(∀ x∈d.bools.map (fun y=>!b||y),x = true)→∀ p∈ps,c→p
 | _, .nil,_,p,hp=>by simp at hp
 | _, .cons d r,h,p,hp=>by
  intro hc
  rcases List.mem_cons.1 hp with rfl | hp
  ·have:=h (!b||@decide _ d) (by simp [fx.bools])
   rw [hb.2 hc] at this
   exact of_decide_eq_true (by simpa using this)
  ·exact F6 hb r (fun x hx=>h x (by simp only [fx.bools,List.map_cons,List.mem_cons];exact .inr hx)) p hp hc
theorem N2 {tm:List (Nat × aD)} {ch:aP} {ps:List Prop} (d:fx ps) (h:∀ b∈Kf tm ch d.bools,b = true):∀ p∈mZ tm ch ps,p:=by
 unfold Kf mZ at *
 cases ch with
 | nil=>exact uX d h
 | cons x l =>
  intro p hp
  simp only [List.mem_map] at hp
  obtain ⟨q,hq,rfl⟩:=hp
  exact F6 Iff.rfl d h q hq
def ti (nid:Nat) (args:List V):j8→Option aF
 | .data v=>bif (!gE args)||v.scalar then some { pre:=[true = true],val:=v } else none
 | .new v=>some { pre:=[true = true],val:=v }
 | .own fr e t l=>bif (!gE args)||fr then some { pre:=[true = true],val:=.row nid t.k,eff:=[(nid,some (.row e t l))] } else none
def sD (H:ae) (nid:Nat) (args:List V) (out:j8):Option aF:=match ti nid args out with
 | some r=>some r
 | none=>bif V.noPs args then j5 (fun _ vs=>ti nid vs out) (V.refss args) H args else none
theorem NW {o:Nat} {e:TypeId} {t:Ty} (H:ae) {q:Nat} (h:q≠o):ae.get ((o,some (.row e t [])) :: eI [o] H) q = mt o (ae.get H q):=by
 rw [ae.get_cons,if_neg (Ne.symm h),fh]
mutual
theorem view_fz {o:Nat} {e:TypeId} {t:Ty} {l:List t.T} {H:ae} (hg:H.get o = some (.row e t l)):∀ v:V,v.noP = true→(V.fz o t l v).view ((o,some (.row e t [])) :: eI [o] H) = v.view H
 | .c d,_=>rfl
 | .agg vs,hn=>by rw [V.fz,V.view,V.view,views_fz hg vs (by simpa [V.noP] using hn)]
 | .tup vs,hn=>by rw [V.fz,V.view,V.view,views_fz hg vs (by simpa [V.noP] using hn)]
 | .ptr ..,hn=>by simp [V.noP] at hn
 | .row o' k,_=>by
  rw [V.fz]
  cases hb:Nat.beq o' o with
  | true =>
   have:=Nat.eq_of_beq_eq_true hb
   subst this
   rw [cond_true,V.view,tr,hg]
   simp only
   cases Nat.beq t.k k <;> rfl
  | false =>
   have hne:o'≠o:=fun h=>by subst h;simp at hb
   rw [cond_false,V.view,V.view,tr,tr,NW H hne]
   cases ae.get H o' with
   | none=>rfl
   | some b=>cases b <;> rfl
 | .sub o' k off n,_=>by
  rw [V.fz]
  cases hb:Nat.beq o' o with
  | true =>
   have:=Nat.eq_of_beq_eq_true hb
   subst this
   rw [cond_true,V.view,tn,hg]
   simp only
   cases Nat.beq t.k k <;> rfl
  | false =>
   have hne:o'≠o:=fun h=>by subst h;simp at hb
   rw [cond_false,V.view,V.view,tn,tn,NW H hne]
   cases ae.get H o' with
   | none=>rfl
   | some b=>cases b <;> rfl
 | .dptr ..,_=>rfl
 | .fn f vs,hn=>by rw [V.fz,V.view,V.view,views_fz hg vs (by simpa [V.noP] using hn)]
theorem views_fz {o:Nat} {e:TypeId} {t:Ty} {l:List t.T} {H:ae} (hg:H.get o = some (.row e t l)):∀ vs:List V,V.noPs vs = true→V.views ((o,some (.row e t [])) :: eI [o] H) (V.fzs o t l vs) = V.views H vs
 | [],_=>rfl
 | v :: r,hn=>by
  rw [V.noPs,Bool.and_eq_true] at hn
  rw [V.fzs,V.views,V.views,view_fz hg v hn.1,views_fz hg r hn.2]
end
mutual
theorem noP_fz (o:Nat) (t:Ty) (l:List t.T):∀ v:V,v.noP = true→(V.fz o t l v).noP = true
 | .c d,_=>rfl
 | .agg vs,hn=>by rw [V.fz,V.noP];exact noPs_fz o t l vs (by simpa [V.noP] using hn)
 | .tup vs,hn=>by rw [V.fz,V.noP];exact noPs_fz o t l vs (by simpa [V.noP] using hn)
 | .ptr ..,hn=>by simp [V.noP] at hn
 | .row o' k,_=>by
  rw [V.fz]
  cases Nat.beq o' o with
  | false=>rfl
  | true=>rw [cond_true];cases Nat.beq t.k k <;> rfl
 | .sub o' k off n,_=>by
  rw [V.fz]
  cases Nat.beq o' o with
  | false=>rfl
  | true=>rw [cond_true];cases Nat.beq t.k k <;> rfl
 | .dptr ..,_=>rfl
 | .fn f vs,hn=>by rw [V.fz,V.noP];exact noPs_fz o t l vs (by simpa [V.noP] using hn)
theorem noPs_fz (o:Nat) (t:Ty) (l:List t.T):∀ vs:List V,V.noPs vs = true→V.noPs (V.fzs o t l vs) = true
 | [],_=>rfl
 | v :: r,hn=>by
  rw [V.noPs,Bool.and_eq_true] at hn
  rw [V.fzs,V.noPs,noP_fz o t l v hn.1,noPs_fz o t l r hn.2];rfl
end
theorem BE {C:FuncId→Option CC} {H:ae} {nid:Nat} {f:FuncId} {args:List V} {con:LK} {out:j8} (hc:C f = some (.pure con)) (ho:con (V.views H args) = some (true,out)):jn C H nid f args = ti nid args out:=by
 unfold jn
 rw [hc]
 simp only [ho]
 cases out <;> rfl
theorem Kp {C:FuncId→Option CC} {nid:Nat} {f:FuncId} {con:LK} {out:j8} (hc:C f = some (.pure con)):∀ (fl:List Nat) (H:ae) (args:List V),V.noPs args = true→con (V.views H args) = some (true,out) →
  j5 (rX C f nid) fl H args = j5 (fun _ vs=>ti nid vs out) fl H args
 | [],H,args,hn,ho=>by
  rw [j5,j5]
  unfold rX
  rw [hn,cond_true,hc]
  simp only
  exact BE hc ho
 | q :: fl,H,args,hn,ho=>by
  rw [j5,j5]
  split
  ·next e t l hg =>
   rw [Kp hc fl _ _ (noPs_fz q t l args hn) (by rw [views_fz hg args hn];exact ho)]
  ·rfl
theorem Ih {C:FuncId→Option CC} {H:ae} {nid:Nat} {f:FuncId} {args:List V} {con:LK} {out:j8} {r:aF} (hc:C f = some (.pure con)) (ho:con (V.views H args) = some (true,out)) (h:sD H nid args out = some r):qg C H nid f args = some r:=by
 unfold qg
 rw [BE hc ho]
 unfold sD at h
 split at h
 ·next r' hr=>rw [hr];exact h
 ·next hr =>
  rw [hr]
  cases hn:V.noPs args with
  | false=>rw [hn] at h;cases h
  | true =>
   rw [hn,cond_true] at h
   simp only
   rw [Kp hc _ _ _ hn ho]
   exact h
theorem Lk {f:ae→List V→Option aF} {P0:List Prop→Prop} (hf:∀ H vs r,f H vs = some r→P0 r.pre):∀ (fl:List Nat) (H:ae) (vs:List V) (r:aF),j5 f fl H vs = some r→P0 r.pre
 | [],H,vs,r,h=>hf H vs r h
 | q :: fl,H,vs,r,h=>by
  rw [j5] at h
  split at h
  ·next e t l hg =>
   cases hb:j5 f fl ((q,some (.row e t [])) :: eI [q] H) (V.fzs q t l vs) with
   | none=>rw [hb] at h;cases h
   | some r0=>rw [hb] at h;cases h;exact Lk hf fl _ _ r0 hb
  ·cases h
theorem D4 {nid:Nat} {args:List V} {out:j8} {r:aF} (hr:ti nid args out = some r):r.pre = [true = true]:=by
 cases out with
 | data v =>
  simp only [ti] at hr
  cases hq:((!gE args)||v.scalar) <;> rw [hq] at hr <;> cases hr
  rfl
 | new v=>cases hr;rfl
 | own fr e t l =>
  simp only [ti] at hr
  cases hq:((!gE args)||fr) <;> rw [hq] at hr <;> cases hr
  rfl
theorem GJ {H:ae} {nid:Nat} {args:List V} {out:j8} {r:aF} (h:sD H nid args out = some r):r.pre = [true = true]:=by
 unfold sD at h
 split at h
 ·next r' hr=>cases h;exact D4 hr
 ·cases hn:V.noPs args with
  | false=>rw [hn] at h;cases h
  | true=>rw [hn,cond_true] at h;exact Lk (P0:=fun ps=>ps = [true = true]) (fun _ _ _ h=>D4 h) _ _ _ _ h
def Mo {R:Type} (X:XT) (l:List FI) (H:ae) (nid:Nat) (args:List V) (k:aF→Option R):Option R :=
 bif Ev l then jS X (bE (aX H args) H) nid args k l
 else ip X (V.views H args) (fun out=>match sD H nid args out with | some r=>k r | none=>none) l
def AB {R:Type} (Tb:jZ) (X:XT) (f:FuncId) (H:ae) (nid:Nat) (args:List V) (k:aF→Option R):Option R :=
 match cT Tb.fs f with
 | some l=>Mo X l H nid args k
 | none=>match Tb.sp f with
  | .hand fi h=>bif fi.out.isGen then mL fi (h X) (bE (aX H args) H) nid args k else mI fi (h X) (V.views H args) fun out=>match sD H nid args out with | some r=>k r | none=>none
  | .mut m=>(m X (bE (aX H args) H) nid args).bind fun r=>gL r.dec.bools (k r)
  | .none=>none
theorem zL {C:FuncId→Option CC} {H:ae} {nid:Nat} {f:FuncId} {args:List V} {m:ae→Nat→List V→Option aF} {r:aF} (hc:C f = some (.mut m)) (hm:m (bE (aX H args) H) nid args = some r):qg C H nid f args = some r:=by
 have h0:jn C H nid f args = some r:=by
  unfold jn
  rw [hc]
  exact hm
 unfold qg
 rw [h0]
theorem yi {T:Tm} {xs:List TV} {H:ae} {nid:Nat} {args:List V} {r:aF} (h:jI T xs H nid args some = some r):r.pre = [true = true]:=by
 unfold jI at h
 split at h
 ·cases hb:IV T H (hU args T.sl) with
  | false=>rw [hb] at h;cases h
  | true=>rw [hb] at h;cases h;rfl
 ·cases h
theorem GH {X:XT} {H:ae} {nid:Nat} {args:List V} {r:aF}:∀ {l:List FI},jS X H nid args some l = some r→r.pre = [true = true]
 | [],h=>by cases h
 | fi :: l,h=>by
  unfold jS at h
  split at h
  ·rw [Option.bind_eq_some_iff] at h
   obtain ⟨y,_,h⟩:=h
   unfold ki at h
   split at h
   ·exact yi h
   ·split at h
    ·next t xs _=>cases t <;> exact yi h
    ·cases h
   ·cases h
  ·exact GH h
theorem Mh {R:Type} (fi:FI) (h:HP fi.ins.tys→Option (HP fi.out.tys)) (H:ae) (nid:Nat) (args:List V) (k:aF→Option R):mL fi h H nid args k = (mL fi h H nid args some).bind k:=by
 unfold mL
 split
 ·next a _ =>
  cases h a with
  | none=>rfl
  | some y=>rw [Option.bind_some,Option.bind_some];exact F4 ..
 ·rfl
theorem Nh {R:Type} (fi:FI) (h:HP fi.ins.tys→Option (HP fi.out.tys)) (vs:List V) (k:j8→Option R):mI fi h vs k = (mI fi h vs some).bind k:=by
 unfold mI
 split
 ·next a _=>cases h a <;> rfl
 ·rfl
theorem PV {o:dA} {y:HP o.tys} {H:ae} {nid:Nat} {args:List V} {r:aF} (h:ki o y H nid args some = some r):r.pre = [true = true]:=by
 unfold ki at h
 split at h
 ·exact yi h
 ·split at h
  ·next t xs _=>cases t <;> exact yi h
  ·cases h
 ·cases h
theorem On {fi:FI} {h:HP fi.ins.tys→Option (HP fi.out.tys)} {H:ae} {nid:Nat} {args:List V} {r:aF} (hh:mL fi h H nid args some = some r):r.pre = [true = true]:=by
 unfold mL at hh
 split at hh
 ·rw [Option.bind_eq_some_iff] at hh
  obtain ⟨y,_,hh⟩:=hh
  exact PV hh
 ·cases hh
theorem L6 {R:Type} {Tb:jZ} {X:XT} {f:FuncId} {H:ae} {nid:Nat} {args:List V} {k:aF→Option R} {y:R} (h:AB Tb X f H nid args k = some y) :
  ∃ r,k r = some y∧(∀ p∈r.pre,p)∧∀ C:FuncId→Option CC,C f = some (fw Tb X f)→qg C H nid f args = some r:=by
 have one:∀ {ps:List Prop},ps = [true = true]→∀ p∈ps,p:=fun e p hp=>by subst e;rw [List.mem_singleton] at hp;subst hp;rfl
 unfold AB at h
 split at h
 ·next l hl =>
  unfold Mo at h
  cases hg:Ev l with
  | true =>
   rw [hg,cond_true,DY,Option.bind_eq_some_iff] at h
   obtain ⟨r,h1,h2⟩:=h
   refine ⟨r,h2,one (GH h1),fun C hC=>zL (m:=fun H nid args=>jS X H nid args some l) (by rw [hC];unfold fw;rw [hl];simp only [hg,cond_true]) h1⟩
  | false =>
   rw [hg,cond_false,Ec,Option.bind_eq_some_iff] at h
   obtain ⟨out,h1,h2⟩:=h
   split at h2
   ·next r hr=>exact ⟨r,h2,one (GJ hr),fun C hC=>Ih (con:=fun vs=>(ip X vs some l).map fun o=>(true,o)) (by rw [hC];unfold fw;rw [hl];simp only [hg,cond_false]) (by simp only [h1,Option.map_some]) hr⟩
   ·cases h2
 ·next hl =>
  split at h
  ·next fi hd hc =>
   cases hg:fi.out.isGen with
   | true =>
    rw [hg,cond_true,Mh,Option.bind_eq_some_iff] at h
    obtain ⟨r,h1,h2⟩:=h
    exact ⟨r,h2,one (On h1),fun C hC=>zL (m:=fun H nid args=>mL fi (hd X) H nid args some) (by rw [hC];unfold fw;rw [hl];simp only [hc,hg,cond_true]) h1⟩
   | false =>
    rw [hg,cond_false,Nh,Option.bind_eq_some_iff] at h
    obtain ⟨out,h1,h2⟩:=h
    split at h2
    ·next r hr=>exact ⟨r,h2,one (GJ hr),fun C hC=>Ih (con:=fun vs=>(mI fi (hd X) vs some).map fun o=>(true,o)) (by rw [hC];unfold fw;rw [hl];simp only [hc,hg,cond_false]) (by simp only [h1,Option.map_some]) hr⟩
    ·cases h2
  ·next m hm =>
   rw [Option.bind_eq_some_iff] at h
   obtain ⟨r,h1,h2⟩:=h
   obtain ⟨h3,h4⟩:=sV h2
   exact ⟨r,h4,uX _ h3,fun C hC=>zL (m:=m X) (by rw [hC];unfold fw;rw [hl];simp only [hm]) h1⟩
  ·cases h
def Je (o:Oper) (vs:List V):Option (FuncId × List V):=match o.op,vs with
 | .call { callee:=.value _, .. }, .fn f caps :: vs=>bif Nat.blt f 1000000000 then some (f,vs++caps) else none
 | _,_=>none
def p7 (o:Oper):Bool:=match o.op with
 | .call { callee:=.value _, .. }=>true
 | _=>false
def RO (o:Oper) (σ:St) (ch:aP) (nid:Nat) (vs:List V) (r:aF):bI:={ dst:=o.dst,rds:=lv (dK o.op)++ch.map (·.1),ch,nid,vs,reach:=aX σ.hp (lk o vs),rws:=nw σ.hp (lk o vs),res:=r }
def J0:List (Nat × aD)→Nat→aD→List (Nat × aD)
 | [],_,_=>[]
 | (t',s') :: r,t,s=>bif Nat.beq t' t then (t',s) :: r else (t',s') :: J0 r t s
theorem zq:∀ {tm:List (Nat × aD)} {t:Nat} {s:aD},ax tm t = some s→J0 tm t s = tm
 | [],t,s,h=>rfl
 | (t',s') :: r,t,s,h=>by
  unfold J0
  unfold ax at h
  cases hb:Nat.beq t' t with
  | true=>rw [hb] at h;cases h;rfl
  | false=>rw [hb,cond_false] at h;rw [cond_false,zq h]
def nC {R:Type}:aP→St→(St→Option R)→Option R
 | [],σ,k=>k σ
 | (t,_) :: r,σ,k=>match ax σ.tm t with
  | some ⟨c0, .c (.lit (.bool b))⟩=>bif b then nC r { σ with tm:=J0 σ.tm t ⟨c0,bl true⟩ } k else nC r { σ with tm:=J0 σ.tm t ⟨c0,bl false⟩ } k
  | _=>none
theorem td {R:Type} {y:R}:∀ {ch:aP} {σ:St} {k:St→Option R},nC ch σ k = some y→k σ = some y
 | [],σ,k,h=>h
 | (t,w) :: r,σ,k,h=>by
  unfold nC at h
  split at h
  ·next c0 b hg =>
   cases b with
   | true =>
    rw [cond_true,zq hg] at h
    exact td h
   | false =>
    rw [cond_false,zq hg] at h
    exact td h
  ·cases h
section
variable {R:Type} (Tb:jZ) (X:XT) (N:Nat) (all:List Oper)
def GT (σ:St) (nid:Nat) (o:Oper) (k:St→bI→Option R):Option R :=
 bif p7 o then
  (bif ij N o.dst then
   match cU all σ.tm o.guard with
   | some ch =>
    bif ch.all fun x=>dR σ.tm ch x.1 then
     nC ch σ fun σ =>
      bif holds σ.tm ch then (match k7 σ ch (dK o.op) with
       | some vs=>(match Je o vs with
        | some (f,args)=>AB Tb X f σ.hp nid args fun r=>bif ch.isEmpty||ik o.dst ch then k σ (RO o σ ch nid vs r) else none
        | none=>none)
       | none=>none)
      else bif ik o.dst ch then k σ (P9 Tb.P o ch nid) else none
    else none
   | none=>none
  else none)
 else match nT Tb.P (fun _=>none) N all σ nid o with
  | some rc=>gL (Kf σ.tm rc.ch rc.res.dec.bools) (k σ rc)
  | none=>none
end
theorem Pi {P:Program} {C:FuncId→Option CC} {H:ae} {nid:Nat} {o:Oper} {vs:List V} {f:FuncId} {args:List V} (h:Je o vs = some (f,args)):rU P C H nid o vs = qg C H nid f args:=by
 unfold Je at h
 split at h
 ·next g caps vs' ho =>
  cases hb:Nat.blt g 1000000000 with
  | false=>rw [hb] at h;cases h
  | true =>
   rw [hb] at h;cases h
   unfold rU
   rw [ho]
   simp only [hb,cond_true]
 ·cases h
theorem KR {P:Program} {C:FuncId→Option CC} {σ:St} {nid:Nat} {ch:aP} {o:Oper} (ho:p7 o = true) {vs:List V} (hv:k7 σ ch (dK o.op) = some vs) {r:aF} (hr:rU P C σ.hp nid o vs = some r):lB P C σ nid ch o = some (vs,r):=by
 unfold p7 at ho
 split at ho
 ·next f args ats hop =>
  unfold lB
  rw [hop] at hv ⊢
  simp only [hv]
  unfold zl
  rw [hr]
  rfl
 ·cases ho
section
variable {R:Type} {Tb:jZ} {X:XT} {N:Nat} {all:List Oper}
theorem QH {P:Program} {C:FuncId→Option CC} {H:ae} {nid:Nat} {o:Oper} {vs:List V} (ho:p7 o = false):rU P (fun _=>none) H nid o vs = rU P C H nid o vs:=by
 unfold rU
 split <;> try rfl
 next hop=>unfold p7 at ho;rw [hop] at ho;cases ho
theorem OE {P:Program} {C:FuncId→Option CC} {σ:St} {nid:Nat} {o:Oper} (ho:p7 o = false):nT P (fun _=>none) N all σ nid o = nT P C N all σ nid o:=by
 have e:∀ ch,lB P (fun _=>none) σ nid ch o = lB P C σ nid ch o:=by
  intro ch
  unfold lB zl
  simp only [QH (C:=C) ho]
 unfold nT tR
 simp only [e]
theorem CD {σ:St} {nid:Nat} {o:Oper} {k:St→bI→Option R} {y:R} (h:GT Tb X N all σ nid o k = some y) :
  ∃ rc,k σ rc = some y∧∀ C:FuncId→Option CC,(∀ f,C f = some (fw Tb X f))→fG Tb.P C N all σ nid o rc∧∀ p∈mZ σ.tm rc.ch rc.res.pre,p:=by
 unfold GT at h
 cases hc:p7 o with
 | false =>
  rw [hc,cond_false] at h
  split at h
  ·next rc hrc =>
   obtain ⟨h1,h2⟩:=sV h
   refine ⟨rc,h2,fun C _=>⟨.of ?_,N2 _ h1⟩⟩
   rw [← OE hc];exact hrc
  ·cases h
 | true =>
  rw [hc,cond_true] at h
  cases hd:ij N o.dst with
  | false=>rw [hd] at h;cases h
  | true =>
   rw [hd,cond_true] at h
   split at h
   ·next ch hch =>
    cases hg:(ch.all fun x=>dR σ.tm ch x.1) with
    | false=>rw [hg] at h;cases h
    | true =>
     rw [hg,cond_true] at h
     have h:=td h
     cases hh:holds σ.tm ch with
     | true =>
      rw [hh,cond_true] at h
      split at h
      ·next vs hvs =>
       split at h
       ·next f args hca =>
        obtain ⟨r,h,hpre,hcv⟩:=L6 h
        cases hx:(ch.isEmpty||ik o.dst ch) with
        | false=>rw [hx] at h;cases h
        | true =>
         rw [hx,cond_true] at h
         refine ⟨_,h,fun C hC=>⟨.inl ⟨?_, .inl hh⟩,fun p hp=>?_⟩⟩
         ·unfold tR
          rw [hd,cond_true,hch]
          simp only [hg,cond_true]
          rw [KR hc hvs ((Pi hca).trans (hcv C (hC f)))]
          simp only [hx,cond_true]
          rfl
         ·have hp':p∈mZ σ.tm ch r.pre:=hp
          unfold mZ at hp'
          split at hp'
          ·exact hpre p hp'
          ·obtain ⟨q,hq,rfl⟩:=List.mem_map.1 hp'
           exact fun _=>hpre q hq
       ·cases h
      ·cases h
     | false =>
      rw [hh,cond_false] at h
      cases hn:ik o.dst ch with
      | false=>rw [hn] at h;cases h
      | true =>
       rw [hn,cond_true] at h
       refine ⟨_,h,fun C _=>⟨.inr ⟨rfl,hd,hch,hg,hn,hh⟩,fun p hp=>?_⟩⟩
       have hp':p∈mZ σ.tm ch []:=hp
       unfold mZ at hp'
       split at hp' <;> simp at hp'
   ·cases h
end
end Go.Ax
