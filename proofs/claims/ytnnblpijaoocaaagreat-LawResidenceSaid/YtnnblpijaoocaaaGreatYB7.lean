import Derived.Test.YtnnblpijaoocaaaGreatYB6g
set_option linter.all false
/- An evaluation of code that can be run: functions as plain functions with an option. -/
namespace Go.Ax
open Go.RowKit
def RS:Nat:=2000000
inductive cD where
  | data (c:Cd)
  | new (c:Cd)
  | own (fr:Bool) (e:TypeId) (t:Ty)
  | gen (T:Tm)
  | gen2 (T T':Tm)
def cD.tys:cD→List Ty
  | .gen T=>T.tys
  | .gen2 T T'=>.b :: (T.tys++T'.tys)
  | .data c=>c.tys
  | .new c=>c.tys
  | .own _ _ t=>[.ls t]
def cD.isGen:cD→Bool
  | .gen _=>true
  | .gen2 _ _=>true
  | _=>false
def cD.out:(o:cD)→HP o.tys→iV
  | .gen _,_=>.data (.c .unk)
  | .gen2 _ _,_=>.data (.c .unk)
  | .data c,x=>.data (filC c (fV c.tys x)).1
  | .new c,x=>.new (filC c (fV c.tys x)).1
  | .own fr e t,x=>.own fr e t x
def cD.rd:(o:cD)→ac→V→Option (HP o.tys)
  | .gen _,_,_=>none
  | .gen2 _ _,_,_=>none
  | .data c,H,v=>match colC c (v.view H) with | some us=>j5 c.tys us | none=>none
  | .new c,H,v=>bif newV H v then (match colC c (v.view H) with | some us=>j5 c.tys us | none=>none) else none
  | .own fr e t,H,v=>match v with
    | .c .nil=>some ([]:List t.T)
    | .row o k=>(match ac.get H o with
      | some (.row e' t' l)=>bif Nat.beq t'.k k&&Nat.beq e e'&&(!fr||t.sc) then km t' t l else none
      | _=>none)
    | _=>none
theorem cD.rd_ok {o:cD} {H:ac} {v:V} {x:HP o.tys} (h:o.rd H v = some x):oU (o.out x) H v:=by
  have key:∀ (c:Cd) (x:HP c.tys),(match colC c (v.view H) with | some us=>j5 c.tys us | none=>none) = some x→VLe (v.view H) (filC c (fV c.tys x)).1:=by
    intro c x h
    split at h
    · next us hu =>
      have hr:=ql _ _ _ h
      exact (colC_le c _ us [] _ hu (by rw [List.append_nil]; exact hr)).1
    · cases h
  cases o with
  | gen T=>cases h
  | gen2 T T'=>cases h
  | data c=>exact key c x h
  | new c =>
    simp only [cD.rd] at h
    cases hn:newV H v with
    | false=>rw [hn] at h; cases h
    | true=>rw [hn] at h; exact ⟨key c x h,hn⟩
  | own fr e t =>
    simp only [cD.rd] at h
    split at h
    · cases h; exact .inl ⟨rfl,rfl⟩
    · next o k =>
      split at h
      · next e' t' l hg =>
        cases hc:(Nat.beq t'.k k&&Nat.beq e e'&&(!fr||t.sc)) with
        | false=>rw [hc] at h; cases h
        | true =>
          rw [hc] at h
          have h:km t' t l = some x:=h
          simp only [Bool.and_eq_true,Nat.beq_eq,Bool.or_eq_true,Bool.not_eq_true'] at hc
          obtain ⟨he,hx⟩:=iA h
          subst he
          obtain ⟨⟨rfl,rfl⟩,h3⟩:=hc
          refine .inr ⟨o,rfl, ?_,fun hf=>?_⟩
          · rw [hg]; have:x = l:=hx; rw [this]
          · rcases h3 with h3 | h3
            · rw [hf] at h3; cases h3
            · exact h3
      · cases h
    · cases h
structure A7 where
  T:Tm
  T':Tm
  f:HP T.tys→Option (HP T'.tys)
structure FI where
  fid:FuncId
  fn:Func
  c:Code
  ins:Tm
  out:cD
  cuts:List (Nat × Tm):=[]
  hd:List (Nat × A7):=[]
abbrev XT:=(fi:FI)→HP fi.ins.tys→Option (HP fi.out.tys)
abbrev JT:=(fi:FI)→(π:Nat)→(T:Tm)→HP T.tys→Option (HP fi.out.tys)
def xx (fi:FI) (vs:List V):Option (HP fi.ins.tys) :=
  bif !fi.out.isGen&&(Nat.beq vs.length fi.ins.sl.length&&fi.ins.ob.isEmpty) then rd fi.ins { tm:=jq vs 0,hp:=[],nx:=0 } else none
def gE {R:Type} (X:XT) (vs:List V) (k:iV→Option R):List FI→Option R
  | []=>none
  | fi :: r=>match xx fi vs with
    | some a=>(X fi a).bind fun y=>k (fi.out.out y)
    | none=>gE X vs k r
def co {α:Type}:List (Nat × α)→Nat→Option α
  | [],_=>none
  | (g,x) :: r,f=>bif Nat.beq g f then some x else co r f
def zU (T:Tm) (xs:List TV):St:=let p:=lV T.sl xs; { tm:=p.1,hp:=jE 0 T.ob p.2,nx:=T.ob.length }
def lu (H:ac):List Nat:=BR [] (H.map (·.1))
def sG:List Nat→Nat
  | []=>0
  | o :: r=>Nat.max (o+1) (sG r)
def ON (os:List Nat) (H:ac):Bool:=os.all fun o=>match ac.get H o with | some b=>Ih os b | none=>true
def Qf (N:Nat) (H:ac) (args:List V):St:={ tm:=jq args 0++jq args 1000000,hp:=nG (lu H) H,nx:=sG (lu H) }
def rdG (fi:FI) (H:ac) (args:List V):Option (HP fi.ins.tys) :=
  bif Nat.ble args.length fi.fn.ntmps&&(V.refss args).all (fun o=>dI o (lu H))&&ON (lu H) H then wC fi.ins (Qf fi.fn.ntmps H args) else none
def jk (args:List V):List (Nat × Cd)→nY
  | []=>[]
  | (t, .k (.ptr q k i j)) :: r=>bif Nat.ble 1000000 t then (match args[t - 1000000]? with | some (.ptr o _ _ _)=>(q,o,true) :: jk args r | _=>jk args r) else jk args r
  | (t, .k (.row q k)) :: r=>bif Nat.ble 1000000 t then (match args[t - 1000000]? with | some (.row o _)=>(q,o,false) :: jk args r | _=>jk args r) else jk args r
  | _ :: r=>jk args r
def s5:Option Od→Bool
  | some (.box _)=>true
  | some (.map ..)=>true
  | _=>false
def CD:Option Ob→Bool
  | some (.row ..)=>false
  | none=>false
  | _=>true
def HB (T:Tm) (H:ac) (bk:nY):Bool:=Nat.ble T.ob.length 8&&(gz (T.sl.map (·.1))&&(B5 bk&&bk.all fun x=>dI x.2.1 (lu H)&&(Nat.blt x.1 T.ob.length&&(!x.2.2||(s5 T.ob[x.1]?&&CD (ac.get H x.2.1))))))
def iM {R:Type} (T:Tm) (xs:List TV) (H:ac) (nid:Nat) (args:List V) (k:au→Option R):Option R :=
  match ap (zU T xs).tm RS with
  | some ⟨_, .tup [v]⟩=>bif HB T H (jk args T.sl) then k (GW nid (lu H) (jk args T.sl) (zU T xs).hp v) else none
  | _=>none
def jj {R:Type} (o:cD) (y:HP o.tys) (H:ac) (nid:Nat) (args:List V) (k:au→Option R):Option R :=
  match o,y with
  | .gen T,y=>iM T (fV T.tys y) H nid args k
  | .gen2 T T',y=>(match fV (.b :: (T.tys++T'.tys)) y with
    | ⟨.b,t⟩ :: xs=>bif t then iM T xs H nid args k else iM T' (xs.drop T.tys.length) H nid args k
    | _=>none)
  | _,_=>none
def iI {R:Type} (X:XT) (H:ac) (nid:Nat) (args:List V) (k:au→Option R):List FI→Option R
  | []=>none
  | fi :: r=>match rdG fi H args with
    | some a=>(X fi a).bind fun y=>jj fi.out y H nid args k
    | none=>iI X H nid args k r
def Jq (T:Tm) (σ:St):Option (List V) :=
  let τ:=tK T σ
  let ts:=T.sl.map (·.1)
  bif jN ts τ then
    let τ':=canonN ts τ
    bif Nat.ble τ'.nx T.ob.length then (match uV τ'.tm T.sl,wW τ'.hp 0 T.ob with
      | some a,some b=>(match j5 T.tys (a++b) with | some _=>some (a++b) | none=>none)
      | _,_=>none) else none
  else none
def JY (ts:List Ty):List V:=ts.map fun t=>encV t t.z
def cD.rdG:(o:cD)→St→V→Option (HP o.tys)
  | .gen T,σ,v=>wC T { σ with tm:=(RS,⟨[], .tup [v]⟩) :: σ.tm }
  | .gen2 T T',σ,v=>match Jq T { σ with tm:=(RS,⟨[], .tup [v]⟩) :: σ.tm } with
    | some us=>j5 (.b :: (T.tys++T'.tys)) (bl true :: (us++JY T'.tys))
    | none=>(match Jq T' { σ with tm:=(RS,⟨[], .tup [v]⟩) :: σ.tm } with
      | some us=>j5 (.b :: (T.tys++T'.tys)) (bl false :: (JY T.tys++us))
      | none=>none)
  | _,_,_=>none
theorem Hj {H:ac}:∀ (cs:List Od) (i:Nat) (us us2:List V) (xs:List TV),wW H i cs = some us→RV (us++us2) xs→pN H (jE i cs xs)
  | [],i,us,us2,xs,h,hr=>by rw [jE]; trivial
  | c :: cs,i,us,us2,xs,h,hr=>by
    rw [wW] at h
    split at h
    · next b hg =>
      split at h
      · next a b' ha hb =>
        cases h
        rw [List.append_assoc] at hr
        obtain ⟨h1,h2⟩:=JJ c b a (b'++us2) xs ha hr
        show pN H ((i,some _) :: _)
        rw [pN,hg]
        exact ⟨h1,Hj cs (i+1) b' us2 _ hb h2⟩
      · cases h
    · cases h
theorem Jt {T:Tm} {σ:St} {us us2:List V} {xs:List TV} (h:Jq T σ = some us) (hr:RV (us++us2) xs):cF σ (zU T xs):=by
  unfold Jq at h
  simp only at h
  cases hc:jN (T.sl.map (·.1)) (tK T σ) with
  | false=>rw [hc] at h; cases h
  | true =>
    rw [hc,cond_true] at h
    cases hb:Nat.ble (canonN (T.sl.map (·.1)) (tK T σ)).nx T.ob.length with
    | false=>rw [hb] at h; cases h
    | true =>
      rw [hb,cond_true] at h
      split at h
      · next a b ha hb' =>
        split at h
        · cases h
          rw [List.append_assoc] at hr
          obtain ⟨h1,h2⟩:=Df T.sl a (b++us2) xs ha hr
          exact ((D9 T σ).trans (cF.canonN _ hc)).trans (.le ⟨h1,Hj T.ob 0 b us2 _ hb' h2,Nat.ble_eq.mp hb⟩)
        · cases h
      · cases h
theorem Js:∀ {us us2:List V} {xs:List TV},RV (us++us2) xs→RV us2 (xs.drop us.length)
  | [],us2,xs,h=>h
  | u :: us,us2,x :: xs,h=>Js (us:=us) h.2
  | u :: us,us2,[],h=>h.elim
theorem PW {b:Bool} {x:TV} (h:VLe (bl b) x.v):x = ⟨.b,b⟩:=by
  obtain ⟨t,x⟩:=x
  match t,x,h with
  | .b,x,h1 =>
    change VLe (.c (.lit (.bool b))) (.c (.lit (.bool x))) at h1
    rw [VLe] at h1
    cases h1
    rfl
  | .st k,x,h1=>change VLe (.c (.lit (.bool b))) (.agg _) at h1; simp [VLe] at h1
  | .arr n t,x,h1=>change VLe (.c (.lit (.bool b))) (.agg _) at h1; simp [VLe] at h1
  | .i k,x,h1=>change VLe (.c (.lit (.bool b))) (.c (.lit (.int k x))) at h1; rw [VLe] at h1; cases h1
  | .ls t,x,h1=>change VLe (.c (.lit (.bool b))) (.c (.sl t x)) at h1; rw [VLe] at h1; cases h1
  | .s,x,h1=>change VLe (.c (.lit (.bool b))) (.c (.lit (.string x))) at h1; rw [VLe] at h1; cases h1
theorem NH {R:Type} (T:Tm) (y:HP T.tys) (H:ac) (nid:Nat) (args:List V) (k:au→Option R):jj (.gen T) y H nid args k = iM T (fV T.tys y) H nid args k:=rfl
theorem PS (T:Tm) (σ:St) (v:V):cD.rdG (.gen T) σ v = wC T { σ with tm:=(RS,⟨[], .tup [v]⟩) :: σ.tm }:=rfl
theorem Oa {T:Tm} {σ:St} {x:HP T.tys} (h:wC T σ = some x):cF σ (zU T (fV T.tys x)):=pq h
theorem Gm {R:Type} (T T':Tm) (y:HP (.b :: (T.tys++T'.tys))) {t:Bool} {xs:List TV} (hx:fV (.b :: (T.tys++T'.tys)) y = (⟨.b,t⟩:TV) :: xs) (H:ac) (nid:Nat) (args:List V) (k:au→Option R) :
    jj (.gen2 T T') y H nid args k = bif t then iM T xs H nid args k else iM T' (xs.drop T.tys.length) H nid args k:=by
  show (match fV (.b :: (T.tys++T'.tys)) y with | ⟨.b,t⟩ :: xs=>bif t then iM T xs H nid args k else iM T' (xs.drop T.tys.length) H nid args k | _=>none) = _
  rw [hx]
theorem Ou (T T':Tm) (σ:St) (v:V):cD.rdG (.gen2 T T') σ v = match Jq T { σ with tm:=(RS,⟨[], .tup [v]⟩) :: σ.tm } with
    | some us=>j5 (.b :: (T.tys++T'.tys)) (bl true :: (us++JY T'.tys))
    | none=>(match Jq T' { σ with tm:=(RS,⟨[], .tup [v]⟩) :: σ.tm } with
      | some us=>j5 (.b :: (T.tys++T'.tys)) (bl false :: (JY T.tys++us))
      | none=>none):=rfl
theorem PT {T T':Tm} {σ:St} {v:V} {y:HP (cD.gen2 T T').tys} (h:(cD.gen2 T T').rdG σ v = some y):∃ (T0:Tm) (xs:List TV),cF { σ with tm:=(RS,⟨[], .tup [v]⟩) :: σ.tm } (zU T0 xs) ∧
    ∀ {R:Type} (H:ac) (nid:Nat) (args:List V) (k:au→Option R),jj (.gen2 T T') y H nid args k = iM T0 xs H nid args k:=by
  rw [Ou] at h
  have key:∀ (b:Bool) (us:List V),j5 (.b :: (T.tys++T'.tys)) (bl b :: us) = some y→∃ xs,fV (.b :: (T.tys++T'.tys)) y = (⟨.b,b⟩:TV) :: xs∧RV us xs:=by
    intro b us hh
    have hr:=ql _ _ _ hh
    revert hr
    generalize fV (.b :: (T.tys++T'.tys)) y = l
    intro hr
    match l,hr with
    | [],hr=>exact hr.elim
    | x :: xs,hr=>exact ⟨xs,by rw [PW hr.1],hr.2⟩
  split at h
  · next us hu =>
    obtain ⟨xs,hx,hr⟩:=key _ _ h
    exact ⟨T,xs,Jt hu hr,fun H nid args k=>by rw [Gm T T' y hx,cond_true]⟩
  · split at h
    · next us hu =>
      obtain ⟨xs,hx,hr⟩:=key _ _ h
      have h2:=Js hr
      have e:(JY T.tys).length = T.tys.length:=by simp [JY]
      rw [e] at h2
      exact ⟨T',xs.drop T.tys.length,Jt (us2:=[]) hu (by rw [List.append_nil]; exact h2),fun H nid args k=>by rw [Gm T T' y hx,cond_false]⟩
    · cases h
theorem Qd {o:cD} {σ:St} {v:V} {y:HP o.tys} (h:o.rdG σ v = some y):∃ (T:Tm) (xs:List TV),cF { σ with tm:=(RS,⟨[], .tup [v]⟩) :: σ.tm } (zU T xs) ∧
    ∀ {R:Type} (H:ac) (nid:Nat) (args:List V) (k:au→Option R),jj o y H nid args k = iM T xs H nid args k:=by
  cases o with
  | gen T =>
    rw [PS] at h
    exact ⟨T,fV T.tys y,Oa h,fun H nid args k=>NH T y H nid args k⟩
  | gen2 T T'=>exact @PT T T' σ v y h
  | data c =>
    have h:(none:Option (HP (cD.data c).tys)) = some y:=h
    cases h
  | new c =>
    have h:(none:Option (HP (cD.new c).tys)) = some y:=h
    cases h
  | own fr e t =>
    have h:(none:Option (HP (cD.own fr e t).tys)) = some y:=h
    cases h
inductive Sp where
  | none
  | hand (fi:FI) (h:XT→HP fi.ins.tys→Option (HP fi.out.tys))
  | mut (m:XT→ac→Nat→List V→Option au)
structure iu where
  P:Program
  fs:List (FuncId × List FI)
  sp:FuncId→Sp
def DY:List FI→Bool
  | fi :: _=>fi.out.isGen
  | []=>false
def k7 {R:Type} (fi:FI) (h:HP fi.ins.tys→Option (HP fi.out.tys)) (H:ac) (nid:Nat) (args:List V) (k:au→Option R):Option R:=match rdG fi H args with
  | some a=>(h a).bind fun y=>jj fi.out y H nid args k
  | none=>none
def lq {R:Type} (fi:FI) (h:HP fi.ins.tys→Option (HP fi.out.tys)) (vs:List V) (k:iV→Option R):Option R:=match xx fi vs with
  | some a=>(h a).bind fun y=>k (fi.out.out y)
  | none=>none
def em (Tb:iu) (X:XT) (f:FuncId):CC:=match co Tb.fs f with
  | some l=>bif DY l then .mut fun H nid args=>iI X H nid args some l else .pure fun vs=>(gE X vs some l).map fun o=>(true,o)
  | none=>match Tb.sp f with
    | .hand fi h=>bif fi.out.isGen then .mut fun H nid args=>k7 fi (h X) H nid args some else .pure fun vs=>(lq fi (h X) vs some).map fun o=>(true,o)
    | .mut m=>.mut (m X)
    | .none=>.pure fun _=>none
def l3 (C:FuncId→CC) (fs:List FuncId):FuncId→Option CC:=fun f=>bif dI f fs then some (.pure fun _=>some (false, .data (.c .unk))) else some (C f)
theorem AP {R:Type} (X:XT) (vs:List V) (k:iV→Option R):∀ l:List FI,gE X vs k l = (gE X vs some l).bind k
  | []=>rfl
  | fi :: r=>by
    unfold gE
    split
    · next a ha=>cases X fi a <;> rfl
    · exact AP X vs k r
theorem E8 {R:Type} (T:Tm) (xs:List TV) (H:ac) (nid:Nat) (args:List V) (k:au→Option R):iM T xs H nid args k = (iM T xs H nid args some).bind k:=by
  unfold iM
  split
  · cases HB T H (jk args T.sl) <;> rfl
  · rfl
theorem EU {R:Type} (o:cD) (y:HP o.tys) (H:ac) (nid:Nat) (args:List V) (k:au→Option R):jj o y H nid args k = (jj o y H nid args some).bind k:=by
  unfold jj
  split
  · exact E8 ..
  · split
    · next t xs _=>cases t <;> exact E8 ..
    · rfl
  · rfl
theorem AG {R:Type} (X:XT) (H:ac) (nid:Nat) (args:List V) (k:au→Option R):∀ l:List FI,iI X H nid args k l = (iI X H nid args some l).bind k
  | []=>rfl
  | fi :: r=>by
    unfold iI
    split
    · next a ha =>
      cases X fi a with
      | none=>rfl
      | some y=>rw [Option.bind_some,Option.bind_some]; exact EU ..
    · exact AG X H nid args k r
def gb {α:Type} (b:Bool) (o:Option α):Option α:=bif b then o else none
def gL {α:Type}:List Bool→Option α→Option α
  | [],o=>o
  | b :: r,o=>gb b (gL r o)
theorem pn {α:Type} {o:Option α} {y:α}:∀ {l:List Bool},gL l o = some y→(∀ b∈l,b = true)∧o = some y
  | [],h=>⟨fun b hb=>by simp at hb,h⟩
  | b :: l,h=>by
    unfold gL gb at h
    cases b with
    | false=>cases h
    | true =>
      obtain ⟨h1,h2⟩:=pn (l:=l) h
      exact ⟨fun c hc=>by rcases List.mem_cons.1 hc with rfl | hc; rfl; exact h1 c hc,h2⟩
def eP.bools:{ps:List Prop}→eP ps→List Bool
  | _, .nil=>[]
  | _, .cons (p:=p) d r=>@aa p d :: r.bools
def H1 (tm:List (Nat × ar)) (ch:aB) (bs:List Bool):List Bool:=match ch with
  | []=>bs
  | ch=>bs.map fun b=>!(holds tm ch)||b
theorem qG:∀ {ps:List Prop} (d:eP ps),(∀ b∈d.bools,b = true)→∀ p∈ps,p
  | _, .nil,_,p,hp=>by simp at hp
  | _, .cons d r,h,p,hp=>by
    rcases List.mem_cons.1 hp with rfl | hp
    · exact of_decide_eq_true (h _ (by simp [eP.bools]))
    · exact qG r (fun b hb=>h b (by simp [eP.bools,hb])) p hp
theorem EJ {c:Prop} {b:Bool} (hb:b = true↔c):∀ {ps:List Prop} (d:eP ps),(∀ x∈d.bools.map (fun y=>!b||y),x = true)→∀ p∈ps,c→p
  | _, .nil,_,p,hp=>by simp at hp
  | _, .cons d r,h,p,hp=>by
    intro hc
    rcases List.mem_cons.1 hp with rfl | hp
    · have:=h (!b||@decide _ d) (by simp [eP.bools])
      rw [hb.2 hc] at this
      exact of_decide_eq_true (by simpa using this)
    · exact EJ hb r (fun x hx=>h x (by simp only [eP.bools,List.map_cons,List.mem_cons]; exact .inr hx)) p hp hc
theorem MH {tm:List (Nat × ar)} {ch:aB} {ps:List Prop} (d:eP ps) (h:∀ b∈H1 tm ch d.bools,b = true):∀ p∈iJ tm ch ps,p:=by
  unfold H1 iJ at *
  cases ch with
  | nil=>exact qG d h
  | cons x l =>
    intro p hp
    simp only [List.mem_map] at hp
    obtain ⟨q,hq,rfl⟩:=hp
    exact EJ Iff.rfl d h q hq
def pY (nid:Nat) (args:List V):iV→Option au
  | .data v=>bif (!fB args)||v.scalar then some { pre:=[true = true],val:=v } else none
  | .new v=>some { pre:=[true = true],val:=v }
  | .own fr e t l=>bif (!fB args)||fr then some { pre:=[true = true],val:=.row nid t.k,eff:=[(nid,some (.row e t l))] } else none
def oS (H:ac) (nid:Nat) (args:List V) (out:iV):Option au:=match pY nid args out with
  | some r=>some r
  | none=>bif V.noPs args then iX (fun _ vs=>pY nid vs out) (V.refss args) H args else none
theorem Me {o:Nat} {e:TypeId} {t:Ty} (H:ac) {q:Nat} (h:q≠o):ac.get ((o,some (.row e t [])) :: dB [o] H) q = kZ o (ac.get H q):=by
  rw [ac.get_cons,if_neg (Ne.symm h),dA]
mutual
theorem view_fz {o:Nat} {e:TypeId} {t:Ty} {l:List t.T} {H:ac} (hg:H.get o = some (.row e t l)):∀ v:V,v.noP = true→(V.fz o t l v).view ((o,some (.row e t [])) :: dB [o] H) = v.view H
  | .c d,_=>rfl
  | .agg vs,hn=>by rw [V.fz,V.view,V.view,views_fz hg vs (by simpa [V.noP] using hn)]
  | .tup vs,hn=>by rw [V.fz,V.view,V.view,views_fz hg vs (by simpa [V.noP] using hn)]
  | .ptr ..,hn=>by simp [V.noP] at hn
  | .row o' k,_=>by
    rw [V.fz]
    cases hb:Nat.beq o' o with
    | true =>
      have:=Nat.eq_of_beq_eq_true hb
      subst this
      rw [cond_true,V.view,qz,hg]
      simp only
      cases Nat.beq t.k k <;> rfl
    | false =>
      have hne:o'≠o:=fun h=>by subst h; simp at hb
      rw [cond_false,V.view,V.view,qz,qz,Me H hne]
      cases ac.get H o' with
      | none=>rfl
      | some b=>cases b <;> rfl
  | .sub o' k off n,_=>by
    rw [V.fz]
    cases hb:Nat.beq o' o with
    | true =>
      have:=Nat.eq_of_beq_eq_true hb
      subst this
      rw [cond_true,V.view,qf,hg]
      simp only
      cases Nat.beq t.k k <;> rfl
    | false =>
      have hne:o'≠o:=fun h=>by subst h; simp at hb
      rw [cond_false,V.view,V.view,qf,qf,Me H hne]
      cases ac.get H o' with
      | none=>rfl
      | some b=>cases b <;> rfl
  | .dptr ..,_=>rfl
  | .fn f vs,hn=>by rw [V.fz,V.view,V.view,views_fz hg vs (by simpa [V.noP] using hn)]
theorem views_fz {o:Nat} {e:TypeId} {t:Ty} {l:List t.T} {H:ac} (hg:H.get o = some (.row e t l)):∀ vs:List V,V.noPs vs = true→V.views ((o,some (.row e t [])) :: dB [o] H) (V.fzs o t l vs) = V.views H vs
  | [],_=>rfl
  | v :: r,hn=>by
    rw [V.noPs,Bool.and_eq_true] at hn
    rw [V.fzs,V.views,V.views,view_fz hg v hn.1,views_fz hg r hn.2]
end
mutual
theorem noP_fz (o:Nat) (t:Ty) (l:List t.T):∀ v:V,v.noP = true→(V.fz o t l v).noP = true
  | .c d,_=>rfl
  | .agg vs,hn=>by rw [V.fz,V.noP]; exact noPs_fz o t l vs (by simpa [V.noP] using hn)
  | .tup vs,hn=>by rw [V.fz,V.noP]; exact noPs_fz o t l vs (by simpa [V.noP] using hn)
  | .ptr ..,hn=>by simp [V.noP] at hn
  | .row o' k,_=>by
    rw [V.fz]
    cases Nat.beq o' o with
    | false=>rfl
    | true=>rw [cond_true]; cases Nat.beq t.k k <;> rfl
  | .sub o' k off n,_=>by
    rw [V.fz]
    cases Nat.beq o' o with
    | false=>rfl
    | true=>rw [cond_true]; cases Nat.beq t.k k <;> rfl
  | .dptr ..,_=>rfl
  | .fn f vs,hn=>by rw [V.fz,V.noP]; exact noPs_fz o t l vs (by simpa [V.noP] using hn)
theorem noPs_fz (o:Nat) (t:Ty) (l:List t.T):∀ vs:List V,V.noPs vs = true→V.noPs (V.fzs o t l vs) = true
  | [],_=>rfl
  | v :: r,hn=>by
    rw [V.noPs,Bool.and_eq_true] at hn
    rw [V.fzs,V.noPs,noP_fz o t l v hn.1,noPs_fz o t l r hn.2]; rfl
end
theorem yN {C:FuncId→Option CC} {H:ac} {nid:Nat} {f:FuncId} {args:List V} {con:JL} {out:iV} (hc:C f = some (.pure con)) (ho:con (V.views H args) = some (true,out)):gp C H nid f args = pY nid args out:=by
  unfold gp
  rw [hc]
  simp only [ho]
  cases out <;> rfl
theorem GF {C:FuncId→Option CC} {nid:Nat} {f:FuncId} {con:JL} {out:iV} (hc:C f = some (.pure con)):∀ (fl:List Nat) (H:ac) (args:List V),V.noPs args = true→con (V.views H args) = some (true,out) →
    iX (o4 C f nid) fl H args = iX (fun _ vs=>pY nid vs out) fl H args
  | [],H,args,hn,ho=>by
    rw [iX,iX]
    unfold o4
    rw [hn,cond_true,hc]
    simp only
    exact yN hc ho
  | q :: fl,H,args,hn,ho=>by
    rw [iX,iX]
    split
    · next e t l hg =>
      rw [GF hc fl _ _ (noPs_fz q t l args hn) (by rw [views_fz hg args hn]; exact ho)]
    · rfl
theorem HR {C:FuncId→Option CC} {H:ac} {nid:Nat} {f:FuncId} {args:List V} {con:JL} {out:iV} {r:au} (hc:C f = some (.pure con)) (ho:con (V.views H args) = some (true,out)) (h:oS H nid args out = some r):ln C H nid f args = some r:=by
  unfold ln
  rw [yN hc ho]
  unfold oS at h
  split at h
  · next r' hr=>rw [hr]; exact h
  · next hr =>
    rw [hr]
    cases hn:V.noPs args with
    | false=>rw [hn] at h; cases h
    | true =>
      rw [hn,cond_true] at h
      simp only
      rw [GF hc _ _ _ hn ho]
      exact h
theorem JZ {f:ac→List V→Option au} {P0:List Prop→Prop} (hf:∀ H vs r,f H vs = some r→P0 r.pre):∀ (fl:List Nat) (H:ac) (vs:List V) (r:au),iX f fl H vs = some r→P0 r.pre
  | [],H,vs,r,h=>hf H vs r h
  | q :: fl,H,vs,r,h=>by
    rw [iX] at h
    split at h
    · next e t l hg =>
      cases hb:iX f fl ((q,some (.row e t [])) :: dB [q] H) (V.fzs q t l vs) with
      | none=>rw [hb] at h; cases h
      | some r0=>rw [hb] at h; cases h; exact JZ hf fl _ _ r0 hb
    · cases h
theorem A0 {nid:Nat} {args:List V} {out:iV} {r:au} (hr:pY nid args out = some r):r.pre = [true = true]:=by
  cases out with
  | data v =>
    simp only [pY] at hr
    cases hq:((!fB args)||v.scalar) <;> rw [hq] at hr <;> cases hr
    rfl
  | new v=>cases hr; rfl
  | own fr e t l =>
    simp only [pY] at hr
    cases hq:((!fB args)||fr) <;> rw [hq] at hr <;> cases hr
    rfl
theorem Ef {H:ac} {nid:Nat} {args:List V} {out:iV} {r:au} (h:oS H nid args out = some r):r.pre = [true = true]:=by
  unfold oS at h
  split at h
  · next r' hr=>cases h; exact A0 hr
  · cases hn:V.noPs args with
    | false=>rw [hn] at h; cases h
    | true=>rw [hn,cond_true] at h; exact JZ (P0:=fun ps=>ps = [true = true]) (fun _ _ _ h=>A0 h) _ _ _ _ h
def Kt {R:Type} (X:XT) (l:List FI) (H:ac) (nid:Nat) (args:List V) (k:au→Option R):Option R :=
  bif DY l then iI X (aX (az H args) H) nid args k l
  else gE X (V.views H args) (fun out=>match oS H nid args out with | some r=>k r | none=>none) l
def uG {R:Type} (Tb:iu) (X:XT) (f:FuncId) (H:ac) (nid:Nat) (args:List V) (k:au→Option R):Option R :=
  match co Tb.fs f with
  | some l=>Kt X l H nid args k
  | none=>match Tb.sp f with
    | .hand fi h=>bif fi.out.isGen then k7 fi (h X) (aX (az H args) H) nid args k else lq fi (h X) (V.views H args) fun out=>match oS H nid args out with | some r=>k r | none=>none
    | .mut m=>(m X (aX (az H args) H) nid args).bind fun r=>gL r.dec.bools (k r)
    | .none=>none
theorem xy {C:FuncId→Option CC} {H:ac} {nid:Nat} {f:FuncId} {args:List V} {m:ac→Nat→List V→Option au} {r:au} (hc:C f = some (.mut m)) (hm:m (aX (az H args) H) nid args = some r):ln C H nid f args = some r:=by
  have h0:gp C H nid f args = some r:=by
    unfold gp
    rw [hc]
    exact hm
  unfold ln
  rw [h0]
theorem vg {T:Tm} {xs:List TV} {H:ac} {nid:Nat} {args:List V} {r:au} (h:iM T xs H nid args some = some r):r.pre = [true = true]:=by
  unfold iM at h
  split at h
  · cases hb:HB T H (jk args T.sl) with
    | false=>rw [hb] at h; cases h
    | true=>rw [hb] at h; cases h; rfl
  · cases h
theorem EL {X:XT} {H:ac} {nid:Nat} {args:List V} {r:au}:∀ {l:List FI},iI X H nid args some l = some r→r.pre = [true = true]
  | [],h=>by cases h
  | fi :: l,h=>by
    unfold iI at h
    split at h
    · rw [Option.bind_eq_some_iff] at h
      obtain ⟨y,_,h⟩:=h
      unfold jj at h
      split at h
      · exact vg h
      · split at h
        · next t xs _=>cases t <;> exact vg h
        · cases h
      · cases h
    · exact EL h
theorem K3 {R:Type} (fi:FI) (h:HP fi.ins.tys→Option (HP fi.out.tys)) (H:ac) (nid:Nat) (args:List V) (k:au→Option R):k7 fi h H nid args k = (k7 fi h H nid args some).bind k:=by
  unfold k7
  split
  · next a _ =>
    cases h a with
    | none=>rfl
    | some y=>rw [Option.bind_some,Option.bind_some]; exact EU ..
  · rfl
theorem KW {R:Type} (fi:FI) (h:HP fi.ins.tys→Option (HP fi.out.tys)) (vs:List V) (k:iV→Option R):lq fi h vs k = (lq fi h vs some).bind k:=by
  unfold lq
  split
  · next a _=>cases h a <;> rfl
  · rfl
theorem NS {o:cD} {y:HP o.tys} {H:ac} {nid:Nat} {args:List V} {r:au} (h:jj o y H nid args some = some r):r.pre = [true = true]:=by
  unfold jj at h
  split at h
  · exact vg h
  · split at h
    · next t xs _=>cases t <;> exact vg h
    · cases h
  · cases h
theorem LW {fi:FI} {h:HP fi.ins.tys→Option (HP fi.out.tys)} {H:ac} {nid:Nat} {args:List V} {r:au} (hh:k7 fi h H nid args some = some r):r.pre = [true = true]:=by
  unfold k7 at hh
  split at hh
  · rw [Option.bind_eq_some_iff] at hh
    obtain ⟨y,_,hh⟩:=hh
    exact NS hh
  · cases hh
theorem AM {R:Type} {Tb:iu} {X:XT} {f:FuncId} {H:ac} {nid:Nat} {args:List V} {k:au→Option R} {y:R} (h:uG Tb X f H nid args k = some y) :
    ∃ r,k r = some y∧(∀ p∈r.pre,p)∧∀ C:FuncId→Option CC,C f = some (em Tb X f)→ln C H nid f args = some r:=by
  have one:∀ {ps:List Prop},ps = [true = true]→∀ p∈ps,p:=fun e p hp=>by subst e; rw [List.mem_singleton] at hp; subst hp; rfl
  unfold uG at h
  split at h
  · next l hl =>
    unfold Kt at h
    cases hg:DY l with
    | true =>
      rw [hg,cond_true,AG,Option.bind_eq_some_iff] at h
      obtain ⟨r,h1,h2⟩:=h
      refine ⟨r,h2,one (EL h1),fun C hC=>xy (m:=fun H nid args=>iI X H nid args some l) (by rw [hC]; unfold em; rw [hl]; simp only [hg,cond_true]) h1⟩
    | false =>
      rw [hg,cond_false,AP,Option.bind_eq_some_iff] at h
      obtain ⟨out,h1,h2⟩:=h
      split at h2
      · next r hr=>exact ⟨r,h2,one (Ef hr),fun C hC=>HR (con:=fun vs=>(gE X vs some l).map fun o=>(true,o)) (by rw [hC]; unfold em; rw [hl]; simp only [hg,cond_false]) (by simp only [h1,Option.map_some]) hr⟩
      · cases h2
  · next hl =>
    split at h
    · next fi hd hc =>
      cases hg:fi.out.isGen with
      | true =>
        rw [hg,cond_true,K3,Option.bind_eq_some_iff] at h
        obtain ⟨r,h1,h2⟩:=h
        exact ⟨r,h2,one (LW h1),fun C hC=>xy (m:=fun H nid args=>k7 fi (hd X) H nid args some) (by rw [hC]; unfold em; rw [hl]; simp only [hc,hg,cond_true]) h1⟩
      | false =>
        rw [hg,cond_false,KW,Option.bind_eq_some_iff] at h
        obtain ⟨out,h1,h2⟩:=h
        split at h2
        · next r hr=>exact ⟨r,h2,one (Ef hr),fun C hC=>HR (con:=fun vs=>(lq fi (hd X) vs some).map fun o=>(true,o)) (by rw [hC]; unfold em; rw [hl]; simp only [hc,hg,cond_false]) (by simp only [h1,Option.map_some]) hr⟩
        · cases h2
    · next m hm =>
      rw [Option.bind_eq_some_iff] at h
      obtain ⟨r,h1,h2⟩:=h
      obtain ⟨h3,h4⟩:=pn h2
      exact ⟨r,h4,qG _ h3,fun C hC=>xy (m:=m X) (by rw [hC]; unfold em; rw [hl]; simp only [hm]) h1⟩
    · cases h
def H3 (o:Oper) (vs:List V):Option (FuncId × List V):=match o.op,vs with
  | .call { callee:=.value _, .. }, .fn f caps :: vs=>bif Nat.blt f 1000000000 then some (f,vs++caps) else none
  | _,_=>none
def np (o:Oper):Bool:=match o.op with
  | .call { callee:=.value _, .. }=>true
  | _=>false
def F4 (o:Oper) (σ:St) (ch:aB) (nid:Nat) (vs:List V) (r:au):bM:={ dst:=o.dst,rds:=jC (dc o.op)++ch.map (·.1),ch,nid,vs,reach:=az σ.hp vs,rws:=nr σ.hp vs,res:=r }
def Gh:List (Nat × ar)→Nat→ar→List (Nat × ar)
  | [],_,_=>[]
  | (t',s') :: r,t,s=>bif Nat.beq t' t then (t',s) :: r else (t',s') :: Gh r t s
theorem xm:∀ {tm:List (Nat × ar)} {t:Nat} {s:ar},ap tm t = some s→Gh tm t s = tm
  | [],t,s,h=>rfl
  | (t',s') :: r,t,s,h=>by
    unfold Gh
    unfold ap at h
    cases hb:Nat.beq t' t with
    | true=>rw [hb] at h; cases h; rfl
    | false=>rw [hb,cond_false] at h; rw [cond_false,xm h]
def ly {R:Type}:aB→St→(St→Option R)→Option R
  | [],σ,k=>k σ
  | (t,_) :: r,σ,k=>match ap σ.tm t with
    | some ⟨c0, .c (.lit (.bool b))⟩=>bif b then ly r { σ with tm:=Gh σ.tm t ⟨c0,bl true⟩ } k else ly r { σ with tm:=Gh σ.tm t ⟨c0,bl false⟩ } k
    | _=>none
theorem qu {R:Type} {y:R}:∀ {ch:aB} {σ:St} {k:St→Option R},ly ch σ k = some y→k σ = some y
  | [],σ,k,h=>h
  | (t,w) :: r,σ,k,h=>by
    unfold ly at h
    split at h
    · next c0 b hg =>
      cases b with
      | true =>
        rw [cond_true,xm hg] at h
        exact qu h
      | false =>
        rw [cond_false,xm hg] at h
        exact qu h
    · cases h
section
variable {R:Type} (Tb:iu) (X:XT) (N:Nat) (all:List Oper)
def Ea (σ:St) (nid:Nat) (o:Oper) (fT fF:List FuncId) (k:St→bM→List FuncId→List FuncId→Option R):Option R :=
  bif np o then
    (bif gW N o.dst then
      match dq all σ.tm o.guard with
      | some ch =>
        bif ch.all fun x=>eV σ.tm ch x.1 then
          ly ch σ fun σ=>match jF σ ch (dc o.op) with
            | some vs=>(match H3 o vs with
              | some (f,args) =>
                bif holds σ.tm ch then
                  (bif dI f fF then none else uG Tb X f σ.hp nid args fun r=>bif ch.isEmpty||(r.eff.isEmpty&&r.kill.isEmpty&&fk o.dst ch) then k σ (F4 o σ ch nid vs r) (f :: fT) fF else none)
                else (bif dI f fT then uG Tb X f σ.hp nid args fun r=>bif r.eff.isEmpty&&r.kill.isEmpty&&fk o.dst ch then k σ (F4 o σ ch nid vs r) fT fF else none
                  else bif fk o.dst ch then k σ (F4 o σ ch nid vs { pre:=[false = true],val:=.c .unk }) fT (f :: fF) else none)
              | none=>none)
            | none=>none
        else none
      | none=>none
    else none)
  else match recOf Tb.P (fun _=>none) N all σ nid o with
    | some rc=>gL (H1 σ.tm rc.ch rc.res.dec.bools) (k σ rc fT fF)
    | none=>none
end
theorem Oh {P:Program} {C:FuncId→Option CC} {H:ac} {nid:Nat} {o:Oper} {vs:List V} {f:FuncId} {args:List V} (h:H3 o vs = some (f,args)):tg P C H nid o vs = ln C H nid f args:=by
  unfold H3 at h
  split at h
  · next g caps vs' ho =>
    cases hb:Nat.blt g 1000000000 with
    | false=>rw [hb] at h; cases h
    | true =>
      rw [hb] at h; cases h
      unfold tg
      rw [ho]
      simp only [hb,cond_true]
  · cases h
theorem IU {P:Program} {C:FuncId→Option CC} {σ:St} {nid:Nat} {ch:aB} {o:Oper} (ho:np o = true) {vs:List V} (hv:jF σ ch (dc o.op) = some vs) {r:au} (hr:tg P C σ.hp nid o vs = some r):jA P C σ nid ch o = some (vs,r):=by
  unfold np at ho
  split at ho
  · next f args ats hop =>
    unfold jA
    rw [hop] at hv ⊢
    simp only [hv]
    unfold xg
    rw [hr]
    rfl
  · cases ho
section
variable {R:Type} {Tb:iu} {X:XT} {N:Nat} {all:List Oper}
theorem Py {P:Program} {C:FuncId→Option CC} {H:ac} {nid:Nat} {o:Oper} {vs:List V} (ho:np o = false):tg P (fun _=>none) H nid o vs = tg P C H nid o vs:=by
  unfold tg
  split <;> try rfl
  next hop=>unfold np at ho; rw [hop] at ho; cases ho
theorem MV {P:Program} {C:FuncId→Option CC} {σ:St} {nid:Nat} {o:Oper} (ho:np o = false):recOf P (fun _=>none) N all σ nid o = recOf P C N all σ nid o:=by
  have e:∀ ch,jA P (fun _=>none) σ nid ch o = jA P C σ nid ch o:=by
    intro ch
    unfold jA xg
    simp only [Py (C:=C) ho]
  unfold recOf
  simp only [e]
theorem Ab {σ:St} {nid:Nat} {o:Oper} {fT fF:List FuncId} {k:St→bM→List FuncId→List FuncId→Option R} {y:R} (h:Ea Tb X N all σ nid o fT fF k = some y) :
    ∃ rc fT' fF',k σ rc fT' fF' = some y∧(∀ f∈fT,f∈fT')∧(∀ f∈fF,f∈fF')∧((∀ f∈fT,f ∉ fF)→∀ f∈fT',f ∉ fF')∧(o.guard = none→fF' = fF) ∧
      ∀ Ff:List FuncId,(∀ f∈fF',f∈Ff)→(∀ f∈fT',f ∉ Ff)→recOf Tb.P (l3 (em Tb X) Ff) N all σ nid o = some rc∧∀ p∈iJ σ.tm rc.ch rc.res.pre,p:=by
  unfold Ea at h
  cases hc:np o with
  | false =>
    rw [hc,cond_false] at h
    split at h
    · next rc hrc =>
      obtain ⟨h1,h2⟩:=pn h
      refine ⟨rc,fT,fF,h2,fun _ h=>h,fun _ h=>h,fun h=>h,fun _=>rfl,fun Ff _ _=>⟨?_,MH _ h1⟩⟩
      rw [← MV hc]; exact hrc
    · cases h
  | true =>
    rw [hc,cond_true] at h
    cases hd:gW N o.dst with
    | false=>rw [hd] at h; cases h
    | true =>
      rw [hd,cond_true] at h
      split at h
      · next ch hch =>
        cases hg:(ch.all fun x=>eV σ.tm ch x.1) with
        | false=>rw [hg] at h; cases h
        | true =>
          rw [hg,cond_true] at h
          have h:=qu h
          split at h
          · next vs hvs =>
            split at h
            · next f args hca =>
              have rec_:∀ (C:FuncId→Option CC) (r:au),ln C σ.hp nid f args = some r→(ch.isEmpty||(r.eff.isEmpty&&r.kill.isEmpty&&fk o.dst ch)) = true→recOf Tb.P C N all σ nid o = some (F4 o σ ch nid vs r):=by
                intro C r hr hx
                unfold recOf
                rw [hd,cond_true,hch]
                simp only [hg,cond_true]
                rw [IU hc hvs ((Oh hca).trans hr)]
                simp only [hx,cond_true]
                rfl
              cases hh:holds σ.tm ch with
              | true =>
                rw [hh,cond_true] at h
                cases hm:dI f fF with
                | true=>rw [hm] at h; cases h
                | false =>
                  rw [hm,cond_false] at h
                  obtain ⟨r,h,hpre,hcv⟩:=AM h
                  cases hx:(ch.isEmpty||(r.eff.isEmpty&&r.kill.isEmpty&&fk o.dst ch)) with
                  | false=>rw [hx] at h; cases h
                  | true =>
                    rw [hx,cond_true] at h
                    refine ⟨_,f :: fT,fF,h,fun g hg=>List.mem_cons_of_mem _ hg,fun _ h=>h,fun hdj g hg=>?_,fun _=>rfl,fun Ff h1 h2=>⟨rec_ _ r ?_ hx, ?_⟩⟩
                    · rcases List.mem_cons.1 hg with rfl | hg
                      · intro hf
                        have:dI g fF = true:=List.any_eq_true.2 ⟨g,hf,by simp⟩
                        rw [hm] at this; cases this
                      · exact hdj g hg
                    · have hnf:dI f Ff = false:=by
                        cases hb:dI f Ff with
                        | false=>rfl
                        | true=>exact absurd (fc hb) (h2 f (by simp))
                      exact hcv _ (by unfold l3; rw [hnf,cond_false])
                    · intro p hp
                      have hp':p∈iJ σ.tm ch r.pre:=hp
                      unfold iJ at hp'
                      split at hp'
                      · exact hpre p hp'
                      · obtain ⟨q,hq,rfl⟩:=List.mem_map.1 hp'
                        exact fun _=>hpre q hq
              | false =>
                rw [hh,cond_false] at h
                cases hm:dI f fT with
                | true =>
                  rw [hm,cond_true] at h
                  obtain ⟨r,h,hpre,hcv⟩:=AM h
                  cases hx:(r.eff.isEmpty&&r.kill.isEmpty&&fk o.dst ch) with
                  | false=>rw [hx] at h; cases h
                  | true =>
                    rw [hx,cond_true] at h
                    refine ⟨_,fT,fF,h,fun _ h=>h,fun _ h=>h,fun hdj=>hdj,fun _=>rfl,fun Ff h1 h2=>⟨rec_ _ r ?_ (by rw [hx,Bool.or_true]), ?_⟩⟩
                    · have hnf:dI f Ff = false:=by
                        cases hb:dI f Ff with
                        | false=>rfl
                        | true=>exact absurd (fc hb) (h2 f (fc hm))
                      exact hcv _ (by unfold l3; rw [hnf,cond_false])
                    · intro p hp
                      have hp':p∈iJ σ.tm ch r.pre:=hp
                      unfold iJ at hp'
                      split at hp'
                      · exact hpre p hp'
                      · obtain ⟨q,hq,rfl⟩:=List.mem_map.1 hp'
                        exact fun _=>hpre q hq
                | false =>
                  rw [hm,cond_false] at h
                  cases hn:fk o.dst ch with
                  | false=>rw [hn] at h; cases h
                  | true =>
                    rw [hn,cond_true] at h
                    refine ⟨_,fT,f :: fF,h,fun _ h=>h,fun g hg=>List.mem_cons_of_mem _ hg,fun hdj g hg hf=>?_,fun hno=>?_,fun Ff h1 h2=>⟨rec_ _ _ ?_ ?_, ?_⟩⟩
                    · rcases List.mem_cons.1 hf with rfl | hf
                      · have:dI g fT = true:=List.any_eq_true.2 ⟨g,hg,by simp⟩
                        rw [hm] at this; cases this
                      · exact hdj g hg hf
                    · rw [hno] at hch; cases hch; cases hh
                    · have hnf:dI f Ff = true:=List.any_eq_true.2 ⟨f,h1 f (by simp),by simp⟩
                      unfold ln gp l3
                      simp only [hnf,cond_true,V.scalar,Bool.or_true]
                    · simp [hn]
                    · intro p hp
                      have hp':p∈iJ σ.tm ch [false = true]:=hp
                      unfold iJ at hp'
                      split at hp'
                      · simp [holds] at hh
                      · simp only [List.map_cons,List.map_nil,List.mem_singleton] at hp'; subst hp'; intro h0; rw [hh] at h0; cases h0
            · cases h
          · cases h
      · cases h
end
end Go.Ax
