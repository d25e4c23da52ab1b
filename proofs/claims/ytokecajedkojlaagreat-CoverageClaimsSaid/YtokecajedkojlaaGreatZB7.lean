import Derived.Test.YtokecajedkojlaaGreatZB6g
set_option linter.all false
/- An evaluation of code that can be run: functions as plain functions with an option. -/
namespace Go.Ax
open Go.RowKit
def RS:Nat:=2000000
inductive cI where
  | data (c:Cd)
  | new (c:Cd)
  | own (fr:Bool) (e:TypeId) (t:Ty)
  | gen (T:Tm)
  | gen2 (T T':Tm)
def cI.tys:cI→List Ty
  | .gen T=>T.tys
  | .gen2 T T'=>.b :: (T.tys++T'.tys)
  | .data c=>c.tys
  | .new c=>c.tys
  | .own _ _ t=>[.ls t]
def cI.isGen:cI→Bool
  | .gen _=>true
  | .gen2 _ _=>true
  | _=>false
def cI.out:(o:cI)→HP o.tys→iZ
  | .gen _,_=>.data (.c .unk)
  | .gen2 _ _,_=>.data (.c .unk)
  | .data c,x=>.data (filC c (fN c.tys x)).1
  | .new c,x=>.new (filC c (fN c.tys x)).1
  | .own fr e t,x=>.own fr e t x
def cI.rd:(o:cI)→af→V→Option (HP o.tys)
  | .gen _,_,_=>none
  | .gen2 _ _,_,_=>none
  | .data c,H,v=>match colC c (v.view H) with | some us=>kv c.tys us | none=>none
  | .new c,H,v=>bif newV H v then (match colC c (v.view H) with | some us=>kv c.tys us | none=>none) else none
  | .own fr e t,H,v=>match v with
    | .c .nil=>some ([]:List t.T)
    | .row o k=>(match af.get H o with
      | some (.row e' t' l)=>bif Nat.beq t'.k k&&Nat.beq e e'&&(!fr||t.sc) then lP t' t l else none
      | _=>none)
    | _=>none
theorem cI.rd_ok {o:cI} {H:af} {v:V} {x:HP o.tys} (h:o.rd H v = some x):qb (o.out x) H v:=by
  have key:∀ (c:Cd) (x:HP c.tys),(match colC c (v.view H) with | some us=>kv c.tys us | none=>none) = some x→VLe (v.view H) (filC c (fN c.tys x)).1:=by
    intro c x h
    split at h
    · next us hu =>
      have hr:=rg _ _ _ h
      exact (colC_le c _ us [] _ hu (by rw [List.append_nil]; exact hr)).1
    · cases h
  cases o with
  | gen T=>cases h
  | gen2 T T'=>cases h
  | data c=>exact key c x h
  | new c =>
    simp only [cI.rd] at h
    cases hn:newV H v with
    | false=>rw [hn] at h; cases h
    | true=>rw [hn] at h; exact ⟨key c x h,hn⟩
  | own fr e t =>
    simp only [cI.rd] at h
    split at h
    · cases h; exact .inl ⟨rfl,rfl⟩
    · next o k =>
      split at h
      · next e' t' l hg =>
        cases hc:(Nat.beq t'.k k&&Nat.beq e e'&&(!fr||t.sc)) with
        | false=>rw [hc] at h; cases h
        | true =>
          rw [hc] at h
          have h:lP t' t l = some x:=h
          simp only [Bool.and_eq_true,Nat.beq_eq,Bool.or_eq_true,Bool.not_eq_true'] at hc
          obtain ⟨he,hx⟩:=kJ h
          subst he
          obtain ⟨⟨rfl,rfl⟩,h3⟩:=hc
          refine .inr ⟨o,rfl, ?_,fun hf=>?_⟩
          · rw [hg]; have:x = l:=hx; rw [this]
          · rcases h3 with h3 | h3
            · rw [hf] at h3; cases h3
            · exact h3
      · cases h
    · cases h
structure FI where
  fid:FuncId
  fn:Func
  c:Code
  ins:Tm
  out:cI
  cuts:List (Nat × Tm):=[]
abbrev XT:=(fi:FI)→HP fi.ins.tys→Option (HP fi.out.tys)
abbrev JT:=(fi:FI)→(π:Nat)→(T:Tm)→HP T.tys→Option (HP fi.out.tys)
def ya (fi:FI) (vs:List V):Option (HP fi.ins.tys) :=
  bif !fi.out.isGen&&(Nat.beq vs.length fi.ins.sl.length&&fi.ins.ob.isEmpty) then rd fi.ins { tm:=jO vs 0,hp:=[],nx:=0 } else none
def gq {R:Type} (X:XT) (vs:List V) (k:iZ→Option R):List FI→Option R
  | []=>none
  | fi :: r=>match ya fi vs with
    | some a=>(X fi a).bind fun y=>k (fi.out.out y)
    | none=>gq X vs k r
def cR {α:Type}:List (Nat × α)→Nat→Option α
  | [],_=>none
  | (g,x) :: r,f=>bif Nat.beq g f then some x else cR r f
def z6 (T:Tm) (xs:List TV):St:=let p:=mI T.sl xs; { tm:=p.1,hp:=jU 0 T.ob p.2,nx:=T.ob.length }
def lW (H:af):List Nat:=BU [] (H.map (·.1))
def tX:List Nat→Nat
  | []=>0
  | o :: r=>Nat.max (o+1) (tX r)
def Oq (os:List Nat) (H:af):Bool:=os.all fun o=>match af.get H o with | some b=>HI os b | none=>true
def PL (N:Nat) (H:af) (args:List V):St:={ tm:=jO args 0++jO args 1000000,hp:=oq (lW H) H,nx:=tX (lW H) }
def rdG (fi:FI) (H:af) (args:List V):Option (HP fi.ins.tys) :=
  bif Nat.ble args.length fi.fn.ntmps&&(V.refss args).all (fun o=>dM o (lW H))&&Oq (lW H) H then Cx fi.ins (PL fi.fn.ntmps H args) else none
def jw (args:List V):List (Nat × Cd)→oJ
  | []=>[]
  | (t, .k (.ptr q k i j)) :: r=>bif Nat.ble 1000000 t then (match args[t - 1000000]? with | some (.ptr o _ _ _)=>(q,o,true) :: jw args r | _=>jw args r) else jw args r
  | (t, .k (.row q k)) :: r=>bif Nat.ble 1000000 t then (match args[t - 1000000]? with | some (.row o _)=>(q,o,false) :: jw args r | _=>jw args r) else jw args r
  | _ :: r=>jw args r
def Cl:Option Od→Bool
  | some (.box _)=>true
  | some (.map ..)=>true
  | _=>false
def Dd:Option Ob→Bool
  | some (.row ..)=>false
  | none=>false
  | _=>true
def Hf (T:Tm) (H:af) (bk:oJ):Bool:=Nat.ble T.ob.length 8&&(gu (T.sl.map (·.1))&&(CD bk&&bk.all fun x=>dM x.2.1 (lW H)&&(Nat.blt x.1 T.ob.length&&(!x.2.2||(Cl T.ob[x.1]?&&Dd (af.get H x.2.1))))))
def iC {R:Type} (T:Tm) (xs:List TV) (H:af) (nid:Nat) (args:List V) (k:aA→Option R):Option R :=
  match au (z6 T xs).tm RS with
  | some ⟨_, .tup [v]⟩=>bif Hf T H (jw args T.sl) then k (H4 nid (lW H) (jw args T.sl) (z6 T xs).hp v) else none
  | _=>none
def jv {R:Type} (o:cI) (y:HP o.tys) (H:af) (nid:Nat) (args:List V) (k:aA→Option R):Option R :=
  match o,y with
  | .gen T,y=>iC T (fN T.tys y) H nid args k
  | .gen2 T T',y=>(match fN (.b :: (T.tys++T'.tys)) y with
    | ⟨.b,t⟩ :: xs=>bif t then iC T xs H nid args k else iC T' (xs.drop T.tys.length) H nid args k
    | _=>none)
  | _,_=>none
def iY {R:Type} (X:XT) (H:af) (nid:Nat) (args:List V) (k:aA→Option R):List FI→Option R
  | []=>none
  | fi :: r=>match rdG fi H args with
    | some a=>(X fi a).bind fun y=>jv fi.out y H nid args k
    | none=>iY X H nid args k r
def Kd (T:Tm) (σ:St):Option (List V) :=
  let τ:=uR T σ
  let ts:=T.sl.map (·.1)
  bif nE ts τ then
    let τ':=canonN ts τ
    bif Nat.ble τ'.nx T.ob.length then (match uQ τ'.tm T.sl,w7 τ'.hp 0 T.ob with
      | some a,some b=>(match kv T.tys (a++b) with | some _=>some (a++b) | none=>none)
      | _,_=>none) else none
  else none
def JX (ts:List Ty):List V:=ts.map fun t=>encV t t.z
def cI.rdG:(o:cI)→St→V→Option (HP o.tys)
  | .gen T,σ,v=>Cx T { σ with tm:=(RS,⟨[], .tup [v]⟩) :: σ.tm }
  | .gen2 T T',σ,v=>match Kd T { σ with tm:=(RS,⟨[], .tup [v]⟩) :: σ.tm } with
    | some us=>kv (.b :: (T.tys++T'.tys)) (bl true :: (us++JX T'.tys))
    | none=>(match Kd T' { σ with tm:=(RS,⟨[], .tup [v]⟩) :: σ.tm } with
      | some us=>kv (.b :: (T.tys++T'.tys)) (bl false :: (JX T.tys++us))
      | none=>none)
  | _,_,_=>none
theorem Ie {H:af}:∀ (cs:List Od) (i:Nat) (us us2:List V) (xs:List TV),w7 H i cs = some us→RV (us++us2) xs→qM H (jU i cs xs)
  | [],i,us,us2,xs,h,hr=>by rw [jU]; trivial
  | c :: cs,i,us,us2,xs,h,hr=>by
    rw [w7] at h
    split at h
    · next b hg =>
      split at h
      · next a b' ha hb =>
        cases h
        rw [List.append_assoc] at hr
        obtain ⟨h1,h2⟩:=JU c b a (b'++us2) xs ha hr
        show qM H ((i,some _) :: _)
        rw [qM,hg]
        exact ⟨h1,Ie cs (i+1) b' us2 _ hb h2⟩
      · cases h
    · cases h
theorem J7 {T:Tm} {σ:St} {us us2:List V} {xs:List TV} (h:Kd T σ = some us) (hr:RV (us++us2) xs):dh σ (z6 T xs):=by
  unfold Kd at h
  simp only at h
  cases hc:nE (T.sl.map (·.1)) (uR T σ) with
  | false=>rw [hc] at h; cases h
  | true =>
    rw [hc,cond_true] at h
    cases hb:Nat.ble (canonN (T.sl.map (·.1)) (uR T σ)).nx T.ob.length with
    | false=>rw [hb] at h; cases h
    | true =>
      rw [hb,cond_true] at h
      split at h
      · next a b ha hb' =>
        split at h
        · cases h
          rw [List.append_assoc] at hr
          obtain ⟨h1,h2⟩:=Ev T.sl a (b++us2) xs ha hr
          exact ((EM T σ).trans (dh.canonN _ hc)).trans (.le ⟨h1,Ie T.ob 0 b us2 _ hb' h2,Nat.ble_eq.mp hb⟩)
        · cases h
      · cases h
theorem JQ:∀ {us us2:List V} {xs:List TV},RV (us++us2) xs→RV us2 (xs.drop us.length)
  | [],us2,xs,h=>h
  | u :: us,us2,x :: xs,h=>JQ (us:=us) h.2
  | u :: us,us2,[],h=>h.elim
theorem Pz {b:Bool} {x:TV} (h:VLe (bl b) x.v):x = ⟨.b,b⟩:=by
  obtain ⟨t,x⟩:=x
  match t,x,h with
  | .b,x,h1 =>
    change VLe (.c (.lit (.bool b))) (.c (.lit (.bool x))) at h1
    rw [VLe] at h1
    cases h1
    rfl
  | .st k,x,h1=>change VLe (.c (.lit (.bool b))) (.agg _) at h1; simp [VLe] at h1
  | .arr n t,x,h1=>change VLe (.c (.lit (.bool b))) (.agg _) at h1; simp [VLe] at h1
  | .i k,x,h1=>change VLe (.c (.lit (.bool b))) (.c (.lit (.int k x))) at h1; rw [VLe] at h1; cases h1
  | .ls t,x,h1=>change VLe (.c (.lit (.bool b))) (.c (.sl t x)) at h1; rw [VLe] at h1; cases h1
  | .s,x,h1=>change VLe (.c (.lit (.bool b))) (.c (.lit (.string x))) at h1; rw [VLe] at h1; cases h1
theorem No {R:Type} (T:Tm) (y:HP T.tys) (H:af) (nid:Nat) (args:List V) (k:aA→Option R):jv (.gen T) y H nid args k = iC T (fN T.tys y) H nid args k:=rfl
theorem OP (T:Tm) (σ:St) (v:V):cI.rdG (.gen T) σ v = Cx T { σ with tm:=(RS,⟨[], .tup [v]⟩) :: σ.tm }:=rfl
theorem N6 {T:Tm} {σ:St} {x:HP T.tys} (h:Cx T σ = some x):dh σ (z6 T (fN T.tys x)):=tR h
theorem HM {R:Type} (T T':Tm) (y:HP (.b :: (T.tys++T'.tys))) {t:Bool} {xs:List TV} (hx:fN (.b :: (T.tys++T'.tys)) y = (⟨.b,t⟩:TV) :: xs) (H:af) (nid:Nat) (args:List V) (k:aA→Option R) :
    jv (.gen2 T T') y H nid args k = bif t then iC T xs H nid args k else iC T' (xs.drop T.tys.length) H nid args k:=by
  show (match fN (.b :: (T.tys++T'.tys)) y with | ⟨.b,t⟩ :: xs=>bif t then iC T xs H nid args k else iC T' (xs.drop T.tys.length) H nid args k | _=>none) = _
  rw [hx]
theorem Ni (T T':Tm) (σ:St) (v:V):cI.rdG (.gen2 T T') σ v = match Kd T { σ with tm:=(RS,⟨[], .tup [v]⟩) :: σ.tm } with
    | some us=>kv (.b :: (T.tys++T'.tys)) (bl true :: (us++JX T'.tys))
    | none=>(match Kd T' { σ with tm:=(RS,⟨[], .tup [v]⟩) :: σ.tm } with
      | some us=>kv (.b :: (T.tys++T'.tys)) (bl false :: (JX T.tys++us))
      | none=>none):=rfl
theorem OS {T T':Tm} {σ:St} {v:V} {y:HP (cI.gen2 T T').tys} (h:(cI.gen2 T T').rdG σ v = some y):∃ (T0:Tm) (xs:List TV),dh { σ with tm:=(RS,⟨[], .tup [v]⟩) :: σ.tm } (z6 T0 xs) ∧
    ∀ {R:Type} (H:af) (nid:Nat) (args:List V) (k:aA→Option R),jv (.gen2 T T') y H nid args k = iC T0 xs H nid args k:=by
  rw [Ni] at h
  have key:∀ (b:Bool) (us:List V),kv (.b :: (T.tys++T'.tys)) (bl b :: us) = some y→∃ xs,fN (.b :: (T.tys++T'.tys)) y = (⟨.b,b⟩:TV) :: xs∧RV us xs:=by
    intro b us hh
    have hr:=rg _ _ _ hh
    revert hr
    generalize fN (.b :: (T.tys++T'.tys)) y = l
    intro hr
    match l,hr with
    | [],hr=>exact hr.elim
    | x :: xs,hr=>exact ⟨xs,by rw [Pz hr.1],hr.2⟩
  split at h
  · next us hu =>
    obtain ⟨xs,hx,hr⟩:=key _ _ h
    exact ⟨T,xs,J7 hu hr,fun H nid args k=>by rw [HM T T' y hx,cond_true]⟩
  · split at h
    · next us hu =>
      obtain ⟨xs,hx,hr⟩:=key _ _ h
      have h2:=JQ hr
      have e:(JX T.tys).length = T.tys.length:=by simp [JX]
      rw [e] at h2
      exact ⟨T',xs.drop T.tys.length,J7 (us2:=[]) hu (by rw [List.append_nil]; exact h2),fun H nid args k=>by rw [HM T T' y hx,cond_false]⟩
    · cases h
theorem PD {o:cI} {σ:St} {v:V} {y:HP o.tys} (h:o.rdG σ v = some y):∃ (T:Tm) (xs:List TV),dh { σ with tm:=(RS,⟨[], .tup [v]⟩) :: σ.tm } (z6 T xs) ∧
    ∀ {R:Type} (H:af) (nid:Nat) (args:List V) (k:aA→Option R),jv o y H nid args k = iC T xs H nid args k:=by
  cases o with
  | gen T =>
    rw [OP] at h
    exact ⟨T,fN T.tys y,N6 h,fun H nid args k=>No T y H nid args k⟩
  | gen2 T T'=>exact @OS T T' σ v y h
  | data c =>
    have h:(none:Option (HP (cI.data c).tys)) = some y:=h
    cases h
  | new c =>
    have h:(none:Option (HP (cI.new c).tys)) = some y:=h
    cases h
  | own fr e t =>
    have h:(none:Option (HP (cI.own fr e t).tys)) = some y:=h
    cases h
inductive Sp where
  | none
  | hand (fi:FI) (h:XT→HP fi.ins.tys→Option (HP fi.out.tys))
  | mut (m:XT→af→Nat→List V→Option aA)
structure jg where
  P:Program
  fs:List (FuncId × List FI)
  sp:FuncId→Sp
def Dm:List FI→Bool
  | fi :: _=>fi.out.isGen
  | []=>false
def lN {R:Type} (fi:FI) (h:HP fi.ins.tys→Option (HP fi.out.tys)) (H:af) (nid:Nat) (args:List V) (k:aA→Option R):Option R:=match rdG fi H args with
  | some a=>(h a).bind fun y=>jv fi.out y H nid args k
  | none=>none
def lD {R:Type} (fi:FI) (h:HP fi.ins.tys→Option (HP fi.out.tys)) (vs:List V) (k:iZ→Option R):Option R:=match ya fi vs with
  | some a=>(h a).bind fun y=>k (fi.out.out y)
  | none=>none
def eZ (Tb:jg) (X:XT) (f:FuncId):CC:=match cR Tb.fs f with
  | some l=>bif Dm l then .mut fun H nid args=>iY X H nid args some l else .pure fun vs=>(gq X vs some l).map fun o=>(true,o)
  | none=>match Tb.sp f with
    | .hand fi h=>bif fi.out.isGen then .mut fun H nid args=>lN fi (h X) H nid args some else .pure fun vs=>(lD fi (h X) vs some).map fun o=>(true,o)
    | .mut m=>.mut (m X)
    | .none=>.pure fun _=>none
def mv (C:FuncId→CC) (fs:List FuncId):FuncId→Option CC:=fun f=>bif dM f fs then some (.pure fun _=>some (false, .data (.c .unk))) else some (C f)
theorem CK {R:Type} (X:XT) (vs:List V) (k:iZ→Option R):∀ l:List FI,gq X vs k l = (gq X vs some l).bind k
  | []=>rfl
  | fi :: r=>by
    unfold gq
    split
    · next a ha=>cases X fi a <;> rfl
    · exact CK X vs k r
theorem EQ {R:Type} (T:Tm) (xs:List TV) (H:af) (nid:Nat) (args:List V) (k:aA→Option R):iC T xs H nid args k = (iC T xs H nid args some).bind k:=by
  unfold iC
  split
  · cases Hf T H (jw args T.sl) <;> rfl
  · rfl
theorem EV {R:Type} (o:cI) (y:HP o.tys) (H:af) (nid:Nat) (args:List V) (k:aA→Option R):jv o y H nid args k = (jv o y H nid args some).bind k:=by
  unfold jv
  split
  · exact EQ ..
  · split
    · next t xs _=>cases t <;> exact EQ ..
    · rfl
  · rfl
theorem CM {R:Type} (X:XT) (H:af) (nid:Nat) (args:List V) (k:aA→Option R):∀ l:List FI,iY X H nid args k l = (iY X H nid args some l).bind k
  | []=>rfl
  | fi :: r=>by
    unfold iY
    split
    · next a ha =>
      cases X fi a with
      | none=>rfl
      | some y=>rw [Option.bind_some,Option.bind_some]; exact EV ..
    · exact CM X H nid args k r
def gb {α:Type} (b:Bool) (o:Option α):Option α:=bif b then o else none
def gL {α:Type}:List Bool→Option α→Option α
  | [],o=>o
  | b :: r,o=>gb b (gL r o)
theorem tT {α:Type} {o:Option α} {y:α}:∀ {l:List Bool},gL l o = some y→(∀ b∈l,b = true)∧o = some y
  | [],h=>⟨fun b hb=>by simp at hb,h⟩
  | b :: l,h=>by
    unfold gL gb at h
    cases b with
    | false=>cases h
    | true =>
      obtain ⟨h1,h2⟩:=tT (l:=l) h
      exact ⟨fun c hc=>by rcases List.mem_cons.1 hc with rfl | hc; rfl; exact h1 c hc,h2⟩
def eE.bools:{ps:List Prop}→eE ps→List Bool
  | _, .nil=>[]
  | _, .cons (p:=p) d r=>@aa p d :: r.bools
def GD (tm:List (Nat × aw)) (ch:aH) (bs:List Bool):List Bool:=match ch with
  | []=>bs
  | ch=>bs.map fun b=>!(holds tm ch)||b
theorem rW:∀ {ps:List Prop} (d:eE ps),(∀ b∈d.bools,b = true)→∀ p∈ps,p
  | _, .nil,_,p,hp=>by simp at hp
  | _, .cons d r,h,p,hp=>by
    rcases List.mem_cons.1 hp with rfl | hp
    · exact of_decide_eq_true (h _ (by simp [eE.bools]))
    · exact rW r (fun b hb=>h b (by simp [eE.bools,hb])) p hp
theorem EO {c:Prop} {b:Bool} (hb:b = true↔c):∀ {ps:List Prop} (d:eE ps),(∀ x∈d.bools.map (fun y=>!b||y),x = true)→∀ p∈ps,c→p
  | _, .nil,_,p,hp=>by simp at hp
  | _, .cons d r,h,p,hp=>by
    intro hc
    rcases List.mem_cons.1 hp with rfl | hp
    · have:=h (!b||@decide _ d) (by simp [eE.bools])
      rw [hb.2 hc] at this
      exact of_decide_eq_true (by simpa using this)
    · exact EO hb r (fun x hx=>h x (by simp only [eE.bools,List.map_cons,List.mem_cons]; exact .inr hx)) p hp hc
theorem MD {tm:List (Nat × aw)} {ch:aH} {ps:List Prop} (d:eE ps) (h:∀ b∈GD tm ch d.bools,b = true):∀ p∈iB tm ch ps,p:=by
  unfold GD iB at *
  cases ch with
  | nil=>exact rW d h
  | cons x l =>
    intro p hp
    simp only [List.mem_map] at hp
    obtain ⟨q,hq,rfl⟩:=hp
    exact EO Iff.rfl d h q hq
def qt (nid:Nat) (args:List V):iZ→Option aA
  | .data v=>bif (!fo args)||v.scalar then some { pre:=[true = true],val:=v } else none
  | .new v=>some { pre:=[true = true],val:=v }
  | .own fr e t l=>bif (!fo args)||fr then some { pre:=[true = true],val:=.row nid t.k,eff:=[(nid,some (.row e t l))] } else none
def p8 (H:af) (nid:Nat) (args:List V) (out:iZ):Option aA:=match qt nid args out with
  | some r=>some r
  | none=>bif V.noPs args then jh (fun _ vs=>qt nid vs out) (V.refss args) H args else none
theorem LY {o:Nat} {e:TypeId} {t:Ty} (H:af) {q:Nat} (h:q≠o):af.get ((o,some (.row e t [])) :: dO [o] H) q = mW o (af.get H q):=by
  rw [af.get_cons,if_neg (Ne.symm h),ez]
mutual
theorem view_fz {o:Nat} {e:TypeId} {t:Ty} {l:List t.T} {H:af} (hg:H.get o = some (.row e t l)):∀ v:V,v.noP = true→(V.fz o t l v).view ((o,some (.row e t [])) :: dO [o] H) = v.view H
  | .c d,_=>rfl
  | .agg vs,hn=>by rw [V.fz,V.view,V.view,views_fz hg vs (by simpa [V.noP] using hn)]
  | .tup vs,hn=>by rw [V.fz,V.view,V.view,views_fz hg vs (by simpa [V.noP] using hn)]
  | .ptr ..,hn=>by simp [V.noP] at hn
  | .row o' k,_=>by
    rw [V.fz]
    cases hb:Nat.beq o' o with
    | true =>
      have:=Nat.eq_of_beq_eq_true hb
      subst this
      rw [cond_true,V.view,q9,hg]
      simp only
      cases Nat.beq t.k k <;> rfl
    | false =>
      have hne:o'≠o:=fun h=>by subst h; simp at hb
      rw [cond_false,V.view,V.view,q9,q9,LY H hne]
      cases af.get H o' with
      | none=>rfl
      | some b=>cases b <;> rfl
  | .sub o' k off n,_=>by
    rw [V.fz]
    cases hb:Nat.beq o' o with
    | true =>
      have:=Nat.eq_of_beq_eq_true hb
      subst this
      rw [cond_true,V.view,qr,hg]
      simp only
      cases Nat.beq t.k k <;> rfl
    | false =>
      have hne:o'≠o:=fun h=>by subst h; simp at hb
      rw [cond_false,V.view,V.view,qr,qr,LY H hne]
      cases af.get H o' with
      | none=>rfl
      | some b=>cases b <;> rfl
  | .dptr ..,_=>rfl
  | .fn f vs,hn=>by rw [V.fz,V.view,V.view,views_fz hg vs (by simpa [V.noP] using hn)]
theorem views_fz {o:Nat} {e:TypeId} {t:Ty} {l:List t.T} {H:af} (hg:H.get o = some (.row e t l)):∀ vs:List V,V.noPs vs = true→V.views ((o,some (.row e t [])) :: dO [o] H) (V.fzs o t l vs) = V.views H vs
  | [],_=>rfl
  | v :: r,hn=>by
    rw [V.noPs,Bool.and_eq_true] at hn
    rw [V.fzs,V.views,V.views,view_fz hg v hn.1,views_fz hg r hn.2]
end
mutual
theorem noP_fz (o:Nat) (t:Ty) (l:List t.T):∀ v:V,v.noP = true→(V.fz o t l v).noP = true
  | .c d,_=>rfl
  | .agg vs,hn=>by rw [V.fz,V.noP]; exact noPs_fz o t l vs (by simpa [V.noP] using hn)
  | .tup vs,hn=>by rw [V.fz,V.noP]; exact noPs_fz o t l vs (by simpa [V.noP] using hn)
  | .ptr ..,hn=>by simp [V.noP] at hn
  | .row o' k,_=>by
    rw [V.fz]
    cases Nat.beq o' o with
    | false=>rfl
    | true=>rw [cond_true]; cases Nat.beq t.k k <;> rfl
  | .sub o' k off n,_=>by
    rw [V.fz]
    cases Nat.beq o' o with
    | false=>rfl
    | true=>rw [cond_true]; cases Nat.beq t.k k <;> rfl
  | .dptr ..,_=>rfl
  | .fn f vs,hn=>by rw [V.fz,V.noP]; exact noPs_fz o t l vs (by simpa [V.noP] using hn)
theorem noPs_fz (o:Nat) (t:Ty) (l:List t.T):∀ vs:List V,V.noPs vs = true→V.noPs (V.fzs o t l vs) = true
  | [],_=>rfl
  | v :: r,hn=>by
    rw [V.noPs,Bool.and_eq_true] at hn
    rw [V.fzs,V.noPs,noP_fz o t l v hn.1,noPs_fz o t l r hn.2]; rfl
end
theorem zo {C:FuncId→Option CC} {H:af} {nid:Nat} {f:FuncId} {args:List V} {con:J9} {out:iZ} (hc:C f = some (.pure con)) (ho:con (V.views H args) = some (true,out)):gj C H nid f args = qt nid args out:=by
  unfold gj
  rw [hc]
  simp only [ho]
  cases out <;> rfl
theorem HN {C:FuncId→Option CC} {nid:Nat} {f:FuncId} {con:J9} {out:iZ} (hc:C f = some (.pure con)):∀ (fl:List Nat) (H:af) (args:List V),V.noPs args = true→con (V.views H args) = some (true,out) →
    jh (qh C f nid) fl H args = jh (fun _ vs=>qt nid vs out) fl H args
  | [],H,args,hn,ho=>by
    rw [jh,jh]
    unfold qh
    rw [hn,cond_true,hc]
    simp only
    exact zo hc ho
  | q :: fl,H,args,hn,ho=>by
    rw [jh,jh]
    split
    · next e t l hg =>
      rw [HN hc fl _ _ (noPs_fz q t l args hn) (by rw [views_fz hg args hn]; exact ho)]
    · rfl
theorem Im {C:FuncId→Option CC} {H:af} {nid:Nat} {f:FuncId} {args:List V} {con:J9} {out:iZ} {r:aA} (hc:C f = some (.pure con)) (ho:con (V.views H args) = some (true,out)) (h:p8 H nid args out = some r):lH C H nid f args = some r:=by
  unfold lH
  rw [zo hc ho]
  unfold p8 at h
  split at h
  · next r' hr=>rw [hr]; exact h
  · next hr =>
    rw [hr]
    cases hn:V.noPs args with
    | false=>rw [hn] at h; cases h
    | true =>
      rw [hn,cond_true] at h
      simp only
      rw [HN hc _ _ _ hn ho]
      exact h
theorem JN {f:af→List V→Option aA} {P0:List Prop→Prop} (hf:∀ H vs r,f H vs = some r→P0 r.pre):∀ (fl:List Nat) (H:af) (vs:List V) (r:aA),jh f fl H vs = some r→P0 r.pre
  | [],H,vs,r,h=>hf H vs r h
  | q :: fl,H,vs,r,h=>by
    rw [jh] at h
    split at h
    · next e t l hg =>
      cases hb:jh f fl ((q,some (.row e t [])) :: dO [q] H) (V.fzs q t l vs) with
      | none=>rw [hb] at h; cases h
      | some r0=>rw [hb] at h; cases h; exact JN hf fl _ _ r0 hb
    · cases h
theorem B6 {nid:Nat} {args:List V} {out:iZ} {r:aA} (hr:qt nid args out = some r):r.pre = [true = true]:=by
  cases out with
  | data v =>
    simp only [qt] at hr
    cases hq:((!fo args)||v.scalar) <;> rw [hq] at hr <;> cases hr
    rfl
  | new v=>cases hr; rfl
  | own fr e t l =>
    simp only [qt] at hr
    cases hq:((!fo args)||fr) <;> rw [hq] at hr <;> cases hr
    rfl
theorem FA {H:af} {nid:Nat} {args:List V} {out:iZ} {r:aA} (h:p8 H nid args out = some r):r.pre = [true = true]:=by
  unfold p8 at h
  split at h
  · next r' hr=>cases h; exact B6 hr
  · cases hn:V.noPs args with
    | false=>rw [hn] at h; cases h
    | true=>rw [hn,cond_true] at h; exact JN (P0:=fun ps=>ps = [true = true]) (fun _ _ _ h=>B6 h) _ _ _ _ h
def Lh {R:Type} (X:XT) (l:List FI) (H:af) (nid:Nat) (args:List V) (k:aA→Option R):Option R :=
  bif Dm l then iY X (bz (aR H args) H) nid args k l
  else gq X (V.views H args) (fun out=>match p8 H nid args out with | some r=>k r | none=>none) l
def vd {R:Type} (Tb:jg) (X:XT) (f:FuncId) (H:af) (nid:Nat) (args:List V) (k:aA→Option R):Option R :=
  match cR Tb.fs f with
  | some l=>Lh X l H nid args k
  | none=>match Tb.sp f with
    | .hand fi h=>bif fi.out.isGen then lN fi (h X) (bz (aR H args) H) nid args k else lD fi (h X) (V.views H args) fun out=>match p8 H nid args out with | some r=>k r | none=>none
    | .mut m=>(m X (bz (aR H args) H) nid args).bind fun r=>gL r.dec.bools (k r)
    | .none=>none
theorem yl {C:FuncId→Option CC} {H:af} {nid:Nat} {f:FuncId} {args:List V} {m:af→Nat→List V→Option aA} {r:aA} (hc:C f = some (.mut m)) (hm:m (bz (aR H args) H) nid args = some r):lH C H nid f args = some r:=by
  have h0:gj C H nid f args = some r:=by
    unfold gj
    rw [hc]
    exact hm
  unfold lH
  rw [h0]
theorem vE {T:Tm} {xs:List TV} {H:af} {nid:Nat} {args:List V} {r:aA} (h:iC T xs H nid args some = some r):r.pre = [true = true]:=by
  unfold iC at h
  split at h
  · cases hb:Hf T H (jw args T.sl) with
    | false=>rw [hb] at h; cases h
    | true=>rw [hb] at h; cases h; rfl
  · cases h
theorem Fn {X:XT} {H:af} {nid:Nat} {args:List V} {r:aA}:∀ {l:List FI},iY X H nid args some l = some r→r.pre = [true = true]
  | [],h=>by cases h
  | fi :: l,h=>by
    unfold iY at h
    split at h
    · rw [Option.bind_eq_some_iff] at h
      obtain ⟨y,_,h⟩:=h
      unfold jv at h
      split at h
      · exact vE h
      · split at h
        · next t xs _=>cases t <;> exact vE h
        · cases h
      · cases h
    · exact Fn h
theorem Lw {R:Type} (fi:FI) (h:HP fi.ins.tys→Option (HP fi.out.tys)) (H:af) (nid:Nat) (args:List V) (k:aA→Option R):lN fi h H nid args k = (lN fi h H nid args some).bind k:=by
  unfold lN
  split
  · next a _ =>
    cases h a with
    | none=>rfl
    | some y=>rw [Option.bind_some,Option.bind_some]; exact EV ..
  · rfl
theorem K4 {R:Type} (fi:FI) (h:HP fi.ins.tys→Option (HP fi.out.tys)) (vs:List V) (k:iZ→Option R):lD fi h vs k = (lD fi h vs some).bind k:=by
  unfold lD
  split
  · next a _=>cases h a <;> rfl
  · rfl
theorem NU {o:cI} {y:HP o.tys} {H:af} {nid:Nat} {args:List V} {r:aA} (h:jv o y H nid args some = some r):r.pre = [true = true]:=by
  unfold jv at h
  split at h
  · exact vE h
  · split at h
    · next t xs _=>cases t <;> exact vE h
    · cases h
  · cases h
theorem MS {fi:FI} {h:HP fi.ins.tys→Option (HP fi.out.tys)} {H:af} {nid:Nat} {args:List V} {r:aA} (hh:lN fi h H nid args some = some r):r.pre = [true = true]:=by
  unfold lN at hh
  split at hh
  · rw [Option.bind_eq_some_iff] at hh
    obtain ⟨y,_,hh⟩:=hh
    exact NU hh
  · cases hh
theorem BJ {R:Type} {Tb:jg} {X:XT} {f:FuncId} {H:af} {nid:Nat} {args:List V} {k:aA→Option R} {y:R} (h:vd Tb X f H nid args k = some y) :
    ∃ r,k r = some y∧(∀ p∈r.pre,p)∧∀ C:FuncId→Option CC,C f = some (eZ Tb X f)→lH C H nid f args = some r:=by
  have one:∀ {ps:List Prop},ps = [true = true]→∀ p∈ps,p:=fun e p hp=>by subst e; rw [List.mem_singleton] at hp; subst hp; rfl
  unfold vd at h
  split at h
  · next l hl =>
    unfold Lh at h
    cases hg:Dm l with
    | true =>
      rw [hg,cond_true,CM,Option.bind_eq_some_iff] at h
      obtain ⟨r,h1,h2⟩:=h
      refine ⟨r,h2,one (Fn h1),fun C hC=>yl (m:=fun H nid args=>iY X H nid args some l) (by rw [hC]; unfold eZ; rw [hl]; simp only [hg,cond_true]) h1⟩
    | false =>
      rw [hg,cond_false,CK,Option.bind_eq_some_iff] at h
      obtain ⟨out,h1,h2⟩:=h
      split at h2
      · next r hr=>exact ⟨r,h2,one (FA hr),fun C hC=>Im (con:=fun vs=>(gq X vs some l).map fun o=>(true,o)) (by rw [hC]; unfold eZ; rw [hl]; simp only [hg,cond_false]) (by simp only [h1,Option.map_some]) hr⟩
      · cases h2
  · next hl =>
    split at h
    · next fi hd hc =>
      cases hg:fi.out.isGen with
      | true =>
        rw [hg,cond_true,Lw,Option.bind_eq_some_iff] at h
        obtain ⟨r,h1,h2⟩:=h
        exact ⟨r,h2,one (MS h1),fun C hC=>yl (m:=fun H nid args=>lN fi (hd X) H nid args some) (by rw [hC]; unfold eZ; rw [hl]; simp only [hc,hg,cond_true]) h1⟩
      | false =>
        rw [hg,cond_false,K4,Option.bind_eq_some_iff] at h
        obtain ⟨out,h1,h2⟩:=h
        split at h2
        · next r hr=>exact ⟨r,h2,one (FA hr),fun C hC=>Im (con:=fun vs=>(lD fi (hd X) vs some).map fun o=>(true,o)) (by rw [hC]; unfold eZ; rw [hl]; simp only [hc,hg,cond_false]) (by simp only [h1,Option.map_some]) hr⟩
        · cases h2
    · next m hm =>
      rw [Option.bind_eq_some_iff] at h
      obtain ⟨r,h1,h2⟩:=h
      obtain ⟨h3,h4⟩:=tT h2
      exact ⟨r,h4,rW _ h3,fun C hC=>yl (m:=m X) (by rw [hC]; unfold eZ; rw [hl]; simp only [hm]) h1⟩
    · cases h
def H1 (o:Oper) (vs:List V):Option (FuncId × List V):=match o.op,vs with
  | .call { callee:=.value _, .. }, .fn f caps :: vs=>bif Nat.blt f 1000000000 then some (f,vs++caps) else none
  | _,_=>none
def nJ (o:Oper):Bool:=match o.op with
  | .call { callee:=.value _, .. }=>true
  | _=>false
def Gj (o:Oper) (σ:St) (ch:aH) (nid:Nat) (vs:List V) (r:aA):bP:={ dst:=o.dst,rds:=ki (cZ o.op)++ch.map (·.1),ch,nid,vs,reach:=aR σ.hp vs,rws:=nQ σ.hp vs,res:=r }
def GT:List (Nat × aw)→Nat→aw→List (Nat × aw)
  | [],_,_=>[]
  | (t',s') :: r,t,s=>bif Nat.beq t' t then (t',s) :: r else (t',s') :: GT r t s
theorem xm:∀ {tm:List (Nat × aw)} {t:Nat} {s:aw},au tm t = some s→GT tm t s = tm
  | [],t,s,h=>rfl
  | (t',s') :: r,t,s,h=>by
    unfold GT
    unfold au at h
    cases hb:Nat.beq t' t with
    | true=>rw [hb] at h; cases h; rfl
    | false=>rw [hb,cond_false] at h; rw [cond_false,xm h]
def l4 {R:Type}:aH→St→(St→Option R)→Option R
  | [],σ,k=>k σ
  | (t,_) :: r,σ,k=>match au σ.tm t with
    | some ⟨c0, .c (.lit (.bool b))⟩=>bif b then l4 r { σ with tm:=GT σ.tm t ⟨c0,bl true⟩ } k else l4 r { σ with tm:=GT σ.tm t ⟨c0,bl false⟩ } k
    | _=>none
theorem ry {R:Type} {y:R}:∀ {ch:aH} {σ:St} {k:St→Option R},l4 ch σ k = some y→k σ = some y
  | [],σ,k,h=>h
  | (t,w) :: r,σ,k,h=>by
    unfold l4 at h
    split at h
    · next c0 b hg =>
      cases b with
      | true =>
        rw [cond_true,xm hg] at h
        exact ry h
      | false =>
        rw [cond_false,xm hg] at h
        exact ry h
    · cases h
section
variable {R:Type} (Tb:jg) (X:XT) (N:Nat) (all:List Oper)
def E8 (σ:St) (nid:Nat) (o:Oper) (fT fF:List FuncId) (k:St→bP→List FuncId→List FuncId→Option R):Option R :=
  bif nJ o then
    (bif jG N o.dst then
      match dG all σ.tm o.guard with
      | some ch =>
        bif ch.all fun x=>eJ σ.tm ch x.1 then
          l4 ch σ fun σ=>match kd σ ch (cZ o.op) with
            | some vs=>(match H1 o vs with
              | some (f,args) =>
                bif holds σ.tm ch then
                  (bif dM f fF then none else vd Tb X f σ.hp nid args fun r=>bif ch.isEmpty||(r.eff.isEmpty&&r.kill.isEmpty&&fj o.dst ch) then k σ (Gj o σ ch nid vs r) (f :: fT) fF else none)
                else (bif dM f fT then vd Tb X f σ.hp nid args fun r=>bif r.eff.isEmpty&&r.kill.isEmpty&&fj o.dst ch then k σ (Gj o σ ch nid vs r) fT fF else none
                  else bif fj o.dst ch then k σ (Gj o σ ch nid vs { pre:=[false = true],val:=.c .unk }) fT (f :: fF) else none)
              | none=>none)
            | none=>none
        else none
      | none=>none
    else none)
  else match recOf Tb.P (fun _=>none) N all σ nid o with
    | some rc=>gL (GD σ.tm rc.ch rc.res.dec.bools) (k σ rc fT fF)
    | none=>none
end
theorem Nm {P:Program} {C:FuncId→Option CC} {H:af} {nid:Nat} {o:Oper} {vs:List V} {f:FuncId} {args:List V} (h:H1 o vs = some (f,args)):tW P C H nid o vs = lH C H nid f args:=by
  unfold H1 at h
  split at h
  · next g caps vs' ho =>
    cases hb:Nat.blt g 1000000000 with
    | false=>rw [hb] at h; cases h
    | true =>
      rw [hb] at h; cases h
      unfold tW
      rw [ho]
      simp only [hb,cond_true]
  · cases h
theorem JD {P:Program} {C:FuncId→Option CC} {σ:St} {nid:Nat} {ch:aH} {o:Oper} (ho:nJ o = true) {vs:List V} (hv:kd σ ch (cZ o.op) = some vs) {r:aA} (hr:tW P C σ.hp nid o vs = some r):kc P C σ nid ch o = some (vs,r):=by
  unfold nJ at ho
  split at ho
  · next f args ats hop =>
    unfold kc
    rw [hop] at hv ⊢
    simp only [hv]
    unfold xO
    rw [hr]
    rfl
  · cases ho
section
variable {R:Type} {Tb:jg} {X:XT} {N:Nat} {all:List Oper}
theorem OZ {P:Program} {C:FuncId→Option CC} {H:af} {nid:Nat} {o:Oper} {vs:List V} (ho:nJ o = false):tW P (fun _=>none) H nid o vs = tW P C H nid o vs:=by
  unfold tW
  split <;> try rfl
  next hop=>unfold nJ at ho; rw [hop] at ho; cases ho
theorem M4 {P:Program} {C:FuncId→Option CC} {σ:St} {nid:Nat} {o:Oper} (ho:nJ o = false):recOf P (fun _=>none) N all σ nid o = recOf P C N all σ nid o:=by
  have e:∀ ch,kc P (fun _=>none) σ nid ch o = kc P C σ nid ch o:=by
    intro ch
    unfold kc xO
    simp only [OZ (C:=C) ho]
  unfold recOf
  simp only [e]
theorem AB {σ:St} {nid:Nat} {o:Oper} {fT fF:List FuncId} {k:St→bP→List FuncId→List FuncId→Option R} {y:R} (h:E8 Tb X N all σ nid o fT fF k = some y) :
    ∃ rc fT' fF',k σ rc fT' fF' = some y∧(∀ f∈fT,f∈fT')∧(∀ f∈fF,f∈fF')∧((∀ f∈fT,f ∉ fF)→∀ f∈fT',f ∉ fF')∧(o.guard = none→fF' = fF) ∧
      ∀ Ff:List FuncId,(∀ f∈fF',f∈Ff)→(∀ f∈fT',f ∉ Ff)→recOf Tb.P (mv (eZ Tb X) Ff) N all σ nid o = some rc∧∀ p∈iB σ.tm rc.ch rc.res.pre,p:=by
  unfold E8 at h
  cases hc:nJ o with
  | false =>
    rw [hc,cond_false] at h
    split at h
    · next rc hrc =>
      obtain ⟨h1,h2⟩:=tT h
      refine ⟨rc,fT,fF,h2,fun _ h=>h,fun _ h=>h,fun h=>h,fun _=>rfl,fun Ff _ _=>⟨?_,MD _ h1⟩⟩
      rw [← M4 hc]; exact hrc
    · cases h
  | true =>
    rw [hc,cond_true] at h
    cases hd:jG N o.dst with
    | false=>rw [hd] at h; cases h
    | true =>
      rw [hd,cond_true] at h
      split at h
      · next ch hch =>
        cases hg:(ch.all fun x=>eJ σ.tm ch x.1) with
        | false=>rw [hg] at h; cases h
        | true =>
          rw [hg,cond_true] at h
          have h:=ry h
          split at h
          · next vs hvs =>
            split at h
            · next f args hca =>
              have rec_:∀ (C:FuncId→Option CC) (r:aA),lH C σ.hp nid f args = some r→(ch.isEmpty||(r.eff.isEmpty&&r.kill.isEmpty&&fj o.dst ch)) = true→recOf Tb.P C N all σ nid o = some (Gj o σ ch nid vs r):=by
                intro C r hr hx
                unfold recOf
                rw [hd,cond_true,hch]
                simp only [hg,cond_true]
                rw [JD hc hvs ((Nm hca).trans hr)]
                simp only [hx,cond_true]
                rfl
              cases hh:holds σ.tm ch with
              | true =>
                rw [hh,cond_true] at h
                cases hm:dM f fF with
                | true=>rw [hm] at h; cases h
                | false =>
                  rw [hm,cond_false] at h
                  obtain ⟨r,h,hpre,hcv⟩:=BJ h
                  cases hx:(ch.isEmpty||(r.eff.isEmpty&&r.kill.isEmpty&&fj o.dst ch)) with
                  | false=>rw [hx] at h; cases h
                  | true =>
                    rw [hx,cond_true] at h
                    refine ⟨_,f :: fT,fF,h,fun g hg=>List.mem_cons_of_mem _ hg,fun _ h=>h,fun hdj g hg=>?_,fun _=>rfl,fun Ff h1 h2=>⟨rec_ _ r ?_ hx, ?_⟩⟩
                    · rcases List.mem_cons.1 hg with rfl | hg
                      · intro hf
                        have:dM g fF = true:=List.any_eq_true.2 ⟨g,hf,by simp⟩
                        rw [hm] at this; cases this
                      · exact hdj g hg
                    · have hnf:dM f Ff = false:=by
                        cases hb:dM f Ff with
                        | false=>rfl
                        | true=>exact absurd (iy hb) (h2 f (by simp))
                      exact hcv _ (by unfold mv; rw [hnf,cond_false])
                    · intro p hp
                      have hp':p∈iB σ.tm ch r.pre:=hp
                      unfold iB at hp'
                      split at hp'
                      · exact hpre p hp'
                      · obtain ⟨q,hq,rfl⟩:=List.mem_map.1 hp'
                        exact fun _=>hpre q hq
              | false =>
                rw [hh,cond_false] at h
                cases hm:dM f fT with
                | true =>
                  rw [hm,cond_true] at h
                  obtain ⟨r,h,hpre,hcv⟩:=BJ h
                  cases hx:(r.eff.isEmpty&&r.kill.isEmpty&&fj o.dst ch) with
                  | false=>rw [hx] at h; cases h
                  | true =>
                    rw [hx,cond_true] at h
                    refine ⟨_,fT,fF,h,fun _ h=>h,fun _ h=>h,fun hdj=>hdj,fun _=>rfl,fun Ff h1 h2=>⟨rec_ _ r ?_ (by rw [hx,Bool.or_true]), ?_⟩⟩
                    · have hnf:dM f Ff = false:=by
                        cases hb:dM f Ff with
                        | false=>rfl
                        | true=>exact absurd (iy hb) (h2 f (iy hm))
                      exact hcv _ (by unfold mv; rw [hnf,cond_false])
                    · intro p hp
                      have hp':p∈iB σ.tm ch r.pre:=hp
                      unfold iB at hp'
                      split at hp'
                      · exact hpre p hp'
                      · obtain ⟨q,hq,rfl⟩:=List.mem_map.1 hp'
                        exact fun _=>hpre q hq
                | false =>
                  rw [hm,cond_false] at h
                  cases hn:fj o.dst ch with
                  | false=>rw [hn] at h; cases h
                  | true =>
                    rw [hn,cond_true] at h
                    refine ⟨_,fT,f :: fF,h,fun _ h=>h,fun g hg=>List.mem_cons_of_mem _ hg,fun hdj g hg hf=>?_,fun hno=>?_,fun Ff h1 h2=>⟨rec_ _ _ ?_ ?_, ?_⟩⟩
                    · rcases List.mem_cons.1 hf with rfl | hf
                      · have:dM g fT = true:=List.any_eq_true.2 ⟨g,hg,by simp⟩
                        rw [hm] at this; cases this
                      · exact hdj g hg hf
                    · rw [hno] at hch; cases hch; cases hh
                    · have hnf:dM f Ff = true:=List.any_eq_true.2 ⟨f,h1 f (by simp),by simp⟩
                      unfold lH gj mv
                      simp only [hnf,cond_true,V.scalar,Bool.or_true]
                    · simp [hn]
                    · intro p hp
                      have hp':p∈iB σ.tm ch [false = true]:=hp
                      unfold iB at hp'
                      split at hp'
                      · simp [holds] at hh
                      · simp only [List.map_cons,List.map_nil,List.mem_singleton] at hp'; subst hp'; intro h0; rw [hh] at h0; cases h0
            · cases h
          · cases h
      · cases h
end
end Go.Ax
