import Derived.Test.YtnnblpijaoocaaaGreatZB6g
set_option linter.all false
/- An evaluation of code that can be run: functions as plain functions with an option. -/
namespace Go.Ax
open Go.RowKit
def RS:Nat:=2000000
inductive bY where
  | data (c:Cd)
  | new (c:Cd)
  | own (fr:Bool) (e:TypeId) (t:Ty)
  | gen (T:Tm)
  | gen2 (T T':Tm)
def bY.tys:bY→List Ty
  | .gen T=>T.tys
  | .gen2 T T'=>.b :: (T.tys++T'.tys)
  | .data c=>c.tys
  | .new c=>c.tys
  | .own _ _ t=>[.ls t]
def bY.isGen:bY→Bool
  | .gen _=>true
  | .gen2 _ _=>true
  | _=>false
def bY.out:(o:bY)→HP o.tys→gc
  | .gen _,_=>.data (.c .unk)
  | .gen2 _ _,_=>.data (.c .unk)
  | .data c,x=>.data (filC c (et c.tys x)).1
  | .new c,x=>.new (filC c (et c.tys x)).1
  | .own fr e t,x=>.own fr e t x
def bY.rd:(o:bY)→ab→V→Option (HP o.tys)
  | .gen _,_,_=>none
  | .gen2 _ _,_,_=>none
  | .data c,H,v=>match colC c (v.view H) with | some us=>hZ c.tys us | none=>none
  | .new c,H,v=>bif newV H v then (match colC c (v.view H) with | some us=>hZ c.tys us | none=>none) else none
  | .own fr e t,H,v=>match v with
    | .c .nil=>some ([]:List t.T)
    | .row o k=>(match ab.get H o with
      | some (.row e' t' l)=>bif Nat.beq t'.k k&&Nat.beq e e'&&(!fr||t.sc) then iz t' t l else none
      | _=>none)
    | _=>none
theorem bY.rd_ok {o:bY} {H:ab} {v:V} {x:HP o.tys} (h:o.rd H v = some x):lV (o.out x) H v:=by
  have key:∀ (c:Cd) (x:HP c.tys),(match colC c (v.view H) with | some us=>hZ c.tys us | none=>none) = some x→VLe (v.view H) (filC c (et c.tys x)).1:=by
    intro c x h
    split at h
    · next us hu =>
      have hr:=mO _ _ _ h
      exact (colC_le c _ us [] _ hu (by rw [List.append_nil]; exact hr)).1
    · cases h
  cases o with
  | gen T=>cases h
  | gen2 T T'=>cases h
  | data c=>exact key c x h
  | new c =>
    simp only [bY.rd] at h
    cases hn:newV H v with
    | false=>rw [hn] at h; cases h
    | true=>rw [hn] at h; exact ⟨key c x h,hn⟩
  | own fr e t =>
    simp only [bY.rd] at h
    split at h
    · cases h; exact .inl ⟨rfl,rfl⟩
    · next o k =>
      split at h
      · next e' t' l hg =>
        cases hc:(Nat.beq t'.k k&&Nat.beq e e'&&(!fr||t.sc)) with
        | false=>rw [hc] at h; cases h
        | true =>
          rw [hc] at h
          have h:iz t' t l = some x:=h
          simp only [Bool.and_eq_true,Nat.beq_eq,Bool.or_eq_true,Bool.not_eq_true'] at hc
          obtain ⟨he,hx⟩:=fQ h
          subst he
          obtain ⟨⟨rfl,rfl⟩,h3⟩:=hc
          refine .inr ⟨o,rfl, ?_,fun hf=>?_⟩
          · rw [hg]; have:x = l:=hx; rw [this]
          · rcases h3 with h3 | h3
            · rw [hf] at h3; cases h3
            · exact h3
      · cases h
    · cases h
structure wQ where
  T:Tm
  T':Tm
  f:HP T.tys→Option (HP T'.tys)
structure FI where
  fid:FuncId
  fn:Func
  c:Code
  ins:Tm
  out:bY
  cuts:List (Nat × Tm):=[]
  hd:List (Nat × wQ):=[]
abbrev XT:=(fi:FI)→HP fi.ins.tys→Option (HP fi.out.tys)
abbrev JT:=(fi:FI)→(π:Nat)→(T:Tm)→HP T.tys→Option (HP fi.out.tys)
def rC (fi:FI) (vs:List V):Option (HP fi.ins.tys) :=
  bif !fi.out.isGen&&(Nat.beq vs.length fi.ins.sl.length&&fi.ins.ob.isEmpty) then rd fi.ins { tm:=gM vs 0,hp:=[],nx:=0 } else none
def eW {R:Type} (X:XT) (vs:List V) (k:gc→Option R):List FI→Option R
  | []=>none
  | fi :: r=>match rC fi vs with
    | some a=>(X fi a).bind fun y=>k (fi.out.out y)
    | none=>eW X vs k r
def bI {α:Type}:List (Nat × α)→Nat→Option α
  | [],_=>none
  | (g,x) :: r,f=>bif Nat.beq g f then some x else bI r f
def uz (T:Tm) (xs:List TV):St:=let p:=jO T.sl xs; { tm:=p.1,hp:=ij 0 T.ob p.2,nx:=T.ob.length }
def jl (H:ab):List Nat:=v8 [] (H.map (·.1))
def oL:List Nat→Nat
  | []=>0
  | o :: r=>Nat.max (o+1) (oL r)
def Ic (os:List Nat) (H:ab):Bool:=os.all fun o=>match ab.get H o with | some b=>Bb os b | none=>true
def JO (N:Nat) (H:ab) (args:List V):St:={ tm:=gM args 0++gM args 1000000,hp:=k9 (jl H) H,nx:=oL (jl H) }
def rdG (fi:FI) (H:ab) (args:List V):Option (HP fi.ins.tys) :=
  bif Nat.ble args.length fi.fn.ntmps&&(V.refss args).all (fun o=>cY o (jl H))&&Ic (jl H) H then sj fi.ins (JO fi.fn.ntmps H args) else none
def gz (args:List V):List (Nat × Cd)→lr
  | []=>[]
  | (t, .k (.ptr q k i j)) :: r=>bif Nat.ble 1000000 t then (match args[t - 1000000]? with | some (.ptr o _ _ _)=>(q,o,true) :: gz args r | _=>gz args r) else gz args r
  | (t, .k (.row q k)) :: r=>bif Nat.ble 1000000 t then (match args[t - 1000000]? with | some (.row o _)=>(q,o,false) :: gz args r | _=>gz args r) else gz args r
  | _ :: r=>gz args r
def oV:Option Od→Bool
  | some (.box _)=>true
  | some (.map ..)=>true
  | _=>false
def xp:Option Ob→Bool
  | some (.row ..)=>false
  | none=>false
  | _=>true
def AG (T:Tm) (H:ab) (bk:lr):Bool:=Nat.ble T.ob.length 8&&(eG (T.sl.map (·.1))&&(vQ bk&&bk.all fun x=>cY x.2.1 (jl H)&&(Nat.blt x.1 T.ob.length&&(!x.2.2||(oV T.ob[x.1]?&&xp (ab.get H x.2.1))))))
def fU {R:Type} (T:Tm) (xs:List TV) (H:ab) (nid:Nat) (args:List V) (k:ap→Option R):Option R :=
  match am (uz T xs).tm RS with
  | some ⟨_, .tup [v]⟩=>bif AG T H (gz args T.sl) then k (BG nid (jl H) (gz args T.sl) (uz T xs).hp v) else none
  | _=>none
def gC {R:Type} (o:bY) (y:HP o.tys) (H:ab) (nid:Nat) (args:List V) (k:ap→Option R):Option R :=
  match o,y with
  | .gen T,y=>fU T (et T.tys y) H nid args k
  | .gen2 T T',y=>(match et (.b :: (T.tys++T'.tys)) y with
    | ⟨.b,t⟩ :: xs=>bif t then fU T xs H nid args k else fU T' (xs.drop T.tys.length) H nid args k
    | _=>none)
  | _,_=>none
def fR {R:Type} (X:XT) (H:ab) (nid:Nat) (args:List V) (k:ap→Option R):List FI→Option R
  | []=>none
  | fi :: r=>match rdG fi H args with
    | some a=>(X fi a).bind fun y=>gC fi.out y H nid args k
    | none=>fR X H nid args k r
def Dd (T:Tm) (σ:St):Option (List V) :=
  let τ:=pT T σ
  let ts:=T.sl.map (·.1)
  bif gQ ts τ then
    let τ':=canonN ts τ
    bif Nat.ble τ'.nx T.ob.length then (match po τ'.tm T.sl,rM τ'.hp 0 T.ob with
      | some a,some b=>(match hZ T.tys (a++b) with | some _=>some (a++b) | none=>none)
      | _,_=>none) else none
  else none
def Dx (ts:List Ty):List V:=ts.map fun t=>encV t t.z
def bY.rdG:(o:bY)→St→V→Option (HP o.tys)
  | .gen T,σ,v=>sj T { σ with tm:=(RS,⟨[], .tup [v]⟩) :: σ.tm }
  | .gen2 T T',σ,v=>match Dd T { σ with tm:=(RS,⟨[], .tup [v]⟩) :: σ.tm } with
    | some us=>hZ (.b :: (T.tys++T'.tys)) (bl true :: (us++Dx T'.tys))
    | none=>(match Dd T' { σ with tm:=(RS,⟨[], .tup [v]⟩) :: σ.tm } with
      | some us=>hZ (.b :: (T.tys++T'.tys)) (bl false :: (Dx T.tys++us))
      | none=>none)
  | _,_,_=>none
theorem Br {H:ab}:∀ (cs:List Od) (i:Nat) (us us2:List V) (xs:List TV),rM H i cs = some us→RV (us++us2) xs→nf H (ij i cs xs)
  | [],i,us,us2,xs,h,hr=>by rw [ij]; trivial
  | c :: cs,i,us,us2,xs,h,hr=>by
    rw [rM] at h
    split at h
    · next b hg =>
      split at h
      · next a b' ha hb =>
        cases h
        rw [List.append_assoc] at hr
        obtain ⟨h1,h2⟩:=Db c b a (b'++us2) xs ha hr
        show nf H ((i,some _) :: _)
        rw [nf,hg]
        exact ⟨h1,Br cs (i+1) b' us2 _ hb h2⟩
      · cases h
    · cases h
theorem Dl {T:Tm} {σ:St} {us us2:List V} {xs:List TV} (h:Dd T σ = some us) (hr:RV (us++us2) xs):ck σ (uz T xs):=by
  unfold Dd at h
  simp only at h
  cases hc:gQ (T.sl.map (·.1)) (pT T σ) with
  | false=>rw [hc] at h; cases h
  | true =>
    rw [hc,cond_true] at h
    cases hb:Nat.ble (canonN (T.sl.map (·.1)) (pT T σ)).nx T.ob.length with
    | false=>rw [hb] at h; cases h
    | true =>
      rw [hb,cond_true] at h
      split at h
      · next a b ha hb' =>
        split at h
        · cases h
          rw [List.append_assoc] at hr
          obtain ⟨h1,h2⟩:=yk T.sl a (b++us2) xs ha hr
          exact ((zh T σ).trans (ck.canonN _ hc)).trans (.le ⟨h1,Br T.ob 0 b us2 _ hb' h2,Nat.ble_eq.mp hb⟩)
        · cases h
      · cases h
theorem DK:∀ {us us2:List V} {xs:List TV},RV (us++us2) xs→RV us2 (xs.drop us.length)
  | [],us2,xs,h=>h
  | u :: us,us2,x :: xs,h=>DK (us:=us) h.2
  | u :: us,us2,[],h=>h.elim
theorem Kb {b:Bool} {x:TV} (h:VLe (bl b) x.v):x = ⟨.b,b⟩:=by
  obtain ⟨t,x⟩:=x
  match t,x,h with
  | .b,x,h1 =>
    change VLe (.c (.lit (.bool b))) (.c (.lit (.bool x))) at h1
    rw [VLe] at h1
    cases h1
    rfl
  | .st k,x,h1=>change VLe (.c (.lit (.bool b))) (.agg _) at h1; simp [VLe] at h1
  | .arr n t,x,h1=>change VLe (.c (.lit (.bool b))) (.agg _) at h1; simp [VLe] at h1
  | .i k,x,h1=>change VLe (.c (.lit (.bool b))) (.c (.lit (.int k x))) at h1; rw [VLe] at h1; cases h1
  | .ls t,x,h1=>change VLe (.c (.lit (.bool b))) (.c (.sl t x)) at h1; rw [VLe] at h1; cases h1
  | .s,x,h1=>change VLe (.c (.lit (.bool b))) (.c (.lit (.string x))) at h1; rw [VLe] at h1; cases h1
theorem G2 {R:Type} (T:Tm) (y:HP T.tys) (H:ab) (nid:Nat) (args:List V) (k:ap→Option R):gC (.gen T) y H nid args k = fU T (et T.tys y) H nid args k:=rfl
theorem Jo (T:Tm) (σ:St) (v:V):bY.rdG (.gen T) σ v = sj T { σ with tm:=(RS,⟨[], .tup [v]⟩) :: σ.tm }:=rfl
theorem G3 {T:Tm} {σ:St} {x:HP T.tys} (h:sj T σ = some x):ck σ (uz T (et T.tys x)):=ml h
theorem Bw {R:Type} (T T':Tm) (y:HP (.b :: (T.tys++T'.tys))) {t:Bool} {xs:List TV} (hx:et (.b :: (T.tys++T'.tys)) y = (⟨.b,t⟩:TV) :: xs) (H:ab) (nid:Nat) (args:List V) (k:ap→Option R) :
    gC (.gen2 T T') y H nid args k = bif t then fU T xs H nid args k else fU T' (xs.drop T.tys.length) H nid args k:=by
  show (match et (.b :: (T.tys++T'.tys)) y with | ⟨.b,t⟩ :: xs=>bif t then fU T xs H nid args k else fU T' (xs.drop T.tys.length) H nid args k | _=>none) = _
  rw [hx]
theorem GN (T T':Tm) (σ:St) (v:V):bY.rdG (.gen2 T T') σ v = match Dd T { σ with tm:=(RS,⟨[], .tup [v]⟩) :: σ.tm } with
    | some us=>hZ (.b :: (T.tys++T'.tys)) (bl true :: (us++Dx T'.tys))
    | none=>(match Dd T' { σ with tm:=(RS,⟨[], .tup [v]⟩) :: σ.tm } with
      | some us=>hZ (.b :: (T.tys++T'.tys)) (bl false :: (Dx T.tys++us))
      | none=>none):=rfl
theorem Jb {T T':Tm} {σ:St} {v:V} {y:HP (bY.gen2 T T').tys} (h:(bY.gen2 T T').rdG σ v = some y):∃ (T0:Tm) (xs:List TV),ck { σ with tm:=(RS,⟨[], .tup [v]⟩) :: σ.tm } (uz T0 xs) ∧
    ∀ {R:Type} (H:ab) (nid:Nat) (args:List V) (k:ap→Option R),gC (.gen2 T T') y H nid args k = fU T0 xs H nid args k:=by
  rw [GN] at h
  have key:∀ (b:Bool) (us:List V),hZ (.b :: (T.tys++T'.tys)) (bl b :: us) = some y→∃ xs,et (.b :: (T.tys++T'.tys)) y = (⟨.b,b⟩:TV) :: xs∧RV us xs:=by
    intro b us hh
    have hr:=mO _ _ _ hh
    revert hr
    generalize et (.b :: (T.tys++T'.tys)) y = l
    intro hr
    match l,hr with
    | [],hr=>exact hr.elim
    | x :: xs,hr=>exact ⟨xs,by rw [Kb hr.1],hr.2⟩
  split at h
  · next us hu =>
    obtain ⟨xs,hx,hr⟩:=key _ _ h
    exact ⟨T,xs,Dl hu hr,fun H nid args k=>by rw [Bw T T' y hx,cond_true]⟩
  · split at h
    · next us hu =>
      obtain ⟨xs,hx,hr⟩:=key _ _ h
      have h2:=DK hr
      have e:(Dx T.tys).length = T.tys.length:=by simp [Dx]
      rw [e] at h2
      exact ⟨T',xs.drop T.tys.length,Dl (us2:=[]) hu (by rw [List.append_nil]; exact h2),fun H nid args k=>by rw [Bw T T' y hx,cond_false]⟩
    · cases h
theorem Kg {o:bY} {σ:St} {v:V} {y:HP o.tys} (h:o.rdG σ v = some y):∃ (T:Tm) (xs:List TV),ck { σ with tm:=(RS,⟨[], .tup [v]⟩) :: σ.tm } (uz T xs) ∧
    ∀ {R:Type} (H:ab) (nid:Nat) (args:List V) (k:ap→Option R),gC o y H nid args k = fU T xs H nid args k:=by
  cases o with
  | gen T =>
    rw [Jo] at h
    exact ⟨T,et T.tys y,G3 h,fun H nid args k=>G2 T y H nid args k⟩
  | gen2 T T'=>exact @Jb T T' σ v y h
  | data c =>
    have h:(none:Option (HP (bY.data c).tys)) = some y:=h
    cases h
  | new c =>
    have h:(none:Option (HP (bY.new c).tys)) = some y:=h
    cases h
  | own fr e t =>
    have h:(none:Option (HP (bY.own fr e t).tys)) = some y:=h
    cases h
inductive Sp where
  | none
  | hand (fi:FI) (h:XT→HP fi.ins.tys→Option (HP fi.out.tys))
  | mut (m:XT→ab→Nat→List V→Option ap)
structure fE where
  P:Program
  fs:List (FuncId × List FI)
  sp:FuncId→Sp
def xy:List FI→Bool
  | fi :: _=>fi.out.isGen
  | []=>false
def i7 {R:Type} (fi:FI) (h:HP fi.ins.tys→Option (HP fi.out.tys)) (H:ab) (nid:Nat) (args:List V) (k:ap→Option R):Option R:=match rdG fi H args with
  | some a=>(h a).bind fun y=>gC fi.out y H nid args k
  | none=>none
def jh {R:Type} (fi:FI) (h:HP fi.ins.tys→Option (HP fi.out.tys)) (vs:List V) (k:gc→Option R):Option R:=match rC fi vs with
  | some a=>(h a).bind fun y=>k (fi.out.out y)
  | none=>none
def dx (Tb:fE) (X:XT) (f:FuncId):CC:=match bI Tb.fs f with
  | some l=>bif xy l then .mut fun H nid args=>fR X H nid args some l else .pure fun vs=>(eW X vs some l).map fun o=>(true,o)
  | none=>match Tb.sp f with
    | .hand fi h=>bif fi.out.isGen then .mut fun H nid args=>i7 fi (h X) H nid args some else .pure fun vs=>(jh fi (h X) vs some).map fun o=>(true,o)
    | .mut m=>.mut (m X)
    | .none=>.pure fun _=>none
def jQ (C:FuncId→CC) (fs:List FuncId):FuncId→Option CC:=fun f=>bif cY f fs then some (.pure fun _=>some (false, .data (.c .unk))) else some (C f)
theorem vE {R:Type} (X:XT) (vs:List V) (k:gc→Option R):∀ l:List FI,eW X vs k l = (eW X vs some l).bind k
  | []=>rfl
  | fi :: r=>by
    unfold eW
    split
    · next a ha=>cases X fi a <;> rfl
    · exact vE X vs k r
theorem yS {R:Type} (T:Tm) (xs:List TV) (H:ab) (nid:Nat) (args:List V) (k:ap→Option R):fU T xs H nid args k = (fU T xs H nid args some).bind k:=by
  unfold fU
  split
  · cases AG T H (gz args T.sl) <;> rfl
  · rfl
theorem ym {R:Type} (o:bY) (y:HP o.tys) (H:ab) (nid:Nat) (args:List V) (k:ap→Option R):gC o y H nid args k = (gC o y H nid args some).bind k:=by
  unfold gC
  split
  · exact yS ..
  · split
    · next t xs _=>cases t <;> exact yS ..
    · rfl
  · rfl
theorem wC {R:Type} (X:XT) (H:ab) (nid:Nat) (args:List V) (k:ap→Option R):∀ l:List FI,fR X H nid args k l = (fR X H nid args some l).bind k
  | []=>rfl
  | fi :: r=>by
    unfold fR
    split
    · next a ha =>
      cases X fi a with
      | none=>rfl
      | some y=>rw [Option.bind_some,Option.bind_some]; exact ym ..
    · exact wC X H nid args k r
def gb {α:Type} (b:Bool) (o:Option α):Option α:=bif b then o else none
def gL {α:Type}:List Bool→Option α→Option α
  | [],o=>o
  | b :: r,o=>gb b (gL r o)
theorem mi {α:Type} {o:Option α} {y:α}:∀ {l:List Bool},gL l o = some y→(∀ b∈l,b = true)∧o = some y
  | [],h=>⟨fun b hb=>by simp at hb,h⟩
  | b :: l,h=>by
    unfold gL gb at h
    cases b with
    | false=>cases h
    | true =>
      obtain ⟨h1,h2⟩:=mi (l:=l) h
      exact ⟨fun c hc=>by rcases List.mem_cons.1 hc with rfl | hc; rfl; exact h1 c hc,h2⟩
def dF.bools:{ps:List Prop}→dF ps→List Bool
  | _, .nil=>[]
  | _, .cons (p:=p) d r=>@aa p d :: r.bools
def B3 (tm:List (Nat × ao)) (ch:ax) (bs:List Bool):List Bool:=match ch with
  | []=>bs
  | ch=>bs.map fun b=>!(holds tm ch)||b
theorem nQ:∀ {ps:List Prop} (d:dF ps),(∀ b∈d.bools,b = true)→∀ p∈ps,p
  | _, .nil,_,p,hp=>by simp at hp
  | _, .cons d r,h,p,hp=>by
    rcases List.mem_cons.1 hp with rfl | hp
    · exact of_decide_eq_true (h _ (by simp [dF.bools]))
    · exact nQ r (fun b hb=>h b (by simp [dF.bools,hb])) p hp
theorem y7 {c:Prop} {b:Bool} (hb:b = true↔c):∀ {ps:List Prop} (d:dF ps),(∀ x∈d.bools.map (fun y=>!b||y),x = true)→∀ p∈ps,c→p
  | _, .nil,_,p,hp=>by simp at hp
  | _, .cons d r,h,p,hp=>by
    intro hc
    rcases List.mem_cons.1 hp with rfl | hp
    · have:=h (!b||@decide _ d) (by simp [dF.bools])
      rw [hb.2 hc] at this
      exact of_decide_eq_true (by simpa using this)
    · exact y7 hb r (fun x hx=>h x (by simp only [dF.bools,List.map_cons,List.mem_cons]; exact .inr hx)) p hp hc
theorem F3 {tm:List (Nat × ao)} {ch:ax} {ps:List Prop} (d:dF ps) (h:∀ b∈B3 tm ch d.bools,b = true):∀ p∈fL tm ch ps,p:=by
  unfold B3 fL at *
  cases ch with
  | nil=>exact nQ d h
  | cons x l =>
    intro p hp
    simp only [List.mem_map] at hp
    obtain ⟨q,hq,rfl⟩:=hp
    exact y7 Iff.rfl d h q hq
def mW (nid:Nat) (args:List V):gc→Option ap
  | .data v=>bif (!d7 args)||v.scalar then some { pre:=[true = true],val:=v } else none
  | .new v=>some { pre:=[true = true],val:=v }
  | .own fr e t l=>bif (!d7 args)||fr then some { pre:=[true = true],val:=.row nid t.k,eff:=[(nid,some (.row e t l))] } else none
def l5 (H:ab) (nid:Nat) (args:List V) (out:gc):Option ap:=match mW nid args out with
  | some r=>some r
  | none=>bif V.noPs args then gg (fun _ vs=>mW nid vs out) (V.refss args) H args else none
theorem E8 {o:Nat} {e:TypeId} {t:Ty} (H:ab) {q:Nat} (h:q≠o):ab.get ((o,some (.row e t [])) :: dc [o] H) q = iQ o (ab.get H q):=by
  rw [ab.get_cons,if_neg (Ne.symm h),cR]
mutual
theorem view_fz {o:Nat} {e:TypeId} {t:Ty} {l:List t.T} {H:ab} (hg:H.get o = some (.row e t l)):∀ v:V,v.noP = true→(V.fz o t l v).view ((o,some (.row e t [])) :: dc [o] H) = v.view H
  | .c d,_=>rfl
  | .agg vs,hn=>by rw [V.fz,V.view,V.view,views_fz hg vs (by simpa [V.noP] using hn)]
  | .tup vs,hn=>by rw [V.fz,V.view,V.view,views_fz hg vs (by simpa [V.noP] using hn)]
  | .ptr ..,hn=>by simp [V.noP] at hn
  | .row o' k,_=>by
    rw [V.fz]
    cases hb:Nat.beq o' o with
    | true =>
      have:=Nat.eq_of_beq_eq_true hb
      subst this
      rw [cond_true,V.view,mr,hg]
      simp only
      cases Nat.beq t.k k <;> rfl
    | false =>
      have hne:o'≠o:=fun h=>by subst h; simp at hb
      rw [cond_false,V.view,V.view,mr,mr,E8 H hne]
      cases ab.get H o' with
      | none=>rfl
      | some b=>cases b <;> rfl
  | .sub o' k off n,_=>by
    rw [V.fz]
    cases hb:Nat.beq o' o with
    | true =>
      have:=Nat.eq_of_beq_eq_true hb
      subst this
      rw [cond_true,V.view,mR,hg]
      simp only
      cases Nat.beq t.k k <;> rfl
    | false =>
      have hne:o'≠o:=fun h=>by subst h; simp at hb
      rw [cond_false,V.view,V.view,mR,mR,E8 H hne]
      cases ab.get H o' with
      | none=>rfl
      | some b=>cases b <;> rfl
  | .dptr ..,_=>rfl
  | .fn f vs,hn=>by rw [V.fz,V.view,V.view,views_fz hg vs (by simpa [V.noP] using hn)]
theorem views_fz {o:Nat} {e:TypeId} {t:Ty} {l:List t.T} {H:ab} (hg:H.get o = some (.row e t l)):∀ vs:List V,V.noPs vs = true→V.views ((o,some (.row e t [])) :: dc [o] H) (V.fzs o t l vs) = V.views H vs
  | [],_=>rfl
  | v :: r,hn=>by
    rw [V.noPs,Bool.and_eq_true] at hn
    rw [V.fzs,V.views,V.views,view_fz hg v hn.1,views_fz hg r hn.2]
end
mutual
theorem noP_fz (o:Nat) (t:Ty) (l:List t.T):∀ v:V,v.noP = true→(V.fz o t l v).noP = true
  | .c d,_=>rfl
  | .agg vs,hn=>by rw [V.fz,V.noP]; exact noPs_fz o t l vs (by simpa [V.noP] using hn)
  | .tup vs,hn=>by rw [V.fz,V.noP]; exact noPs_fz o t l vs (by simpa [V.noP] using hn)
  | .ptr ..,hn=>by simp [V.noP] at hn
  | .row o' k,_=>by
    rw [V.fz]
    cases Nat.beq o' o with
    | false=>rfl
    | true=>rw [cond_true]; cases Nat.beq t.k k <;> rfl
  | .sub o' k off n,_=>by
    rw [V.fz]
    cases Nat.beq o' o with
    | false=>rfl
    | true=>rw [cond_true]; cases Nat.beq t.k k <;> rfl
  | .dptr ..,_=>rfl
  | .fn f vs,hn=>by rw [V.fz,V.noP]; exact noPs_fz o t l vs (by simpa [V.noP] using hn)
theorem noPs_fz (o:Nat) (t:Ty) (l:List t.T):∀ vs:List V,V.noPs vs = true→V.noPs (V.fzs o t l vs) = true
  | [],_=>rfl
  | v :: r,hn=>by
    rw [V.noPs,Bool.and_eq_true] at hn
    rw [V.fzs,V.noPs,noP_fz o t l v hn.1,noPs_fz o t l r hn.2]; rfl
end
theorem tR {C:FuncId→Option CC} {H:ab} {nid:Nat} {f:FuncId} {args:List V} {con:Df} {out:gc} (hc:C f = some (.pure con)) (ho:con (V.views H args) = some (true,out)):eI C H nid f args = mW nid args out:=by
  unfold eI
  rw [hc]
  simp only [ho]
  cases out <;> rfl
theorem B5 {C:FuncId→Option CC} {nid:Nat} {f:FuncId} {con:Df} {out:gc} (hc:C f = some (.pure con)):∀ (fl:List Nat) (H:ab) (args:List V),V.noPs args = true→con (V.views H args) = some (true,out) →
    gg (md C f nid) fl H args = gg (fun _ vs=>mW nid vs out) fl H args
  | [],H,args,hn,ho=>by
    rw [gg,gg]
    unfold md
    rw [hn,cond_true,hc]
    simp only
    exact tR hc ho
  | q :: fl,H,args,hn,ho=>by
    rw [gg,gg]
    split
    · next e t l hg =>
      rw [B5 hc fl _ _ (noPs_fz q t l args hn) (by rw [views_fz hg args hn]; exact ho)]
    · rfl
theorem Au {C:FuncId→Option CC} {H:ab} {nid:Nat} {f:FuncId} {args:List V} {con:Df} {out:gc} {r:ap} (hc:C f = some (.pure con)) (ho:con (V.views H args) = some (true,out)) (h:l5 H nid args out = some r):iX C H nid f args = some r:=by
  unfold iX
  rw [tR hc ho]
  unfold l5 at h
  split at h
  · next r' hr=>rw [hr]; exact h
  · next hr =>
    rw [hr]
    cases hn:V.noPs args with
    | false=>rw [hn] at h; cases h
    | true =>
      rw [hn,cond_true] at h
      simp only
      rw [B5 hc _ _ _ hn ho]
      exact h
theorem DB {f:ab→List V→Option ap} {P0:List Prop→Prop} (hf:∀ H vs r,f H vs = some r→P0 r.pre):∀ (fl:List Nat) (H:ab) (vs:List V) (r:ap),gg f fl H vs = some r→P0 r.pre
  | [],H,vs,r,h=>hf H vs r h
  | q :: fl,H,vs,r,h=>by
    rw [gg] at h
    split at h
    · next e t l hg =>
      cases hb:gg f fl ((q,some (.row e t [])) :: dc [q] H) (V.fzs q t l vs) with
      | none=>rw [hb] at h; cases h
      | some r0=>rw [hb] at h; cases h; exact DB hf fl _ _ r0 hb
    · cases h
theorem vG {nid:Nat} {args:List V} {out:gc} {r:ap} (hr:mW nid args out = some r):r.pre = [true = true]:=by
  cases out with
  | data v =>
    simp only [mW] at hr
    cases hq:((!d7 args)||v.scalar) <;> rw [hq] at hr <;> cases hr
    rfl
  | new v=>cases hr; rfl
  | own fr e t l =>
    simp only [mW] at hr
    cases hq:((!d7 args)||fr) <;> rw [hq] at hr <;> cases hr
    rfl
theorem zb {H:ab} {nid:Nat} {args:List V} {out:gc} {r:ap} (h:l5 H nid args out = some r):r.pre = [true = true]:=by
  unfold l5 at h
  split at h
  · next r' hr=>cases h; exact vG hr
  · cases hn:V.noPs args with
    | false=>rw [hn] at h; cases h
    | true=>rw [hn,cond_true] at h; exact DB (P0:=fun ps=>ps = [true = true]) (fun _ _ _ h=>vG h) _ _ _ _ h
def ET {R:Type} (X:XT) (l:List FI) (H:ab) (nid:Nat) (args:List V) (k:ap→Option R):Option R :=
  bif xy l then fR X (aL (au H args) H) nid args k l
  else eW X (V.views H args) (fun out=>match l5 H nid args out with | some r=>k r | none=>none) l
def pm {R:Type} (Tb:fE) (X:XT) (f:FuncId) (H:ab) (nid:Nat) (args:List V) (k:ap→Option R):Option R :=
  match bI Tb.fs f with
  | some l=>ET X l H nid args k
  | none=>match Tb.sp f with
    | .hand fi h=>bif fi.out.isGen then i7 fi (h X) (aL (au H args) H) nid args k else jh fi (h X) (V.views H args) fun out=>match l5 H nid args out with | some r=>k r | none=>none
    | .mut m=>(m X (aL (au H args) H) nid args).bind fun r=>gL r.dec.bools (k r)
    | .none=>none
theorem sE {C:FuncId→Option CC} {H:ab} {nid:Nat} {f:FuncId} {args:List V} {m:ab→Nat→List V→Option ap} {r:ap} (hc:C f = some (.mut m)) (hm:m (aL (au H args) H) nid args = some r):iX C H nid f args = some r:=by
  have h0:eI C H nid f args = some r:=by
    unfold eI
    rw [hc]
    exact hm
  unfold iX
  rw [h0]
theorem pF {T:Tm} {xs:List TV} {H:ab} {nid:Nat} {args:List V} {r:ap} (h:fU T xs H nid args some = some r):r.pre = [true = true]:=by
  unfold fU at h
  split at h
  · cases hb:AG T H (gz args T.sl) with
    | false=>rw [hb] at h; cases h
    | true=>rw [hb] at h; cases h; rfl
  · cases h
theorem yq {X:XT} {H:ab} {nid:Nat} {args:List V} {r:ap}:∀ {l:List FI},fR X H nid args some l = some r→r.pre = [true = true]
  | [],h=>by cases h
  | fi :: l,h=>by
    unfold fR at h
    split at h
    · rw [Option.bind_eq_some_iff] at h
      obtain ⟨y,_,h⟩:=h
      unfold gC at h
      split at h
      · exact pF h
      · split at h
        · next t xs _=>cases t <;> exact pF h
        · cases h
      · cases h
    · exact yq h
theorem Eo {R:Type} (fi:FI) (h:HP fi.ins.tys→Option (HP fi.out.tys)) (H:ab) (nid:Nat) (args:List V) (k:ap→Option R):i7 fi h H nid args k = (i7 fi h H nid args some).bind k:=by
  unfold i7
  split
  · next a _ =>
    cases h a with
    | none=>rfl
    | some y=>rw [Option.bind_some,Option.bind_some]; exact ym ..
  · rfl
theorem EV {R:Type} (fi:FI) (h:HP fi.ins.tys→Option (HP fi.out.tys)) (vs:List V) (k:gc→Option R):jh fi h vs k = (jh fi h vs some).bind k:=by
  unfold jh
  split
  · next a _=>cases h a <;> rfl
  · rfl
theorem GL {o:bY} {y:HP o.tys} {H:ab} {nid:Nat} {args:List V} {r:ap} (h:gC o y H nid args some = some r):r.pre = [true = true]:=by
  unfold gC at h
  split at h
  · exact pF h
  · split at h
    · next t xs _=>cases t <;> exact pF h
    · cases h
  · cases h
theorem FW {fi:FI} {h:HP fi.ins.tys→Option (HP fi.out.tys)} {H:ab} {nid:Nat} {args:List V} {r:ap} (hh:i7 fi h H nid args some = some r):r.pre = [true = true]:=by
  unfold i7 at hh
  split at hh
  · rw [Option.bind_eq_some_iff] at hh
    obtain ⟨y,_,hh⟩:=hh
    exact GL hh
  · cases hh
theorem wm {R:Type} {Tb:fE} {X:XT} {f:FuncId} {H:ab} {nid:Nat} {args:List V} {k:ap→Option R} {y:R} (h:pm Tb X f H nid args k = some y) :
    ∃ r,k r = some y∧(∀ p∈r.pre,p)∧∀ C:FuncId→Option CC,C f = some (dx Tb X f)→iX C H nid f args = some r:=by
  have one:∀ {ps:List Prop},ps = [true = true]→∀ p∈ps,p:=fun e p hp=>by subst e; rw [List.mem_singleton] at hp; subst hp; rfl
  unfold pm at h
  split at h
  · next l hl =>
    unfold ET at h
    cases hg:xy l with
    | true =>
      rw [hg,cond_true,wC,Option.bind_eq_some_iff] at h
      obtain ⟨r,h1,h2⟩:=h
      refine ⟨r,h2,one (yq h1),fun C hC=>sE (m:=fun H nid args=>fR X H nid args some l) (by rw [hC]; unfold dx; rw [hl]; simp only [hg,cond_true]) h1⟩
    | false =>
      rw [hg,cond_false,vE,Option.bind_eq_some_iff] at h
      obtain ⟨out,h1,h2⟩:=h
      split at h2
      · next r hr=>exact ⟨r,h2,one (zb hr),fun C hC=>Au (con:=fun vs=>(eW X vs some l).map fun o=>(true,o)) (by rw [hC]; unfold dx; rw [hl]; simp only [hg,cond_false]) (by simp only [h1,Option.map_some]) hr⟩
      · cases h2
  · next hl =>
    split at h
    · next fi hd hc =>
      cases hg:fi.out.isGen with
      | true =>
        rw [hg,cond_true,Eo,Option.bind_eq_some_iff] at h
        obtain ⟨r,h1,h2⟩:=h
        exact ⟨r,h2,one (FW h1),fun C hC=>sE (m:=fun H nid args=>i7 fi (hd X) H nid args some) (by rw [hC]; unfold dx; rw [hl]; simp only [hc,hg,cond_true]) h1⟩
      | false =>
        rw [hg,cond_false,EV,Option.bind_eq_some_iff] at h
        obtain ⟨out,h1,h2⟩:=h
        split at h2
        · next r hr=>exact ⟨r,h2,one (zb hr),fun C hC=>Au (con:=fun vs=>(jh fi (hd X) vs some).map fun o=>(true,o)) (by rw [hC]; unfold dx; rw [hl]; simp only [hc,hg,cond_false]) (by simp only [h1,Option.map_some]) hr⟩
        · cases h2
    · next m hm =>
      rw [Option.bind_eq_some_iff] at h
      obtain ⟨r,h1,h2⟩:=h
      obtain ⟨h3,h4⟩:=mi h2
      exact ⟨r,h4,nQ _ h3,fun C hC=>sE (m:=m X) (by rw [hC]; unfold dx; rw [hl]; simp only [hm]) h1⟩
    · cases h
def BI (o:Oper) (vs:List V):Option (FuncId × List V):=match o.op,vs with
  | .call { callee:=.value _, .. }, .fn f caps :: vs=>bif Nat.blt f 1000000000 then some (f,vs++caps) else none
  | _,_=>none
def kD (o:Oper):Bool:=match o.op with
  | .call { callee:=.value _, .. }=>true
  | _=>false
def z6 (o:Oper) (σ:St) (ch:ax) (nid:Nat) (vs:List V) (r:ap):bn:={ dst:=o.dst,rds:=gY (cA o.op)++ch.map (·.1),ch,nid,vs,reach:=au σ.hp vs,rws:=kz σ.hp vs,res:=r }
def AP:List (Nat × ao)→Nat→ao→List (Nat × ao)
  | [],_,_=>[]
  | (t',s') :: r,t,s=>bif Nat.beq t' t then (t',s) :: r else (t',s') :: AP r t s
theorem sU:∀ {tm:List (Nat × ao)} {t:Nat} {s:ao},am tm t = some s→AP tm t s = tm
  | [],t,s,h=>rfl
  | (t',s') :: r,t,s,h=>by
    unfold AP
    unfold am at h
    cases hb:Nat.beq t' t with
    | true=>rw [hb] at h; cases h; rfl
    | false=>rw [hb,cond_false] at h; rw [cond_false,sU h]
def jB {R:Type}:ax→St→(St→Option R)→Option R
  | [],σ,k=>k σ
  | (t,_) :: r,σ,k=>match am σ.tm t with
    | some ⟨c0, .c (.lit (.bool b))⟩=>bif b then jB r { σ with tm:=AP σ.tm t ⟨c0,bl true⟩ } k else jB r { σ with tm:=AP σ.tm t ⟨c0,bl false⟩ } k
    | _=>none
theorem m9 {R:Type} {y:R}:∀ {ch:ax} {σ:St} {k:St→Option R},jB ch σ k = some y→k σ = some y
  | [],σ,k,h=>h
  | (t,w) :: r,σ,k,h=>by
    unfold jB at h
    split at h
    · next c0 b hg =>
      cases b with
      | true =>
        rw [cond_true,sU hg] at h
        exact m9 h
      | false =>
        rw [cond_false,sU hg] at h
        exact m9 h
    · cases h
section
variable {R:Type} (Tb:fE) (X:XT) (N:Nat) (all:List Oper)
def ze (σ:St) (nid:Nat) (o:Oper) (fT fF:List FuncId) (k:St→bn→List FuncId→List FuncId→Option R):Option R :=
  bif kD o then
    (bif e8 N o.dst then
      match cJ all σ.tm o.guard with
      | some ch =>
        bif ch.all fun x=>dO σ.tm ch x.1 then
          jB ch σ fun σ=>match ik σ ch (cA o.op) with
            | some vs=>(match BI o vs with
              | some (f,args) =>
                bif holds σ.tm ch then
                  (bif cY f fF then none else pm Tb X f σ.hp nid args fun r=>bif ch.isEmpty||(r.eff.isEmpty&&r.kill.isEmpty&&dV o.dst ch) then k σ (z6 o σ ch nid vs r) (f :: fT) fF else none)
                else (bif cY f fT then pm Tb X f σ.hp nid args fun r=>bif r.eff.isEmpty&&r.kill.isEmpty&&dV o.dst ch then k σ (z6 o σ ch nid vs r) fT fF else none
                  else bif dV o.dst ch then k σ (z6 o σ ch nid vs { pre:=[false = true],val:=.c .unk }) fT (f :: fF) else none)
              | none=>none)
            | none=>none
        else none
      | none=>none
    else none)
  else match recOf Tb.P (fun _=>none) N all σ nid o with
    | some rc=>gL (B3 σ.tm rc.ch rc.res.dec.bools) (k σ rc fT fF)
    | none=>none
end
theorem GP {P:Program} {C:FuncId→Option CC} {H:ab} {nid:Nat} {o:Oper} {vs:List V} {f:FuncId} {args:List V} (h:BI o vs = some (f,args)):oM P C H nid o vs = iX C H nid f args:=by
  unfold BI at h
  split at h
  · next g caps vs' ho =>
    cases hb:Nat.blt g 1000000000 with
    | false=>rw [hb] at h; cases h
    | true =>
      rw [hb] at h; cases h
      unfold oM
      rw [ho]
      simp only [hb,cond_true]
  · cases h
theorem CB {P:Program} {C:FuncId→Option CC} {σ:St} {nid:Nat} {ch:ax} {o:Oper} (ho:kD o = true) {vs:List V} (hv:ik σ ch (cA o.op) = some vs) {r:ap} (hr:oM P C σ.hp nid o vs = some r):ig P C σ nid ch o = some (vs,r):=by
  unfold kD at ho
  split at ho
  · next f args ats hop =>
    unfold ig
    rw [hop] at hv ⊢
    simp only [hv]
    unfold rO
    rw [hr]
    rfl
  · cases ho
section
variable {R:Type} {Tb:fE} {X:XT} {N:Nat} {all:List Oper}
theorem IQ {P:Program} {C:FuncId→Option CC} {H:ab} {nid:Nat} {o:Oper} {vs:List V} (ho:kD o = false):oM P (fun _=>none) H nid o vs = oM P C H nid o vs:=by
  unfold oM
  split <;> try rfl
  next hop=>unfold kD at ho; rw [hop] at ho; cases ho
theorem F5 {P:Program} {C:FuncId→Option CC} {σ:St} {nid:Nat} {o:Oper} (ho:kD o = false):recOf P (fun _=>none) N all σ nid o = recOf P C N all σ nid o:=by
  have e:∀ ch,ig P (fun _=>none) σ nid ch o = ig P C σ nid ch o:=by
    intro ch
    unfold ig rO
    simp only [IQ (C:=C) ho]
  unfold recOf
  simp only [e]
theorem uD {σ:St} {nid:Nat} {o:Oper} {fT fF:List FuncId} {k:St→bn→List FuncId→List FuncId→Option R} {y:R} (h:ze Tb X N all σ nid o fT fF k = some y) :
    ∃ rc fT' fF',k σ rc fT' fF' = some y∧(∀ f∈fT,f∈fT')∧(∀ f∈fF,f∈fF')∧((∀ f∈fT,f ∉ fF)→∀ f∈fT',f ∉ fF')∧(o.guard = none→fF' = fF) ∧
      ∀ Ff:List FuncId,(∀ f∈fF',f∈Ff)→(∀ f∈fT',f ∉ Ff)→recOf Tb.P (jQ (dx Tb X) Ff) N all σ nid o = some rc∧∀ p∈fL σ.tm rc.ch rc.res.pre,p:=by
  unfold ze at h
  cases hc:kD o with
  | false =>
    rw [hc,cond_false] at h
    split at h
    · next rc hrc =>
      obtain ⟨h1,h2⟩:=mi h
      refine ⟨rc,fT,fF,h2,fun _ h=>h,fun _ h=>h,fun h=>h,fun _=>rfl,fun Ff _ _=>⟨?_,F3 _ h1⟩⟩
      rw [← F5 hc]; exact hrc
    · cases h
  | true =>
    rw [hc,cond_true] at h
    cases hd:e8 N o.dst with
    | false=>rw [hd] at h; cases h
    | true =>
      rw [hd,cond_true] at h
      split at h
      · next ch hch =>
        cases hg:(ch.all fun x=>dO σ.tm ch x.1) with
        | false=>rw [hg] at h; cases h
        | true =>
          rw [hg,cond_true] at h
          have h:=m9 h
          split at h
          · next vs hvs =>
            split at h
            · next f args hca =>
              have rec_:∀ (C:FuncId→Option CC) (r:ap),iX C σ.hp nid f args = some r→(ch.isEmpty||(r.eff.isEmpty&&r.kill.isEmpty&&dV o.dst ch)) = true→recOf Tb.P C N all σ nid o = some (z6 o σ ch nid vs r):=by
                intro C r hr hx
                unfold recOf
                rw [hd,cond_true,hch]
                simp only [hg,cond_true]
                rw [CB hc hvs ((GP hca).trans hr)]
                simp only [hx,cond_true]
                rfl
              cases hh:holds σ.tm ch with
              | true =>
                rw [hh,cond_true] at h
                cases hm:cY f fF with
                | true=>rw [hm] at h; cases h
                | false =>
                  rw [hm,cond_false] at h
                  obtain ⟨r,h,hpre,hcv⟩:=wm h
                  cases hx:(ch.isEmpty||(r.eff.isEmpty&&r.kill.isEmpty&&dV o.dst ch)) with
                  | false=>rw [hx] at h; cases h
                  | true =>
                    rw [hx,cond_true] at h
                    refine ⟨_,f :: fT,fF,h,fun g hg=>List.mem_cons_of_mem _ hg,fun _ h=>h,fun hdj g hg=>?_,fun _=>rfl,fun Ff h1 h2=>⟨rec_ _ r ?_ hx, ?_⟩⟩
                    · rcases List.mem_cons.1 hg with rfl | hg
                      · intro hf
                        have:cY g fF = true:=List.any_eq_true.2 ⟨g,hf,by simp⟩
                        rw [hm] at this; cases this
                      · exact hdj g hg
                    · have hnf:cY f Ff = false:=by
                        cases hb:cY f Ff with
                        | false=>rfl
                        | true=>exact absurd (dR hb) (h2 f (by simp))
                      exact hcv _ (by unfold jQ; rw [hnf,cond_false])
                    · intro p hp
                      have hp':p∈fL σ.tm ch r.pre:=hp
                      unfold fL at hp'
                      split at hp'
                      · exact hpre p hp'
                      · obtain ⟨q,hq,rfl⟩:=List.mem_map.1 hp'
                        exact fun _=>hpre q hq
              | false =>
                rw [hh,cond_false] at h
                cases hm:cY f fT with
                | true =>
                  rw [hm,cond_true] at h
                  obtain ⟨r,h,hpre,hcv⟩:=wm h
                  cases hx:(r.eff.isEmpty&&r.kill.isEmpty&&dV o.dst ch) with
                  | false=>rw [hx] at h; cases h
                  | true =>
                    rw [hx,cond_true] at h
                    refine ⟨_,fT,fF,h,fun _ h=>h,fun _ h=>h,fun hdj=>hdj,fun _=>rfl,fun Ff h1 h2=>⟨rec_ _ r ?_ (by rw [hx,Bool.or_true]), ?_⟩⟩
                    · have hnf:cY f Ff = false:=by
                        cases hb:cY f Ff with
                        | false=>rfl
                        | true=>exact absurd (dR hb) (h2 f (dR hm))
                      exact hcv _ (by unfold jQ; rw [hnf,cond_false])
                    · intro p hp
                      have hp':p∈fL σ.tm ch r.pre:=hp
                      unfold fL at hp'
                      split at hp'
                      · exact hpre p hp'
                      · obtain ⟨q,hq,rfl⟩:=List.mem_map.1 hp'
                        exact fun _=>hpre q hq
                | false =>
                  rw [hm,cond_false] at h
                  cases hn:dV o.dst ch with
                  | false=>rw [hn] at h; cases h
                  | true =>
                    rw [hn,cond_true] at h
                    refine ⟨_,fT,f :: fF,h,fun _ h=>h,fun g hg=>List.mem_cons_of_mem _ hg,fun hdj g hg hf=>?_,fun hno=>?_,fun Ff h1 h2=>⟨rec_ _ _ ?_ ?_, ?_⟩⟩
                    · rcases List.mem_cons.1 hf with rfl | hf
                      · have:cY g fT = true:=List.any_eq_true.2 ⟨g,hg,by simp⟩
                        rw [hm] at this; cases this
                      · exact hdj g hg hf
                    · rw [hno] at hch; cases hch; cases hh
                    · have hnf:cY f Ff = true:=List.any_eq_true.2 ⟨f,h1 f (by simp),by simp⟩
                      unfold iX eI jQ
                      simp only [hnf,cond_true,V.scalar,Bool.or_true]
                    · simp [hn]
                    · intro p hp
                      have hp':p∈fL σ.tm ch [false = true]:=hp
                      unfold fL at hp'
                      split at hp'
                      · simp [holds] at hh
                      · simp only [List.map_cons,List.map_nil,List.mem_singleton] at hp'; subst hp'; intro h0; rw [hh] at h0; cases h0
            · cases h
          · cases h
      · cases h
end
end Go.Ax
