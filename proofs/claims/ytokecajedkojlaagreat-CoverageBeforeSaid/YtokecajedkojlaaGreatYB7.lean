import Derived.Test.YtokecajedkojlaaGreatYB6g
set_option linter.all false
/- An evaluation of code that can be run: functions as plain functions with an option. -/
namespace Go.Ax
open Go.RowKit
def RS:Nat:=2000000
inductive cG where
  | data (c:Cd)
  | new (c:Cd)
  | own (fr:Bool) (e:TypeId) (t:Ty)
  | gen (T:Tm)
  | gen2 (T T':Tm)
def cG.tys:cG→List Ty
  | .gen T=>T.tys
  | .gen2 T T'=>.b :: (T.tys++T'.tys)
  | .data c=>c.tys
  | .new c=>c.tys
  | .own _ _ t=>[.ls t]
def cG.isGen:cG→Bool
  | .gen _=>true
  | .gen2 _ _=>true
  | _=>false
def cG.out:(o:cG)→HP o.tys→i7
  | .gen _,_=>.data (.c .unk)
  | .gen2 _ _,_=>.data (.c .unk)
  | .data c,x=>.data (filC c (fI c.tys x)).1
  | .new c,x=>.new (filC c (fI c.tys x)).1
  | .own fr e t,x=>.own fr e t x
def cG.rd:(o:cG)→af→V→Option (HP o.tys)
  | .gen _,_,_=>none
  | .gen2 _ _,_,_=>none
  | .data c,H,v=>match colC c (v.view H) with | some us=>j8 c.tys us | none=>none
  | .new c,H,v=>bif newV H v then (match colC c (v.view H) with | some us=>j8 c.tys us | none=>none) else none
  | .own fr e t,H,v=>match v with
    | .c .nil=>some ([]:List t.T)
    | .row o k=>(match af.get H o with
      | some (.row e' t' l)=>bif Nat.beq t'.k k&&Nat.beq e e'&&(!fr||t.sc) then lg t' t l else none
      | _=>none)
    | _=>none
theorem cG.rd_ok {o:cG} {H:af} {v:V} {x:HP o.tys} (h:o.rd H v = some x):pB (o.out x) H v:=by
  have key:∀ (c:Cd) (x:HP c.tys),(match colC c (v.view H) with | some us=>j8 c.tys us | none=>none) = some x→VLe (v.view H) (filC c (fI c.tys x)).1:=by
    intro c x h
    split at h
    · next us hu =>
      have hr:=qk _ _ _ h
      exact (colC_le c _ us [] _ hu (by rw [List.append_nil]; exact hr)).1
    · cases h
  cases o with
  | gen T=>cases h
  | gen2 T T'=>cases h
  | data c=>exact key c x h
  | new c =>
    simp only [cG.rd] at h
    cases hn:newV H v with
    | false=>rw [hn] at h; cases h
    | true=>rw [hn] at h; exact ⟨key c x h,hn⟩
  | own fr e t =>
    simp only [cG.rd] at h
    split at h
    · cases h; exact .inl ⟨rfl,rfl⟩
    · next o k =>
      split at h
      · next e' t' l hg =>
        cases hc:(Nat.beq t'.k k&&Nat.beq e e'&&(!fr||t.sc)) with
        | false=>rw [hc] at h; cases h
        | true =>
          rw [hc] at h
          have h:lg t' t l = some x:=h
          simp only [Bool.and_eq_true,Nat.beq_eq,Bool.or_eq_true,Bool.not_eq_true'] at hc
          obtain ⟨he,hx⟩:=kp h
          subst he
          obtain ⟨⟨rfl,rfl⟩,h3⟩:=hc
          refine .inr ⟨o,rfl, ?_,fun hf=>?_⟩
          · rw [hg]; have:x = l:=hx; rw [this]
          · rcases h3 with h3 | h3
            · rw [hf] at h3; cases h3
            · exact h3
      · cases h
    · cases h
structure FI where
  fid:FuncId
  fn:Func
  c:Code
  ins:Tm
  out:cG
  cuts:List (Nat × Tm):=[]
abbrev XT:=(fi:FI)→HP fi.ins.tys→Option (HP fi.out.tys)
abbrev JT:=(fi:FI)→(π:Nat)→(T:Tm)→HP T.tys→Option (HP fi.out.tys)
def wD (fi:FI) (vs:List V):Option (HP fi.ins.tys) :=
  bif !fi.out.isGen&&(Nat.beq vs.length fi.ins.sl.length&&fi.ins.ob.isEmpty) then rd fi.ins { tm:=js vs 0,hp:=[],nx:=0 } else none
def fX {R:Type} (X:XT) (vs:List V) (k:i7→Option R):List FI→Option R
  | []=>none
  | fi :: r=>match wD fi vs with
    | some a=>(X fi a).bind fun y=>k (fi.out.out y)
    | none=>fX X vs k r
def cN {α:Type}:List (Nat × α)→Nat→Option α
  | [],_=>none
  | (g,x) :: r,f=>bif Nat.beq g f then some x else cN r f
def Aa (T:Tm) (xs:List TV):St:=let p:=mq T.sl xs; { tm:=p.1,hp:=jY 0 T.ob p.2,nx:=T.ob.length }
def lv (H:af):List Nat:=AS [] (H.map (·.1))
def td:List Nat→Nat
  | []=>0
  | o :: r=>Nat.max (o+1) (td r)
def NA (os:List Nat) (H:af):Bool:=os.all fun o=>match af.get H o with | some b=>FM os b | none=>true
def OY (N:Nat) (H:af) (args:List V):St:={ tm:=js args 0++js args 1000000,hp:=nQ (lv H) H,nx:=td (lv H) }
def rdG (fi:FI) (H:af) (args:List V):Option (HP fi.ins.tys) :=
  bif Nat.ble args.length fi.fn.ntmps&&(V.refss args).all (fun o=>dA o (lv H))&&NA (lv H) H then BJ fi.ins (OY fi.fn.ntmps H args) else none
def jn (args:List V):List (Nat × Cd)→oD
  | []=>[]
  | (t, .k (.ptr q k i j)) :: r=>bif Nat.ble 1000000 t then (match args[t - 1000000]? with | some (.ptr o _ _ _)=>(q,o,true) :: jn args r | _=>jn args r) else jn args r
  | (t, .k (.row q k)) :: r=>bif Nat.ble 1000000 t then (match args[t - 1000000]? with | some (.row o _)=>(q,o,false) :: jn args r | _=>jn args r) else jn args r
  | _ :: r=>jn args r
def A7:Option Od→Bool
  | some (.box _)=>true
  | some (.map ..)=>true
  | _=>false
def DB:Option Ob→Bool
  | some (.row ..)=>false
  | none=>false
  | _=>true
def Fx (T:Tm) (H:af) (bk:oD):Bool:=Nat.ble T.ob.length 8&&(gi (T.sl.map (·.1))&&(As bk&&bk.all fun x=>dA x.2.1 (lv H)&&(Nat.blt x.1 T.ob.length&&(!x.2.2||(A7 T.ob[x.1]?&&DB (af.get H x.2.1))))))
def im {R:Type} (T:Tm) (xs:List TV) (H:af) (nid:Nat) (args:List V) (k:aA→Option R):Option R :=
  match au (Aa T xs).tm RS with
  | some ⟨_, .tup [v]⟩=>bif Fx T H (jn args T.sl) then k (Gr nid (lv H) (jn args T.sl) (Aa T xs).hp v) else none
  | _=>none
def jm {R:Type} (o:cG) (y:HP o.tys) (H:af) (nid:Nat) (args:List V) (k:aA→Option R):Option R :=
  match o,y with
  | .gen T,y=>im T (fI T.tys y) H nid args k
  | .gen2 T T',y=>(match fI (.b :: (T.tys++T'.tys)) y with
    | ⟨.b,t⟩ :: xs=>bif t then im T xs H nid args k else im T' (xs.drop T.tys.length) H nid args k
    | _=>none)
  | _,_=>none
def iE {R:Type} (X:XT) (H:af) (nid:Nat) (args:List V) (k:aA→Option R):List FI→Option R
  | []=>none
  | fi :: r=>match rdG fi H args with
    | some a=>(X fi a).bind fun y=>jm fi.out y H nid args k
    | none=>iE X H nid args k r
def I8 (T:Tm) (σ:St):Option (List V) :=
  let τ:=uW T σ
  let ts:=T.sl.map (·.1)
  bif mW ts τ then
    let τ':=canonN ts τ
    bif Nat.ble τ'.nx T.ob.length then (match u9 τ'.tm T.sl,xa τ'.hp 0 T.ob with
      | some a,some b=>(match j8 T.tys (a++b) with | some _=>some (a++b) | none=>none)
      | _,_=>none) else none
  else none
def Js (ts:List Ty):List V:=ts.map fun t=>encV t t.z
def cG.rdG:(o:cG)→St→V→Option (HP o.tys)
  | .gen T,σ,v=>BJ T { σ with tm:=(RS,⟨[], .tup [v]⟩) :: σ.tm }
  | .gen2 T T',σ,v=>match I8 T { σ with tm:=(RS,⟨[], .tup [v]⟩) :: σ.tm } with
    | some us=>j8 (.b :: (T.tys++T'.tys)) (bl true :: (us++Js T'.tys))
    | none=>(match I8 T' { σ with tm:=(RS,⟨[], .tup [v]⟩) :: σ.tm } with
      | some us=>j8 (.b :: (T.tys++T'.tys)) (bl false :: (Js T.tys++us))
      | none=>none)
  | _,_,_=>none
theorem H8 {H:af}:∀ (cs:List Od) (i:Nat) (us us2:List V) (xs:List TV),xa H i cs = some us→RV (us++us2) xs→ql H (jY i cs xs)
  | [],i,us,us2,xs,h,hr=>by rw [jY]; trivial
  | c :: cs,i,us,us2,xs,h,hr=>by
    rw [xa] at h
    split at h
    · next b hg =>
      split at h
      · next a b' ha hb =>
        cases h
        rw [List.append_assoc] at hr
        obtain ⟨h1,h2⟩:=Jq c b a (b'++us2) xs ha hr
        show ql H ((i,some _) :: _)
        rw [ql,hg]
        exact ⟨h1,H8 cs (i+1) b' us2 _ hb h2⟩
      · cases h
    · cases h
theorem I0 {T:Tm} {σ:St} {us us2:List V} {xs:List TV} (h:I8 T σ = some us) (hr:RV (us++us2) xs):cY σ (Aa T xs):=by
  unfold I8 at h
  simp only at h
  cases hc:mW (T.sl.map (·.1)) (uW T σ) with
  | false=>rw [hc] at h; cases h
  | true =>
    rw [hc,cond_true] at h
    cases hb:Nat.ble (canonN (T.sl.map (·.1)) (uW T σ)).nx T.ob.length with
    | false=>rw [hb] at h; cases h
    | true =>
      rw [hb,cond_true] at h
      split at h
      · next a b ha hb' =>
        split at h
        · cases h
          rw [List.append_assoc] at hr
          obtain ⟨h1,h2⟩:=CD T.sl a (b++us2) xs ha hr
          exact ((Ef T σ).trans (cY.canonN _ hc)).trans (.le ⟨h1,H8 T.ob 0 b us2 _ hb' h2,Nat.ble_eq.mp hb⟩)
        · cases h
      · cases h
theorem I9:∀ {us us2:List V} {xs:List TV},RV (us++us2) xs→RV us2 (xs.drop us.length)
  | [],us2,xs,h=>h
  | u :: us,us2,x :: xs,h=>I9 (us:=us) h.2
  | u :: us,us2,[],h=>h.elim
theorem OT {b:Bool} {x:TV} (h:VLe (bl b) x.v):x = ⟨.b,b⟩:=by
  obtain ⟨t,x⟩:=x
  match t,x,h with
  | .b,x,h1 =>
    change VLe (.c (.lit (.bool b))) (.c (.lit (.bool x))) at h1
    rw [VLe] at h1
    cases h1
    rfl
  | .st k,x,h1=>change VLe (.c (.lit (.bool b))) (.agg _) at h1; simp [VLe] at h1
  | .arr n t,x,h1=>change VLe (.c (.lit (.bool b))) (.agg _) at h1; simp [VLe] at h1
  | .i k,x,h1=>change VLe (.c (.lit (.bool b))) (.c (.lit (.int k x))) at h1; rw [VLe] at h1; cases h1
  | .ls t,x,h1=>change VLe (.c (.lit (.bool b))) (.c (.sl t x)) at h1; rw [VLe] at h1; cases h1
  | .s,x,h1=>change VLe (.c (.lit (.bool b))) (.c (.lit (.string x))) at h1; rw [VLe] at h1; cases h1
theorem MP {R:Type} (T:Tm) (y:HP T.tys) (H:af) (nid:Nat) (args:List V) (k:aA→Option R):jm (.gen T) y H nid args k = im T (fI T.tys y) H nid args k:=rfl
theorem Ok (T:Tm) (σ:St) (v:V):cG.rdG (.gen T) σ v = BJ T { σ with tm:=(RS,⟨[], .tup [v]⟩) :: σ.tm }:=rfl
theorem MG {T:Tm} {σ:St} {x:HP T.tys} (h:BJ T σ = some x):cY σ (Aa T (fI T.tys x)):=sZ h
theorem FS {R:Type} (T T':Tm) (y:HP (.b :: (T.tys++T'.tys))) {t:Bool} {xs:List TV} (hx:fI (.b :: (T.tys++T'.tys)) y = (⟨.b,t⟩:TV) :: xs) (H:af) (nid:Nat) (args:List V) (k:aA→Option R) :
    jm (.gen2 T T') y H nid args k = bif t then im T xs H nid args k else im T' (xs.drop T.tys.length) H nid args k:=by
  show (match fI (.b :: (T.tys++T'.tys)) y with | ⟨.b,t⟩ :: xs=>bif t then im T xs H nid args k else im T' (xs.drop T.tys.length) H nid args k | _=>none) = _
  rw [hx]
theorem Mn (T T':Tm) (σ:St) (v:V):cG.rdG (.gen2 T T') σ v = match I8 T { σ with tm:=(RS,⟨[], .tup [v]⟩) :: σ.tm } with
    | some us=>j8 (.b :: (T.tys++T'.tys)) (bl true :: (us++Js T'.tys))
    | none=>(match I8 T' { σ with tm:=(RS,⟨[], .tup [v]⟩) :: σ.tm } with
      | some us=>j8 (.b :: (T.tys++T'.tys)) (bl false :: (Js T.tys++us))
      | none=>none):=rfl
theorem NX {T T':Tm} {σ:St} {v:V} {y:HP (cG.gen2 T T').tys} (h:(cG.gen2 T T').rdG σ v = some y):∃ (T0:Tm) (xs:List TV),cY { σ with tm:=(RS,⟨[], .tup [v]⟩) :: σ.tm } (Aa T0 xs) ∧
    ∀ {R:Type} (H:af) (nid:Nat) (args:List V) (k:aA→Option R),jm (.gen2 T T') y H nid args k = im T0 xs H nid args k:=by
  rw [Mn] at h
  have key:∀ (b:Bool) (us:List V),j8 (.b :: (T.tys++T'.tys)) (bl b :: us) = some y→∃ xs,fI (.b :: (T.tys++T'.tys)) y = (⟨.b,b⟩:TV) :: xs∧RV us xs:=by
    intro b us hh
    have hr:=qk _ _ _ hh
    revert hr
    generalize fI (.b :: (T.tys++T'.tys)) y = l
    intro hr
    match l,hr with
    | [],hr=>exact hr.elim
    | x :: xs,hr=>exact ⟨xs,by rw [OT hr.1],hr.2⟩
  split at h
  · next us hu =>
    obtain ⟨xs,hx,hr⟩:=key _ _ h
    exact ⟨T,xs,I0 hu hr,fun H nid args k=>by rw [FS T T' y hx,cond_true]⟩
  · split at h
    · next us hu =>
      obtain ⟨xs,hx,hr⟩:=key _ _ h
      have h2:=I9 hr
      have e:(Js T.tys).length = T.tys.length:=by simp [Js]
      rw [e] at h2
      exact ⟨T',xs.drop T.tys.length,I0 (us2:=[]) hu (by rw [List.append_nil]; exact h2),fun H nid args k=>by rw [FS T T' y hx,cond_false]⟩
    · cases h
theorem Ox {o:cG} {σ:St} {v:V} {y:HP o.tys} (h:o.rdG σ v = some y):∃ (T:Tm) (xs:List TV),cY { σ with tm:=(RS,⟨[], .tup [v]⟩) :: σ.tm } (Aa T xs) ∧
    ∀ {R:Type} (H:af) (nid:Nat) (args:List V) (k:aA→Option R),jm o y H nid args k = im T xs H nid args k:=by
  cases o with
  | gen T =>
    rw [Ok] at h
    exact ⟨T,fI T.tys y,MG h,fun H nid args k=>MP T y H nid args k⟩
  | gen2 T T'=>exact @NX T T' σ v y h
  | data c =>
    have h:(none:Option (HP (cG.data c).tys)) = some y:=h
    cases h
  | new c =>
    have h:(none:Option (HP (cG.new c).tys)) = some y:=h
    cases h
  | own fr e t =>
    have h:(none:Option (HP (cG.own fr e t).tys)) = some y:=h
    cases h
inductive Sp where
  | none
  | hand (fi:FI) (h:XT→HP fi.ins.tys→Option (HP fi.out.tys))
  | mut (m:XT→af→Nat→List V→Option aA)
structure iQ where
  P:Program
  fs:List (FuncId × List FI)
  sp:FuncId→Sp
def CZ:List FI→Bool
  | fi :: _=>fi.out.isGen
  | []=>false
def k7 {R:Type} (fi:FI) (h:HP fi.ins.tys→Option (HP fi.out.tys)) (H:af) (nid:Nat) (args:List V) (k:aA→Option R):Option R:=match rdG fi H args with
  | some a=>(h a).bind fun y=>jm fi.out y H nid args k
  | none=>none
def lk {R:Type} (fi:FI) (h:HP fi.ins.tys→Option (HP fi.out.tys)) (vs:List V) (k:i7→Option R):Option R:=match wD fi vs with
  | some a=>(h a).bind fun y=>k (fi.out.out y)
  | none=>none
def eP (Tb:iQ) (X:XT) (f:FuncId):CC:=match cN Tb.fs f with
  | some l=>bif CZ l then .mut fun H nid args=>iE X H nid args some l else .pure fun vs=>(fX X vs some l).map fun o=>(true,o)
  | none=>match Tb.sp f with
    | .hand fi h=>bif fi.out.isGen then .mut fun H nid args=>k7 fi (h X) H nid args some else .pure fun vs=>(lk fi (h X) vs some).map fun o=>(true,o)
    | .mut m=>.mut (m X)
    | .none=>.pure fun _=>none
def mg (C:FuncId→CC) (fs:List FuncId):FuncId→Option CC:=fun f=>bif dA f fs then some (.pure fun _=>some (false, .data (.c .unk))) else some (C f)
theorem AG {R:Type} (X:XT) (vs:List V) (k:i7→Option R):∀ l:List FI,fX X vs k l = (fX X vs some l).bind k
  | []=>rfl
  | fi :: r=>by
    unfold fX
    split
    · next a ha=>cases X fi a <;> rfl
    · exact AG X vs k r
theorem D9 {R:Type} (T:Tm) (xs:List TV) (H:af) (nid:Nat) (args:List V) (k:aA→Option R):im T xs H nid args k = (im T xs H nid args some).bind k:=by
  unfold im
  split
  · cases Fx T H (jn args T.sl) <;> rfl
  · rfl
theorem Ez {R:Type} (o:cG) (y:HP o.tys) (H:af) (nid:Nat) (args:List V) (k:aA→Option R):jm o y H nid args k = (jm o y H nid args some).bind k:=by
  unfold jm
  split
  · exact D9 ..
  · split
    · next t xs _=>cases t <;> exact D9 ..
    · rfl
  · rfl
theorem Ap {R:Type} (X:XT) (H:af) (nid:Nat) (args:List V) (k:aA→Option R):∀ l:List FI,iE X H nid args k l = (iE X H nid args some l).bind k
  | []=>rfl
  | fi :: r=>by
    unfold iE
    split
    · next a ha =>
      cases X fi a with
      | none=>rfl
      | some y=>rw [Option.bind_some,Option.bind_some]; exact Ez ..
    · exact Ap X H nid args k r
def gb {α:Type} (b:Bool) (o:Option α):Option α:=bif b then o else none
def gL {α:Type}:List Bool→Option α→Option α
  | [],o=>o
  | b :: r,o=>gb b (gL r o)
theorem sW {α:Type} {o:Option α} {y:α}:∀ {l:List Bool},gL l o = some y→(∀ b∈l,b = true)∧o = some y
  | [],h=>⟨fun b hb=>by simp at hb,h⟩
  | b :: l,h=>by
    unfold gL gb at h
    cases b with
    | false=>cases h
    | true =>
      obtain ⟨h1,h2⟩:=sW (l:=l) h
      exact ⟨fun c hc=>by rcases List.mem_cons.1 hc with rfl | hc; rfl; exact h1 c hc,h2⟩
def eu.bools:{ps:List Prop}→eu ps→List Bool
  | _, .nil=>[]
  | _, .cons (p:=p) d r=>@aa p d :: r.bools
def FD (tm:List (Nat × ax)) (ch:aG) (bs:List Bool):List Bool:=match ch with
  | []=>bs
  | ch=>bs.map fun b=>!(holds tm ch)||b
theorem rW:∀ {ps:List Prop} (d:eu ps),(∀ b∈d.bools,b = true)→∀ p∈ps,p
  | _, .nil,_,p,hp=>by simp at hp
  | _, .cons d r,h,p,hp=>by
    rcases List.mem_cons.1 hp with rfl | hp
    · exact of_decide_eq_true (h _ (by simp [eu.bools]))
    · exact rW r (fun b hb=>h b (by simp [eu.bools,hb])) p hp
theorem Ew {c:Prop} {b:Bool} (hb:b = true↔c):∀ {ps:List Prop} (d:eu ps),(∀ x∈d.bools.map (fun y=>!b||y),x = true)→∀ p∈ps,c→p
  | _, .nil,_,p,hp=>by simp at hp
  | _, .cons d r,h,p,hp=>by
    intro hc
    rcases List.mem_cons.1 hp with rfl | hp
    · have:=h (!b||@decide _ d) (by simp [eu.bools])
      rw [hb.2 hc] at this
      exact of_decide_eq_true (by simpa using this)
    · exact Ew hb r (fun x hx=>h x (by simp only [eu.bools,List.map_cons,List.mem_cons]; exact .inr hx)) p hp hc
theorem Lh {tm:List (Nat × ax)} {ch:aG} {ps:List Prop} (d:eu ps) (h:∀ b∈FD tm ch d.bools,b = true):∀ p∈ip tm ch ps,p:=by
  unfold FD ip at *
  cases ch with
  | nil=>exact rW d h
  | cons x l =>
    intro p hp
    simp only [List.mem_map] at hp
    obtain ⟨q,hq,rfl⟩:=hp
    exact Ew Iff.rfl d h q hq
def qx (nid:Nat) (args:List V):i7→Option aA
  | .data v=>bif (!ff args)||v.scalar then some { pre:=[true = true],val:=v } else none
  | .new v=>some { pre:=[true = true],val:=v }
  | .own fr e t l=>bif (!ff args)||fr then some { pre:=[true = true],val:=.row nid t.k,eff:=[(nid,some (.row e t l))] } else none
def pI (H:af) (nid:Nat) (args:List V) (out:i7):Option aA:=match qx nid args out with
  | some r=>some r
  | none=>bif V.noPs args then iP (fun _ vs=>qx nid vs out) (V.refss args) H args else none
theorem Mf {o:Nat} {e:TypeId} {t:Ty} (H:af) {q:Nat} (h:q≠o):af.get ((o,some (.row e t [])) :: dB [o] H) q = mn o (af.get H q):=by
  rw [af.get_cons,if_neg (Ne.symm h),ek]
mutual
theorem view_fz {o:Nat} {e:TypeId} {t:Ty} {l:List t.T} {H:af} (hg:H.get o = some (.row e t l)):∀ v:V,v.noP = true→(V.fz o t l v).view ((o,some (.row e t [])) :: dB [o] H) = v.view H
  | .c d,_=>rfl
  | .agg vs,hn=>by rw [V.fz,V.view,V.view,views_fz hg vs (by simpa [V.noP] using hn)]
  | .tup vs,hn=>by rw [V.fz,V.view,V.view,views_fz hg vs (by simpa [V.noP] using hn)]
  | .ptr ..,hn=>by simp [V.noP] at hn
  | .row o' k,_=>by
    rw [V.fz]
    cases hb:Nat.beq o' o with
    | true =>
      have:=Nat.eq_of_beq_eq_true hb
      subst this
      rw [cond_true,V.view,qF,hg]
      simp only
      cases Nat.beq t.k k <;> rfl
    | false =>
      have hne:o'≠o:=fun h=>by subst h; simp at hb
      rw [cond_false,V.view,V.view,qF,qF,Mf H hne]
      cases af.get H o' with
      | none=>rfl
      | some b=>cases b <;> rfl
  | .sub o' k off n,_=>by
    rw [V.fz]
    cases hb:Nat.beq o' o with
    | true =>
      have:=Nat.eq_of_beq_eq_true hb
      subst this
      rw [cond_true,V.view,p8,hg]
      simp only
      cases Nat.beq t.k k <;> rfl
    | false =>
      have hne:o'≠o:=fun h=>by subst h; simp at hb
      rw [cond_false,V.view,V.view,p8,p8,Mf H hne]
      cases af.get H o' with
      | none=>rfl
      | some b=>cases b <;> rfl
  | .dptr ..,_=>rfl
  | .fn f vs,hn=>by rw [V.fz,V.view,V.view,views_fz hg vs (by simpa [V.noP] using hn)]
theorem views_fz {o:Nat} {e:TypeId} {t:Ty} {l:List t.T} {H:af} (hg:H.get o = some (.row e t l)):∀ vs:List V,V.noPs vs = true→V.views ((o,some (.row e t [])) :: dB [o] H) (V.fzs o t l vs) = V.views H vs
  | [],_=>rfl
  | v :: r,hn=>by
    rw [V.noPs,Bool.and_eq_true] at hn
    rw [V.fzs,V.views,V.views,view_fz hg v hn.1,views_fz hg r hn.2]
end
mutual
theorem noP_fz (o:Nat) (t:Ty) (l:List t.T):∀ v:V,v.noP = true→(V.fz o t l v).noP = true
  | .c d,_=>rfl
  | .agg vs,hn=>by rw [V.fz,V.noP]; exact noPs_fz o t l vs (by simpa [V.noP] using hn)
  | .tup vs,hn=>by rw [V.fz,V.noP]; exact noPs_fz o t l vs (by simpa [V.noP] using hn)
  | .ptr ..,hn=>by simp [V.noP] at hn
  | .row o' k,_=>by
    rw [V.fz]
    cases Nat.beq o' o with
    | false=>rfl
    | true=>rw [cond_true]; cases Nat.beq t.k k <;> rfl
  | .sub o' k off n,_=>by
    rw [V.fz]
    cases Nat.beq o' o with
    | false=>rfl
    | true=>rw [cond_true]; cases Nat.beq t.k k <;> rfl
  | .dptr ..,_=>rfl
  | .fn f vs,hn=>by rw [V.fz,V.noP]; exact noPs_fz o t l vs (by simpa [V.noP] using hn)
theorem noPs_fz (o:Nat) (t:Ty) (l:List t.T):∀ vs:List V,V.noPs vs = true→V.noPs (V.fzs o t l vs) = true
  | [],_=>rfl
  | v :: r,hn=>by
    rw [V.noPs,Bool.and_eq_true] at hn
    rw [V.fzs,V.noPs,noP_fz o t l v hn.1,noPs_fz o t l r hn.2]; rfl
end
theorem yF {C:FuncId→Option CC} {H:af} {nid:Nat} {f:FuncId} {args:List V} {con:Jt} {out:i7} (hc:C f = some (.pure con)) (ho:con (V.views H args) = some (true,out)):fM C H nid f args = qx nid args out:=by
  unfold fM
  rw [hc]
  simp only [ho]
  cases out <;> rfl
theorem GZ {C:FuncId→Option CC} {nid:Nat} {f:FuncId} {con:Jt} {out:i7} (hc:C f = some (.pure con)):∀ (fl:List Nat) (H:af) (args:List V),V.noPs args = true→con (V.views H args) = some (true,out) →
    iP (pK C f nid) fl H args = iP (fun _ vs=>qx nid vs out) fl H args
  | [],H,args,hn,ho=>by
    rw [iP,iP]
    unfold pK
    rw [hn,cond_true,hc]
    simp only
    exact yF hc ho
  | q :: fl,H,args,hn,ho=>by
    rw [iP,iP]
    split
    · next e t l hg =>
      rw [GZ hc fl _ _ (noPs_fz q t l args hn) (by rw [views_fz hg args hn]; exact ho)]
    · rfl
theorem Hz {C:FuncId→Option CC} {H:af} {nid:Nat} {f:FuncId} {args:List V} {con:Jt} {out:i7} {r:aA} (hc:C f = some (.pure con)) (ho:con (V.views H args) = some (true,out)) (h:pI H nid args out = some r):li C H nid f args = some r:=by
  unfold li
  rw [yF hc ho]
  unfold pI at h
  split at h
  · next r' hr=>rw [hr]; exact h
  · next hr =>
    rw [hr]
    cases hn:V.noPs args with
    | false=>rw [hn] at h; cases h
    | true =>
      rw [hn,cond_true] at h
      simp only
      rw [GZ hc _ _ _ hn ho]
      exact h
theorem Ju {f:af→List V→Option aA} {P0:List Prop→Prop} (hf:∀ H vs r,f H vs = some r→P0 r.pre):∀ (fl:List Nat) (H:af) (vs:List V) (r:aA),iP f fl H vs = some r→P0 r.pre
  | [],H,vs,r,h=>hf H vs r h
  | q :: fl,H,vs,r,h=>by
    rw [iP] at h
    split at h
    · next e t l hg =>
      cases hb:iP f fl ((q,some (.row e t [])) :: dB [q] H) (V.fzs q t l vs) with
      | none=>rw [hb] at h; cases h
      | some r0=>rw [hb] at h; cases h; exact Ju hf fl _ _ r0 hb
    · cases h
theorem A9 {nid:Nat} {args:List V} {out:i7} {r:aA} (hr:qx nid args out = some r):r.pre = [true = true]:=by
  cases out with
  | data v =>
    simp only [qx] at hr
    cases hq:((!ff args)||v.scalar) <;> rw [hq] at hr <;> cases hr
    rfl
  | new v=>cases hr; rfl
  | own fr e t l =>
    simp only [qx] at hr
    cases hq:((!ff args)||fr) <;> rw [hq] at hr <;> cases hr
    rfl
theorem Em {H:af} {nid:Nat} {args:List V} {out:i7} {r:aA} (h:pI H nid args out = some r):r.pre = [true = true]:=by
  unfold pI at h
  split at h
  · next r' hr=>cases h; exact A9 hr
  · cases hn:V.noPs args with
    | false=>rw [hn] at h; cases h
    | true=>rw [hn,cond_true] at h; exact Ju (P0:=fun ps=>ps = [true = true]) (fun _ _ _ h=>A9 h) _ _ _ _ h
def Kw {R:Type} (X:XT) (l:List FI) (H:af) (nid:Nat) (args:List V) (k:aA→Option R):Option R :=
  bif CZ l then iE X (br (aR H args) H) nid args k l
  else fX X (V.views H args) (fun out=>match pI H nid args out with | some r=>k r | none=>none) l
def uI {R:Type} (Tb:iQ) (X:XT) (f:FuncId) (H:af) (nid:Nat) (args:List V) (k:aA→Option R):Option R :=
  match cN Tb.fs f with
  | some l=>Kw X l H nid args k
  | none=>match Tb.sp f with
    | .hand fi h=>bif fi.out.isGen then k7 fi (h X) (br (aR H args) H) nid args k else lk fi (h X) (V.views H args) fun out=>match pI H nid args out with | some r=>k r | none=>none
    | .mut m=>(m X (br (aR H args) H) nid args).bind fun r=>gL r.dec.bools (k r)
    | .none=>none
theorem wF {C:FuncId→Option CC} {H:af} {nid:Nat} {f:FuncId} {args:List V} {m:af→Nat→List V→Option aA} {r:aA} (hc:C f = some (.mut m)) (hm:m (br (aR H args) H) nid args = some r):li C H nid f args = some r:=by
  have h0:fM C H nid f args = some r:=by
    unfold fM
    rw [hc]
    exact hm
  unfold li
  rw [h0]
theorem tE {T:Tm} {xs:List TV} {H:af} {nid:Nat} {args:List V} {r:aA} (h:im T xs H nid args some = some r):r.pre = [true = true]:=by
  unfold im at h
  split at h
  · cases hb:Fx T H (jn args T.sl) with
    | false=>rw [hb] at h; cases h
    | true=>rw [hb] at h; cases h; rfl
  · cases h
theorem DZ {X:XT} {H:af} {nid:Nat} {args:List V} {r:aA}:∀ {l:List FI},iE X H nid args some l = some r→r.pre = [true = true]
  | [],h=>by cases h
  | fi :: l,h=>by
    unfold iE at h
    split at h
    · rw [Option.bind_eq_some_iff] at h
      obtain ⟨y,_,h⟩:=h
      unfold jm at h
      split at h
      · exact tE h
      · split at h
        · next t xs _=>cases t <;> exact tE h
        · cases h
      · cases h
    · exact DZ h
theorem J1 {R:Type} (fi:FI) (h:HP fi.ins.tys→Option (HP fi.out.tys)) (H:af) (nid:Nat) (args:List V) (k:aA→Option R):k7 fi h H nid args k = (k7 fi h H nid args some).bind k:=by
  unfold k7
  split
  · next a _ =>
    cases h a with
    | none=>rfl
    | some y=>rw [Option.bind_some,Option.bind_some]; exact Ez ..
  · rfl
theorem JO {R:Type} (fi:FI) (h:HP fi.ins.tys→Option (HP fi.out.tys)) (vs:List V) (k:i7→Option R):lk fi h vs k = (lk fi h vs some).bind k:=by
  unfold lk
  split
  · next a _=>cases h a <;> rfl
  · rfl
theorem Nl {o:cG} {y:HP o.tys} {H:af} {nid:Nat} {args:List V} {r:aA} (h:jm o y H nid args some = some r):r.pre = [true = true]:=by
  unfold jm at h
  split at h
  · exact tE h
  · split at h
    · next t xs _=>cases t <;> exact tE h
    · cases h
  · cases h
theorem LO {fi:FI} {h:HP fi.ins.tys→Option (HP fi.out.tys)} {H:af} {nid:Nat} {args:List V} {r:aA} (hh:k7 fi h H nid args some = some r):r.pre = [true = true]:=by
  unfold k7 at hh
  split at hh
  · rw [Option.bind_eq_some_iff] at hh
    obtain ⟨y,_,hh⟩:=hh
    exact Nl hh
  · cases hh
theorem Aw {R:Type} {Tb:iQ} {X:XT} {f:FuncId} {H:af} {nid:Nat} {args:List V} {k:aA→Option R} {y:R} (h:uI Tb X f H nid args k = some y) :
    ∃ r,k r = some y∧(∀ p∈r.pre,p)∧∀ C:FuncId→Option CC,C f = some (eP Tb X f)→li C H nid f args = some r:=by
  have one:∀ {ps:List Prop},ps = [true = true]→∀ p∈ps,p:=fun e p hp=>by subst e; rw [List.mem_singleton] at hp; subst hp; rfl
  unfold uI at h
  split at h
  · next l hl =>
    unfold Kw at h
    cases hg:CZ l with
    | true =>
      rw [hg,cond_true,Ap,Option.bind_eq_some_iff] at h
      obtain ⟨r,h1,h2⟩:=h
      refine ⟨r,h2,one (DZ h1),fun C hC=>wF (m:=fun H nid args=>iE X H nid args some l) (by rw [hC]; unfold eP; rw [hl]; simp only [hg,cond_true]) h1⟩
    | false =>
      rw [hg,cond_false,AG,Option.bind_eq_some_iff] at h
      obtain ⟨out,h1,h2⟩:=h
      split at h2
      · next r hr=>exact ⟨r,h2,one (Em hr),fun C hC=>Hz (con:=fun vs=>(fX X vs some l).map fun o=>(true,o)) (by rw [hC]; unfold eP; rw [hl]; simp only [hg,cond_false]) (by simp only [h1,Option.map_some]) hr⟩
      · cases h2
  · next hl =>
    split at h
    · next fi hd hc =>
      cases hg:fi.out.isGen with
      | true =>
        rw [hg,cond_true,J1,Option.bind_eq_some_iff] at h
        obtain ⟨r,h1,h2⟩:=h
        exact ⟨r,h2,one (LO h1),fun C hC=>wF (m:=fun H nid args=>k7 fi (hd X) H nid args some) (by rw [hC]; unfold eP; rw [hl]; simp only [hc,hg,cond_true]) h1⟩
      | false =>
        rw [hg,cond_false,JO,Option.bind_eq_some_iff] at h
        obtain ⟨out,h1,h2⟩:=h
        split at h2
        · next r hr=>exact ⟨r,h2,one (Em hr),fun C hC=>Hz (con:=fun vs=>(lk fi (hd X) vs some).map fun o=>(true,o)) (by rw [hC]; unfold eP; rw [hl]; simp only [hc,hg,cond_false]) (by simp only [h1,Option.map_some]) hr⟩
        · cases h2
    · next m hm =>
      rw [Option.bind_eq_some_iff] at h
      obtain ⟨r,h1,h2⟩:=h
      obtain ⟨h3,h4⟩:=sW h2
      exact ⟨r,h4,rW _ h3,fun C hC=>wF (m:=m X) (by rw [hC]; unfold eP; rw [hl]; simp only [hm]) h1⟩
    · cases h
def Hp (o:Oper) (vs:List V):Option (FuncId × List V):=match o.op,vs with
  | .call { callee:=.value _, .. }, .fn f caps :: vs=>bif Nat.blt f 1000000000 then some (f,vs++caps) else none
  | _,_=>none
def nr (o:Oper):Bool:=match o.op with
  | .call { callee:=.value _, .. }=>true
  | _=>false
def Fq (o:Oper) (σ:St) (ch:aG) (nid:Nat) (vs:List V) (r:aA):bJ:={ dst:=o.dst,rds:=jX (cW o.op)++ch.map (·.1),ch,nid,vs,reach:=aR σ.hp vs,rws:=m4 σ.hp vs,res:=r }
def HD:List (Nat × ax)→Nat→ax→List (Nat × ax)
  | [],_,_=>[]
  | (t',s') :: r,t,s=>bif Nat.beq t' t then (t',s) :: r else (t',s') :: HD r t s
theorem wm:∀ {tm:List (Nat × ax)} {t:Nat} {s:ax},au tm t = some s→HD tm t s = tm
  | [],t,s,h=>rfl
  | (t',s') :: r,t,s,h=>by
    unfold HD
    unfold au at h
    cases hb:Nat.beq t' t with
    | true=>rw [hb] at h; cases h; rfl
    | false=>rw [hb,cond_false] at h; rw [cond_false,wm h]
def lP {R:Type}:aG→St→(St→Option R)→Option R
  | [],σ,k=>k σ
  | (t,_) :: r,σ,k=>match au σ.tm t with
    | some ⟨c0, .c (.lit (.bool b))⟩=>bif b then lP r { σ with tm:=HD σ.tm t ⟨c0,bl true⟩ } k else lP r { σ with tm:=HD σ.tm t ⟨c0,bl false⟩ } k
    | _=>none
theorem qq {R:Type} {y:R}:∀ {ch:aG} {σ:St} {k:St→Option R},lP ch σ k = some y→k σ = some y
  | [],σ,k,h=>h
  | (t,w) :: r,σ,k,h=>by
    unfold lP at h
    split at h
    · next c0 b hg =>
      cases b with
      | true =>
        rw [cond_true,wm hg] at h
        exact qq h
      | false =>
        rw [cond_false,wm hg] at h
        exact qq h
    · cases h
section
variable {R:Type} (Tb:iQ) (X:XT) (N:Nat) (all:List Oper)
def D1 (σ:St) (nid:Nat) (o:Oper) (fT fF:List FuncId) (k:St→bJ→List FuncId→List FuncId→Option R):Option R :=
  bif nr o then
    (bif jt N o.dst then
      match dv all σ.tm o.guard with
      | some ch =>
        bif ch.all fun x=>eC σ.tm ch x.1 then
          lP ch σ fun σ=>match jR σ ch (cW o.op) with
            | some vs=>(match Hp o vs with
              | some (f,args) =>
                bif holds σ.tm ch then
                  (bif dA f fF then none else uI Tb X f σ.hp nid args fun r=>bif ch.isEmpty||(r.eff.isEmpty&&r.kill.isEmpty&&eZ o.dst ch) then k σ (Fq o σ ch nid vs r) (f :: fT) fF else none)
                else (bif dA f fT then uI Tb X f σ.hp nid args fun r=>bif r.eff.isEmpty&&r.kill.isEmpty&&eZ o.dst ch then k σ (Fq o σ ch nid vs r) fT fF else none
                  else bif eZ o.dst ch then k σ (Fq o σ ch nid vs { pre:=[false = true],val:=.c .unk }) fT (f :: fF) else none)
              | none=>none)
            | none=>none
        else none
      | none=>none
    else none)
  else match recOf Tb.P (fun _=>none) N all σ nid o with
    | some rc=>gL (FD σ.tm rc.ch rc.res.dec.bools) (k σ rc fT fF)
    | none=>none
end
theorem Nb {P:Program} {C:FuncId→Option CC} {H:af} {nid:Nat} {o:Oper} {vs:List V} {f:FuncId} {args:List V} (h:Hp o vs = some (f,args)):ti P C H nid o vs = li C H nid f args:=by
  unfold Hp at h
  split at h
  · next g caps vs' ho =>
    cases hb:Nat.blt g 1000000000 with
    | false=>rw [hb] at h; cases h
    | true =>
      rw [hb] at h; cases h
      unfold ti
      rw [ho]
      simp only [hb,cond_true]
  · cases h
theorem IQ {P:Program} {C:FuncId→Option CC} {σ:St} {nid:Nat} {ch:aG} {o:Oper} (ho:nr o = true) {vs:List V} (hv:jR σ ch (cW o.op) = some vs) {r:aA} (hr:ti P C σ.hp nid o vs = some r):jQ P C σ nid ch o = some (vs,r):=by
  unfold nr at ho
  split at ho
  · next f args ats hop =>
    unfold jQ
    rw [hop] at hv ⊢
    simp only [hv]
    unfold wy
    rw [hr]
    rfl
  · cases ho
section
variable {R:Type} {Tb:iQ} {X:XT} {N:Nat} {all:List Oper}
theorem NM {P:Program} {C:FuncId→Option CC} {H:af} {nid:Nat} {o:Oper} {vs:List V} (ho:nr o = false):ti P (fun _=>none) H nid o vs = ti P C H nid o vs:=by
  unfold ti
  split <;> try rfl
  next hop=>unfold nr at ho; rw [hop] at ho; cases ho
theorem K0 {P:Program} {C:FuncId→Option CC} {σ:St} {nid:Nat} {o:Oper} (ho:nr o = false):recOf P (fun _=>none) N all σ nid o = recOf P C N all σ nid o:=by
  have e:∀ ch,jQ P (fun _=>none) σ nid ch o = jQ P C σ nid ch o:=by
    intro ch
    unfold jQ wy
    simp only [NM (C:=C) ho]
  unfold recOf
  simp only [e]
theorem zX {σ:St} {nid:Nat} {o:Oper} {fT fF:List FuncId} {k:St→bJ→List FuncId→List FuncId→Option R} {y:R} (h:D1 Tb X N all σ nid o fT fF k = some y) :
    ∃ rc fT' fF',k σ rc fT' fF' = some y∧(∀ f∈fT,f∈fT')∧(∀ f∈fF,f∈fF')∧((∀ f∈fT,f ∉ fF)→∀ f∈fT',f ∉ fF')∧(o.guard = none→fF' = fF) ∧
      ∀ Ff:List FuncId,(∀ f∈fF',f∈Ff)→(∀ f∈fT',f ∉ Ff)→recOf Tb.P (mg (eP Tb X) Ff) N all σ nid o = some rc∧∀ p∈ip σ.tm rc.ch rc.res.pre,p:=by
  unfold D1 at h
  cases hc:nr o with
  | false =>
    rw [hc,cond_false] at h
    split at h
    · next rc hrc =>
      obtain ⟨h1,h2⟩:=sW h
      refine ⟨rc,fT,fF,h2,fun _ h=>h,fun _ h=>h,fun h=>h,fun _=>rfl,fun Ff _ _=>⟨?_,Lh _ h1⟩⟩
      rw [← K0 hc]; exact hrc
    · cases h
  | true =>
    rw [hc,cond_true] at h
    cases hd:jt N o.dst with
    | false=>rw [hd] at h; cases h
    | true =>
      rw [hd,cond_true] at h
      split at h
      · next ch hch =>
        cases hg:(ch.all fun x=>eC σ.tm ch x.1) with
        | false=>rw [hg] at h; cases h
        | true =>
          rw [hg,cond_true] at h
          have h:=qq h
          split at h
          · next vs hvs =>
            split at h
            · next f args hca =>
              have rec_:∀ (C:FuncId→Option CC) (r:aA),li C σ.hp nid f args = some r→(ch.isEmpty||(r.eff.isEmpty&&r.kill.isEmpty&&eZ o.dst ch)) = true→recOf Tb.P C N all σ nid o = some (Fq o σ ch nid vs r):=by
                intro C r hr hx
                unfold recOf
                rw [hd,cond_true,hch]
                simp only [hg,cond_true]
                rw [IQ hc hvs ((Nb hca).trans hr)]
                simp only [hx,cond_true]
                rfl
              cases hh:holds σ.tm ch with
              | true =>
                rw [hh,cond_true] at h
                cases hm:dA f fF with
                | true=>rw [hm] at h; cases h
                | false =>
                  rw [hm,cond_false] at h
                  obtain ⟨r,h,hpre,hcv⟩:=Aw h
                  cases hx:(ch.isEmpty||(r.eff.isEmpty&&r.kill.isEmpty&&eZ o.dst ch)) with
                  | false=>rw [hx] at h; cases h
                  | true =>
                    rw [hx,cond_true] at h
                    refine ⟨_,f :: fT,fF,h,fun g hg=>List.mem_cons_of_mem _ hg,fun _ h=>h,fun hdj g hg=>?_,fun _=>rfl,fun Ff h1 h2=>⟨rec_ _ r ?_ hx, ?_⟩⟩
                    · rcases List.mem_cons.1 hg with rfl | hg
                      · intro hf
                        have:dA g fF = true:=List.any_eq_true.2 ⟨g,hf,by simp⟩
                        rw [hm] at this; cases this
                      · exact hdj g hg
                    · have hnf:dA f Ff = false:=by
                        cases hb:dA f Ff with
                        | false=>rfl
                        | true=>exact absurd (iG hb) (h2 f (by simp))
                      exact hcv _ (by unfold mg; rw [hnf,cond_false])
                    · intro p hp
                      have hp':p∈ip σ.tm ch r.pre:=hp
                      unfold ip at hp'
                      split at hp'
                      · exact hpre p hp'
                      · obtain ⟨q,hq,rfl⟩:=List.mem_map.1 hp'
                        exact fun _=>hpre q hq
              | false =>
                rw [hh,cond_false] at h
                cases hm:dA f fT with
                | true =>
                  rw [hm,cond_true] at h
                  obtain ⟨r,h,hpre,hcv⟩:=Aw h
                  cases hx:(r.eff.isEmpty&&r.kill.isEmpty&&eZ o.dst ch) with
                  | false=>rw [hx] at h; cases h
                  | true =>
                    rw [hx,cond_true] at h
                    refine ⟨_,fT,fF,h,fun _ h=>h,fun _ h=>h,fun hdj=>hdj,fun _=>rfl,fun Ff h1 h2=>⟨rec_ _ r ?_ (by rw [hx,Bool.or_true]), ?_⟩⟩
                    · have hnf:dA f Ff = false:=by
                        cases hb:dA f Ff with
                        | false=>rfl
                        | true=>exact absurd (iG hb) (h2 f (iG hm))
                      exact hcv _ (by unfold mg; rw [hnf,cond_false])
                    · intro p hp
                      have hp':p∈ip σ.tm ch r.pre:=hp
                      unfold ip at hp'
                      split at hp'
                      · exact hpre p hp'
                      · obtain ⟨q,hq,rfl⟩:=List.mem_map.1 hp'
                        exact fun _=>hpre q hq
                | false =>
                  rw [hm,cond_false] at h
                  cases hn:eZ o.dst ch with
                  | false=>rw [hn] at h; cases h
                  | true =>
                    rw [hn,cond_true] at h
                    refine ⟨_,fT,f :: fF,h,fun _ h=>h,fun g hg=>List.mem_cons_of_mem _ hg,fun hdj g hg hf=>?_,fun hno=>?_,fun Ff h1 h2=>⟨rec_ _ _ ?_ ?_, ?_⟩⟩
                    · rcases List.mem_cons.1 hf with rfl | hf
                      · have:dA g fT = true:=List.any_eq_true.2 ⟨g,hg,by simp⟩
                        rw [hm] at this; cases this
                      · exact hdj g hg hf
                    · rw [hno] at hch; cases hch; cases hh
                    · have hnf:dA f Ff = true:=List.any_eq_true.2 ⟨f,h1 f (by simp),by simp⟩
                      unfold li fM mg
                      simp only [hnf,cond_true,V.scalar,Bool.or_true]
                    · simp [hn]
                    · intro p hp
                      have hp':p∈ip σ.tm ch [false = true]:=hp
                      unfold ip at hp'
                      split at hp'
                      · simp [holds] at hh
                      · simp only [List.map_cons,List.map_nil,List.mem_singleton] at hp'; subst hp'; intro h0; rw [hh] at h0; cases h0
            · cases h
          · cases h
      · cases h
end
end Go.Ax
