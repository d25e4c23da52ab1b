import Derived.Test.YtokecajedkojlaaGreatZB6g
set_option linter.all false
/- An evaluation of code that can be run: functions as plain functions with an option. -/
namespace Go.Ax
open Go.RowKit
def RS:Nat:=2000000
inductive df where
  | data (c:Cd)
  | new (c:Cd)
  | own (fr:Bool) (e:TypeId) (t:Ty)
  | gen (T:Tm)
  | gen2 (T T':Tm)
def df.tys:df→List Ty
  | .gen T=>T.tys
  | .gen2 T T'=>.b :: (T.tys++T'.tys)
  | .data c=>c.tys
  | .new c=>c.tys
  | .own _ _ t=>[.ls t]
def df.isGen:df→Bool
  | .gen _=>true
  | .gen2 _ _=>true
  | _=>false
def df.out:(o:df)→HP o.tys→kG
  | .gen _,_=>.data (.c .unk)
  | .gen2 _ _,_=>.data (.c .unk)
  | .data c,x=>.data (filC c (im c.tys x)).1
  | .new c,x=>.new (filC c (im c.tys x)).1
  | .own fr e t,x=>.own fr e t x
def df.rd:(o:df)→ak→V→Option (HP o.tys)
  | .gen _,_,_=>none
  | .gen2 _ _,_,_=>none
  | .data c,H,v=>match colC c (v.view H) with | some us=>ma c.tys us | none=>none
  | .new c,H,v=>bif newV H v then (match colC c (v.view H) with | some us=>ma c.tys us | none=>none) else none
  | .own fr e t,H,v=>match v with
    | .c .nil=>some ([]:List t.T)
    | .row o k=>(match ak.get H o with
      | some (.row e' t' l)=>bif Nat.beq t'.k k&&Nat.beq e e'&&(!fr||t.sc) then nM t' t l else none
      | _=>none)
    | _=>none
theorem df.rd_ok {o:df} {H:ak} {v:V} {x:HP o.tys} (h:o.rd H v = some x):tq (o.out x) H v:=by
  have key:∀ (c:Cd) (x:HP c.tys),(match colC c (v.view H) with | some us=>ma c.tys us | none=>none) = some x→VLe (v.view H) (filC c (im c.tys x)).1:=by
    intro c x h
    split at h
    · next us hu =>
      have hr:=uz _ _ _ h
      exact (colC_le c _ us [] _ hu (by rw [List.append_nil]; exact hr)).1
    · cases h
  cases o with
  | gen T=>cases h
  | gen2 T T'=>cases h
  | data c=>exact key c x h
  | new c =>
    simp only [df.rd] at h
    cases hn:newV H v with
    | false=>rw [hn] at h; cases h
    | true=>rw [hn] at h; exact ⟨key c x h,hn⟩
  | own fr e t =>
    simp only [df.rd] at h
    split at h
    · cases h; exact .inl ⟨rfl,rfl⟩
    · next o k =>
      split at h
      · next e' t' l hg =>
        cases hc:(Nat.beq t'.k k&&Nat.beq e e'&&(!fr||t.sc)) with
        | false=>rw [hc] at h; cases h
        | true =>
          rw [hc] at h
          have h:nM t' t l = some x:=h
          simp only [Bool.and_eq_true,Nat.beq_eq,Bool.or_eq_true,Bool.not_eq_true'] at hc
          obtain ⟨he,hx⟩:=mr h
          subst he
          obtain ⟨⟨rfl,rfl⟩,h3⟩:=hc
          refine .inr ⟨o,rfl, ?_,fun hf=>?_⟩
          · rw [hg]; have:x = l:=hx; rw [this]
          · rcases h3 with h3 | h3
            · rw [hf] at h3; cases h3
            · exact h3
      · cases h
    · cases h
structure FI where
  fid:FuncId
  fn:Func
  c:Code
  ins:Tm
  out:df
  cuts:List (Nat × Tm):=[]
abbrev XT:=(fi:FI)→HP fi.ins.tys→Option (HP fi.out.tys)
abbrev JT:=(fi:FI)→(π:Nat)→(T:Tm)→HP T.tys→Option (HP fi.out.tys)
def BH (fi:FI) (vs:List V):Option (HP fi.ins.tys) :=
  bif !fi.out.isGen&&(Nat.beq vs.length fi.ins.sl.length&&fi.ins.ob.isEmpty) then rd fi.ins { tm:=ld vs 0,hp:=[],nx:=0 } else none
def iw {R:Type} (X:XT) (vs:List V) (k:kG→Option R):List FI→Option R
  | []=>none
  | fi :: r=>match BH fi vs with
    | some a=>(X fi a).bind fun y=>k (fi.out.out y)
    | none=>iw X vs k r
def dB {α:Type}:List (Nat × α)→Nat→Option α
  | [],_=>none
  | (g,x) :: r,f=>bif Nat.beq g f then some x else dB r f
def D9 (T:Tm) (xs:List TV):St:=let p:=pA T.sl xs; { tm:=p.1,hp:=lF 0 T.ob p.2,nx:=T.ob.length }
def n9 (H:ak):List Nat:=Gf [] (H.map (·.1))
def xu:List Nat→Nat
  | []=>0
  | o :: r=>Nat.max (o+1) (xu r)
def Un (os:List Nat) (H:ak):Bool:=os.all fun o=>match ak.get H o with | some b=>Nj os b | none=>true
def Vm (N:Nat) (H:ak) (args:List V):St:={ tm:=ld args 0++ld args 1000000,hp:=qO (n9 H) H,nx:=xu (n9 H) }
def rdG (fi:FI) (H:ak) (args:List V):Option (HP fi.ins.tys) :=
  bif Nat.ble args.length fi.fn.ntmps&&(V.refss args).all (fun o=>eL o (n9 H))&&Un (n9 H) H then Ft fi.ins (Vm fi.fn.ntmps H args) else none
def kU (args:List V):List (Nat × Cd)→rN
  | []=>[]
  | (t, .k (.ptr q k i j)) :: r=>bif Nat.ble 1000000 t then (match args[t - 1000000]? with | some (.ptr o _ _ _)=>(q,o,true) :: kU args r | _=>kU args r) else kU args r
  | (t, .k (.row q k)) :: r=>bif Nat.ble 1000000 t then (match args[t - 1000000]? with | some (.row o _)=>(q,o,false) :: kU args r | _=>kU args r) else kU args r
  | _ :: r=>kU args r
def Gh:Option Od→Bool
  | some (.box _)=>true
  | some (.map ..)=>true
  | _=>false
def IF:Option Ob→Bool
  | some (.row ..)=>false
  | none=>false
  | _=>true
def Mf (T:Tm) (H:ak) (bk:rN):Bool:=Nat.ble T.ob.length 8&&(ip (T.sl.map (·.1))&&(F4 bk&&bk.all fun x=>eL x.2.1 (n9 H)&&(Nat.blt x.1 T.ob.length&&(!x.2.2||(Gh T.ob[x.1]?&&IF (ak.get H x.2.1))))))
def jY {R:Type} (T:Tm) (xs:List TV) (H:ak) (nid:Nat) (args:List V) (k:aA→Option R):Option R :=
  match ar (D9 T xs).tm RS with
  | some ⟨_, .tup [v]⟩=>bif Mf T H (kU args T.sl) then k (Mp nid (n9 H) (kU args T.sl) (D9 T xs).hp v) else none
  | _=>none
def kV {R:Type} (o:df) (y:HP o.tys) (H:ak) (nid:Nat) (args:List V) (k:aA→Option R):Option R :=
  match o,y with
  | .gen T,y=>jY T (im T.tys y) H nid args k
  | .gen2 T T',y=>(match im (.b :: (T.tys++T'.tys)) y with
    | ⟨.b,t⟩ :: xs=>bif t then jY T xs H nid args k else jY T' (xs.drop T.tys.length) H nid args k
    | _=>none)
  | _,_=>none
def ko {R:Type} (X:XT) (H:ak) (nid:Nat) (args:List V) (k:aA→Option R):List FI→Option R
  | []=>none
  | fi :: r=>match rdG fi H args with
    | some a=>(X fi a).bind fun y=>kV fi.out y H nid args k
    | none=>ko X H nid args k r
def OW (T:Tm) (σ:St):Option (List V) :=
  let τ:=zJ T σ
  let ts:=T.sl.map (·.1)
  bif qn ts τ then
    let τ':=canonN ts τ
    bif Nat.ble τ'.nx T.ob.length then (match yT τ'.tm T.sl,A4 τ'.hp 0 T.ob with
      | some a,some b=>(match ma T.tys (a++b) with | some _=>some (a++b) | none=>none)
      | _,_=>none) else none
  else none
def O8 (ts:List Ty):List V:=ts.map fun t=>encV t t.z
def df.rdG:(o:df)→St→V→Option (HP o.tys)
  | .gen T,σ,v=>Ft T { σ with tm:=(RS,⟨[], .tup [v]⟩) :: σ.tm }
  | .gen2 T T',σ,v=>match OW T { σ with tm:=(RS,⟨[], .tup [v]⟩) :: σ.tm } with
    | some us=>ma (.b :: (T.tys++T'.tys)) (bl true :: (us++O8 T'.tys))
    | none=>(match OW T' { σ with tm:=(RS,⟨[], .tup [v]⟩) :: σ.tm } with
      | some us=>ma (.b :: (T.tys++T'.tys)) (bl false :: (O8 T.tys++us))
      | none=>none)
  | _,_,_=>none
theorem Mq {H:ak}:∀ (cs:List Od) (i:Nat) (us us2:List V) (xs:List TV),A4 H i cs = some us→RV (us++us2) xs→uQ H (lF i cs xs)
  | [],i,us,us2,xs,h,hr=>by rw [lF]; trivial
  | c :: cs,i,us,us2,xs,h,hr=>by
    rw [A4] at h
    split at h
    · next b hg =>
      split at h
      · next a b' ha hb =>
        cases h
        rw [List.append_assoc] at hr
        obtain ⟨h1,h2⟩:=OZ c b a (b'++us2) xs ha hr
        show uQ H ((i,some _) :: _)
        rw [uQ,hg]
        exact ⟨h1,Mq cs (i+1) b' us2 _ hb h2⟩
      · cases h
    · cases h
theorem Ps {T:Tm} {σ:St} {us us2:List V} {xs:List TV} (h:OW T σ = some us) (hr:RV (us++us2) xs):dP σ (D9 T xs):=by
  unfold OW at h
  simp only at h
  cases hc:qn (T.sl.map (·.1)) (zJ T σ) with
  | false=>rw [hc] at h; cases h
  | true =>
    rw [hc,cond_true] at h
    cases hb:Nat.ble (canonN (T.sl.map (·.1)) (zJ T σ)).nx T.ob.length with
    | false=>rw [hb] at h; cases h
    | true =>
      rw [hb,cond_true] at h
      split at h
      · next a b ha hb' =>
        split at h
        · cases h
          rw [List.append_assoc] at hr
          obtain ⟨h1,h2⟩:=Ie T.sl a (b++us2) xs ha hr
          exact ((JM T σ).trans (dP.canonN _ hc)).trans (.le ⟨h1,Mq T.ob 0 b us2 _ hb' h2,Nat.ble_eq.mp hb⟩)
        · cases h
      · cases h
theorem PA:∀ {us us2:List V} {xs:List TV},RV (us++us2) xs→RV us2 (xs.drop us.length)
  | [],us2,xs,h=>h
  | u :: us,us2,x :: xs,h=>PA (us:=us) h.2
  | u :: us,us2,[],h=>h.elim
theorem VR {b:Bool} {x:TV} (h:VLe (bl b) x.v):x = ⟨.b,b⟩:=by
  obtain ⟨t,x⟩:=x
  match t,x,h with
  | .b,x,h1 =>
    change VLe (.c (.lit (.bool b))) (.c (.lit (.bool x))) at h1
    rw [VLe] at h1
    cases h1
    rfl
  | .st k,x,h1=>change VLe (.c (.lit (.bool b))) (.agg _) at h1; simp [VLe] at h1
  | .arr n t,x,h1=>change VLe (.c (.lit (.bool b))) (.agg _) at h1; simp [VLe] at h1
  | .i k,x,h1=>change VLe (.c (.lit (.bool b))) (.c (.lit (.int k x))) at h1; rw [VLe] at h1; cases h1
  | .ls t,x,h1=>change VLe (.c (.lit (.bool b))) (.c (.sl t x)) at h1; rw [VLe] at h1; cases h1
  | .s,x,h1=>change VLe (.c (.lit (.bool b))) (.c (.lit (.string x))) at h1; rw [VLe] at h1; cases h1
theorem TR {R:Type} (T:Tm) (y:HP T.tys) (H:ak) (nid:Nat) (args:List V) (k:aA→Option R):kV (.gen T) y H nid args k = jY T (im T.tys y) H nid args k:=rfl
theorem UB (T:Tm) (σ:St) (v:V):df.rdG (.gen T) σ v = Ft T { σ with tm:=(RS,⟨[], .tup [v]⟩) :: σ.tm }:=rfl
theorem S6 {T:Tm} {σ:St} {x:HP T.tys} (h:Ft T σ = some x):dP σ (D9 T (im T.tys x)):=xA h
theorem LZ {R:Type} (T T':Tm) (y:HP (.b :: (T.tys++T'.tys))) {t:Bool} {xs:List TV} (hx:im (.b :: (T.tys++T'.tys)) y = (⟨.b,t⟩:TV) :: xs) (H:ak) (nid:Nat) (args:List V) (k:aA→Option R) :
    kV (.gen2 T T') y H nid args k = bif t then jY T xs H nid args k else jY T' (xs.drop T.tys.length) H nid args k:=by
  show (match im (.b :: (T.tys++T'.tys)) y with | ⟨.b,t⟩ :: xs=>bif t then jY T xs H nid args k else jY T' (xs.drop T.tys.length) H nid args k | _=>none) = _
  rw [hx]
theorem Tq (T T':Tm) (σ:St) (v:V):df.rdG (.gen2 T T') σ v = match OW T { σ with tm:=(RS,⟨[], .tup [v]⟩) :: σ.tm } with
    | some us=>ma (.b :: (T.tys++T'.tys)) (bl true :: (us++O8 T'.tys))
    | none=>(match OW T' { σ with tm:=(RS,⟨[], .tup [v]⟩) :: σ.tm } with
      | some us=>ma (.b :: (T.tys++T'.tys)) (bl false :: (O8 T.tys++us))
      | none=>none):=rfl
theorem Uz {T T':Tm} {σ:St} {v:V} {y:HP (df.gen2 T T').tys} (h:(df.gen2 T T').rdG σ v = some y):∃ (T0:Tm) (xs:List TV),dP { σ with tm:=(RS,⟨[], .tup [v]⟩) :: σ.tm } (D9 T0 xs) ∧
    ∀ {R:Type} (H:ak) (nid:Nat) (args:List V) (k:aA→Option R),kV (.gen2 T T') y H nid args k = jY T0 xs H nid args k:=by
  rw [Tq] at h
  have key:∀ (b:Bool) (us:List V),ma (.b :: (T.tys++T'.tys)) (bl b :: us) = some y→∃ xs,im (.b :: (T.tys++T'.tys)) y = (⟨.b,b⟩:TV) :: xs∧RV us xs:=by
    intro b us hh
    have hr:=uz _ _ _ hh
    revert hr
    generalize im (.b :: (T.tys++T'.tys)) y = l
    intro hr
    match l,hr with
    | [],hr=>exact hr.elim
    | x :: xs,hr=>exact ⟨xs,by rw [VR hr.1],hr.2⟩
  split at h
  · next us hu =>
    obtain ⟨xs,hx,hr⟩:=key _ _ h
    exact ⟨T,xs,Ps hu hr,fun H nid args k=>by rw [LZ T T' y hx,cond_true]⟩
  · split at h
    · next us hu =>
      obtain ⟨xs,hx,hr⟩:=key _ _ h
      have h2:=PA hr
      have e:(O8 T.tys).length = T.tys.length:=by simp [O8]
      rw [e] at h2
      exact ⟨T',xs.drop T.tys.length,Ps (us2:=[]) hu (by rw [List.append_nil]; exact h2),fun H nid args k=>by rw [LZ T T' y hx,cond_false]⟩
    · cases h
theorem VF {o:df} {σ:St} {v:V} {y:HP o.tys} (h:o.rdG σ v = some y):∃ (T:Tm) (xs:List TV),dP { σ with tm:=(RS,⟨[], .tup [v]⟩) :: σ.tm } (D9 T xs) ∧
    ∀ {R:Type} (H:ak) (nid:Nat) (args:List V) (k:aA→Option R),kV o y H nid args k = jY T xs H nid args k:=by
  cases o with
  | gen T =>
    rw [UB] at h
    exact ⟨T,im T.tys y,S6 h,fun H nid args k=>TR T y H nid args k⟩
  | gen2 T T'=>exact @Uz T T' σ v y h
  | data c =>
    have h:(none:Option (HP (df.data c).tys)) = some y:=h
    cases h
  | new c =>
    have h:(none:Option (HP (df.new c).tys)) = some y:=h
    cases h
  | own fr e t =>
    have h:(none:Option (HP (df.own fr e t).tys)) = some y:=h
    cases h
inductive Sp where
  | none
  | hand (fi:FI) (h:XT→HP fi.ins.tys→Option (HP fi.out.tys))
  | mut (m:XT→ak→Nat→List V→Option aA)
structure kD where
  P:Program
  fs:List (FuncId × List FI)
  sp:FuncId→Sp
def G3:List FI→Bool
  | fi :: _=>fi.out.isGen
  | []=>false
def nQ {R:Type} (fi:FI) (h:HP fi.ins.tys→Option (HP fi.out.tys)) (H:ak) (nid:Nat) (args:List V) (k:aA→Option R):Option R:=match rdG fi H args with
  | some a=>(h a).bind fun y=>kV fi.out y H nid args k
  | none=>none
def nW {R:Type} (fi:FI) (h:HP fi.ins.tys→Option (HP fi.out.tys)) (vs:List V) (k:kG→Option R):Option R:=match BH fi vs with
  | some a=>(h a).bind fun y=>k (fi.out.out y)
  | none=>none
def fQ (Tb:kD) (X:XT) (f:FuncId):CC:=match dB Tb.fs f with
  | some l=>bif G3 l then .mut fun H nid args=>ko X H nid args some l else .pure fun vs=>(iw X vs some l).map fun o=>(true,o)
  | none=>match Tb.sp f with
    | .hand fi h=>bif fi.out.isGen then .mut fun H nid args=>nQ fi (h X) H nid args some else .pure fun vs=>(nW fi (h X) vs some).map fun o=>(true,o)
    | .mut m=>.mut (m X)
    | .none=>.pure fun _=>none
def oN (C:FuncId→CC) (fs:List FuncId):FuncId→Option CC:=fun f=>bif eL f fs then some (.pure fun _=>some (false, .data (.c .unk))) else some (C f)
theorem FH {R:Type} (X:XT) (vs:List V) (k:kG→Option R):∀ l:List FI,iw X vs k l = (iw X vs some l).bind k
  | []=>rfl
  | fi :: r=>by
    unfold iw
    split
    · next a ha=>cases X fi a <;> rfl
    · exact FH X vs k r
theorem JE {R:Type} (T:Tm) (xs:List TV) (H:ak) (nid:Nat) (args:List V) (k:aA→Option R):jY T xs H nid args k = (jY T xs H nid args some).bind k:=by
  unfold jY
  split
  · cases Mf T H (kU args T.sl) <;> rfl
  · rfl
theorem JJ {R:Type} (o:df) (y:HP o.tys) (H:ak) (nid:Nat) (args:List V) (k:aA→Option R):kV o y H nid args k = (kV o y H nid args some).bind k:=by
  unfold kV
  split
  · exact JE ..
  · split
    · next t xs _=>cases t <;> exact JE ..
    · rfl
  · rfl
theorem Fw {R:Type} (X:XT) (H:ak) (nid:Nat) (args:List V) (k:aA→Option R):∀ l:List FI,ko X H nid args k l = (ko X H nid args some l).bind k
  | []=>rfl
  | fi :: r=>by
    unfold ko
    split
    · next a ha =>
      cases X fi a with
      | none=>rfl
      | some y=>rw [Option.bind_some,Option.bind_some]; exact JJ ..
    · exact Fw X H nid args k r
def gb {α:Type} (b:Bool) (o:Option α):Option α:=bif b then o else none
def gL {α:Type}:List Bool→Option α→Option α
  | [],o=>o
  | b :: r,o=>gb b (gL r o)
theorem xz {α:Type} {o:Option α} {y:α}:∀ {l:List Bool},gL l o = some y→(∀ b∈l,b = true)∧o = some y
  | [],h=>⟨fun b hb=>by simp at hb,h⟩
  | b :: l,h=>by
    unfold gL gb at h
    cases b with
    | false=>cases h
    | true =>
      obtain ⟨h1,h2⟩:=xz (l:=l) h
      exact ⟨fun c hc=>by rcases List.mem_cons.1 hc with rfl | hc; rfl; exact h1 c hc,h2⟩
def fC.bools:{ps:List Prop}→fC ps→List Bool
  | _, .nil=>[]
  | _, .cons (p:=p) d r=>@aa p d :: r.bools
def MV (tm:List (Nat × aw)) (ch:aK) (bs:List Bool):List Bool:=match ch with
  | []=>bs
  | ch=>bs.map fun b=>!(holds tm ch)||b
theorem v8:∀ {ps:List Prop} (d:fC ps),(∀ b∈d.bools,b = true)→∀ p∈ps,p
  | _, .nil,_,p,hp=>by simp at hp
  | _, .cons d r,h,p,hp=>by
    rcases List.mem_cons.1 hp with rfl | hp
    · exact of_decide_eq_true (h _ (by simp [fC.bools]))
    · exact v8 r (fun b hb=>h b (by simp [fC.bools,hb])) p hp
theorem Jx {c:Prop} {b:Bool} (hb:b = true↔c):∀ {ps:List Prop} (d:fC ps),(∀ x∈d.bools.map (fun y=>!b||y),x = true)→∀ p∈ps,c→p
  | _, .nil,_,p,hp=>by simp at hp
  | _, .cons d r,h,p,hp=>by
    intro hc
    rcases List.mem_cons.1 hp with rfl | hp
    · have:=h (!b||@decide _ d) (by simp [fC.bools])
      rw [hb.2 hc] at this
      exact of_decide_eq_true (by simpa using this)
    · exact Jx hb r (fun x hx=>h x (by simp only [fC.bools,List.map_cons,List.mem_cons]; exact .inr hx)) p hp hc
theorem So {tm:List (Nat × aw)} {ch:aK} {ps:List Prop} (d:fC ps) (h:∀ b∈MV tm ch d.bools,b = true):∀ p∈kp tm ch ps,p:=by
  unfold MV kp at *
  cases ch with
  | nil=>exact v8 d h
  | cons x l =>
    intro p hp
    simp only [List.mem_map] at hp
    obtain ⟨q,hq,rfl⟩:=hp
    exact Jx Iff.rfl d h q hq
def uS (nid:Nat) (args:List V):kG→Option aA
  | .data v=>bif (!gE args)||v.scalar then some { pre:=[true = true],val:=v } else none
  | .new v=>some { pre:=[true = true],val:=v }
  | .own fr e t l=>bif (!gE args)||fr then some { pre:=[true = true],val:=.row nid t.k,eff:=[(nid,some (.row e t l))] } else none
def tv (H:ak) (nid:Nat) (args:List V) (out:kG):Option aA:=match uS nid args out with
  | some r=>some r
  | none=>bif V.noPs args then ku (fun _ vs=>uS nid vs out) (V.refss args) H args else none
theorem R3 {o:Nat} {e:TypeId} {t:Ty} (H:ak) {q:Nat} (h:q≠o):ak.get ((o,some (.row e t [])) :: eC [o] H) q = pk o (ak.get H q):=by
  rw [ak.get_cons,if_neg (Ne.symm h),fo]
mutual
theorem view_fz {o:Nat} {e:TypeId} {t:Ty} {l:List t.T} {H:ak} (hg:H.get o = some (.row e t l)):∀ v:V,v.noP = true→(V.fz o t l v).view ((o,some (.row e t [])) :: eC [o] H) = v.view H
  | .c d,_=>rfl
  | .agg vs,hn=>by rw [V.fz,V.view,V.view,views_fz hg vs (by simpa [V.noP] using hn)]
  | .tup vs,hn=>by rw [V.fz,V.view,V.view,views_fz hg vs (by simpa [V.noP] using hn)]
  | .ptr ..,hn=>by simp [V.noP] at hn
  | .row o' k,_=>by
    rw [V.fz]
    cases hb:Nat.beq o' o with
    | true =>
      have:=Nat.eq_of_beq_eq_true hb
      subst this
      rw [cond_true,V.view,uv,hg]
      simp only
      cases Nat.beq t.k k <;> rfl
    | false =>
      have hne:o'≠o:=fun h=>by subst h; simp at hb
      rw [cond_false,V.view,V.view,uv,uv,R3 H hne]
      cases ak.get H o' with
      | none=>rfl
      | some b=>cases b <;> rfl
  | .sub o' k off n,_=>by
    rw [V.fz]
    cases hb:Nat.beq o' o with
    | true =>
      have:=Nat.eq_of_beq_eq_true hb
      subst this
      rw [cond_true,V.view,ux,hg]
      simp only
      cases Nat.beq t.k k <;> rfl
    | false =>
      have hne:o'≠o:=fun h=>by subst h; simp at hb
      rw [cond_false,V.view,V.view,ux,ux,R3 H hne]
      cases ak.get H o' with
      | none=>rfl
      | some b=>cases b <;> rfl
  | .dptr ..,_=>rfl
  | .fn f vs,hn=>by rw [V.fz,V.view,V.view,views_fz hg vs (by simpa [V.noP] using hn)]
theorem views_fz {o:Nat} {e:TypeId} {t:Ty} {l:List t.T} {H:ak} (hg:H.get o = some (.row e t l)):∀ vs:List V,V.noPs vs = true→V.views ((o,some (.row e t [])) :: eC [o] H) (V.fzs o t l vs) = V.views H vs
  | [],_=>rfl
  | v :: r,hn=>by
    rw [V.noPs,Bool.and_eq_true] at hn
    rw [V.fzs,V.views,V.views,view_fz hg v hn.1,views_fz hg r hn.2]
end
mutual
theorem noP_fz (o:Nat) (t:Ty) (l:List t.T):∀ v:V,v.noP = true→(V.fz o t l v).noP = true
  | .c d,_=>rfl
  | .agg vs,hn=>by rw [V.fz,V.noP]; exact noPs_fz o t l vs (by simpa [V.noP] using hn)
  | .tup vs,hn=>by rw [V.fz,V.noP]; exact noPs_fz o t l vs (by simpa [V.noP] using hn)
  | .ptr ..,hn=>by simp [V.noP] at hn
  | .row o' k,_=>by
    rw [V.fz]
    cases Nat.beq o' o with
    | false=>rfl
    | true=>rw [cond_true]; cases Nat.beq t.k k <;> rfl
  | .sub o' k off n,_=>by
    rw [V.fz]
    cases Nat.beq o' o with
    | false=>rfl
    | true=>rw [cond_true]; cases Nat.beq t.k k <;> rfl
  | .dptr ..,_=>rfl
  | .fn f vs,hn=>by rw [V.fz,V.noP]; exact noPs_fz o t l vs (by simpa [V.noP] using hn)
theorem noPs_fz (o:Nat) (t:Ty) (l:List t.T):∀ vs:List V,V.noPs vs = true→V.noPs (V.fzs o t l vs) = true
  | [],_=>rfl
  | v :: r,hn=>by
    rw [V.noPs,Bool.and_eq_true] at hn
    rw [V.fzs,V.noPs,noP_fz o t l v hn.1,noPs_fz o t l r hn.2]; rfl
end
theorem CL {C:FuncId→Option CC} {H:ak} {nid:Nat} {f:FuncId} {args:List V} {con:Pi} {out:kG} (hc:C f = some (.pure con)) (ho:con (V.views H args) = some (true,out)):iD C H nid f args = uS nid args out:=by
  unfold iD
  rw [hc]
  simp only [ho]
  cases out <;> rfl
theorem MC {C:FuncId→Option CC} {nid:Nat} {f:FuncId} {con:Pi} {out:kG} (hc:C f = some (.pure con)):∀ (fl:List Nat) (H:ak) (args:List V),V.noPs args = true→con (V.views H args) = some (true,out) →
    ku (tk C f nid) fl H args = ku (fun _ vs=>uS nid vs out) fl H args
  | [],H,args,hn,ho=>by
    rw [ku,ku]
    unfold tk
    rw [hn,cond_true,hc]
    simp only
    exact CL hc ho
  | q :: fl,H,args,hn,ho=>by
    rw [ku,ku]
    split
    · next e t l hg =>
      rw [MC hc fl _ _ (noPs_fz q t l args hn) (by rw [views_fz hg args hn]; exact ho)]
    · rfl
theorem L9 {C:FuncId→Option CC} {H:ak} {nid:Nat} {f:FuncId} {args:List V} {con:Pi} {out:kG} {r:aA} (hc:C f = some (.pure con)) (ho:con (V.views H args) = some (true,out)) (h:tv H nid args out = some r):nP C H nid f args = some r:=by
  unfold nP
  rw [CL hc ho]
  unfold tv at h
  split at h
  · next r' hr=>rw [hr]; exact h
  · next hr =>
    rw [hr]
    cases hn:V.noPs args with
    | false=>rw [hn] at h; cases h
    | true =>
      rw [hn,cond_true] at h
      simp only
      rw [MC hc _ _ _ hn ho]
      exact h
theorem Pl {f:ak→List V→Option aA} {P0:List Prop→Prop} (hf:∀ H vs r,f H vs = some r→P0 r.pre):∀ (fl:List Nat) (H:ak) (vs:List V) (r:aA),ku f fl H vs = some r→P0 r.pre
  | [],H,vs,r,h=>hf H vs r h
  | q :: fl,H,vs,r,h=>by
    rw [ku] at h
    split at h
    · next e t l hg =>
      cases hb:ku f fl ((q,some (.row e t [])) :: eC [q] H) (V.fzs q t l vs) with
      | none=>rw [hb] at h; cases h
      | some r0=>rw [hb] at h; cases h; exact Pl hf fl _ _ r0 hb
    · cases h
theorem F5 {nid:Nat} {args:List V} {out:kG} {r:aA} (hr:uS nid args out = some r):r.pre = [true = true]:=by
  cases out with
  | data v =>
    simp only [uS] at hr
    cases hq:((!gE args)||v.scalar) <;> rw [hq] at hr <;> cases hr
    rfl
  | new v=>cases hr; rfl
  | own fr e t l =>
    simp only [uS] at hr
    cases hq:((!gE args)||fr) <;> rw [hq] at hr <;> cases hr
    rfl
theorem JZ {H:ak} {nid:Nat} {args:List V} {out:kG} {r:aA} (h:tv H nid args out = some r):r.pre = [true = true]:=by
  unfold tv at h
  split at h
  · next r' hr=>cases h; exact F5 hr
  · cases hn:V.noPs args with
    | false=>rw [hn] at h; cases h
    | true=>rw [hn,cond_true] at h; exact Pl (P0:=fun ps=>ps = [true = true]) (fun _ _ _ h=>F5 h) _ _ _ _ h
def QX {R:Type} (X:XT) (l:List FI) (H:ak) (nid:Nat) (args:List V) (k:aA→Option R):Option R :=
  bif G3 l then ko X (bF (aR H args) H) nid args k l
  else iw X (V.views H args) (fun out=>match tv H nid args out with | some r=>k r | none=>none) l
def x7 {R:Type} (Tb:kD) (X:XT) (f:FuncId) (H:ak) (nid:Nat) (args:List V) (k:aA→Option R):Option R :=
  match dB Tb.fs f with
  | some l=>QX X l H nid args k
  | none=>match Tb.sp f with
    | .hand fi h=>bif fi.out.isGen then nQ fi (h X) (bF (aR H args) H) nid args k else nW fi (h X) (V.views H args) fun out=>match tv H nid args out with | some r=>k r | none=>none
    | .mut m=>(m X (bF (aR H args) H) nid args).bind fun r=>gL r.dec.bools (k r)
    | .none=>none
theorem A9 {C:FuncId→Option CC} {H:ak} {nid:Nat} {f:FuncId} {args:List V} {m:ak→Nat→List V→Option aA} {r:aA} (hc:C f = some (.mut m)) (hm:m (bF (aR H args) H) nid args = some r):nP C H nid f args = some r:=by
  have h0:iD C H nid f args = some r:=by
    unfold iD
    rw [hc]
    exact hm
  unfold nP
  rw [h0]
theorem yp {T:Tm} {xs:List TV} {H:ak} {nid:Nat} {args:List V} {r:aA} (h:jY T xs H nid args some = some r):r.pre = [true = true]:=by
  unfold jY at h
  split at h
  · cases hb:Mf T H (kU args T.sl) with
    | false=>rw [hb] at h; cases h
    | true=>rw [hb] at h; cases h; rfl
  · cases h
theorem Jk {X:XT} {H:ak} {nid:Nat} {args:List V} {r:aA}:∀ {l:List FI},ko X H nid args some l = some r→r.pre = [true = true]
  | [],h=>by cases h
  | fi :: l,h=>by
    unfold ko at h
    split at h
    · rw [Option.bind_eq_some_iff] at h
      obtain ⟨y,_,h⟩:=h
      unfold kV at h
      split at h
      · exact yp h
      · split at h
        · next t xs _=>cases t <;> exact yp h
        · cases h
      · cases h
    · exact Jk h
theorem QJ {R:Type} (fi:FI) (h:HP fi.ins.tys→Option (HP fi.out.tys)) (H:ak) (nid:Nat) (args:List V) (k:aA→Option R):nQ fi h H nid args k = (nQ fi h H nid args some).bind k:=by
  unfold nQ
  split
  · next a _ =>
    cases h a with
    | none=>rfl
    | some y=>rw [Option.bind_some,Option.bind_some]; exact JJ ..
  · rfl
theorem QI {R:Type} (fi:FI) (h:HP fi.ins.tys→Option (HP fi.out.tys)) (vs:List V) (k:kG→Option R):nW fi h vs k = (nW fi h vs some).bind k:=by
  unfold nW
  split
  · next a _=>cases h a <;> rfl
  · rfl
theorem TQ {o:df} {y:HP o.tys} {H:ak} {nid:Nat} {args:List V} {r:aA} (h:kV o y H nid args some = some r):r.pre = [true = true]:=by
  unfold kV at h
  split at h
  · exact yp h
  · split at h
    · next t xs _=>cases t <;> exact yp h
    · cases h
  · cases h
theorem Sg {fi:FI} {h:HP fi.ins.tys→Option (HP fi.out.tys)} {H:ak} {nid:Nat} {args:List V} {r:aA} (hh:nQ fi h H nid args some = some r):r.pre = [true = true]:=by
  unfold nQ at hh
  split at hh
  · rw [Option.bind_eq_some_iff] at hh
    obtain ⟨y,_,hh⟩:=hh
    exact TQ hh
  · cases hh
theorem Gr {R:Type} {Tb:kD} {X:XT} {f:FuncId} {H:ak} {nid:Nat} {args:List V} {k:aA→Option R} {y:R} (h:x7 Tb X f H nid args k = some y) :
    ∃ r,k r = some y∧(∀ p∈r.pre,p)∧∀ C:FuncId→Option CC,C f = some (fQ Tb X f)→nP C H nid f args = some r:=by
  have one:∀ {ps:List Prop},ps = [true = true]→∀ p∈ps,p:=fun e p hp=>by subst e; rw [List.mem_singleton] at hp; subst hp; rfl
  unfold x7 at h
  split at h
  · next l hl =>
    unfold QX at h
    cases hg:G3 l with
    | true =>
      rw [hg,cond_true,Fw,Option.bind_eq_some_iff] at h
      obtain ⟨r,h1,h2⟩:=h
      refine ⟨r,h2,one (Jk h1),fun C hC=>A9 (m:=fun H nid args=>ko X H nid args some l) (by rw [hC]; unfold fQ; rw [hl]; simp only [hg,cond_true]) h1⟩
    | false =>
      rw [hg,cond_false,FH,Option.bind_eq_some_iff] at h
      obtain ⟨out,h1,h2⟩:=h
      split at h2
      · next r hr=>exact ⟨r,h2,one (JZ hr),fun C hC=>L9 (con:=fun vs=>(iw X vs some l).map fun o=>(true,o)) (by rw [hC]; unfold fQ; rw [hl]; simp only [hg,cond_false]) (by simp only [h1,Option.map_some]) hr⟩
      · cases h2
  · next hl =>
    split at h
    · next fi hd hc =>
      cases hg:fi.out.isGen with
      | true =>
        rw [hg,cond_true,QJ,Option.bind_eq_some_iff] at h
        obtain ⟨r,h1,h2⟩:=h
        exact ⟨r,h2,one (Sg h1),fun C hC=>A9 (m:=fun H nid args=>nQ fi (hd X) H nid args some) (by rw [hC]; unfold fQ; rw [hl]; simp only [hc,hg,cond_true]) h1⟩
      | false =>
        rw [hg,cond_false,QI,Option.bind_eq_some_iff] at h
        obtain ⟨out,h1,h2⟩:=h
        split at h2
        · next r hr=>exact ⟨r,h2,one (JZ hr),fun C hC=>L9 (con:=fun vs=>(nW fi (hd X) vs some).map fun o=>(true,o)) (by rw [hC]; unfold fQ; rw [hl]; simp only [hc,hg,cond_false]) (by simp only [h1,Option.map_some]) hr⟩
        · cases h2
    · next m hm =>
      rw [Option.bind_eq_some_iff] at h
      obtain ⟨r,h1,h2⟩:=h
      obtain ⟨h3,h4⟩:=xz h2
      exact ⟨r,h4,v8 _ h3,fun C hC=>A9 (m:=m X) (by rw [hC]; unfold fQ; rw [hl]; simp only [hm]) h1⟩
    · cases h
def Lu (o:Oper) (vs:List V):Option (FuncId × List V):=match o.op,vs with
  | .call { callee:=.value _, .. }, .fn f caps :: vs=>bif Nat.blt f 1000000000 then some (f,vs++caps) else none
  | _,_=>none
def qC (o:Oper):Bool:=match o.op with
  | .call { callee:=.value _, .. }=>true
  | _=>false
def KU (o:Oper) (σ:St) (ch:aK) (nid:Nat) (vs:List V) (r:aA):ck:={ dst:=o.dst,rds:=l7 (dM o.op)++ch.map (·.1),ch,nid,vs,reach:=aR σ.hp vs,rws:=qD σ.hp vs,res:=r }
def LN:List (Nat × aw)→Nat→aw→List (Nat × aw)
  | [],_,_=>[]
  | (t',s') :: r,t,s=>bif Nat.beq t' t then (t',s) :: r else (t',s') :: LN r t s
theorem AR:∀ {tm:List (Nat × aw)} {t:Nat} {s:aw},ar tm t = some s→LN tm t s = tm
  | [],t,s,h=>rfl
  | (t',s') :: r,t,s,h=>by
    unfold LN
    unfold ar at h
    cases hb:Nat.beq t' t with
    | true=>rw [hb] at h; cases h; rfl
    | false=>rw [hb,cond_false] at h; rw [cond_false,AR h]
def oE {R:Type}:aK→St→(St→Option R)→Option R
  | [],σ,k=>k σ
  | (t,_) :: r,σ,k=>match ar σ.tm t with
    | some ⟨c0, .c (.lit (.bool b))⟩=>bif b then oE r { σ with tm:=LN σ.tm t ⟨c0,bl true⟩ } k else oE r { σ with tm:=LN σ.tm t ⟨c0,bl false⟩ } k
    | _=>none
theorem uN {R:Type} {y:R}:∀ {ch:aK} {σ:St} {k:St→Option R},oE ch σ k = some y→k σ = some y
  | [],σ,k,h=>h
  | (t,w) :: r,σ,k,h=>by
    unfold oE at h
    split at h
    · next c0 b hg =>
      cases b with
      | true =>
        rw [cond_true,AR hg] at h
        exact uN h
      | false =>
        rw [cond_false,AR hg] at h
        exact uN h
    · cases h
section
variable {R:Type} (Tb:kD) (X:XT) (N:Nat) (all:List Oper)
def JX (σ:St) (nid:Nat) (o:Oper) (fT fF:List FuncId) (k:St→ck→List FuncId→List FuncId→Option R):Option R :=
  bif qC o then
    (bif lx N o.dst then
      match eF all σ.tm o.guard with
      | some ch =>
        bif ch.all fun x=>fH σ.tm ch x.1 then
          oE ch σ fun σ=>match me σ ch (dM o.op) with
            | some vs=>(match Lu o vs with
              | some (f,args) =>
                bif holds σ.tm ch then
                  (bif eL f fF then none else x7 Tb X f σ.hp nid args fun r=>bif ch.isEmpty||(r.eff.isEmpty&&r.kill.isEmpty&&gm o.dst ch) then k σ (KU o σ ch nid vs r) (f :: fT) fF else none)
                else (bif eL f fT then x7 Tb X f σ.hp nid args fun r=>bif r.eff.isEmpty&&r.kill.isEmpty&&gm o.dst ch then k σ (KU o σ ch nid vs r) fT fF else none
                  else bif gm o.dst ch then k σ (KU o σ ch nid vs { pre:=[false = true],val:=.c .unk }) fT (f :: fF) else none)
              | none=>none)
            | none=>none
        else none
      | none=>none
    else none)
  else match recOf Tb.P (fun _=>none) N all σ nid o with
    | some rc=>gL (MV σ.tm rc.ch rc.res.dec.bools) (k σ rc fT fF)
    | none=>none
end
theorem SY {P:Program} {C:FuncId→Option CC} {H:ak} {nid:Nat} {o:Oper} {vs:List V} {f:FuncId} {args:List V} (h:Lu o vs = some (f,args)):xB P C H nid o vs = nP C H nid f args:=by
  unfold Lu at h
  split at h
  · next g caps vs' ho =>
    cases hb:Nat.blt g 1000000000 with
    | false=>rw [hb] at h; cases h
    | true =>
      rw [hb] at h; cases h
      unfold xB
      rw [ho]
      simp only [hb,cond_true]
  · cases h
theorem OD {P:Program} {C:FuncId→Option CC} {σ:St} {nid:Nat} {ch:aK} {o:Oper} (ho:qC o = true) {vs:List V} (hv:me σ ch (dM o.op) = some vs) {r:aA} (hr:xB P C σ.hp nid o vs = some r):mf P C σ nid ch o = some (vs,r):=by
  unfold qC at ho
  split at ho
  · next f args ats hop =>
    unfold mf
    rw [hop] at hv ⊢
    simp only [hv]
    unfold Be
    rw [hr]
    rfl
  · cases ho
section
variable {R:Type} {Tb:kD} {X:XT} {N:Nat} {all:List Oper}
theorem Vd {P:Program} {C:FuncId→Option CC} {H:ak} {nid:Nat} {o:Oper} {vs:List V} (ho:qC o = false):xB P (fun _=>none) H nid o vs = xB P C H nid o vs:=by
  unfold xB
  split <;> try rfl
  next hop=>unfold qC at ho; rw [hop] at ho; cases ho
theorem RO {P:Program} {C:FuncId→Option CC} {σ:St} {nid:Nat} {o:Oper} (ho:qC o = false):recOf P (fun _=>none) N all σ nid o = recOf P C N all σ nid o:=by
  have e:∀ ch,mf P (fun _=>none) σ nid ch o = mf P C σ nid ch o:=by
    intro ch
    unfold mf Be
    simp only [Vd (C:=C) ho]
  unfold recOf
  simp only [e]
theorem EM {σ:St} {nid:Nat} {o:Oper} {fT fF:List FuncId} {k:St→ck→List FuncId→List FuncId→Option R} {y:R} (h:JX Tb X N all σ nid o fT fF k = some y) :
    ∃ rc fT' fF',k σ rc fT' fF' = some y∧(∀ f∈fT,f∈fT')∧(∀ f∈fF,f∈fF')∧((∀ f∈fT,f ∉ fF)→∀ f∈fT',f ∉ fF')∧(o.guard = none→fF' = fF) ∧
      ∀ Ff:List FuncId,(∀ f∈fF',f∈Ff)→(∀ f∈fT',f ∉ Ff)→recOf Tb.P (oN (fQ Tb X) Ff) N all σ nid o = some rc∧∀ p∈kp σ.tm rc.ch rc.res.pre,p:=by
  unfold JX at h
  cases hc:qC o with
  | false =>
    rw [hc,cond_false] at h
    split at h
    · next rc hrc =>
      obtain ⟨h1,h2⟩:=xz h
      refine ⟨rc,fT,fF,h2,fun _ h=>h,fun _ h=>h,fun h=>h,fun _=>rfl,fun Ff _ _=>⟨?_,So _ h1⟩⟩
      rw [← RO hc]; exact hrc
    · cases h
  | true =>
    rw [hc,cond_true] at h
    cases hd:lx N o.dst with
    | false=>rw [hd] at h; cases h
    | true =>
      rw [hd,cond_true] at h
      split at h
      · next ch hch =>
        cases hg:(ch.all fun x=>fH σ.tm ch x.1) with
        | false=>rw [hg] at h; cases h
        | true =>
          rw [hg,cond_true] at h
          have h:=uN h
          split at h
          · next vs hvs =>
            split at h
            · next f args hca =>
              have rec_:∀ (C:FuncId→Option CC) (r:aA),nP C σ.hp nid f args = some r→(ch.isEmpty||(r.eff.isEmpty&&r.kill.isEmpty&&gm o.dst ch)) = true→recOf Tb.P C N all σ nid o = some (KU o σ ch nid vs r):=by
                intro C r hr hx
                unfold recOf
                rw [hd,cond_true,hch]
                simp only [hg,cond_true]
                rw [OD hc hvs ((SY hca).trans hr)]
                simp only [hx,cond_true]
                rfl
              cases hh:holds σ.tm ch with
              | true =>
                rw [hh,cond_true] at h
                cases hm:eL f fF with
                | true=>rw [hm] at h; cases h
                | false =>
                  rw [hm,cond_false] at h
                  obtain ⟨r,h,hpre,hcv⟩:=Gr h
                  cases hx:(ch.isEmpty||(r.eff.isEmpty&&r.kill.isEmpty&&gm o.dst ch)) with
                  | false=>rw [hx] at h; cases h
                  | true =>
                    rw [hx,cond_true] at h
                    refine ⟨_,f :: fT,fF,h,fun g hg=>List.mem_cons_of_mem _ hg,fun _ h=>h,fun hdj g hg=>?_,fun _=>rfl,fun Ff h1 h2=>⟨rec_ _ r ?_ hx, ?_⟩⟩
                    · rcases List.mem_cons.1 hg with rfl | hg
                      · intro hf
                        have:eL g fF = true:=List.any_eq_true.2 ⟨g,hf,by simp⟩
                        rw [hm] at this; cases this
                      · exact hdj g hg
                    · have hnf:eL f Ff = false:=by
                        cases hb:eL f Ff with
                        | false=>rfl
                        | true=>exact absurd (jZ hb) (h2 f (by simp))
                      exact hcv _ (by unfold oN; rw [hnf,cond_false])
                    · intro p hp
                      have hp':p∈kp σ.tm ch r.pre:=hp
                      unfold kp at hp'
                      split at hp'
                      · exact hpre p hp'
                      · obtain ⟨q,hq,rfl⟩:=List.mem_map.1 hp'
                        exact fun _=>hpre q hq
              | false =>
                rw [hh,cond_false] at h
                cases hm:eL f fT with
                | true =>
                  rw [hm,cond_true] at h
                  obtain ⟨r,h,hpre,hcv⟩:=Gr h
                  cases hx:(r.eff.isEmpty&&r.kill.isEmpty&&gm o.dst ch) with
                  | false=>rw [hx] at h; cases h
                  | true =>
                    rw [hx,cond_true] at h
                    refine ⟨_,fT,fF,h,fun _ h=>h,fun _ h=>h,fun hdj=>hdj,fun _=>rfl,fun Ff h1 h2=>⟨rec_ _ r ?_ (by rw [hx,Bool.or_true]), ?_⟩⟩
                    · have hnf:eL f Ff = false:=by
                        cases hb:eL f Ff with
                        | false=>rfl
                        | true=>exact absurd (jZ hb) (h2 f (jZ hm))
                      exact hcv _ (by unfold oN; rw [hnf,cond_false])
                    · intro p hp
                      have hp':p∈kp σ.tm ch r.pre:=hp
                      unfold kp at hp'
                      split at hp'
                      · exact hpre p hp'
                      · obtain ⟨q,hq,rfl⟩:=List.mem_map.1 hp'
                        exact fun _=>hpre q hq
                | false =>
                  rw [hm,cond_false] at h
                  cases hn:gm o.dst ch with
                  | false=>rw [hn] at h; cases h
                  | true =>
                    rw [hn,cond_true] at h
                    refine ⟨_,fT,f :: fF,h,fun _ h=>h,fun g hg=>List.mem_cons_of_mem _ hg,fun hdj g hg hf=>?_,fun hno=>?_,fun Ff h1 h2=>⟨rec_ _ _ ?_ ?_, ?_⟩⟩
                    · rcases List.mem_cons.1 hf with rfl | hf
                      · have:eL g fT = true:=List.any_eq_true.2 ⟨g,hg,by simp⟩
                        rw [hm] at this; cases this
                      · exact hdj g hg hf
                    · rw [hno] at hch; cases hch; cases hh
                    · have hnf:eL f Ff = true:=List.any_eq_true.2 ⟨f,h1 f (by simp),by simp⟩
                      unfold nP iD oN
                      simp only [hnf,cond_true,V.scalar,Bool.or_true]
                    · simp [hn]
                    · intro p hp
                      have hp':p∈kp σ.tm ch [false = true]:=hp
                      unfold kp at hp'
                      split at hp'
                      · simp [holds] at hh
                      · simp only [List.map_cons,List.map_nil,List.mem_singleton] at hp'; subst hp'; intro h0; rw [hh] at h0; cases h0
            · cases h
          · cases h
      · cases h
end
end Go.Ax
