import Derived.Test.YtnnblpijaoocaaaGreatZB6g
set_option linter.all false
/- An evaluation of code that can be run: functions as plain functions with an option. -/
namespace Go.Ax
open Go.RowKit
def RS:Nat:=2000000
inductive cm where
  | data (c:Cd)
  | new (c:Cd)
  | own (fr:Bool) (e:TypeId) (t:Ty)
  | gen (T:Tm)
  | gen2 (T T':Tm)
def cm.tys:cm→List Ty
  | .gen T=>T.tys
  | .gen2 T T'=>.b :: (T.tys++T'.tys)
  | .data c=>c.tys
  | .new c=>c.tys
  | .own _ _ t=>[.ls t]
def cm.isGen:cm→Bool
  | .gen _=>true
  | .gen2 _ _=>true
  | _=>false
def cm.out:(o:cm)→HP o.tys→iw
  | .gen _,_=>.data (.c .unk)
  | .gen2 _ _,_=>.data (.c .unk)
  | .data c,x=>.data (filC c (fq c.tys x)).1
  | .new c,x=>.new (filC c (fq c.tys x)).1
  | .own fr e t,x=>.own fr e t x
def cm.rd:(o:cm)→ae→V→Option (HP o.tys)
  | .gen _,_,_=>none
  | .gen2 _ _,_,_=>none
  | .data c,H,v=>match colC c (v.view H) with | some us=>jC c.tys us | none=>none
  | .new c,H,v=>bif newV H v then (match colC c (v.view H) with | some us=>jC c.tys us | none=>none) else none
  | .own fr e t,H,v=>match v with
    | .c .nil=>some ([]:List t.T)
    | .row o k=>(match ae.get H o with
      | some (.row e' t' l)=>bif Nat.beq t'.k k&&Nat.beq e e'&&(!fr||t.sc) then kH t' t l else none
      | _=>none)
    | _=>none
theorem cm.rd_ok {o:cm} {H:ae} {v:V} {x:HP o.tys} (h:o.rd H v = some x):oY (o.out x) H v:=by
  have key:∀ (c:Cd) (x:HP c.tys),(match colC c (v.view H) with | some us=>jC c.tys us | none=>none) = some x→VLe (v.view H) (filC c (fq c.tys x)).1:=by
    intro c x h
    split at h
    · next us hu =>
      have hr:=po _ _ _ h
      exact (colC_le c _ us [] _ hu (by rw [List.append_nil]; exact hr)).1
    · cases h
  cases o with
  | gen T=>cases h
  | gen2 T T'=>cases h
  | data c=>exact key c x h
  | new c =>
    simp only [cm.rd] at h
    cases hn:newV H v with
    | false=>rw [hn] at h; cases h
    | true=>rw [hn] at h; exact ⟨key c x h,hn⟩
  | own fr e t =>
    simp only [cm.rd] at h
    split at h
    · cases h; exact .inl ⟨rfl,rfl⟩
    · next o k =>
      split at h
      · next e' t' l hg =>
        cases hc:(Nat.beq t'.k k&&Nat.beq e e'&&(!fr||t.sc)) with
        | false=>rw [hc] at h; cases h
        | true =>
          rw [hc] at h
          have h:kH t' t l = some x:=h
          simp only [Bool.and_eq_true,Nat.beq_eq,Bool.or_eq_true,Bool.not_eq_true'] at hc
          obtain ⟨he,hx⟩:=jX h
          subst he
          obtain ⟨⟨rfl,rfl⟩,h3⟩:=hc
          refine .inr ⟨o,rfl, ?_,fun hf=>?_⟩
          · rw [hg]; have:x = l:=hx; rw [this]
          · rcases h3 with h3 | h3
            · rw [hf] at h3; cases h3
            · exact h3
      · cases h
    · cases h
structure FI where
  fid:FuncId
  fn:Func
  c:Code
  ins:Tm
  out:cm
  cuts:List (Nat × Tm):=[]
abbrev XT:=(fi:FI)→HP fi.ins.tys→Option (HP fi.out.tys)
abbrev JT:=(fi:FI)→(π:Nat)→(T:Tm)→HP T.tys→Option (HP fi.out.tys)
def v6 (fi:FI) (vs:List V):Option (HP fi.ins.tys) :=
  bif !fi.out.isGen&&(Nat.beq vs.length fi.ins.sl.length&&fi.ins.ob.isEmpty) then rd fi.ins { tm:=iR vs 0,hp:=[],nx:=0 } else none
def fG {R:Type} (X:XT) (vs:List V) (k:iw→Option R):List FI→Option R
  | []=>none
  | fi :: r=>match v6 fi vs with
    | some a=>(X fi a).bind fun y=>k (fi.out.out y)
    | none=>fG X vs k r
def cB {α:Type}:List (Nat × α)→Nat→Option α
  | [],_=>none
  | (g,x) :: r,f=>bif Nat.beq g f then some x else cB r f
def zg (T:Tm) (xs:List TV):St:=let p:=lT T.sl xs; { tm:=p.1,hp:=ji 0 T.ob p.2,nx:=T.ob.length }
def kN (H:ae):List Nat:=An [] (H.map (·.1))
def rR:List Nat→Nat
  | []=>0
  | o :: r=>Nat.max (o+1) (rR r)
def Mu (os:List Nat) (H:ae):Bool:=os.all fun o=>match ae.get H o with | some b=>FC os b | none=>true
def Ni (N:Nat) (H:ae) (args:List V):St:={ tm:=iR args 0++iR args 1000000,hp:=mT (kN H) H,nx:=rR (kN H) }
def rdG (fi:FI) (H:ae) (args:List V):Option (HP fi.ins.tys) :=
  bif Nat.ble args.length fi.fn.ntmps&&(V.refss args).all (fun o=>dm o (kN H))&&Mu (kN H) H then Aa fi.ins (Ni fi.fn.ntmps H args) else none
def iN (args:List V):List (Nat × Cd)→nU
  | []=>[]
  | (t, .k (.ptr q k i j)) :: r=>bif Nat.ble 1000000 t then (match args[t - 1000000]? with | some (.ptr o _ _ _)=>(q,o,true) :: iN args r | _=>iN args r) else iN args r
  | (t, .k (.row q k)) :: r=>bif Nat.ble 1000000 t then (match args[t - 1000000]? with | some (.row o _)=>(q,o,false) :: iN args r | _=>iN args r) else iN args r
  | _ :: r=>iN args r
def so:Option Od→Bool
  | some (.box _)=>true
  | some (.map ..)=>true
  | _=>false
def BX:Option Ob→Bool
  | some (.row ..)=>false
  | none=>false
  | _=>true
def Gf (T:Tm) (H:ae) (bk:nU):Bool:=Nat.ble T.ob.length 8&&(fM (T.sl.map (·.1))&&(AN bk&&bk.all fun x=>dm x.2.1 (kN H)&&(Nat.blt x.1 T.ob.length&&(!x.2.2||(so T.ob[x.1]?&&BX (ae.get H x.2.1))))))
def g9 {R:Type} (T:Tm) (xs:List TV) (H:ae) (nid:Nat) (args:List V) (k:ax→Option R):Option R :=
  match ar (zg T xs).tm RS with
  | some ⟨_, .tup [v]⟩=>bif Gf T H (iN args T.sl) then k (Hk nid (kN H) (iN args T.sl) (zg T xs).hp v) else none
  | _=>none
def iL {R:Type} (o:cm) (y:HP o.tys) (H:ae) (nid:Nat) (args:List V) (k:ax→Option R):Option R :=
  match o,y with
  | .gen T,y=>g9 T (fq T.tys y) H nid args k
  | .gen2 T T',y=>(match fq (.b :: (T.tys++T'.tys)) y with
    | ⟨.b,t⟩ :: xs=>bif t then g9 T xs H nid args k else g9 T' (xs.drop T.tys.length) H nid args k
    | _=>none)
  | _,_=>none
def ic {R:Type} (X:XT) (H:ae) (nid:Nat) (args:List V) (k:ax→Option R):List FI→Option R
  | []=>none
  | fi :: r=>match rdG fi H args with
    | some a=>(X fi a).bind fun y=>iL fi.out y H nid args k
    | none=>ic X H nid args k r
def Ia (T:Tm) (σ:St):Option (List V) :=
  let τ:=ta T σ
  let ts:=T.sl.map (·.1)
  bif mt ts τ then
    let τ':=canonN ts τ
    bif Nat.ble τ'.nx T.ob.length then (match tw τ'.tm T.sl,vB τ'.hp 0 T.ob with
      | some a,some b=>(match jC T.tys (a++b) with | some _=>some (a++b) | none=>none)
      | _,_=>none) else none
  else none
def IB (ts:List Ty):List V:=ts.map fun t=>encV t t.z
def cm.rdG:(o:cm)→St→V→Option (HP o.tys)
  | .gen T,σ,v=>Aa T { σ with tm:=(RS,⟨[], .tup [v]⟩) :: σ.tm }
  | .gen2 T T',σ,v=>match Ia T { σ with tm:=(RS,⟨[], .tup [v]⟩) :: σ.tm } with
    | some us=>jC (.b :: (T.tys++T'.tys)) (bl true :: (us++IB T'.tys))
    | none=>(match Ia T' { σ with tm:=(RS,⟨[], .tup [v]⟩) :: σ.tm } with
      | some us=>jC (.b :: (T.tys++T'.tys)) (bl false :: (IB T.tys++us))
      | none=>none)
  | _,_,_=>none
theorem GA {H:ae}:∀ (cs:List Od) (i:Nat) (us us2:List V) (xs:List TV),vB H i cs = some us→RV (us++us2) xs→pC H (ji i cs xs)
  | [],i,us,us2,xs,h,hr=>by rw [ji]; trivial
  | c :: cs,i,us,us2,xs,h,hr=>by
    rw [vB] at h
    split at h
    · next b hg =>
      split at h
      · next a b' ha hb =>
        cases h
        rw [List.append_assoc] at hr
        obtain ⟨h1,h2⟩:=H9 c b a (b'++us2) xs ha hr
        show pC H ((i,some _) :: _)
        rw [pC,hg]
        exact ⟨h1,GA cs (i+1) b' us2 _ hb h2⟩
      · cases h
    · cases h
theorem Iu {T:Tm} {σ:St} {us us2:List V} {xs:List TV} (h:Ia T σ = some us) (hr:RV (us++us2) xs):cR σ (zg T xs):=by
  unfold Ia at h
  simp only at h
  cases hc:mt (T.sl.map (·.1)) (ta T σ) with
  | false=>rw [hc] at h; cases h
  | true =>
    rw [hc,cond_true] at h
    cases hb:Nat.ble (canonN (T.sl.map (·.1)) (ta T σ)).nx T.ob.length with
    | false=>rw [hb] at h; cases h
    | true =>
      rw [hb,cond_true] at h
      split at h
      · next a b ha hb' =>
        split at h
        · cases h
          rw [List.append_assoc] at hr
          obtain ⟨h1,h2⟩:=CR T.sl a (b++us2) xs ha hr
          exact ((Di T σ).trans (cR.canonN _ hc)).trans (.le ⟨h1,GA T.ob 0 b us2 _ hb' h2,Nat.ble_eq.mp hb⟩)
        · cases h
      · cases h
theorem Iq:∀ {us us2:List V} {xs:List TV},RV (us++us2) xs→RV us2 (xs.drop us.length)
  | [],us2,xs,h=>h
  | u :: us,us2,x :: xs,h=>Iq (us:=us) h.2
  | u :: us,us2,[],h=>h.elim
theorem Nj {b:Bool} {x:TV} (h:VLe (bl b) x.v):x = ⟨.b,b⟩:=by
  obtain ⟨t,x⟩:=x
  match t,x,h with
  | .b,x,h1 =>
    change VLe (.c (.lit (.bool b))) (.c (.lit (.bool x))) at h1
    rw [VLe] at h1
    cases h1
    rfl
  | .st k,x,h1=>change VLe (.c (.lit (.bool b))) (.agg _) at h1; simp [VLe] at h1
  | .arr n t,x,h1=>change VLe (.c (.lit (.bool b))) (.agg _) at h1; simp [VLe] at h1
  | .i k,x,h1=>change VLe (.c (.lit (.bool b))) (.c (.lit (.int k x))) at h1; rw [VLe] at h1; cases h1
  | .ls t,x,h1=>change VLe (.c (.lit (.bool b))) (.c (.sl t x)) at h1; rw [VLe] at h1; cases h1
  | .s,x,h1=>change VLe (.c (.lit (.bool b))) (.c (.lit (.string x))) at h1; rw [VLe] at h1; cases h1
theorem LL {R:Type} (T:Tm) (y:HP T.tys) (H:ae) (nid:Nat) (args:List V) (k:ax→Option R):iL (.gen T) y H nid args k = g9 T (fq T.tys y) H nid args k:=rfl
theorem MF (T:Tm) (σ:St) (v:V):cm.rdG (.gen T) σ v = Aa T { σ with tm:=(RS,⟨[], .tup [v]⟩) :: σ.tm }:=rfl
theorem Lr {T:Tm} {σ:St} {x:HP T.tys} (h:Aa T σ = some x):cR σ (zg T (fq T.tys x)):=rW h
theorem F3 {R:Type} (T T':Tm) (y:HP (.b :: (T.tys++T'.tys))) {t:Bool} {xs:List TV} (hx:fq (.b :: (T.tys++T'.tys)) y = (⟨.b,t⟩:TV) :: xs) (H:ae) (nid:Nat) (args:List V) (k:ax→Option R) :
    iL (.gen2 T T') y H nid args k = bif t then g9 T xs H nid args k else g9 T' (xs.drop T.tys.length) H nid args k:=by
  show (match fq (.b :: (T.tys++T'.tys)) y with | ⟨.b,t⟩ :: xs=>bif t then g9 T xs H nid args k else g9 T' (xs.drop T.tys.length) H nid args k | _=>none) = _
  rw [hx]
theorem Mi (T T':Tm) (σ:St) (v:V):cm.rdG (.gen2 T T') σ v = match Ia T { σ with tm:=(RS,⟨[], .tup [v]⟩) :: σ.tm } with
    | some us=>jC (.b :: (T.tys++T'.tys)) (bl true :: (us++IB T'.tys))
    | none=>(match Ia T' { σ with tm:=(RS,⟨[], .tup [v]⟩) :: σ.tm } with
      | some us=>jC (.b :: (T.tys++T'.tys)) (bl false :: (IB T.tys++us))
      | none=>none):=rfl
theorem MW {T T':Tm} {σ:St} {v:V} {y:HP (cm.gen2 T T').tys} (h:(cm.gen2 T T').rdG σ v = some y):∃ (T0:Tm) (xs:List TV),cR { σ with tm:=(RS,⟨[], .tup [v]⟩) :: σ.tm } (zg T0 xs) ∧
    ∀ {R:Type} (H:ae) (nid:Nat) (args:List V) (k:ax→Option R),iL (.gen2 T T') y H nid args k = g9 T0 xs H nid args k:=by
  rw [Mi] at h
  have key:∀ (b:Bool) (us:List V),jC (.b :: (T.tys++T'.tys)) (bl b :: us) = some y→∃ xs,fq (.b :: (T.tys++T'.tys)) y = (⟨.b,b⟩:TV) :: xs∧RV us xs:=by
    intro b us hh
    have hr:=po _ _ _ hh
    revert hr
    generalize fq (.b :: (T.tys++T'.tys)) y = l
    intro hr
    match l,hr with
    | [],hr=>exact hr.elim
    | x :: xs,hr=>exact ⟨xs,by rw [Nj hr.1],hr.2⟩
  split at h
  · next us hu =>
    obtain ⟨xs,hx,hr⟩:=key _ _ h
    exact ⟨T,xs,Iu hu hr,fun H nid args k=>by rw [F3 T T' y hx,cond_true]⟩
  · split at h
    · next us hu =>
      obtain ⟨xs,hx,hr⟩:=key _ _ h
      have h2:=Iq hr
      have e:(IB T.tys).length = T.tys.length:=by simp [IB]
      rw [e] at h2
      exact ⟨T',xs.drop T.tys.length,Iu (us2:=[]) hu (by rw [List.append_nil]; exact h2),fun H nid args k=>by rw [F3 T T' y hx,cond_false]⟩
    · cases h
theorem NC {o:cm} {σ:St} {v:V} {y:HP o.tys} (h:o.rdG σ v = some y):∃ (T:Tm) (xs:List TV),cR { σ with tm:=(RS,⟨[], .tup [v]⟩) :: σ.tm } (zg T xs) ∧
    ∀ {R:Type} (H:ae) (nid:Nat) (args:List V) (k:ax→Option R),iL o y H nid args k = g9 T xs H nid args k:=by
  cases o with
  | gen T =>
    rw [MF] at h
    exact ⟨T,fq T.tys y,Lr h,fun H nid args k=>LL T y H nid args k⟩
  | gen2 T T'=>exact @MW T T' σ v y h
  | data c =>
    have h:(none:Option (HP (cm.data c).tys)) = some y:=h
    cases h
  | new c =>
    have h:(none:Option (HP (cm.new c).tys)) = some y:=h
    cases h
  | own fr e t =>
    have h:(none:Option (HP (cm.own fr e t).tys)) = some y:=h
    cases h
inductive Sp where
  | none
  | hand (fi:FI) (h:XT→HP fi.ins.tys→Option (HP fi.out.tys))
  | mut (m:XT→ae→Nat→List V→Option ax)
structure iy where
  P:Program
  fs:List (FuncId × List FI)
  sp:FuncId→Sp
def Ch:List FI→Bool
  | fi :: _=>fi.out.isGen
  | []=>false
def kA {R:Type} (fi:FI) (h:HP fi.ins.tys→Option (HP fi.out.tys)) (H:ae) (nid:Nat) (args:List V) (k:ax→Option R):Option R:=match rdG fi H args with
  | some a=>(h a).bind fun y=>iL fi.out y H nid args k
  | none=>none
def kC {R:Type} (fi:FI) (h:HP fi.ins.tys→Option (HP fi.out.tys)) (vs:List V) (k:iw→Option R):Option R:=match v6 fi vs with
  | some a=>(h a).bind fun y=>k (fi.out.out y)
  | none=>none
def eA (Tb:iy) (X:XT) (f:FuncId):CC:=match cB Tb.fs f with
  | some l=>bif Ch l then .mut fun H nid args=>ic X H nid args some l else .pure fun vs=>(fG X vs some l).map fun o=>(true,o)
  | none=>match Tb.sp f with
    | .hand fi h=>bif fi.out.isGen then .mut fun H nid args=>kA fi (h X) H nid args some else .pure fun vs=>(kC fi (h X) vs some).map fun o=>(true,o)
    | .mut m=>.mut (m X)
    | .none=>.pure fun _=>none
def lQ (C:FuncId→CC) (fs:List FuncId):FuncId→Option CC:=fun f=>bif dm f fs then some (.pure fun _=>some (false, .data (.c .unk))) else some (C f)
theorem Ag {R:Type} (X:XT) (vs:List V) (k:iw→Option R):∀ l:List FI,fG X vs k l = (fG X vs some l).bind k
  | []=>rfl
  | fi :: r=>by
    unfold fG
    split
    · next a ha=>cases X fi a <;> rfl
    · exact Ag X vs k r
theorem DG {R:Type} (T:Tm) (xs:List TV) (H:ae) (nid:Nat) (args:List V) (k:ax→Option R):g9 T xs H nid args k = (g9 T xs H nid args some).bind k:=by
  unfold g9
  split
  · cases Gf T H (iN args T.sl) <;> rfl
  · rfl
theorem Dm {R:Type} (o:cm) (y:HP o.tys) (H:ae) (nid:Nat) (args:List V) (k:ax→Option R):iL o y H nid args k = (iL o y H nid args some).bind k:=by
  unfold iL
  split
  · exact DG ..
  · split
    · next t xs _=>cases t <;> exact DG ..
    · rfl
  · rfl
theorem AT {R:Type} (X:XT) (H:ae) (nid:Nat) (args:List V) (k:ax→Option R):∀ l:List FI,ic X H nid args k l = (ic X H nid args some l).bind k
  | []=>rfl
  | fi :: r=>by
    unfold ic
    split
    · next a ha =>
      cases X fi a with
      | none=>rfl
      | some y=>rw [Option.bind_some,Option.bind_some]; exact Dm ..
    · exact AT X H nid args k r
def gb {α:Type} (b:Bool) (o:Option α):Option α:=bif b then o else none
def gL {α:Type}:List Bool→Option α→Option α
  | [],o=>o
  | b :: r,o=>gb b (gL r o)
theorem rM {α:Type} {o:Option α} {y:α}:∀ {l:List Bool},gL l o = some y→(∀ b∈l,b = true)∧o = some y
  | [],h=>⟨fun b hb=>by simp at hb,h⟩
  | b :: l,h=>by
    unfold gL gb at h
    cases b with
    | false=>cases h
    | true =>
      obtain ⟨h1,h2⟩:=rM (l:=l) h
      exact ⟨fun c hc=>by rcases List.mem_cons.1 hc with rfl | hc; rfl; exact h1 c hc,h2⟩
def ea.bools:{ps:List Prop}→ea ps→List Bool
  | _, .nil=>[]
  | _, .cons (p:=p) d r=>@aa p d :: r.bools
def Fj (tm:List (Nat × av)) (ch:aE) (bs:List Bool):List Bool:=match ch with
  | []=>bs
  | ch=>bs.map fun b=>!(holds tm ch)||b
theorem qk:∀ {ps:List Prop} (d:ea ps),(∀ b∈d.bools,b = true)→∀ p∈ps,p
  | _, .nil,_,p,hp=>by simp at hp
  | _, .cons d r,h,p,hp=>by
    rcases List.mem_cons.1 hp with rfl | hp
    · exact of_decide_eq_true (h _ (by simp [ea.bools]))
    · exact qk r (fun b hb=>h b (by simp [ea.bools,hb])) p hp
theorem DO {c:Prop} {b:Bool} (hb:b = true↔c):∀ {ps:List Prop} (d:ea ps),(∀ x∈d.bools.map (fun y=>!b||y),x = true)→∀ p∈ps,c→p
  | _, .nil,_,p,hp=>by simp at hp
  | _, .cons d r,h,p,hp=>by
    intro hc
    rcases List.mem_cons.1 hp with rfl | hp
    · have:=h (!b||@decide _ d) (by simp [ea.bools])
      rw [hb.2 hc] at this
      exact of_decide_eq_true (by simpa using this)
    · exact DO hb r (fun x hx=>h x (by simp only [ea.bools,List.map_cons,List.mem_cons]; exact .inr hx)) p hp hc
theorem J7 {tm:List (Nat × av)} {ch:aE} {ps:List Prop} (d:ea ps) (h:∀ b∈Fj tm ch d.bools,b = true):∀ p∈im tm ch ps,p:=by
  unfold Fj im at *
  cases ch with
  | nil=>exact qk d h
  | cons x l =>
    intro p hp
    simp only [List.mem_map] at hp
    obtain ⟨q,hq,rfl⟩:=hp
    exact DO Iff.rfl d h q hq
def pY (nid:Nat) (args:List V):iw→Option ax
  | .data v=>bif (!eT args)||v.scalar then some { pre:=[true = true],val:=v } else none
  | .new v=>some { pre:=[true = true],val:=v }
  | .own fr e t l=>bif (!eT args)||fr then some { pre:=[true = true],val:=.row nid t.k,eff:=[(nid,some (.row e t l))] } else none
def oJ (H:ae) (nid:Nat) (args:List V) (out:iw):Option ax:=match pY nid args out with
  | some r=>some r
  | none=>bif V.noPs args then iA (fun _ vs=>pY nid vs out) (V.refss args) H args else none
theorem K5 {o:Nat} {e:TypeId} {t:Ty} (H:ae) {q:Nat} (h:q≠o):ae.get ((o,some (.row e t [])) :: dt [o] H) q = kx o (ae.get H q):=by
  rw [ae.get_cons,if_neg (Ne.symm h),dj]
mutual
theorem view_fz {o:Nat} {e:TypeId} {t:Ty} {l:List t.T} {H:ae} (hg:H.get o = some (.row e t l)):∀ v:V,v.noP = true→(V.fz o t l v).view ((o,some (.row e t [])) :: dt [o] H) = v.view H
  | .c d,_=>rfl
  | .agg vs,hn=>by rw [V.fz,V.view,V.view,views_fz hg vs (by simpa [V.noP] using hn)]
  | .tup vs,hn=>by rw [V.fz,V.view,V.view,views_fz hg vs (by simpa [V.noP] using hn)]
  | .ptr ..,hn=>by simp [V.noP] at hn
  | .row o' k,_=>by
    rw [V.fz]
    cases hb:Nat.beq o' o with
    | true =>
      have:=Nat.eq_of_beq_eq_true hb
      subst this
      rw [cond_true,V.view,pn,hg]
      simp only
      cases Nat.beq t.k k <;> rfl
    | false =>
      have hne:o'≠o:=fun h=>by subst h; simp at hb
      rw [cond_false,V.view,V.view,pn,pn,K5 H hne]
      cases ae.get H o' with
      | none=>rfl
      | some b=>cases b <;> rfl
  | .sub o' k off n,_=>by
    rw [V.fz]
    cases hb:Nat.beq o' o with
    | true =>
      have:=Nat.eq_of_beq_eq_true hb
      subst this
      rw [cond_true,V.view,p9,hg]
      simp only
      cases Nat.beq t.k k <;> rfl
    | false =>
      have hne:o'≠o:=fun h=>by subst h; simp at hb
      rw [cond_false,V.view,V.view,p9,p9,K5 H hne]
      cases ae.get H o' with
      | none=>rfl
      | some b=>cases b <;> rfl
  | .dptr ..,_=>rfl
  | .fn f vs,hn=>by rw [V.fz,V.view,V.view,views_fz hg vs (by simpa [V.noP] using hn)]
theorem views_fz {o:Nat} {e:TypeId} {t:Ty} {l:List t.T} {H:ae} (hg:H.get o = some (.row e t l)):∀ vs:List V,V.noPs vs = true→V.views ((o,some (.row e t [])) :: dt [o] H) (V.fzs o t l vs) = V.views H vs
  | [],_=>rfl
  | v :: r,hn=>by
    rw [V.noPs,Bool.and_eq_true] at hn
    rw [V.fzs,V.views,V.views,view_fz hg v hn.1,views_fz hg r hn.2]
end
mutual
theorem noP_fz (o:Nat) (t:Ty) (l:List t.T):∀ v:V,v.noP = true→(V.fz o t l v).noP = true
  | .c d,_=>rfl
  | .agg vs,hn=>by rw [V.fz,V.noP]; exact noPs_fz o t l vs (by simpa [V.noP] using hn)
  | .tup vs,hn=>by rw [V.fz,V.noP]; exact noPs_fz o t l vs (by simpa [V.noP] using hn)
  | .ptr ..,hn=>by simp [V.noP] at hn
  | .row o' k,_=>by
    rw [V.fz]
    cases Nat.beq o' o with
    | false=>rfl
    | true=>rw [cond_true]; cases Nat.beq t.k k <;> rfl
  | .sub o' k off n,_=>by
    rw [V.fz]
    cases Nat.beq o' o with
    | false=>rfl
    | true=>rw [cond_true]; cases Nat.beq t.k k <;> rfl
  | .dptr ..,_=>rfl
  | .fn f vs,hn=>by rw [V.fz,V.noP]; exact noPs_fz o t l vs (by simpa [V.noP] using hn)
theorem noPs_fz (o:Nat) (t:Ty) (l:List t.T):∀ vs:List V,V.noPs vs = true→V.noPs (V.fzs o t l vs) = true
  | [],_=>rfl
  | v :: r,hn=>by
    rw [V.noPs,Bool.and_eq_true] at hn
    rw [V.fzs,V.noPs,noP_fz o t l v hn.1,noPs_fz o t l r hn.2]; rfl
end
theorem xW {C:FuncId→Option CC} {H:ae} {nid:Nat} {f:FuncId} {args:List V} {con:IE} {out:iw} (hc:C f = some (.pure con)) (ho:con (V.views H args) = some (true,out)):fH C H nid f args = pY nid args out:=by
  unfold fH
  rw [hc]
  simp only [ho]
  cases out <;> rfl
theorem Fm {C:FuncId→Option CC} {nid:Nat} {f:FuncId} {con:IE} {out:iw} (hc:C f = some (.pure con)):∀ (fl:List Nat) (H:ae) (args:List V),V.noPs args = true→con (V.views H args) = some (true,out) →
    iA (oL C f nid) fl H args = iA (fun _ vs=>pY nid vs out) fl H args
  | [],H,args,hn,ho=>by
    rw [iA,iA]
    unfold oL
    rw [hn,cond_true,hc]
    simp only
    exact xW hc ho
  | q :: fl,H,args,hn,ho=>by
    rw [iA,iA]
    split
    · next e t l hg =>
      rw [Fm hc fl _ _ (noPs_fz q t l args hn) (by rw [views_fz hg args hn]; exact ho)]
    · rfl
theorem G3 {C:FuncId→Option CC} {H:ae} {nid:Nat} {f:FuncId} {args:List V} {con:IE} {out:iw} {r:ax} (hc:C f = some (.pure con)) (ho:con (V.views H args) = some (true,out)) (h:oJ H nid args out = some r):kJ C H nid f args = some r:=by
  unfold kJ
  rw [xW hc ho]
  unfold oJ at h
  split at h
  · next r' hr=>rw [hr]; exact h
  · next hr =>
    rw [hr]
    cases hn:V.noPs args with
    | false=>rw [hn] at h; cases h
    | true =>
      rw [hn,cond_true] at h
      simp only
      rw [Fm hc _ _ _ hn ho]
      exact h
theorem IN {f:ae→List V→Option ax} {P0:List Prop→Prop} (hf:∀ H vs r,f H vs = some r→P0 r.pre):∀ (fl:List Nat) (H:ae) (vs:List V) (r:ax),iA f fl H vs = some r→P0 r.pre
  | [],H,vs,r,h=>hf H vs r h
  | q :: fl,H,vs,r,h=>by
    rw [iA] at h
    split at h
    · next e t l hg =>
      cases hb:iA f fl ((q,some (.row e t [])) :: dt [q] H) (V.fzs q t l vs) with
      | none=>rw [hb] at h; cases h
      | some r0=>rw [hb] at h; cases h; exact IN hf fl _ _ r0 hb
    · cases h
theorem zM {nid:Nat} {args:List V} {out:iw} {r:ax} (hr:pY nid args out = some r):r.pre = [true = true]:=by
  cases out with
  | data v =>
    simp only [pY] at hr
    cases hq:((!eT args)||v.scalar) <;> rw [hq] at hr <;> cases hr
    rfl
  | new v=>cases hr; rfl
  | own fr e t l =>
    simp only [pY] at hr
    cases hq:((!eT args)||fr) <;> rw [hq] at hr <;> cases hr
    rfl
theorem Dw {H:ae} {nid:Nat} {args:List V} {out:iw} {r:ax} (h:oJ H nid args out = some r):r.pre = [true = true]:=by
  unfold oJ at h
  split at h
  · next r' hr=>cases h; exact zM hr
  · cases hn:V.noPs args with
    | false=>rw [hn] at h; cases h
    | true=>rw [hn,cond_true] at h; exact IN (P0:=fun ps=>ps = [true = true]) (fun _ _ _ h=>zM h) _ _ _ _ h
def JI {R:Type} (X:XT) (l:List FI) (H:ae) (nid:Nat) (args:List V) (k:ax→Option R):Option R :=
  bif Ch l then ic X (aR (aD H args) H) nid args k l
  else fG X (V.views H args) (fun out=>match oJ H nid args out with | some r=>k r | none=>none) l
def sW {R:Type} (Tb:iy) (X:XT) (f:FuncId) (H:ae) (nid:Nat) (args:List V) (k:ax→Option R):Option R :=
  match cB Tb.fs f with
  | some l=>JI X l H nid args k
  | none=>match Tb.sp f with
    | .hand fi h=>bif fi.out.isGen then kA fi (h X) (aR (aD H args) H) nid args k else kC fi (h X) (V.views H args) fun out=>match oJ H nid args out with | some r=>k r | none=>none
    | .mut m=>(m X (aR (aD H args) H) nid args).bind fun r=>gL r.dec.bools (k r)
    | .none=>none
theorem uX {C:FuncId→Option CC} {H:ae} {nid:Nat} {f:FuncId} {args:List V} {m:ae→Nat→List V→Option ax} {r:ax} (hc:C f = some (.mut m)) (hm:m (aR (aD H args) H) nid args = some r):kJ C H nid f args = some r:=by
  have h0:fH C H nid f args = some r:=by
    unfold fH
    rw [hc]
    exact hm
  unfold kJ
  rw [h0]
theorem ul {T:Tm} {xs:List TV} {H:ae} {nid:Nat} {args:List V} {r:ax} (h:g9 T xs H nid args some = some r):r.pre = [true = true]:=by
  unfold g9 at h
  split at h
  · cases hb:Gf T H (iN args T.sl) with
    | false=>rw [hb] at h; cases h
    | true=>rw [hb] at h; cases h; rfl
  · cases h
theorem DW {X:XT} {H:ae} {nid:Nat} {args:List V} {r:ax}:∀ {l:List FI},ic X H nid args some l = some r→r.pre = [true = true]
  | [],h=>by cases h
  | fi :: l,h=>by
    unfold ic at h
    split at h
    · rw [Option.bind_eq_some_iff] at h
      obtain ⟨y,_,h⟩:=h
      unfold iL at h
      split at h
      · exact ul h
      · split at h
        · next t xs _=>cases t <;> exact ul h
        · cases h
      · cases h
    · exact DW h
theorem JG {R:Type} (fi:FI) (h:HP fi.ins.tys→Option (HP fi.out.tys)) (H:ae) (nid:Nat) (args:List V) (k:ax→Option R):kA fi h H nid args k = (kA fi h H nid args some).bind k:=by
  unfold kA
  split
  · next a _ =>
    cases h a with
    | none=>rfl
    | some y=>rw [Option.bind_some,Option.bind_some]; exact Dm ..
  · rfl
theorem IS {R:Type} (fi:FI) (h:HP fi.ins.tys→Option (HP fi.out.tys)) (vs:List V) (k:iw→Option R):kC fi h vs k = (kC fi h vs some).bind k:=by
  unfold kC
  split
  · next a _=>cases h a <;> rfl
  · rfl
theorem Ls {o:cm} {y:HP o.tys} {H:ae} {nid:Nat} {args:List V} {r:ax} (h:iL o y H nid args some = some r):r.pre = [true = true]:=by
  unfold iL at h
  split at h
  · exact ul h
  · split at h
    · next t xs _=>cases t <;> exact ul h
    · cases h
  · cases h
theorem Kj {fi:FI} {h:HP fi.ins.tys→Option (HP fi.out.tys)} {H:ae} {nid:Nat} {args:List V} {r:ax} (hh:kA fi h H nid args some = some r):r.pre = [true = true]:=by
  unfold kA at hh
  split at hh
  · rw [Option.bind_eq_some_iff] at hh
    obtain ⟨y,_,hh⟩:=hh
    exact Ls hh
  · cases hh
theorem A8 {R:Type} {Tb:iy} {X:XT} {f:FuncId} {H:ae} {nid:Nat} {args:List V} {k:ax→Option R} {y:R} (h:sW Tb X f H nid args k = some y) :
    ∃ r,k r = some y∧(∀ p∈r.pre,p)∧∀ C:FuncId→Option CC,C f = some (eA Tb X f)→kJ C H nid f args = some r:=by
  have one:∀ {ps:List Prop},ps = [true = true]→∀ p∈ps,p:=fun e p hp=>by subst e; rw [List.mem_singleton] at hp; subst hp; rfl
  unfold sW at h
  split at h
  · next l hl =>
    unfold JI at h
    cases hg:Ch l with
    | true =>
      rw [hg,cond_true,AT,Option.bind_eq_some_iff] at h
      obtain ⟨r,h1,h2⟩:=h
      refine ⟨r,h2,one (DW h1),fun C hC=>uX (m:=fun H nid args=>ic X H nid args some l) (by rw [hC]; unfold eA; rw [hl]; simp only [hg,cond_true]) h1⟩
    | false =>
      rw [hg,cond_false,Ag,Option.bind_eq_some_iff] at h
      obtain ⟨out,h1,h2⟩:=h
      split at h2
      · next r hr=>exact ⟨r,h2,one (Dw hr),fun C hC=>G3 (con:=fun vs=>(fG X vs some l).map fun o=>(true,o)) (by rw [hC]; unfold eA; rw [hl]; simp only [hg,cond_false]) (by simp only [h1,Option.map_some]) hr⟩
      · cases h2
  · next hl =>
    split at h
    · next fi hd hc =>
      cases hg:fi.out.isGen with
      | true =>
        rw [hg,cond_true,JG,Option.bind_eq_some_iff] at h
        obtain ⟨r,h1,h2⟩:=h
        exact ⟨r,h2,one (Kj h1),fun C hC=>uX (m:=fun H nid args=>kA fi (hd X) H nid args some) (by rw [hC]; unfold eA; rw [hl]; simp only [hc,hg,cond_true]) h1⟩
      | false =>
        rw [hg,cond_false,IS,Option.bind_eq_some_iff] at h
        obtain ⟨out,h1,h2⟩:=h
        split at h2
        · next r hr=>exact ⟨r,h2,one (Dw hr),fun C hC=>G3 (con:=fun vs=>(kC fi (hd X) vs some).map fun o=>(true,o)) (by rw [hC]; unfold eA; rw [hl]; simp only [hc,hg,cond_false]) (by simp only [h1,Option.map_some]) hr⟩
        · cases h2
    · next m hm =>
      rw [Option.bind_eq_some_iff] at h
      obtain ⟨r,h1,h2⟩:=h
      obtain ⟨h3,h4⟩:=rM h2
      exact ⟨r,h4,qk _ h3,fun C hC=>uX (m:=m X) (by rw [hC]; unfold eA; rw [hl]; simp only [hm]) h1⟩
    · cases h
def G1 (o:Oper) (vs:List V):Option (FuncId × List V):=match o.op,vs with
  | .call { callee:=.value _, .. }, .fn f caps :: vs=>bif Nat.blt f 1000000000 then some (f,vs++caps) else none
  | _,_=>none
def mF (o:Oper):Bool:=match o.op with
  | .call { callee:=.value _, .. }=>true
  | _=>false
def EK (o:Oper) (σ:St) (ch:aE) (nid:Nat) (vs:List V) (r:ax):bz:={ dst:=o.dst,rds:=jq (cO o.op)++ch.map (·.1),ch,nid,vs,reach:=aD σ.hp vs,rws:=mC σ.hp vs,res:=r }
def Gn:List (Nat × av)→Nat→av→List (Nat × av)
  | [],_,_=>[]
  | (t',s') :: r,t,s=>bif Nat.beq t' t then (t',s) :: r else (t',s') :: Gn r t s
theorem wo:∀ {tm:List (Nat × av)} {t:Nat} {s:av},ar tm t = some s→Gn tm t s = tm
  | [],t,s,h=>rfl
  | (t',s') :: r,t,s,h=>by
    unfold Gn
    unfold ar at h
    cases hb:Nat.beq t' t with
    | true=>rw [hb] at h; cases h; rfl
    | false=>rw [hb,cond_false] at h; rw [cond_false,wo h]
def kU {R:Type}:aE→St→(St→Option R)→Option R
  | [],σ,k=>k σ
  | (t,_) :: r,σ,k=>match ar σ.tm t with
    | some ⟨c0, .c (.lit (.bool b))⟩=>bif b then kU r { σ with tm:=Gn σ.tm t ⟨c0,bl true⟩ } k else kU r { σ with tm:=Gn σ.tm t ⟨c0,bl false⟩ } k
    | _=>none
theorem o9 {R:Type} {y:R}:∀ {ch:aE} {σ:St} {k:St→Option R},kU ch σ k = some y→k σ = some y
  | [],σ,k,h=>h
  | (t,w) :: r,σ,k,h=>by
    unfold kU at h
    split at h
    · next c0 b hg =>
      cases b with
      | true =>
        rw [cond_true,wo hg] at h
        exact o9 h
      | false =>
        rw [cond_false,wo hg] at h
        exact o9 h
    · cases h
section
variable {R:Type} (Tb:iy) (X:XT) (N:Nat) (all:List Oper)
def Du (σ:St) (nid:Nat) (o:Oper) (fT fF:List FuncId) (k:St→bz→List FuncId→List FuncId→Option R):Option R :=
  bif mF o then
    (bif ja N o.dst then
      match dv all σ.tm o.guard with
      | some ch =>
        bif ch.all fun x=>eh σ.tm ch x.1 then
          kU ch σ fun σ=>match jh σ ch (cO o.op) with
            | some vs=>(match G1 o vs with
              | some (f,args) =>
                bif holds σ.tm ch then
                  (bif dm f fF then none else sW Tb X f σ.hp nid args fun r=>bif ch.isEmpty||(r.eff.isEmpty&&r.kill.isEmpty&&eJ o.dst ch) then k σ (EK o σ ch nid vs r) (f :: fT) fF else none)
                else (bif dm f fT then sW Tb X f σ.hp nid args fun r=>bif r.eff.isEmpty&&r.kill.isEmpty&&eJ o.dst ch then k σ (EK o σ ch nid vs r) fT fF else none
                  else bif eJ o.dst ch then k σ (EK o σ ch nid vs { pre:=[false = true],val:=.c .unk }) fT (f :: fF) else none)
              | none=>none)
            | none=>none
        else none
      | none=>none
    else none)
  else match recOf Tb.P (fun _=>none) N all σ nid o with
    | some rc=>gL (Fj σ.tm rc.ch rc.res.dec.bools) (k σ rc fT fF)
    | none=>none
end
theorem Ln {P:Program} {C:FuncId→Option CC} {H:ae} {nid:Nat} {o:Oper} {vs:List V} {f:FuncId} {args:List V} (h:G1 o vs = some (f,args)):rO P C H nid o vs = kJ C H nid f args:=by
  unfold G1 at h
  split at h
  · next g caps vs' ho =>
    cases hb:Nat.blt g 1000000000 with
    | false=>rw [hb] at h; cases h
    | true =>
      rw [hb] at h; cases h
      unfold rO
      rw [ho]
      simp only [hb,cond_true]
  · cases h
theorem Hr {P:Program} {C:FuncId→Option CC} {σ:St} {nid:Nat} {ch:aE} {o:Oper} (ho:mF o = true) {vs:List V} (hv:jh σ ch (cO o.op) = some vs) {r:ax} (hr:rO P C σ.hp nid o vs = some r):jl P C σ nid ch o = some (vs,r):=by
  unfold mF at ho
  split at ho
  · next f args ats hop =>
    unfold jl
    rw [hop] at hv ⊢
    simp only [hv]
    unfold wH
    rw [hr]
    rfl
  · cases ho
section
variable {R:Type} {Tb:iy} {X:XT} {N:Nat} {all:List Oper}
theorem MS {P:Program} {C:FuncId→Option CC} {H:ae} {nid:Nat} {o:Oper} {vs:List V} (ho:mF o = false):rO P (fun _=>none) H nid o vs = rO P C H nid o vs:=by
  unfold rO
  split <;> try rfl
  next hop=>unfold mF at ho; rw [hop] at ho; cases ho
theorem KD {P:Program} {C:FuncId→Option CC} {σ:St} {nid:Nat} {o:Oper} (ho:mF o = false):recOf P (fun _=>none) N all σ nid o = recOf P C N all σ nid o:=by
  have e:∀ ch,jl P (fun _=>none) σ nid ch o = jl P C σ nid ch o:=by
    intro ch
    unfold jl wH
    simp only [MS (C:=C) ho]
  unfold recOf
  simp only [e]
theorem zk {σ:St} {nid:Nat} {o:Oper} {fT fF:List FuncId} {k:St→bz→List FuncId→List FuncId→Option R} {y:R} (h:Du Tb X N all σ nid o fT fF k = some y) :
    ∃ rc fT' fF',k σ rc fT' fF' = some y∧(∀ f∈fT,f∈fT')∧(∀ f∈fF,f∈fF')∧((∀ f∈fT,f ∉ fF)→∀ f∈fT',f ∉ fF')∧(o.guard = none→fF' = fF) ∧
      ∀ Ff:List FuncId,(∀ f∈fF',f∈Ff)→(∀ f∈fT',f ∉ Ff)→recOf Tb.P (lQ (eA Tb X) Ff) N all σ nid o = some rc∧∀ p∈im σ.tm rc.ch rc.res.pre,p:=by
  unfold Du at h
  cases hc:mF o with
  | false =>
    rw [hc,cond_false] at h
    split at h
    · next rc hrc =>
      obtain ⟨h1,h2⟩:=rM h
      refine ⟨rc,fT,fF,h2,fun _ h=>h,fun _ h=>h,fun h=>h,fun _=>rfl,fun Ff _ _=>⟨?_,J7 _ h1⟩⟩
      rw [← KD hc]; exact hrc
    · cases h
  | true =>
    rw [hc,cond_true] at h
    cases hd:ja N o.dst with
    | false=>rw [hd] at h; cases h
    | true =>
      rw [hd,cond_true] at h
      split at h
      · next ch hch =>
        cases hg:(ch.all fun x=>eh σ.tm ch x.1) with
        | false=>rw [hg] at h; cases h
        | true =>
          rw [hg,cond_true] at h
          have h:=o9 h
          split at h
          · next vs hvs =>
            split at h
            · next f args hca =>
              have rec_:∀ (C:FuncId→Option CC) (r:ax),kJ C σ.hp nid f args = some r→(ch.isEmpty||(r.eff.isEmpty&&r.kill.isEmpty&&eJ o.dst ch)) = true→recOf Tb.P C N all σ nid o = some (EK o σ ch nid vs r):=by
                intro C r hr hx
                unfold recOf
                rw [hd,cond_true,hch]
                simp only [hg,cond_true]
                rw [Hr hc hvs ((Ln hca).trans hr)]
                simp only [hx,cond_true]
                rfl
              cases hh:holds σ.tm ch with
              | true =>
                rw [hh,cond_true] at h
                cases hm:dm f fF with
                | true=>rw [hm] at h; cases h
                | false =>
                  rw [hm,cond_false] at h
                  obtain ⟨r,h,hpre,hcv⟩:=A8 h
                  cases hx:(ch.isEmpty||(r.eff.isEmpty&&r.kill.isEmpty&&eJ o.dst ch)) with
                  | false=>rw [hx] at h; cases h
                  | true =>
                    rw [hx,cond_true] at h
                    refine ⟨_,f :: fT,fF,h,fun g hg=>List.mem_cons_of_mem _ hg,fun _ h=>h,fun hdj g hg=>?_,fun _=>rfl,fun Ff h1 h2=>⟨rec_ _ r ?_ hx, ?_⟩⟩
                    · rcases List.mem_cons.1 hg with rfl | hg
                      · intro hf
                        have:dm g fF = true:=List.any_eq_true.2 ⟨g,hf,by simp⟩
                        rw [hm] at this; cases this
                      · exact hdj g hg
                    · have hnf:dm f Ff = false:=by
                        cases hb:dm f Ff with
                        | false=>rfl
                        | true=>exact absurd (et hb) (h2 f (by simp))
                      exact hcv _ (by unfold lQ; rw [hnf,cond_false])
                    · intro p hp
                      have hp':p∈im σ.tm ch r.pre:=hp
                      unfold im at hp'
                      split at hp'
                      · exact hpre p hp'
                      · obtain ⟨q,hq,rfl⟩:=List.mem_map.1 hp'
                        exact fun _=>hpre q hq
              | false =>
                rw [hh,cond_false] at h
                cases hm:dm f fT with
                | true =>
                  rw [hm,cond_true] at h
                  obtain ⟨r,h,hpre,hcv⟩:=A8 h
                  cases hx:(r.eff.isEmpty&&r.kill.isEmpty&&eJ o.dst ch) with
                  | false=>rw [hx] at h; cases h
                  | true =>
                    rw [hx,cond_true] at h
                    refine ⟨_,fT,fF,h,fun _ h=>h,fun _ h=>h,fun hdj=>hdj,fun _=>rfl,fun Ff h1 h2=>⟨rec_ _ r ?_ (by rw [hx,Bool.or_true]), ?_⟩⟩
                    · have hnf:dm f Ff = false:=by
                        cases hb:dm f Ff with
                        | false=>rfl
                        | true=>exact absurd (et hb) (h2 f (et hm))
                      exact hcv _ (by unfold lQ; rw [hnf,cond_false])
                    · intro p hp
                      have hp':p∈im σ.tm ch r.pre:=hp
                      unfold im at hp'
                      split at hp'
                      · exact hpre p hp'
                      · obtain ⟨q,hq,rfl⟩:=List.mem_map.1 hp'
                        exact fun _=>hpre q hq
                | false =>
                  rw [hm,cond_false] at h
                  cases hn:eJ o.dst ch with
                  | false=>rw [hn] at h; cases h
                  | true =>
                    rw [hn,cond_true] at h
                    refine ⟨_,fT,f :: fF,h,fun _ h=>h,fun g hg=>List.mem_cons_of_mem _ hg,fun hdj g hg hf=>?_,fun hno=>?_,fun Ff h1 h2=>⟨rec_ _ _ ?_ ?_, ?_⟩⟩
                    · rcases List.mem_cons.1 hf with rfl | hf
                      · have:dm g fT = true:=List.any_eq_true.2 ⟨g,hg,by simp⟩
                        rw [hm] at this; cases this
                      · exact hdj g hg hf
                    · rw [hno] at hch; cases hch; cases hh
                    · have hnf:dm f Ff = true:=List.any_eq_true.2 ⟨f,h1 f (by simp),by simp⟩
                      unfold kJ fH lQ
                      simp only [hnf,cond_true,V.scalar,Bool.or_true]
                    · simp [hn]
                    · intro p hp
                      have hp':p∈im σ.tm ch [false = true]:=hp
                      unfold im at hp'
                      split at hp'
                      · simp [holds] at hh
                      · simp only [List.map_cons,List.map_nil,List.mem_singleton] at hp'; subst hp'; intro h0; rw [hh] at h0; cases h0
            · cases h
          · cases h
      · cases h
end
end Go.Ax
