import Derived.Test.YtokecajedkojlaaGreatZB6g
set_option linter.all false
/- An evaluation of code that can be run: functions as plain functions with an option. -/
namespace Go.Ax
open Go.RowKit
def RS:Nat:=2000000
inductive dc where
  | data (c:Cd)
  | new (c:Cd)
  | own (fr:Bool) (e:TypeId) (t:Ty)
  | gen (T:Tm)
  | gen2 (T T':Tm)
def dc.tys:dc→List Ty
  | .gen T=>T.tys
  | .gen2 T T'=>.b :: (T.tys++T'.tys)
  | .data c=>c.tys
  | .new c=>c.tys
  | .own _ _ t=>[.ls t]
def dc.isGen:dc→Bool
  | .gen _=>true
  | .gen2 _ _=>true
  | _=>false
def dc.out:(o:dc)→HP o.tys→kQ
  | .gen _,_=>.data (.c .unk)
  | .gen2 _ _,_=>.data (.c .unk)
  | .data c,x=>.data (filC c (iu c.tys x)).1
  | .new c,x=>.new (filC c (iu c.tys x)).1
  | .own fr e t,x=>.own fr e t x
def dc.rd:(o:dc)→ak→V→Option (HP o.tys)
  | .gen _,_,_=>none
  | .gen2 _ _,_,_=>none
  | .data c,H,v=>match colC c (v.view H) with | some us=>lP c.tys us | none=>none
  | .new c,H,v=>bif newV H v then (match colC c (v.view H) with | some us=>lP c.tys us | none=>none) else none
  | .own fr e t,H,v=>match v with
    | .c .nil=>some ([]:List t.T)
    | .row o k=>(match ak.get H o with
      | some (.row e' t' l)=>bif Nat.beq t'.k k&&Nat.beq e e'&&(!fr||t.sc) then nO t' t l else none
      | _=>none)
    | _=>none
theorem dc.rd_ok {o:dc} {H:ak} {v:V} {x:HP o.tys} (h:o.rd H v = some x):tw (o.out x) H v:=by
  have key:∀ (c:Cd) (x:HP c.tys),(match colC c (v.view H) with | some us=>lP c.tys us | none=>none) = some x→VLe (v.view H) (filC c (iu c.tys x)).1:=by
    intro c x h
    split at h
    · next us hu =>
      have hr:=uT _ _ _ h
      exact (colC_le c _ us [] _ hu (by rw [List.append_nil]; exact hr)).1
    · cases h
  cases o with
  | gen T=>cases h
  | gen2 T T'=>cases h
  | data c=>exact key c x h
  | new c =>
    simp only [dc.rd] at h
    cases hn:newV H v with
    | false=>rw [hn] at h; cases h
    | true=>rw [hn] at h; exact ⟨key c x h,hn⟩
  | own fr e t =>
    simp only [dc.rd] at h
    split at h
    · cases h; exact .inl ⟨rfl,rfl⟩
    · next o k =>
      split at h
      · next e' t' l hg =>
        cases hc:(Nat.beq t'.k k&&Nat.beq e e'&&(!fr||t.sc)) with
        | false=>rw [hc] at h; cases h
        | true =>
          rw [hc] at h
          have h:nO t' t l = some x:=h
          simp only [Bool.and_eq_true,Nat.beq_eq,Bool.or_eq_true,Bool.not_eq_true'] at hc
          obtain ⟨he,hx⟩:=mu h
          subst he
          obtain ⟨⟨rfl,rfl⟩,h3⟩:=hc
          refine .inr ⟨o,rfl, ?_,fun hf=>?_⟩
          · rw [hg]; have:x = l:=hx; rw [this]
          · rcases h3 with h3 | h3
            · rw [hf] at h3; cases h3
            · exact h3
      · cases h
    · cases h
structure FI where
  fid:FuncId
  fn:Func
  c:Code
  ins:Tm
  out:dc
  cuts:List (Nat × Tm):=[]
abbrev XT:=(fi:FI)→HP fi.ins.tys→Option (HP fi.out.tys)
abbrev JT:=(fi:FI)→(π:Nat)→(T:Tm)→HP T.tys→Option (HP fi.out.tys)
def BX (fi:FI) (vs:List V):Option (HP fi.ins.tys) :=
  bif !fi.out.isGen&&(Nat.beq vs.length fi.ins.sl.length&&fi.ins.ob.isEmpty) then rd fi.ins { tm:=lO vs 0,hp:=[],nx:=0 } else none
def iY {R:Type} (X:XT) (vs:List V) (k:kQ→Option R):List FI→Option R
  | []=>none
  | fi :: r=>match BX fi vs with
    | some a=>(X fi a).bind fun y=>k (fi.out.out y)
    | none=>iY X vs k r
def dB {α:Type}:List (Nat × α)→Nat→Option α
  | [],_=>none
  | (g,x) :: r,f=>bif Nat.beq g f then some x else dB r f
def Er (T:Tm) (xs:List TV):St:=let p:=pM T.sl xs; { tm:=p.1,hp:=mc 0 T.ob p.2,nx:=T.ob.length }
def oq (H:ak):List Nat:=FU [] (H.map (·.1))
def xy:List Nat→Nat
  | []=>0
  | o :: r=>Nat.max (o+1) (xy r)
def U4 (os:List Nat) (H:ak):Bool:=os.all fun o=>match ak.get H o with | some b=>Ny os b | none=>true
def Wq (N:Nat) (H:ak) (args:List V):St:={ tm:=lO args 0++lO args 1000000,hp:=q8 (oq H) H,nx:=xy (oq H) }
def rdG (fi:FI) (H:ak) (args:List V):Option (HP fi.ins.tys) :=
  bif Nat.ble args.length fi.fn.ntmps&&(V.refss args).all (fun o=>eT o (oq H))&&U4 (oq H) H then Gn fi.ins (Wq fi.fn.ntmps H args) else none
def li (args:List V):List (Nat × Cd)→sy
  | []=>[]
  | (t, .k (.ptr q k i j)) :: r=>bif Nat.ble 1000000 t then (match args[t - 1000000]? with | some (.ptr o _ _ _)=>(q,o,true) :: li args r | _=>li args r) else li args r
  | (t, .k (.row q k)) :: r=>bif Nat.ble 1000000 t then (match args[t - 1000000]? with | some (.row o _)=>(q,o,false) :: li args r | _=>li args r) else li args r
  | _ :: r=>li args r
def F9:Option Od→Bool
  | some (.box _)=>true
  | some (.map ..)=>true
  | _=>false
def Jo:Option Ob→Bool
  | some (.row ..)=>false
  | none=>false
  | _=>true
def L6 (T:Tm) (H:ak) (bk:sy):Bool:=Nat.ble T.ob.length 8&&(iL (T.sl.map (·.1))&&(FP bk&&bk.all fun x=>eT x.2.1 (oq H)&&(Nat.blt x.1 T.ob.length&&(!x.2.2||(F9 T.ob[x.1]?&&Jo (ak.get H x.2.1))))))
def kz {R:Type} (T:Tm) (xs:List TV) (H:ak) (nid:Nat) (args:List V) (k:aA→Option R):Option R :=
  match ar (Er T xs).tm RS with
  | some ⟨_, .tup [v]⟩=>bif L6 T H (li args T.sl) then k (NX nid (oq H) (li args T.sl) (Er T xs).hp v) else none
  | _=>none
def ld {R:Type} (o:dc) (y:HP o.tys) (H:ak) (nid:Nat) (args:List V) (k:aA→Option R):Option R :=
  match o,y with
  | .gen T,y=>kz T (iu T.tys y) H nid args k
  | .gen2 T T',y=>(match iu (.b :: (T.tys++T'.tys)) y with
    | ⟨.b,t⟩ :: xs=>bif t then kz T xs H nid args k else kz T' (xs.drop T.tys.length) H nid args k
    | _=>none)
  | _,_=>none
def ko {R:Type} (X:XT) (H:ak) (nid:Nat) (args:List V) (k:aA→Option R):List FI→Option R
  | []=>none
  | fi :: r=>match rdG fi H args with
    | some a=>(X fi a).bind fun y=>ld fi.out y H nid args k
    | none=>ko X H nid args k r
def PL (T:Tm) (σ:St):Option (List V) :=
  let τ:=yO T σ
  let ts:=T.sl.map (·.1)
  bif qE ts τ then
    let τ':=canonN ts τ
    bif Nat.ble τ'.nx T.ob.length then (match Ae τ'.tm T.sl,BD τ'.hp 0 T.ob with
      | some a,some b=>(match lP T.tys (a++b) with | some _=>some (a++b) | none=>none)
      | _,_=>none) else none
  else none
def P1 (ts:List Ty):List V:=ts.map fun t=>encV t t.z
def dc.rdG:(o:dc)→St→V→Option (HP o.tys)
  | .gen T,σ,v=>Gn T { σ with tm:=(RS,⟨[], .tup [v]⟩) :: σ.tm }
  | .gen2 T T',σ,v=>match PL T { σ with tm:=(RS,⟨[], .tup [v]⟩) :: σ.tm } with
    | some us=>lP (.b :: (T.tys++T'.tys)) (bl true :: (us++P1 T'.tys))
    | none=>(match PL T' { σ with tm:=(RS,⟨[], .tup [v]⟩) :: σ.tm } with
      | some us=>lP (.b :: (T.tys++T'.tys)) (bl false :: (P1 T.tys++us))
      | none=>none)
  | _,_,_=>none
theorem N6 {H:ak}:∀ (cs:List Od) (i:Nat) (us us2:List V) (xs:List TV),BD H i cs = some us→RV (us++us2) xs→u9 H (mc i cs xs)
  | [],i,us,us2,xs,h,hr=>by rw [mc]; trivial
  | c :: cs,i,us,us2,xs,h,hr=>by
    rw [BD] at h
    split at h
    · next b hg =>
      split at h
      · next a b' ha hb =>
        cases h
        rw [List.append_assoc] at hr
        obtain ⟨h1,h2⟩:=PM c b a (b'++us2) xs ha hr
        show u9 H ((i,some _) :: _)
        rw [u9,hg]
        exact ⟨h1,N6 cs (i+1) b' us2 _ hb h2⟩
      · cases h
    · cases h
theorem Qb {T:Tm} {σ:St} {us us2:List V} {xs:List TV} (h:PL T σ = some us) (hr:RV (us++us2) xs):dT σ (Er T xs):=by
  unfold PL at h
  simp only at h
  cases hc:qE (T.sl.map (·.1)) (yO T σ) with
  | false=>rw [hc] at h; cases h
  | true =>
    rw [hc,cond_true] at h
    cases hb:Nat.ble (canonN (T.sl.map (·.1)) (yO T σ)).nx T.ob.length with
    | false=>rw [hb] at h; cases h
    | true =>
      rw [hb,cond_true] at h
      split at h
      · next a b ha hb' =>
        split at h
        · cases h
          rw [List.append_assoc] at hr
          obtain ⟨h1,h2⟩:=Ha T.sl a (b++us2) xs ha hr
          exact ((Kl T σ).trans (dT.canonN _ hc)).trans (.le ⟨h1,N6 T.ob 0 b us2 _ hb' h2,Nat.ble_eq.mp hb⟩)
        · cases h
      · cases h
theorem Pn:∀ {us us2:List V} {xs:List TV},RV (us++us2) xs→RV us2 (xs.drop us.length)
  | [],us2,xs,h=>h
  | u :: us,us2,x :: xs,h=>Pn (us:=us) h.2
  | u :: us,us2,[],h=>h.elim
theorem V7 {b:Bool} {x:TV} (h:VLe (bl b) x.v):x = ⟨.b,b⟩:=by
  obtain ⟨t,x⟩:=x
  match t,x,h with
  | .b,x,h1 =>
    change VLe (.c (.lit (.bool b))) (.c (.lit (.bool x))) at h1
    rw [VLe] at h1
    cases h1
    rfl
  | .st k,x,h1=>change VLe (.c (.lit (.bool b))) (.agg _) at h1; simp [VLe] at h1
  | .arr n t,x,h1=>change VLe (.c (.lit (.bool b))) (.agg _) at h1; simp [VLe] at h1
  | .i k,x,h1=>change VLe (.c (.lit (.bool b))) (.c (.lit (.int k x))) at h1; rw [VLe] at h1; cases h1
  | .ls t,x,h1=>change VLe (.c (.lit (.bool b))) (.c (.sl t x)) at h1; rw [VLe] at h1; cases h1
  | .s,x,h1=>change VLe (.c (.lit (.bool b))) (.c (.lit (.string x))) at h1; rw [VLe] at h1; cases h1
theorem UN {R:Type} (T:Tm) (y:HP T.tys) (H:ak) (nid:Nat) (args:List V) (k:aA→Option R):ld (.gen T) y H nid args k = kz T (iu T.tys y) H nid args k:=rfl
theorem Vv (T:Tm) (σ:St) (v:V):dc.rdG (.gen T) σ v = Gn T { σ with tm:=(RS,⟨[], .tup [v]⟩) :: σ.tm }:=rfl
theorem Uh {T:Tm} {σ:St} {x:HP T.tys} (h:Gn T σ = some x):dT σ (Er T (iu T.tys x)):=xO h
theorem Of {R:Type} (T T':Tm) (y:HP (.b :: (T.tys++T'.tys))) {t:Bool} {xs:List TV} (hx:iu (.b :: (T.tys++T'.tys)) y = (⟨.b,t⟩:TV) :: xs) (H:ak) (nid:Nat) (args:List V) (k:aA→Option R) :
    ld (.gen2 T T') y H nid args k = bif t then kz T xs H nid args k else kz T' (xs.drop T.tys.length) H nid args k:=by
  show (match iu (.b :: (T.tys++T'.tys)) y with | ⟨.b,t⟩ :: xs=>bif t then kz T xs H nid args k else kz T' (xs.drop T.tys.length) H nid args k | _=>none) = _
  rw [hx]
theorem TS (T T':Tm) (σ:St) (v:V):dc.rdG (.gen2 T T') σ v = match PL T { σ with tm:=(RS,⟨[], .tup [v]⟩) :: σ.tm } with
    | some us=>lP (.b :: (T.tys++T'.tys)) (bl true :: (us++P1 T'.tys))
    | none=>(match PL T' { σ with tm:=(RS,⟨[], .tup [v]⟩) :: σ.tm } with
      | some us=>lP (.b :: (T.tys++T'.tys)) (bl false :: (P1 T.tys++us))
      | none=>none):=rfl
theorem VJ {T T':Tm} {σ:St} {v:V} {y:HP (dc.gen2 T T').tys} (h:(dc.gen2 T T').rdG σ v = some y):∃ (T0:Tm) (xs:List TV),dT { σ with tm:=(RS,⟨[], .tup [v]⟩) :: σ.tm } (Er T0 xs) ∧
    ∀ {R:Type} (H:ak) (nid:Nat) (args:List V) (k:aA→Option R),ld (.gen2 T T') y H nid args k = kz T0 xs H nid args k:=by
  rw [TS] at h
  have key:∀ (b:Bool) (us:List V),lP (.b :: (T.tys++T'.tys)) (bl b :: us) = some y→∃ xs,iu (.b :: (T.tys++T'.tys)) y = (⟨.b,b⟩:TV) :: xs∧RV us xs:=by
    intro b us hh
    have hr:=uT _ _ _ hh
    revert hr
    generalize iu (.b :: (T.tys++T'.tys)) y = l
    intro hr
    match l,hr with
    | [],hr=>exact hr.elim
    | x :: xs,hr=>exact ⟨xs,by rw [V7 hr.1],hr.2⟩
  split at h
  · next us hu =>
    obtain ⟨xs,hx,hr⟩:=key _ _ h
    exact ⟨T,xs,Qb hu hr,fun H nid args k=>by rw [Of T T' y hx,cond_true]⟩
  · split at h
    · next us hu =>
      obtain ⟨xs,hx,hr⟩:=key _ _ h
      have h2:=Pn hr
      have e:(P1 T.tys).length = T.tys.length:=by simp [P1]
      rw [e] at h2
      exact ⟨T',xs.drop T.tys.length,Qb (us2:=[]) hu (by rw [List.append_nil]; exact h2),fun H nid args k=>by rw [Of T T' y hx,cond_false]⟩
    · cases h
theorem Wx {o:dc} {σ:St} {v:V} {y:HP o.tys} (h:o.rdG σ v = some y):∃ (T:Tm) (xs:List TV),dT { σ with tm:=(RS,⟨[], .tup [v]⟩) :: σ.tm } (Er T xs) ∧
    ∀ {R:Type} (H:ak) (nid:Nat) (args:List V) (k:aA→Option R),ld o y H nid args k = kz T xs H nid args k:=by
  cases o with
  | gen T =>
    rw [Vv] at h
    exact ⟨T,iu T.tys y,Uh h,fun H nid args k=>UN T y H nid args k⟩
  | gen2 T T'=>exact @VJ T T' σ v y h
  | data c =>
    have h:(none:Option (HP (dc.data c).tys)) = some y:=h
    cases h
  | new c =>
    have h:(none:Option (HP (dc.new c).tys)) = some y:=h
    cases h
  | own fr e t =>
    have h:(none:Option (HP (dc.own fr e t).tys)) = some y:=h
    cases h
inductive Sp where
  | none
  | hand (fi:FI) (h:XT→HP fi.ins.tys→Option (HP fi.out.tys))
  | mut (m:XT→ak→Nat→List V→Option aA)
structure kM where
  P:Program
  fs:List (FuncId × List FI)
  sp:FuncId→Sp
def Ij:List FI→Bool
  | fi :: _=>fi.out.isGen
  | []=>false
def oa {R:Type} (fi:FI) (h:HP fi.ins.tys→Option (HP fi.out.tys)) (H:ak) (nid:Nat) (args:List V) (k:aA→Option R):Option R:=match rdG fi H args with
  | some a=>(h a).bind fun y=>ld fi.out y H nid args k
  | none=>none
def nT {R:Type} (fi:FI) (h:HP fi.ins.tys→Option (HP fi.out.tys)) (vs:List V) (k:kQ→Option R):Option R:=match BX fi vs with
  | some a=>(h a).bind fun y=>k (fi.out.out y)
  | none=>none
def gg (Tb:kM) (X:XT) (f:FuncId):CC:=match dB Tb.fs f with
  | some l=>bif Ij l then .mut fun H nid args=>ko X H nid args some l else .pure fun vs=>(iY X vs some l).map fun o=>(true,o)
  | none=>match Tb.sp f with
    | .hand fi h=>bif fi.out.isGen then .mut fun H nid args=>oa fi (h X) H nid args some else .pure fun vs=>(nT fi (h X) vs some).map fun o=>(true,o)
    | .mut m=>.mut (m X)
    | .none=>.pure fun _=>none
def pW (C:FuncId→CC) (fs:List FuncId):FuncId→Option CC:=fun f=>bif eT f fs then some (.pure fun _=>some (false, .data (.c .unk))) else some (C f)
theorem Fw {R:Type} (X:XT) (vs:List V) (k:kQ→Option R):∀ l:List FI,iY X vs k l = (iY X vs some l).bind k
  | []=>rfl
  | fi :: r=>by
    unfold iY
    split
    · next a ha=>cases X fi a <;> rfl
    · exact Fw X vs k r
theorem Ku {R:Type} (T:Tm) (xs:List TV) (H:ak) (nid:Nat) (args:List V) (k:aA→Option R):kz T xs H nid args k = (kz T xs H nid args some).bind k:=by
  unfold kz
  split
  · cases L6 T H (li args T.sl) <;> rfl
  · rfl
theorem JG {R:Type} (o:dc) (y:HP o.tys) (H:ak) (nid:Nat) (args:List V) (k:aA→Option R):ld o y H nid args k = (ld o y H nid args some).bind k:=by
  unfold ld
  split
  · exact Ku ..
  · split
    · next t xs _=>cases t <;> exact Ku ..
    · rfl
  · rfl
theorem FE {R:Type} (X:XT) (H:ak) (nid:Nat) (args:List V) (k:aA→Option R):∀ l:List FI,ko X H nid args k l = (ko X H nid args some l).bind k
  | []=>rfl
  | fi :: r=>by
    unfold ko
    split
    · next a ha =>
      cases X fi a with
      | none=>rfl
      | some y=>rw [Option.bind_some,Option.bind_some]; exact JG ..
    · exact FE X H nid args k r
def gb {α:Type} (b:Bool) (o:Option α):Option α:=bif b then o else none
def gL {α:Type}:List Bool→Option α→Option α
  | [],o=>o
  | b :: r,o=>gb b (gL r o)
theorem yd {α:Type} {o:Option α} {y:α}:∀ {l:List Bool},gL l o = some y→(∀ b∈l,b = true)∧o = some y
  | [],h=>⟨fun b hb=>by simp at hb,h⟩
  | b :: l,h=>by
    unfold gL gb at h
    cases b with
    | false=>cases h
    | true =>
      obtain ⟨h1,h2⟩:=yd (l:=l) h
      exact ⟨fun c hc=>by rcases List.mem_cons.1 hc with rfl | hc; rfl; exact h1 c hc,h2⟩
def fL.bools:{ps:List Prop}→fL ps→List Bool
  | _, .nil=>[]
  | _, .cons (p:=p) d r=>@aa p d :: r.bools
def LX (tm:List (Nat × aw)) (ch:aJ) (bs:List Bool):List Bool:=match ch with
  | []=>bs
  | ch=>bs.map fun b=>!(holds tm ch)||b
theorem vZ:∀ {ps:List Prop} (d:fL ps),(∀ b∈d.bools,b = true)→∀ p∈ps,p
  | _, .nil,_,p,hp=>by simp at hp
  | _, .cons d r,h,p,hp=>by
    rcases List.mem_cons.1 hp with rfl | hp
    · exact of_decide_eq_true (h _ (by simp [fL.bools]))
    · exact vZ r (fun b hb=>h b (by simp [fL.bools,hb])) p hp
theorem JR {c:Prop} {b:Bool} (hb:b = true↔c):∀ {ps:List Prop} (d:fL ps),(∀ x∈d.bools.map (fun y=>!b||y),x = true)→∀ p∈ps,c→p
  | _, .nil,_,p,hp=>by simp at hp
  | _, .cons d r,h,p,hp=>by
    intro hc
    rcases List.mem_cons.1 hp with rfl | hp
    · have:=h (!b||@decide _ d) (by simp [fL.bools])
      rw [hb.2 hc] at this
      exact of_decide_eq_true (by simpa using this)
    · exact JR hb r (fun x hx=>h x (by simp only [fL.bools,List.map_cons,List.mem_cons]; exact .inr hx)) p hp hc
theorem S5 {tm:List (Nat × aw)} {ch:aJ} {ps:List Prop} (d:fL ps) (h:∀ b∈LX tm ch d.bools,b = true):∀ p∈kf tm ch ps,p:=by
  unfold LX kf at *
  cases ch with
  | nil=>exact vZ d h
  | cons x l =>
    intro p hp
    simp only [List.mem_map] at hp
    obtain ⟨q,hq,rfl⟩:=hp
    exact JR Iff.rfl d h q hq
def vn (nid:Nat) (args:List V):kQ→Option aA
  | .data v=>bif (!gR args)||v.scalar then some { pre:=[true = true],val:=v } else none
  | .new v=>some { pre:=[true = true],val:=v }
  | .own fr e t l=>bif (!gR args)||fr then some { pre:=[true = true],val:=.row nid t.k,eff:=[(nid,some (.row e t l))] } else none
def tV (H:ak) (nid:Nat) (args:List V) (out:kQ):Option aA:=match vn nid args out with
  | some r=>some r
  | none=>bif V.noPs args then kG (fun _ vs=>vn nid vs out) (V.refss args) H args else none
theorem Si {o:Nat} {e:TypeId} {t:Ty} (H:ak) {q:Nat} (h:q≠o):ak.get ((o,some (.row e t [])) :: eD [o] H) q = o6 o (ak.get H q):=by
  rw [ak.get_cons,if_neg (Ne.symm h),fq]
mutual
theorem view_fz {o:Nat} {e:TypeId} {t:Ty} {l:List t.T} {H:ak} (hg:H.get o = some (.row e t l)):∀ v:V,v.noP = true→(V.fz o t l v).view ((o,some (.row e t [])) :: eD [o] H) = v.view H
  | .c d,_=>rfl
  | .agg vs,hn=>by rw [V.fz,V.view,V.view,views_fz hg vs (by simpa [V.noP] using hn)]
  | .tup vs,hn=>by rw [V.fz,V.view,V.view,views_fz hg vs (by simpa [V.noP] using hn)]
  | .ptr ..,hn=>by simp [V.noP] at hn
  | .row o' k,_=>by
    rw [V.fz]
    cases hb:Nat.beq o' o with
    | true =>
      have:=Nat.eq_of_beq_eq_true hb
      subst this
      rw [cond_true,V.view,ve,hg]
      simp only
      cases Nat.beq t.k k <;> rfl
    | false =>
      have hne:o'≠o:=fun h=>by subst h; simp at hb
      rw [cond_false,V.view,V.view,ve,ve,Si H hne]
      cases ak.get H o' with
      | none=>rfl
      | some b=>cases b <;> rfl
  | .sub o' k off n,_=>by
    rw [V.fz]
    cases hb:Nat.beq o' o with
    | true =>
      have:=Nat.eq_of_beq_eq_true hb
      subst this
      rw [cond_true,V.view,um,hg]
      simp only
      cases Nat.beq t.k k <;> rfl
    | false =>
      have hne:o'≠o:=fun h=>by subst h; simp at hb
      rw [cond_false,V.view,V.view,um,um,Si H hne]
      cases ak.get H o' with
      | none=>rfl
      | some b=>cases b <;> rfl
  | .dptr ..,_=>rfl
  | .fn f vs,hn=>by rw [V.fz,V.view,V.view,views_fz hg vs (by simpa [V.noP] using hn)]
theorem views_fz {o:Nat} {e:TypeId} {t:Ty} {l:List t.T} {H:ak} (hg:H.get o = some (.row e t l)):∀ vs:List V,V.noPs vs = true→V.views ((o,some (.row e t [])) :: eD [o] H) (V.fzs o t l vs) = V.views H vs
  | [],_=>rfl
  | v :: r,hn=>by
    rw [V.noPs,Bool.and_eq_true] at hn
    rw [V.fzs,V.views,V.views,view_fz hg v hn.1,views_fz hg r hn.2]
end
mutual
theorem noP_fz (o:Nat) (t:Ty) (l:List t.T):∀ v:V,v.noP = true→(V.fz o t l v).noP = true
  | .c d,_=>rfl
  | .agg vs,hn=>by rw [V.fz,V.noP]; exact noPs_fz o t l vs (by simpa [V.noP] using hn)
  | .tup vs,hn=>by rw [V.fz,V.noP]; exact noPs_fz o t l vs (by simpa [V.noP] using hn)
  | .ptr ..,hn=>by simp [V.noP] at hn
  | .row o' k,_=>by
    rw [V.fz]
    cases Nat.beq o' o with
    | false=>rfl
    | true=>rw [cond_true]; cases Nat.beq t.k k <;> rfl
  | .sub o' k off n,_=>by
    rw [V.fz]
    cases Nat.beq o' o with
    | false=>rfl
    | true=>rw [cond_true]; cases Nat.beq t.k k <;> rfl
  | .dptr ..,_=>rfl
  | .fn f vs,hn=>by rw [V.fz,V.noP]; exact noPs_fz o t l vs (by simpa [V.noP] using hn)
theorem noPs_fz (o:Nat) (t:Ty) (l:List t.T):∀ vs:List V,V.noPs vs = true→V.noPs (V.fzs o t l vs) = true
  | [],_=>rfl
  | v :: r,hn=>by
    rw [V.noPs,Bool.and_eq_true] at hn
    rw [V.fzs,V.noPs,noP_fz o t l v hn.1,noPs_fz o t l r hn.2]; rfl
end
theorem Dq {C:FuncId→Option CC} {H:ak} {nid:Nat} {f:FuncId} {args:List V} {con:Pz} {out:kQ} (hc:C f = some (.pure con)) (ho:con (V.views H args) = some (true,out)):iG C H nid f args = vn nid args out:=by
  unfold iG
  rw [hc]
  simp only [ho]
  cases out <;> rfl
theorem MH {C:FuncId→Option CC} {nid:Nat} {f:FuncId} {con:Pz} {out:kQ} (hc:C f = some (.pure con)):∀ (fl:List Nat) (H:ak) (args:List V),V.noPs args = true→con (V.views H args) = some (true,out) →
    kG (tB C f nid) fl H args = kG (fun _ vs=>vn nid vs out) fl H args
  | [],H,args,hn,ho=>by
    rw [kG,kG]
    unfold tB
    rw [hn,cond_true,hc]
    simp only
    exact Dq hc ho
  | q :: fl,H,args,hn,ho=>by
    rw [kG,kG]
    split
    · next e t l hg =>
      rw [MH hc fl _ _ (noPs_fz q t l args hn) (by rw [views_fz hg args hn]; exact ho)]
    · rfl
theorem N1 {C:FuncId→Option CC} {H:ak} {nid:Nat} {f:FuncId} {args:List V} {con:Pz} {out:kQ} {r:aA} (hc:C f = some (.pure con)) (ho:con (V.views H args) = some (true,out)) (h:tV H nid args out = some r):nS C H nid f args = some r:=by
  unfold nS
  rw [Dq hc ho]
  unfold tV at h
  split at h
  · next r' hr=>rw [hr]; exact h
  · next hr =>
    rw [hr]
    cases hn:V.noPs args with
    | false=>rw [hn] at h; cases h
    | true =>
      rw [hn,cond_true] at h
      simp only
      rw [MH hc _ _ _ hn ho]
      exact h
theorem PQ {f:ak→List V→Option aA} {P0:List Prop→Prop} (hf:∀ H vs r,f H vs = some r→P0 r.pre):∀ (fl:List Nat) (H:ak) (vs:List V) (r:aA),kG f fl H vs = some r→P0 r.pre
  | [],H,vs,r,h=>hf H vs r h
  | q :: fl,H,vs,r,h=>by
    rw [kG] at h
    split at h
    · next e t l hg =>
      cases hb:kG f fl ((q,some (.row e t [])) :: eD [q] H) (V.fzs q t l vs) with
      | none=>rw [hb] at h; cases h
      | some r0=>rw [hb] at h; cases h; exact PQ hf fl _ _ r0 hb
    · cases h
theorem GQ {nid:Nat} {args:List V} {out:kQ} {r:aA} (hr:vn nid args out = some r):r.pre = [true = true]:=by
  cases out with
  | data v =>
    simp only [vn] at hr
    cases hq:((!gR args)||v.scalar) <;> rw [hq] at hr <;> cases hr
    rfl
  | new v=>cases hr; rfl
  | own fr e t l =>
    simp only [vn] at hr
    cases hq:((!gR args)||fr) <;> rw [hq] at hr <;> cases hr
    rfl
theorem JO {H:ak} {nid:Nat} {args:List V} {out:kQ} {r:aA} (h:tV H nid args out = some r):r.pre = [true = true]:=by
  unfold tV at h
  split at h
  · next r' hr=>cases h; exact GQ hr
  · cases hn:V.noPs args with
    | false=>rw [hn] at h; cases h
    | true=>rw [hn,cond_true] at h; exact PQ (P0:=fun ps=>ps = [true = true]) (fun _ _ _ h=>GQ h) _ _ _ _ h
def QA {R:Type} (X:XT) (l:List FI) (H:ak) (nid:Nat) (args:List V) (k:aA→Option R):Option R :=
  bif Ij l then ko X (bD (aQ H args) H) nid args k l
  else iY X (V.views H args) (fun out=>match tV H nid args out with | some r=>k r | none=>none) l
def zj {R:Type} (Tb:kM) (X:XT) (f:FuncId) (H:ak) (nid:Nat) (args:List V) (k:aA→Option R):Option R :=
  match dB Tb.fs f with
  | some l=>QA X l H nid args k
  | none=>match Tb.sp f with
    | .hand fi h=>bif fi.out.isGen then oa fi (h X) (bD (aQ H args) H) nid args k else nT fi (h X) (V.views H args) fun out=>match tV H nid args out with | some r=>k r | none=>none
    | .mut m=>(m X (bD (aQ H args) H) nid args).bind fun r=>gL r.dec.bools (k r)
    | .none=>none
theorem Ce {C:FuncId→Option CC} {H:ak} {nid:Nat} {f:FuncId} {args:List V} {m:ak→Nat→List V→Option aA} {r:aA} (hc:C f = some (.mut m)) (hm:m (bD (aQ H args) H) nid args = some r):nS C H nid f args = some r:=by
  have h0:iG C H nid f args = some r:=by
    unfold iG
    rw [hc]
    exact hm
  unfold nS
  rw [h0]
theorem zz {T:Tm} {xs:List TV} {H:ak} {nid:Nat} {args:List V} {r:aA} (h:kz T xs H nid args some = some r):r.pre = [true = true]:=by
  unfold kz at h
  split at h
  · cases hb:L6 T H (li args T.sl) with
    | false=>rw [hb] at h; cases h
    | true=>rw [hb] at h; cases h; rfl
  · cases h
theorem Ka {X:XT} {H:ak} {nid:Nat} {args:List V} {r:aA}:∀ {l:List FI},ko X H nid args some l = some r→r.pre = [true = true]
  | [],h=>by cases h
  | fi :: l,h=>by
    unfold ko at h
    split at h
    · rw [Option.bind_eq_some_iff] at h
      obtain ⟨y,_,h⟩:=h
      unfold ld at h
      split at h
      · exact zz h
      · split at h
        · next t xs _=>cases t <;> exact zz h
        · cases h
      · cases h
    · exact Ka h
theorem Qc {R:Type} (fi:FI) (h:HP fi.ins.tys→Option (HP fi.out.tys)) (H:ak) (nid:Nat) (args:List V) (k:aA→Option R):oa fi h H nid args k = (oa fi h H nid args some).bind k:=by
  unfold oa
  split
  · next a _ =>
    cases h a with
    | none=>rfl
    | some y=>rw [Option.bind_some,Option.bind_some]; exact JG ..
  · rfl
theorem QI {R:Type} (fi:FI) (h:HP fi.ins.tys→Option (HP fi.out.tys)) (vs:List V) (k:kQ→Option R):nT fi h vs k = (nT fi h vs some).bind k:=by
  unfold nT
  split
  · next a _=>cases h a <;> rfl
  · rfl
theorem T3 {o:dc} {y:HP o.tys} {H:ak} {nid:Nat} {args:List V} {r:aA} (h:ld o y H nid args some = some r):r.pre = [true = true]:=by
  unfold ld at h
  split at h
  · exact zz h
  · split at h
    · next t xs _=>cases t <;> exact zz h
    · cases h
  · cases h
theorem Ts {fi:FI} {h:HP fi.ins.tys→Option (HP fi.out.tys)} {H:ak} {nid:Nat} {args:List V} {r:aA} (hh:oa fi h H nid args some = some r):r.pre = [true = true]:=by
  unfold oa at hh
  split at hh
  · rw [Option.bind_eq_some_iff] at hh
    obtain ⟨y,_,hh⟩:=hh
    exact T3 hh
  · cases hh
theorem G0 {R:Type} {Tb:kM} {X:XT} {f:FuncId} {H:ak} {nid:Nat} {args:List V} {k:aA→Option R} {y:R} (h:zj Tb X f H nid args k = some y) :
    ∃ r,k r = some y∧(∀ p∈r.pre,p)∧∀ C:FuncId→Option CC,C f = some (gg Tb X f)→nS C H nid f args = some r:=by
  have one:∀ {ps:List Prop},ps = [true = true]→∀ p∈ps,p:=fun e p hp=>by subst e; rw [List.mem_singleton] at hp; subst hp; rfl
  unfold zj at h
  split at h
  · next l hl =>
    unfold QA at h
    cases hg:Ij l with
    | true =>
      rw [hg,cond_true,FE,Option.bind_eq_some_iff] at h
      obtain ⟨r,h1,h2⟩:=h
      refine ⟨r,h2,one (Ka h1),fun C hC=>Ce (m:=fun H nid args=>ko X H nid args some l) (by rw [hC]; unfold gg; rw [hl]; simp only [hg,cond_true]) h1⟩
    | false =>
      rw [hg,cond_false,Fw,Option.bind_eq_some_iff] at h
      obtain ⟨out,h1,h2⟩:=h
      split at h2
      · next r hr=>exact ⟨r,h2,one (JO hr),fun C hC=>N1 (con:=fun vs=>(iY X vs some l).map fun o=>(true,o)) (by rw [hC]; unfold gg; rw [hl]; simp only [hg,cond_false]) (by simp only [h1,Option.map_some]) hr⟩
      · cases h2
  · next hl =>
    split at h
    · next fi hd hc =>
      cases hg:fi.out.isGen with
      | true =>
        rw [hg,cond_true,Qc,Option.bind_eq_some_iff] at h
        obtain ⟨r,h1,h2⟩:=h
        exact ⟨r,h2,one (Ts h1),fun C hC=>Ce (m:=fun H nid args=>oa fi (hd X) H nid args some) (by rw [hC]; unfold gg; rw [hl]; simp only [hc,hg,cond_true]) h1⟩
      | false =>
        rw [hg,cond_false,QI,Option.bind_eq_some_iff] at h
        obtain ⟨out,h1,h2⟩:=h
        split at h2
        · next r hr=>exact ⟨r,h2,one (JO hr),fun C hC=>N1 (con:=fun vs=>(nT fi (hd X) vs some).map fun o=>(true,o)) (by rw [hC]; unfold gg; rw [hl]; simp only [hc,hg,cond_false]) (by simp only [h1,Option.map_some]) hr⟩
        · cases h2
    · next m hm =>
      rw [Option.bind_eq_some_iff] at h
      obtain ⟨r,h1,h2⟩:=h
      obtain ⟨h3,h4⟩:=yd h2
      exact ⟨r,h4,vZ _ h3,fun C hC=>Ce (m:=m X) (by rw [hC]; unfold gg; rw [hl]; simp only [hm]) h1⟩
    · cases h
def LS (o:Oper) (vs:List V):Option (FuncId × List V):=match o.op,vs with
  | .call { callee:=.value _, .. }, .fn f caps :: vs=>bif Nat.blt f 1000000000 then some (f,vs++caps) else none
  | _,_=>none
def qA (o:Oper):Bool:=match o.op with
  | .call { callee:=.value _, .. }=>true
  | _=>false
def LA (o:Oper) (σ:St) (ch:aJ) (nid:Nat) (vs:List V) (r:aA):cd:={ dst:=o.dst,rds:=mh (dM o.op)++ch.map (·.1),ch,nid,vs,reach:=aQ σ.hp vs,rws:=qu σ.hp vs,res:=r }
def NR:List (Nat × aw)→Nat→aw→List (Nat × aw)
  | [],_,_=>[]
  | (t',s') :: r,t,s=>bif Nat.beq t' t then (t',s) :: r else (t',s') :: NR r t s
theorem BB:∀ {tm:List (Nat × aw)} {t:Nat} {s:aw},ar tm t = some s→NR tm t s = tm
  | [],t,s,h=>rfl
  | (t',s') :: r,t,s,h=>by
    unfold NR
    unfold ar at h
    cases hb:Nat.beq t' t with
    | true=>rw [hb] at h; cases h; rfl
    | false=>rw [hb,cond_false] at h; rw [cond_false,BB h]
def oL {R:Type}:aJ→St→(St→Option R)→Option R
  | [],σ,k=>k σ
  | (t,_) :: r,σ,k=>match ar σ.tm t with
    | some ⟨c0, .c (.lit (.bool b))⟩=>bif b then oL r { σ with tm:=NR σ.tm t ⟨c0,bl true⟩ } k else oL r { σ with tm:=NR σ.tm t ⟨c0,bl false⟩ } k
    | _=>none
theorem uU {R:Type} {y:R}:∀ {ch:aJ} {σ:St} {k:St→Option R},oL ch σ k = some y→k σ = some y
  | [],σ,k,h=>h
  | (t,w) :: r,σ,k,h=>by
    unfold oL at h
    split at h
    · next c0 b hg =>
      cases b with
      | true =>
        rw [cond_true,BB hg] at h
        exact uU h
      | false =>
        rw [cond_false,BB hg] at h
        exact uU h
    · cases h
section
variable {R:Type} (Tb:kM) (X:XT) (N:Nat) (all:List Oper)
def Km (σ:St) (nid:Nat) (o:Oper) (fT fF:List FuncId) (k:St→cd→List FuncId→List FuncId→Option R):Option R :=
  bif qA o then
    (bif lK N o.dst then
      match eI all σ.tm o.guard with
      | some ch =>
        bif ch.all fun x=>fX σ.tm ch x.1 then
          oL ch σ fun σ=>match l7 σ ch (dM o.op) with
            | some vs=>(match LS o vs with
              | some (f,args) =>
                bif holds σ.tm ch then
                  (bif eT f fF then none else zj Tb X f σ.hp nid args fun r=>bif ch.isEmpty||(r.eff.isEmpty&&r.kill.isEmpty&&gw o.dst ch) then k σ (LA o σ ch nid vs r) (f :: fT) fF else none)
                else (bif eT f fT then zj Tb X f σ.hp nid args fun r=>bif r.eff.isEmpty&&r.kill.isEmpty&&gw o.dst ch then k σ (LA o σ ch nid vs r) fT fF else none
                  else bif gw o.dst ch then k σ (LA o σ ch nid vs { pre:=[false = true],val:=.c .unk }) fT (f :: fF) else none)
              | none=>none)
            | none=>none
        else none
      | none=>none
    else none)
  else match recOf Tb.P (fun _=>none) N all σ nid o with
    | some rc=>gL (LX σ.tm rc.ch rc.res.dec.bools) (k σ rc fT fF)
    | none=>none
end
theorem Un {P:Program} {C:FuncId→Option CC} {H:ak} {nid:Nat} {o:Oper} {vs:List V} {f:FuncId} {args:List V} (h:LS o vs = some (f,args)):xK P C H nid o vs = nS C H nid f args:=by
  unfold LS at h
  split at h
  · next g caps vs' ho =>
    cases hb:Nat.blt g 1000000000 with
    | false=>rw [hb] at h; cases h
    | true =>
      rw [hb] at h; cases h
      unfold xK
      rw [ho]
      simp only [hb,cond_true]
  · cases h
theorem Pc {P:Program} {C:FuncId→Option CC} {σ:St} {nid:Nat} {ch:aJ} {o:Oper} (ho:qA o = true) {vs:List V} (hv:l7 σ ch (dM o.op) = some vs) {r:aA} (hr:xK P C σ.hp nid o vs = some r):mf P C σ nid ch o = some (vs,r):=by
  unfold qA at ho
  split at ho
  · next f args ats hop =>
    unfold mf
    rw [hop] at hv ⊢
    simp only [hv]
    unfold AX
    rw [hr]
    rfl
  · cases ho
section
variable {R:Type} {Tb:kM} {X:XT} {N:Nat} {all:List Oper}
theorem VO {P:Program} {C:FuncId→Option CC} {H:ak} {nid:Nat} {o:Oper} {vs:List V} (ho:qA o = false):xK P (fun _=>none) H nid o vs = xK P C H nid o vs:=by
  unfold xK
  split <;> try rfl
  next hop=>unfold qA at ho; rw [hop] at ho; cases ho
theorem ST {P:Program} {C:FuncId→Option CC} {σ:St} {nid:Nat} {o:Oper} (ho:qA o = false):recOf P (fun _=>none) N all σ nid o = recOf P C N all σ nid o:=by
  have e:∀ ch,mf P (fun _=>none) σ nid ch o = mf P C σ nid ch o:=by
    intro ch
    unfold mf AX
    simp only [VO (C:=C) ho]
  unfold recOf
  simp only [e]
theorem DL {σ:St} {nid:Nat} {o:Oper} {fT fF:List FuncId} {k:St→cd→List FuncId→List FuncId→Option R} {y:R} (h:Km Tb X N all σ nid o fT fF k = some y) :
    ∃ rc fT' fF',k σ rc fT' fF' = some y∧(∀ f∈fT,f∈fT')∧(∀ f∈fF,f∈fF')∧((∀ f∈fT,f ∉ fF)→∀ f∈fT',f ∉ fF')∧(o.guard = none→fF' = fF) ∧
      ∀ Ff:List FuncId,(∀ f∈fF',f∈Ff)→(∀ f∈fT',f ∉ Ff)→recOf Tb.P (pW (gg Tb X) Ff) N all σ nid o = some rc∧∀ p∈kf σ.tm rc.ch rc.res.pre,p:=by
  unfold Km at h
  cases hc:qA o with
  | false =>
    rw [hc,cond_false] at h
    split at h
    · next rc hrc =>
      obtain ⟨h1,h2⟩:=yd h
      refine ⟨rc,fT,fF,h2,fun _ h=>h,fun _ h=>h,fun h=>h,fun _=>rfl,fun Ff _ _=>⟨?_,S5 _ h1⟩⟩
      rw [← ST hc]; exact hrc
    · cases h
  | true =>
    rw [hc,cond_true] at h
    cases hd:lK N o.dst with
    | false=>rw [hd] at h; cases h
    | true =>
      rw [hd,cond_true] at h
      split at h
      · next ch hch =>
        cases hg:(ch.all fun x=>fX σ.tm ch x.1) with
        | false=>rw [hg] at h; cases h
        | true =>
          rw [hg,cond_true] at h
          have h:=uU h
          split at h
          · next vs hvs =>
            split at h
            · next f args hca =>
              have rec_:∀ (C:FuncId→Option CC) (r:aA),nS C σ.hp nid f args = some r→(ch.isEmpty||(r.eff.isEmpty&&r.kill.isEmpty&&gw o.dst ch)) = true→recOf Tb.P C N all σ nid o = some (LA o σ ch nid vs r):=by
                intro C r hr hx
                unfold recOf
                rw [hd,cond_true,hch]
                simp only [hg,cond_true]
                rw [Pc hc hvs ((Un hca).trans hr)]
                simp only [hx,cond_true]
                rfl
              cases hh:holds σ.tm ch with
              | true =>
                rw [hh,cond_true] at h
                cases hm:eT f fF with
                | true=>rw [hm] at h; cases h
                | false =>
                  rw [hm,cond_false] at h
                  obtain ⟨r,h,hpre,hcv⟩:=G0 h
                  cases hx:(ch.isEmpty||(r.eff.isEmpty&&r.kill.isEmpty&&gw o.dst ch)) with
                  | false=>rw [hx] at h; cases h
                  | true =>
                    rw [hx,cond_true] at h
                    refine ⟨_,f :: fT,fF,h,fun g hg=>List.mem_cons_of_mem _ hg,fun _ h=>h,fun hdj g hg=>?_,fun _=>rfl,fun Ff h1 h2=>⟨rec_ _ r ?_ hx, ?_⟩⟩
                    · rcases List.mem_cons.1 hg with rfl | hg
                      · intro hf
                        have:eT g fF = true:=List.any_eq_true.2 ⟨g,hf,by simp⟩
                        rw [hm] at this; cases this
                      · exact hdj g hg
                    · have hnf:eT f Ff = false:=by
                        cases hb:eT f Ff with
                        | false=>rfl
                        | true=>exact absurd (kp hb) (h2 f (by simp))
                      exact hcv _ (by unfold pW; rw [hnf,cond_false])
                    · intro p hp
                      have hp':p∈kf σ.tm ch r.pre:=hp
                      unfold kf at hp'
                      split at hp'
                      · exact hpre p hp'
                      · obtain ⟨q,hq,rfl⟩:=List.mem_map.1 hp'
                        exact fun _=>hpre q hq
              | false =>
                rw [hh,cond_false] at h
                cases hm:eT f fT with
                | true =>
                  rw [hm,cond_true] at h
                  obtain ⟨r,h,hpre,hcv⟩:=G0 h
                  cases hx:(r.eff.isEmpty&&r.kill.isEmpty&&gw o.dst ch) with
                  | false=>rw [hx] at h; cases h
                  | true =>
                    rw [hx,cond_true] at h
                    refine ⟨_,fT,fF,h,fun _ h=>h,fun _ h=>h,fun hdj=>hdj,fun _=>rfl,fun Ff h1 h2=>⟨rec_ _ r ?_ (by rw [hx,Bool.or_true]), ?_⟩⟩
                    · have hnf:eT f Ff = false:=by
                        cases hb:eT f Ff with
                        | false=>rfl
                        | true=>exact absurd (kp hb) (h2 f (kp hm))
                      exact hcv _ (by unfold pW; rw [hnf,cond_false])
                    · intro p hp
                      have hp':p∈kf σ.tm ch r.pre:=hp
                      unfold kf at hp'
                      split at hp'
                      · exact hpre p hp'
                      · obtain ⟨q,hq,rfl⟩:=List.mem_map.1 hp'
                        exact fun _=>hpre q hq
                | false =>
                  rw [hm,cond_false] at h
                  cases hn:gw o.dst ch with
                  | false=>rw [hn] at h; cases h
                  | true =>
                    rw [hn,cond_true] at h
                    refine ⟨_,fT,f :: fF,h,fun _ h=>h,fun g hg=>List.mem_cons_of_mem _ hg,fun hdj g hg hf=>?_,fun hno=>?_,fun Ff h1 h2=>⟨rec_ _ _ ?_ ?_, ?_⟩⟩
                    · rcases List.mem_cons.1 hf with rfl | hf
                      · have:eT g fT = true:=List.any_eq_true.2 ⟨g,hg,by simp⟩
                        rw [hm] at this; cases this
                      · exact hdj g hg hf
                    · rw [hno] at hch; cases hch; cases hh
                    · have hnf:eT f Ff = true:=List.any_eq_true.2 ⟨f,h1 f (by simp),by simp⟩
                      unfold nS iG pW
                      simp only [hnf,cond_true,V.scalar,Bool.or_true]
                    · simp [hn]
                    · intro p hp
                      have hp':p∈kf σ.tm ch [false = true]:=hp
                      unfold kf at hp'
                      split at hp'
                      · simp [holds] at hh
                      · simp only [List.map_cons,List.map_nil,List.mem_singleton] at hp'; subst hp'; intro h0; rw [hh] at h0; cases h0
            · cases h
          · cases h
      · cases h
end
end Go.Ax
