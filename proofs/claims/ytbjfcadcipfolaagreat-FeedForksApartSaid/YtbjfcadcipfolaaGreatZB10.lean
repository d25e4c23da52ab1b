import Derived.Test.YtbjfcadcipfolaaGreatZB9
set_option linter.all false
/- Functions for good: the limit of functions of ever more steps, and its equation. -/
namespace Go.Ax
open Go.RowKit
structure aM {α:Type} (f:Nat→Option α) (o:Option α):Prop where
  mono:∀ n r,f n = some r→∀ m,n≤m→f m = some r
  to:∀ r,o = some r→∃ n,f n = some r
  of:∀ n r,f n = some r→o = some r
namespace aM
variable {α β:Type} {f g:Nat→Option α} {o o':Option α}
theorem const (o:Option α):aM (fun _=>o) o:=⟨fun _ _ h _ _=>h,fun _ h=>⟨0,h⟩,fun _ _ h=>h⟩
theorem uniq (h:aM f o) (h':aM f o'):o = o':=by
 cases ho:o with
 | some r =>
  obtain ⟨n,hn⟩:=h.to r ho
  exact (h'.of n r hn).symm
 | none =>
  cases ho':o' with
  | none=>rfl
  | some r =>
   obtain ⟨n,hn⟩:=h'.to r ho'
   rw [h.of n r hn] at ho;cases ho
theorem cnd {b:Bool} (h:aM f o) (h':aM g o'):aM (fun n=>bif b then f n else g n) (bif b then o else o'):=by
 cases b
 ·exact h'
 ·exact h
theorem bind {k:Nat→α→Option β} {k':α→Option β} (h:aM f o) (hk:∀ a,aM (fun n=>k n a) (k' a)):aM (fun n=>(f n).bind (k n)) (o.bind k'):=by
 refine ⟨fun n r hr m hm=>?_,fun r hr=>?_,fun n r hr=>?_⟩
 ·obtain ⟨a,h1,h2⟩:=Option.bind_eq_some_iff.1 hr
  exact Option.bind_eq_some_iff.2 ⟨a,h.mono n a h1 m hm,(hk a).mono n r h2 m hm⟩
 ·obtain ⟨a,h1,h2⟩:=Option.bind_eq_some_iff.1 hr
  obtain ⟨n1,g1⟩:=h.to a h1
  obtain ⟨n2,g2⟩:=(hk a).to r h2
  exact ⟨max n1 n2,Option.bind_eq_some_iff.2 ⟨a,h.mono n1 a g1 _ (Nat.le_max_left _ _),(hk a).mono n2 r g2 _ (Nat.le_max_right _ _)⟩⟩
 ·obtain ⟨a,h1,h2⟩:=Option.bind_eq_some_iff.1 hr
  exact Option.bind_eq_some_iff.2 ⟨a,h.of n a h1,(hk a).of n r h2⟩
theorem gL {l:List Bool} (h:aM f o):aM (fun n=>Go.Ax.gL l (f n)) (Go.Ax.gL l o):=by
 induction l with
 | nil=>exact h
 | cons b l ih=>exact aM.cnd ih (const none)
theorem shift (h:aM f o):aM (fun n=>f (n+1)) o:=⟨fun n r hr m hm=>h.mono _ r hr _ (by omega),fun r hr=>by
 obtain ⟨n,hn⟩:=h.to r hr
 exact ⟨n,h.mono n r hn _ (by omega)⟩,fun n r hr=>h.of _ r hr⟩
end aM
def tx:Sp→Prop
 | .none=>True
 | .hand fi h=>∀ (X:Nat→XT) (Y:XT),(∀ fi a,aM (fun n=>X n fi a) (Y fi a))→∀ a,aM (fun n=>h (X n) a) (h Y a)
 | .mut m=>∀ (X:Nat→XT) (Y:XT),(∀ fi a,aM (fun n=>X n fi a) (Y fi a))→∀ H nid vs,aM (fun n=>m (X n) H nid vs) (m Y H nid vs)
structure gC (Tb:iE):Prop where
  lim:∀ f,tx (Tb.sp f)
section
variable {R:Type} {Tb:iE} {N:Nat} {all:List Oper} {X:Nat→XT} {Y:XT}
theorem vL (hX:∀ fi a,aM (fun n=>X n fi a) (Y fi a)) {vs:List V} {k:Nat→gW→Option R} {k':gW→Option R} (hk:∀ o,aM (fun n=>k n o) (k' o)):∀ l:List FI,aM (fun n=>fB (X n) vs (k n) l) (fB Y vs k' l)
 | []=>.const none
 | fi :: r=>by
  unfold fB
  cases uH fi vs with
  | some a=>exact (hX fi a).bind fun y=>hk _
  | none=>exact vL hX hk r
theorem yK {T:Tm} {xs:List TV} {H:ab} {nid:Nat} {args:List V} {k:Nat→aB→Option R} {k':aB→Option R} (hk:∀ r,aM (fun n=>k n r) (k' r)):aM (fun n=>ig T xs H nid args (k n)) (ig T xs H nid args k'):=by
 unfold ig
 split
 ·exact .cnd (hk _) (.const none)
 ·exact .const none
theorem EP {H:ab} {nid:Nat} {args:List V} {k:Nat→aB→Option R} {k':aB→Option R} (hk:∀ r,aM (fun n=>k n r) (k' r)) (o:cq) (y:HP o.tys):aM (fun n=>iT o y H nid args (k n)) (iT o y H nid args k'):=by
 unfold iT
 split
 ·exact yK hk
 ·split
  ·exact .cnd (yK hk) (yK hk)
  ·exact .const none
 ·exact .const none
theorem vD (hX:∀ fi a,aM (fun n=>X n fi a) (Y fi a)) {H:ab} {nid:Nat} {args:List V} {k:Nat→aB→Option R} {k':aB→Option R} (hk:∀ r,aM (fun n=>k n r) (k' r)):∀ l:List FI,aM (fun n=>im (X n) H nid args (k n) l) (im Y H nid args k' l)
 | []=>.const none
 | fi :: r=>by
  unfold im
  cases rdG fi H args with
  | some a=>exact (hX fi a).bind fun y=>EP hk _ _
  | none=>exact vD hX hk r
theorem JI {H:ab} {nid:Nat} {args:List V} {k:Nat→aB→Option R} {k':aB→Option R} (hk:∀ r,aM (fun n=>k n r) (k' r)) (out:gW):aM (fun n=>match ph H nid args out with | some r=>k n r | none=>none) (match ph H nid args out with | some r=>k' r | none=>none):=by
 cases ph H nid args out with
 | some r=>exact hk r
 | none=>exact .const none
theorem CZ {fi:FI} {h:Nat→HP fi.ins.tys→Option (HP fi.out.tys)} {h':HP fi.ins.tys→Option (HP fi.out.tys)} (hh:∀ a,aM (fun n=>h n a) (h' a)) {H:ab} {nid:Nat} {args:List V} {k:Nat→aB→Option R} {k':aB→Option R} (hk:∀ r,aM (fun n=>k n r) (k' r)):aM (fun n=>kR fi (h n) H nid args (k n)) (kR fi h' H nid args k'):=by
 unfold kR
 cases rdG fi H args with
 | some a=>exact (hh a).bind fun y=>EP hk _ _
 | none=>exact .const none
theorem CX {fi:FI} {h:Nat→HP fi.ins.tys→Option (HP fi.out.tys)} {h':HP fi.ins.tys→Option (HP fi.out.tys)} (hh:∀ a,aM (fun n=>h n a) (h' a)) {vs:List V} {k:Nat→gW→Option R} {k':gW→Option R} (hk:∀ o,aM (fun n=>k n o) (k' o)):aM (fun n=>kM fi (h n) vs (k n)) (kM fi h' vs k'):=by
 unfold kM
 cases uH fi vs with
 | some a=>exact (hh a).bind fun y=>hk _
 | none=>exact .const none
theorem Kl (hs:gC Tb) (hX:∀ fi a,aM (fun n=>X n fi a) (Y fi a)) {f:FuncId} {H:ab} {nid:Nat} {args:List V} {k:Nat→aB→Option R} {k':aB→Option R} (hk:∀ r,aM (fun n=>k n r) (k' r)):aM (fun n=>wP Tb (X n) f H nid args (k n)) (wP Tb Y f H nid args k'):=by
 unfold wP
 cases bK Tb.fs f with
 | some l =>
  simp only [Hv]
  exact .cnd (vD hX hk l) (vL hX (fun out=>JI hk out) l)
 | none =>
  have h:=hs.lim f
  cases hsp:Tb.sp f with
  | none=>exact .const none
  | hand fi hd=>rw [hsp] at h;exact .cnd (CZ (fun a=>h X Y hX a) hk) (CX (fun a=>h X Y hX a) fun out=>JI hk out)
  | «mut» m=>rw [hsp] at h;exact (h X Y hX _ _ _).bind fun r=>(hk r).gL
theorem rF:∀ {ch:aL} {σ:St} {k:Nat→St→Option R} {k':St→Option R},(∀ σ,aM (fun n=>k n σ) (k' σ))→aM (fun n=>lr ch σ (k n)) (lr ch σ k')
 | [],σ,k,k',h=>h σ
 | (t,w) :: r,σ,k,k',h=>by
  unfold lr
  split
  ·exact .cnd (rF h) (rF h)
  ·exact .const none
theorem Bn (hs:gC Tb) (hX:∀ fi a,aM (fun n=>X n fi a) (Y fi a)) {σ:St} {nid:Nat} {o:Oper} {k:Nat→St→bj→Option R} {k':St→bj→Option R}
  (hk:∀ σ rc,aM (fun n=>k n σ rc) (k' σ rc)):aM (fun n=>CE Tb (X n) N all σ nid o (k n)) (CE Tb Y N all σ nid o k'):=by
 unfold CE
 refine .cnd (.cnd ?_ (.const none)) ?_
 ·split
  ·refine .cnd (rF fun σ=>.cnd ?_ (.cnd (hk _ _) (.const none))) (.const none)
   split
   ·split
    ·exact Kl hs hX fun r=>.cnd (hk _ _) (.const none)
    ·exact .const none
   ·exact .const none
  ·exact .const none
 ·split
  ·exact (hk _ _).gL
  ·exact .const none
theorem BB (hs:gC Tb) (hX:∀ fi a,aM (fun n=>X n fi a) (Y fi a)):∀ {l:List Oper} {σ:St} {k:Nat→St→Option R} {k':St→Option R},(∀ σ,aM (fun n=>k n σ) (k' σ))→aM (fun n=>Cl Tb (X n) N all l σ (k n)) (Cl Tb Y N all l σ k')
 | [],σ,k,k',h=>h _
 | o :: l,σ,k,k',h=>by
  unfold Cl
  exact Bn hs hX fun σ rc=>BB hs hX h
theorem FO (hs:gC Tb) (hX:∀ fi a,aM (fun n=>X n fi a) (Y fi a)):∀ {l:List Oper} {nid:Nat} {σ:St} {rcs:List bj} {k:Nat→List bj→St→Option R} {k':List bj→St→Option R},(∀ rs σ,aM (fun n=>k n rs σ) (k' rs σ)) →
  aM (fun n=>yO Tb (X n) N all l nid σ rcs (k n)) (yO Tb Y N all l nid σ rcs k')
 | [],nid,σ,rcs,k,k',h=>h _ _
 | o :: l,nid,σ,rcs,k,k',h=>by
  unfold yO
  exact Bn hs hX fun σ rc=>FO hs hX h
theorem vu (hs:gC Tb) (hX:∀ fi a,aM (fun n=>X n fi a) (Y fi a)) {σ:St} {o:Oper} {k:Nat→St→Option R} {k':St→Option R} (h:∀ σ,aM (fun n=>k n σ) (k' σ)):aM (fun n=>tH Tb (X n) N all σ o (k n)) (tH Tb Y N all σ o k') :=
 Bn hs hX fun σ rc=>h _
theorem wu {σ:St} {o:Oper} {ch:aL} {k:Nat→St→Option R} {k':St→Option R} (h:∀ σ,aM (fun n=>k n σ) (k' σ)):aM (fun n=>uw N σ o ch (k n)) (uw N σ o ch k'):=.cnd (h _) (.const none)
theorem D9 (hs:gC Tb) (hX:∀ fi a,aM (fun n=>X n fi a) (Y fi a)):∀ {l:List Oper} {σ:St} {k:Nat→St→Option R} {k':St→Option R},(∀ σ,aM (fun n=>k n σ) (k' σ))→aM (fun n=>kY Tb (X n) N all l σ (k n)) (kY Tb Y N all l σ k')
 | [],σ,k,k',h=>h _
 | o :: l,σ,k,k',h=>by
  unfold kY
  have rec_:∀ σ',aM (fun n=>kY Tb (X n) N all l σ' (k n)) (kY Tb Y N all l σ' k'):=fun σ'=>D9 hs hX h
  split
  ·exact vu hs hX rec_
  ·split
   ·refine .cnd ?_ (.const none)
    split
    ·exact .cnd (.cnd (.cnd (vu hs hX rec_) (wu rec_)) (.cnd (wu rec_) (vu hs hX rec_))) (wu rec_)
    ·exact .const none
   ·exact .const none
theorem JG {l:List Nat} {f:Nat→Nat→Option R} {f':Nat→Option R} (h:∀ p,aM (fun n=>f n p) (f' p)):aM (fun n=>oN l (f n)) (oN l f'):=by
 refine ⟨fun n r hr m hm=>?_,fun r hr=>?_,fun n r hr=>?_⟩
 ·obtain ⟨h1,h2⟩:=pb hr
  exact pU h1 fun p hp=>(h p).mono n r (h2 p hp) m hm
 ·obtain ⟨h1,h2⟩:=pb hr
  have key:∀ l:List Nat,(∀ p∈l,f' p = some r)→∃ n, ∀ p∈l,f n p = some r:=by
   intro l
   induction l with
   | nil=>exact fun _=>⟨0,by simp⟩
   | cons q l ih =>
    intro hl
    obtain ⟨n1,g1⟩:=(h q).to r (hl q (by simp))
    obtain ⟨n2,g2⟩:=ih fun p hp=>hl p (by simp [hp])
    refine ⟨max n1 n2,fun p hp=>?_⟩
    rcases List.mem_cons.1 hp with rfl | hp
    ·exact (h p).mono n1 r g1 _ (Nat.le_max_left _ _)
    ·exact (h p).mono n2 r (g2 p hp) _ (Nat.le_max_right _ _)
  obtain ⟨n,hn⟩:=key l h2
  exact ⟨n,pU h1 hn⟩
 ·obtain ⟨h1,h2⟩:=pb hr
  exact pU h1 fun p hp=>(h p).of n r (h2 p hp)
theorem Jh {σ:St} {o:Oper} {x:Operand} {k:Nat→St→Option R} {k':St→Option R} (h:∀ σ,aM (fun n=>k n σ) (k' σ)):aM (fun n=>wL N σ o x (k n)) (wL N σ o x k'):=by
 unfold wL
 refine .cnd ?_ (.const none)
 split
 ·split
  ·refine .cnd ?_ (.const none)
   split
   ·exact .cnd (.gL (.cnd (h _) (JG fun p=>h _))) (.const none)
   ·exact .const none
  ·exact .const none
 ·exact .const none
theorem Ln (hs:gC Tb) (hX:∀ fi a,aM (fun n=>X n fi a) (Y fi a)) {ops:Array Oper} {dr:Bool} {σ:St} {k:Nat→St→Option R} {k':St→Option R} (h:∀ σ,aM (fun n=>k n σ) (k' σ)):aM (fun n=>Fx Tb (X n) N ops dr σ (k n)) (Fx Tb Y N ops dr σ k') :=
 .cnd (FO hs hX fun rs σ=>.cnd (h σ) (.const none)) (by
  split
  ·exact Jh fun σ=>BB hs hX h
  ·exact .cnd (D9 hs hX h) (BB hs hX h))
variable {J:Nat→(π:Nat)→(T:Tm)→HP T.tys→Option R} {L:(π:Nat)→(T:Tm)→HP T.tys→Option R} {cuts:List (Nat × Tm)} {hd:List (Nat × zN)}
theorem v8 {π:Nat} (hJ:∀ π T s,aM (fun n=>J n π T s) (L π T s)) {T:Tm} {σ:St}:aM (fun n=>ka (J n π) T σ) (ka (L π) T σ):=(aM.const (sI T σ)).bind fun s=>hJ π T s
theorem Fm (hJ:∀ π T s,aM (fun n=>J n π T s) (L π T s)) {π:Nat} {go:Nat→St→Option R} {go':St→Option R} (hg:∀ σ,aM (fun n=>go n σ) (go' σ)) {κ:Nat→KX R} {κ':KX R} (hκ:∀ e σ,aM (fun n=>κ n e σ) (κ' e σ)) (e:Exit) (σ:St) :
  aM (fun n=>DV (J n) cuts π (go n) (κ n) e σ) (DV L cuts π go' κ' e σ):=by
 cases e with
 | normal =>
  show aM (fun n=>match bK cuts π with | some T=>ka (J n π) T σ | none=>go n σ) (match bK cuts π with | some T=>ka (L π) T σ | none=>go' σ)
  cases bK cuts π with
  | some T=>exact v8 hJ
  | none=>exact hg σ
 | exit id=>exact hκ _ σ
 | goto l=>exact hκ _ σ
 | ret=>exact hκ _ σ
 | panic c=>exact hκ _ σ
 | outgrown=>exact hκ _ σ
theorem B5 (hJ:∀ π T s,aM (fun n=>J n π T s) (L π T s)) {π:Nat} {κ:Nat→KX R} {κ':KX R} (hκ:∀ e σ,aM (fun n=>κ n e σ) (κ' e σ)) (e:Exit) (σ:St):aM (fun n=>wM (J n) cuts π (κ n) e σ) (wM L cuts π κ' e σ):=by
 cases e with
 | normal =>
  show aM (fun n=>match bK cuts π with | some T=>ka (J n π) T σ | none=>none) (match bK cuts π with | some T=>ka (L π) T σ | none=>none)
  cases bK cuts π with
  | some T=>exact v8 hJ
  | none=>exact .const none
 | exit id=>exact hκ _ σ
 | goto l=>exact hκ _ σ
 | ret=>exact hκ _ σ
 | panic c=>exact hκ _ σ
 | outgrown=>exact hκ _ σ
theorem Al {id:Nat} {κ:Nat→KX R} {κ':KX R} (hκ:∀ e σ,aM (fun n=>κ n e σ) (κ' e σ)) (e:Exit) (σ:St):aM (fun n=>nU id (κ n) e σ) (nU id κ' e σ):=by
 cases e with
 | exit id'=>exact .cnd (hκ _ σ) (hκ _ σ)
 | normal=>exact hκ _ σ
 | goto l=>exact hκ _ σ
 | ret=>exact hκ _ σ
 | panic c=>exact hκ _ σ
 | outgrown=>exact hκ _ σ
theorem Fa (hs:gC Tb) (hX:∀ fi a,aM (fun n=>X n fi a) (Y fi a)) (hJ:∀ π T s,aM (fun n=>J n π T s) (L π T s)):∀ (c:Code) {π:Nat} {κ:Nat→KX R} {κ':KX R},(∀ e σ,aM (fun n=>κ n e σ) (κ' e σ))→∀ σ,
  aM (fun n=>xe Tb (X n) N (J n) cuts hd c π (κ n) σ) (xe Tb Y N L cuts hd c π κ' σ):=by
 intro c
 induction c with
 | skip=>exact fun h σ=>h _ σ
 | label l=>exact fun h σ=>h _ σ
 | region id ops dr=>exact fun h σ=>Ln hs hX fun σ=>h _ σ
 | seq x y ihx ihy =>
  intro π κ κ' h σ
  unfold xe
  split
  ·exact (aM.const _).bind fun y=>h _ _
  ·exact ihx (fun e σ=>Fm hJ (fun σ=>ihy h σ) h e σ) σ
 | cond c x y ihx ihy =>
  intro π κ κ' h σ
  unfold xe
  split
  ·exact .cnd (ihx h σ) (ihy h σ)
  ·exact .const none
 | block id x ih =>
  intro π κ κ' h σ
  unfold xe
  split
  ·exact (aM.const _).bind fun y=>h _ _
  ·exact ih (fun e σ=>Al h e σ) σ
 | exit id=>exact fun h σ=>h _ σ
 | ret=>exact fun h σ=>h _ σ
 | loop x ih =>
  intro π κ κ' h σ
  unfold xe
  split
  ·exact v8 hJ
  ·exact .const none
 | rangeFunc f params assign body=>exact fun h σ=>.const none
 | scope body=>exact fun h σ=>.const none
 | goto l=>exact fun h σ=>.const none
 | refuse why=>exact fun h σ=>.const none
theorem sC (hs:gC Tb) (hX:∀ fi a,aM (fun n=>X n fi a) (Y fi a)) (hJ:∀ π T s,aM (fun n=>J n π T s) (L π T s)):∀ (b:List Bool) (c:Code) {π:Nat} {κ:Nat→KX R} {κ':KX R},(∀ e σ,aM (fun n=>κ n e σ) (κ' e σ))→∀ σ,
  aM (fun n=>Lj (xm Tb (X n) N (J n) cuts hd b c π (κ n)) σ) (Lj (xm Tb Y N L cuts hd b c π κ') σ)
 | [],c,π,κ,κ',h,σ=>by
  cases c <;> first | exact Fa hs hX hJ _ h σ | exact Fa hs hX hJ _ (B5 hJ h) σ
 | b :: r,c,π,κ,κ',h,σ=>by
  cases c <;> cases b <;> first | exact .const none | exact sC hs hX hJ r _ h σ | exact sC hs hX hJ r _ (fun e σ=>Fm hJ (fun σ=>Fa hs hX hJ _ h σ) h e σ) σ | exact sC hs hX hJ r _ (Al h) σ | exact sC hs hX hJ r _ (B5 hJ h) σ
end
open Classical in
noncomputable def Xf (Tb:iE):JT:=fun fi π T s=>if h:∃ n r,Jn Tb n fi π T s = some r then some h.choose_spec.choose else none
section
variable {Tb:iE}
theorem G9 (n:Nat) (fi:FI) (π:Nat) (T:Tm) (s:HP T.tys):Jn Tb (n+1) fi π T s = wW Tb (Jn Tb n) fi π T s:=by rw [Jn]
theorem Cj (hs:gC Tb) {J:Nat→JT} {L:JT} (hJ:∀ fi π T s,aM (fun n=>J n fi π T s) (L fi π T s)) (fi:FI) (π:Nat) (T:Tm) (s:HP T.tys):aM (fun n=>wW Tb (J n) fi π T s) (wW Tb L fi π T s) :=
 .cnd (sC hs (X:=fun n fi a=>J n fi 1 fi.ins a) (Y:=fun fi a=>L fi 1 fi.ins a) (J:=fun n=>J n fi) (L:=L fi) (fun fi a=>hJ fi 1 fi.ins a) (hJ fi) (iG π) fi.c (κ:=fun _=>wo Tb.P fi) (κ':=wo Tb.P fi) (fun e σ=>.const _) (mq T s)) (.const none)
theorem xW (hs:gC Tb):∀ (n:Nat) (fi:FI) (π:Nat) (T:Tm) (s:HP T.tys) (r:HP fi.out.tys),Jn Tb n fi π T s = some r→Jn Tb (n+1) fi π T s = some r
 | 0,fi,π,T,s,r,h=>by simp [Jn] at h
 | n+1,fi,π,T,s,r,h=>by
  have key:∀ fi π T s,aM (fun k=>match k with | 0=>Jn Tb n fi π T s | _+1=>Jn Tb (n+1) fi π T s) (Jn Tb (n+1) fi π T s):=fun fi π T s =>
   ⟨fun k r hk m hm=>by
    match k,m with
    | 0,0=>exact hk
    | 0,m+1=>exact xW hs n fi π T s r hk
    | k+1,m+1=>exact hk,fun r hr=>⟨1,hr⟩,fun k r hk=>by
    match k with
    | 0=>exact xW hs n fi π T s r hk
    | k+1=>exact hk⟩
  have:=Cj hs (J:=fun k fi π T s=>match k with | 0=>Jn Tb n fi π T s | _+1=>Jn Tb (n+1) fi π T s) key fi π T s
  rw [G9] at h ⊢
  exact this.of 0 r h
theorem EJ (hs:gC Tb) (fi:FI) (π:Nat) (T:Tm) (s:HP T.tys):aM (fun n=>Jn Tb n fi π T s) (Xf Tb fi π T s):=by
 have mono:∀ n r,Jn Tb n fi π T s = some r→∀ m,n≤m→Jn Tb m fi π T s = some r:=by
  intro n r h m hm
  induction m with
  | zero =>
   have:n = 0:=by omega
   subst this;exact h
  | succ m ih =>
   by_cases e:n = m+1
   ·subst e;exact h
   ·exact xW hs m fi π T s r (ih (by omega))
 refine ⟨mono,fun r hr=>?_,fun n r hr=>?_⟩
 ·unfold Xf at hr
  split at hr
  ·next h=>cases hr;exact ⟨h.choose,h.choose_spec.choose_spec⟩
  ·cases hr
 ·unfold Xf
  have h:∃ n r,Jn Tb n fi π T s = some r:=⟨n,r,hr⟩
  rw [dif_pos h]
  have h1:=h.choose_spec.choose_spec
  have h2:=mono _ _ h1 (max n h.choose) (Nat.le_max_right _ _)
  rw [mono _ _ hr (max n h.choose) (Nat.le_max_left _ _)] at h2
  exact h2.symm
theorem ah (hs:gC Tb) (fi:FI) (π:Nat) (T:Tm) (s:HP T.tys):Xf Tb fi π T s = wW Tb (Xf Tb) fi π T s :=
 ((EJ hs fi π T s).shift).uniq (by simpa only [G9] using Cj hs (J:=Jn Tb) (fun fi π T s=>EJ hs fi π T s) fi π T s)
noncomputable abbrev Xc (Tb:iE):XT:=fun fi a=>Xf Tb fi 1 fi.ins a
theorem FM (hT:wK Tb) (hs:gC Tb) (f:FuncId):bq Tb.P f (dN Tb (Xc Tb) f):=by
 have hX:∀ fi a,aM (fun n=>Xn Tb n fi a) (Xc Tb fi a):=fun fi a=>EJ hs fi 1 fi.ins a
 have hm:∀ n,bq Tb.P f (dN Tb (Xn Tb n) f):=fun n=>PJ.meets hT (MG hT n) f
 unfold dN at hm ⊢
 cases hl:bK Tb.fs f with
 | some l =>
  rw [hl] at hm
  simp only at hm ⊢
  cases hg:yl l with
  | true =>
   rw [hg] at hm
   simp only [cond_true] at hm ⊢
   intro E w H nid xs args r h1 h2 h3 h4 h5
   obtain ⟨n,hn⟩:=(vD (R:=aB) hX (k:=fun _=>some) (k':=some) (fun r=>.const (some r)) l).to r h4
   exact hm n E w H nid xs args r h1 h2 h3 hn h5
  | false =>
   rw [hg] at hm
   simp only [cond_false] at hm ⊢
   intro ok w xs vs p out h1 h2 h3 h4
   cases hk:fB (Xc Tb) vs some l with
   | none=>simp only [hk] at h3;cases h3
   | some o =>
    simp only [hk] at h3;cases h3
    obtain ⟨n,hn⟩:=(vL (R:=gW) hX (k:=fun _=>some) (k':=some) (fun r=>.const (some r)) l).to _ hk
    exact hm n ok w xs vs true out h1 h2 (by simp only [hn];rfl) rfl
 | none =>
  rw [hl] at hm
  simp only at hm ⊢
  have h:=hs.lim f
  cases hsp:Tb.sp f with
  | none=>rw [hsp] at hm;exact hm 0
  | hand fi hd =>
   rw [hsp] at hm h
   simp only at hm ⊢
   cases hg:fi.out.isGen with
   | true =>
    rw [hg] at hm
    simp only [cond_true] at hm ⊢
    intro E w H nid xs args r h1 h2 h3 h4 h5
    obtain ⟨n,hn⟩:=(CZ (R:=aB) (fun a=>h (fun n=>Xn Tb n) (Xc Tb) hX a) (k:=fun _=>some) (k':=some) (fun r=>.const (some r))).to r h4
    exact hm n E w H nid xs args r h1 h2 h3 hn h5
   | false =>
    rw [hg] at hm
    simp only [cond_false] at hm ⊢
    intro ok w xs vs p out h1 h2 h3 h4
    cases hk:kM fi (hd (Xc Tb)) vs some with
    | none=>simp only [hk] at h3;cases h3
    | some o =>
     simp only [hk] at h3;cases h3
     obtain ⟨n,hn⟩:=(CX (R:=gW) (fun a=>h (fun n=>Xn Tb n) (Xc Tb) hX a) (k:=fun _=>some) (k':=some) (fun r=>.const (some r))).to _ hk
     exact hm n ok w xs vs true out h1 h2 (by simp only [hn];rfl) rfl
  | «mut» m =>
   rw [hsp] at hm h
   simp only at hm ⊢
   intro E w H nid xs args r h1 h2 h3 h4 h5
   obtain ⟨n,hn⟩:=(h (fun n=>Xn Tb n) (Xc Tb) hX (bu (aO H args) H) nid args).to r h4
   exact hm n E w H nid xs args r h1 h2 h3 hn h5
end
end Go.Ax
