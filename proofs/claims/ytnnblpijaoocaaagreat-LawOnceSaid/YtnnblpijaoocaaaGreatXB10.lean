import Derived.Test.YtnnblpijaoocaaaGreatXB9
set_option linter.all false
/- Functions for good: the limit of functions of ever more steps, and its equation. -/
namespace Go.Ax
open Go.RowKit
structure aR {α:Type} (f:Nat→Option α) (o:Option α):Prop where
  mono:∀ n r,f n = some r→∀ m,n≤m→f m = some r
  to:∀ r,o = some r→∃ n,f n = some r
  of:∀ n r,f n = some r→o = some r
namespace aR
variable {α β:Type} {f g:Nat→Option α} {o o':Option α}
theorem const (o:Option α):aR (fun _=>o) o:=⟨fun _ _ h _ _=>h,fun _ h=>⟨0,h⟩,fun _ _ h=>h⟩
theorem uniq (h:aR f o) (h':aR f o'):o = o':=by
 cases ho:o with
 | some r =>
  obtain ⟨n,hn⟩:=h.to r ho
  exact (h'.of n r hn).symm
 | none =>
  cases ho':o' with
  | none=>rfl
  | some r =>
   obtain ⟨n,hn⟩:=h'.to r ho'
   rw [h.of n r hn] at ho;cases ho
theorem cnd {b:Bool} (h:aR f o) (h':aR g o'):aR (fun n=>bif b then f n else g n) (bif b then o else o'):=by
 cases b
 ·exact h'
 ·exact h
theorem bind {k:Nat→α→Option β} {k':α→Option β} (h:aR f o) (hk:∀ a,aR (fun n=>k n a) (k' a)):aR (fun n=>(f n).bind (k n)) (o.bind k'):=by
 refine ⟨fun n r hr m hm=>?_,fun r hr=>?_,fun n r hr=>?_⟩
 ·obtain ⟨a,h1,h2⟩:=Option.bind_eq_some_iff.1 hr
  exact Option.bind_eq_some_iff.2 ⟨a,h.mono n a h1 m hm,(hk a).mono n r h2 m hm⟩
 ·obtain ⟨a,h1,h2⟩:=Option.bind_eq_some_iff.1 hr
  obtain ⟨n1,g1⟩:=h.to a h1
  obtain ⟨n2,g2⟩:=(hk a).to r h2
  exact ⟨max n1 n2,Option.bind_eq_some_iff.2 ⟨a,h.mono n1 a g1 _ (Nat.le_max_left _ _),(hk a).mono n2 r g2 _ (Nat.le_max_right _ _)⟩⟩
 ·obtain ⟨a,h1,h2⟩:=Option.bind_eq_some_iff.1 hr
  exact Option.bind_eq_some_iff.2 ⟨a,h.of n a h1,(hk a).of n r h2⟩
theorem gL {l:List Bool} (h:aR f o):aR (fun n=>Go.Ax.gL l (f n)) (Go.Ax.gL l o):=by
 induction l with
 | nil=>exact h
 | cons b l ih=>exact aR.cnd ih (const none)
theorem shift (h:aR f o):aR (fun n=>f (n+1)) o:=⟨fun n r hr m hm=>h.mono _ r hr _ (by omega),fun r hr=>by
 obtain ⟨n,hn⟩:=h.to r hr
 exact ⟨n,h.mono n r hn _ (by omega)⟩,fun n r hr=>h.of _ r hr⟩
end aR
def yz:Sp→Prop
 | .none=>True
 | .hand fi h=>∀ (X:Nat→XT) (Y:XT),(∀ fi a,aR (fun n=>X n fi a) (Y fi a))→∀ a,aR (fun n=>h (X n) a) (h Y a)
 | .mut m=>∀ (X:Nat→XT) (Y:XT),(∀ fi a,aR (fun n=>X n fi a) (Y fi a))→∀ H nid vs,aR (fun n=>m (X n) H nid vs) (m Y H nid vs)
structure jl (Tb:jL):Prop where
  lim:∀ f,yz (Tb.sp f)
section
variable {R:Type} {Tb:jL} {N:Nat} {all:List Oper} {X:Nat→XT} {Y:XT}
theorem AV (hX:∀ fi a,aR (fun n=>X n fi a) (Y fi a)) {vs:List V} {k:Nat→ko→Option R} {k':ko→Option R} (hk:∀ o,aR (fun n=>k n o) (k' o)):∀ l:List FI,aR (fun n=>iV (X n) vs (k n) l) (iV Y vs k' l)
 | []=>.const none
 | fi :: r=>by
  unfold iV
  cases Ac fi vs with
  | some a=>exact (hX fi a).bind fun y=>hk _
  | none=>exact AV hX hk r
theorem DX {T:Tm} {xs:List TV} {H:ah} {nid:Nat} {args:List V} {k:Nat→aA→Option R} {k':aA→Option R} (hk:∀ r,aR (fun n=>k n r) (k' r)):aR (fun n=>jQ T xs H nid args (k n)) (jQ T xs H nid args k'):=by
 unfold jQ
 split
 ·exact .cnd (hk _) (.const none)
 ·exact .const none
theorem KE {H:ah} {nid:Nat} {args:List V} {k:Nat→aA→Option R} {k':aA→Option R} (hk:∀ r,aR (fun n=>k n r) (k' r)) (o:dt) (y:HP o.tys):aR (fun n=>kL o y H nid args (k n)) (kL o y H nid args k'):=by
 unfold kL
 split
 ·exact DX hk
 ·split
  ·exact .cnd (DX hk) (DX hk)
  ·exact .const none
 ·exact .const none
theorem zN (hX:∀ fi a,aR (fun n=>X n fi a) (Y fi a)) {H:ah} {nid:Nat} {args:List V} {k:Nat→aA→Option R} {k':aA→Option R} (hk:∀ r,aR (fun n=>k n r) (k' r)):∀ l:List FI,aR (fun n=>jX (X n) H nid args (k n) l) (jX Y H nid args k' l)
 | []=>.const none
 | fi :: r=>by
  unfold jX
  cases rdG fi H args with
  | some a=>exact (hX fi a).bind fun y=>KE hk _ _
  | none=>exact zN hX hk r
theorem Q7 {H:ah} {nid:Nat} {args:List V} {k:Nat→aA→Option R} {k':aA→Option R} (hk:∀ r,aR (fun n=>k n r) (k' r)) (out:ko):aR (fun n=>match rW H nid args out with | some r=>k n r | none=>none) (match rW H nid args out with | some r=>k' r | none=>none):=by
 cases rW H nid args out with
 | some r=>exact hk r
 | none=>exact .const none
theorem H6 {fi:FI} {h:Nat→HP fi.ins.tys→Option (HP fi.out.tys)} {h':HP fi.ins.tys→Option (HP fi.out.tys)} (hh:∀ a,aR (fun n=>h n a) (h' a)) {H:ah} {nid:Nat} {args:List V} {k:Nat→aA→Option R} {k':aA→Option R} (hk:∀ r,aR (fun n=>k n r) (k' r)):aR (fun n=>m8 fi (h n) H nid args (k n)) (m8 fi h' H nid args k'):=by
 unfold m8
 cases rdG fi H args with
 | some a=>exact (hh a).bind fun y=>KE hk _ _
 | none=>exact .const none
theorem Iy {fi:FI} {h:Nat→HP fi.ins.tys→Option (HP fi.out.tys)} {h':HP fi.ins.tys→Option (HP fi.out.tys)} (hh:∀ a,aR (fun n=>h n a) (h' a)) {vs:List V} {k:Nat→ko→Option R} {k':ko→Option R} (hk:∀ o,aR (fun n=>k n o) (k' o)):aR (fun n=>mS fi (h n) vs (k n)) (mS fi h' vs k'):=by
 unfold mS
 cases Ac fi vs with
 | some a=>exact (hh a).bind fun y=>hk _
 | none=>exact .const none
theorem I8 (hs:jl Tb) (hX:∀ fi a,aR (fun n=>X n fi a) (Y fi a)) {f:FuncId} {H:ah} {nid:Nat} {args:List V} {k:Nat→aA→Option R} {k':aA→Option R} (hk:∀ r,aR (fun n=>k n r) (k' r)):aR (fun n=>ya Tb (X n) f H nid args (k n)) (ya Tb Y f H nid args k'):=by
 unfold ya
 cases cX Tb.fs f with
 | some l =>
  simp only [OI]
  exact .cnd (zN hX hk l) (AV hX (fun out=>Q7 hk out) l)
 | none =>
  have h:=hs.lim f
  cases hsp:Tb.sp f with
  | none=>exact .const none
  | hand fi hd=>rw [hsp] at h;exact .cnd (H6 (fun a=>h X Y hX a) hk) (Iy (fun a=>h X Y hX a) fun out=>Q7 hk out)
  | «mut» m=>rw [hsp] at h;exact (h X Y hX _ _ _).bind fun r=>(hk r).gL
theorem vH:∀ {ch:aQ} {σ:St} {k:Nat→St→Option R} {k':St→Option R},(∀ σ,aR (fun n=>k n σ) (k' σ))→aR (fun n=>nv ch σ (k n)) (nv ch σ k')
 | [],σ,k,k',h=>h σ
 | (t,w) :: r,σ,k,k',h=>by
  unfold nv
  split
  ·exact .cnd (vH h) (vH h)
  ·exact .const none
theorem Gd (hs:jl Tb) (hX:∀ fi a,aR (fun n=>X n fi a) (Y fi a)) {σ:St} {nid:Nat} {o:Oper} {fT fF:List FuncId} {k:Nat→St→cE→List FuncId→List FuncId→Option R} {k':St→cE→List FuncId→List FuncId→Option R}
  (hk:∀ σ rc a b,aR (fun n=>k n σ rc a b) (k' σ rc a b)):aR (fun n=>H4 Tb (X n) N all σ nid o fT fF (k n)) (H4 Tb Y N all σ nid o fT fF k'):=by
 unfold H4
 refine .cnd (.cnd ?_ (.const none)) ?_
 ·split
  ·refine .cnd (vH fun σ=>?_) (.const none)
   split
   ·split
    ·refine .cnd (.cnd (.const none) (I8 hs hX fun r=>.cnd (hk _ _ _ _) (.const none))) (.cnd (I8 hs hX fun r=>.cnd (hk _ _ _ _) (.const none)) (.cnd (hk _ _ _ _) (.const none)))
    ·exact .const none
   ·exact .const none
  ·exact .const none
 ·split
  ·exact (hk _ _ _ _).gL
  ·exact .const none
theorem Gr (hs:jl Tb) (hX:∀ fi a,aR (fun n=>X n fi a) (Y fi a)):∀ {l:List Oper} {σ:St} {fT fF:List FuncId} {k:Nat→St→Option R} {k':St→Option R},(∀ σ,aR (fun n=>k n σ) (k' σ))→aR (fun n=>IO Tb (X n) N all l σ fT fF (k n)) (IO Tb Y N all l σ fT fF k')
 | [],σ,fT,fF,k,k',h=>h _
 | o :: l,σ,fT,fF,k,k',h=>by
  unfold IO
  exact Gd hs hX fun σ rc a b=>Gr hs hX h
theorem LD (hs:jl Tb) (hX:∀ fi a,aR (fun n=>X n fi a) (Y fi a)):∀ {l:List Oper} {nid:Nat} {σ:St} {fT fF:List FuncId} {rcs:List cE} {k:Nat→List cE→St→Option R} {k':List cE→St→Option R},(∀ rs σ,aR (fun n=>k n rs σ) (k' rs σ)) →
  aR (fun n=>C7 Tb (X n) N all l nid σ fT fF rcs (k n)) (C7 Tb Y N all l nid σ fT fF rcs k')
 | [],nid,σ,fT,fF,rcs,k,k',h=>h _ _
 | o :: l,nid,σ,fT,fF,rcs,k,k',h=>by
  unfold C7
  exact Gd hs hX fun σ rc a b=>LD hs hX h
theorem zr (hs:jl Tb) (hX:∀ fi a,aR (fun n=>X n fi a) (Y fi a)) {σ:St} {o:Oper} {k:Nat→St→Option R} {k':St→Option R} (h:∀ σ,aR (fun n=>k n σ) (k' σ)):aR (fun n=>xN Tb (X n) N all σ o (k n)) (xN Tb Y N all σ o k') :=
 Gd hs hX fun σ rc a b=>h _
theorem AQ {σ:St} {o:Oper} {ch:aQ} {k:Nat→St→Option R} {k':St→Option R} (h:∀ σ,aR (fun n=>k n σ) (k' σ)):aR (fun n=>yF N σ o ch (k n)) (yF N σ o ch k'):=.cnd (h _) (.const none)
theorem LB (hs:jl Tb) (hX:∀ fi a,aR (fun n=>X n fi a) (Y fi a)):∀ {l:List Oper} {σ:St} {k:Nat→St→Option R} {k':St→Option R},(∀ σ,aR (fun n=>k n σ) (k' σ))→aR (fun n=>nb Tb (X n) N all l σ (k n)) (nb Tb Y N all l σ k')
 | [],σ,k,k',h=>h _
 | o :: l,σ,k,k',h=>by
  unfold nb
  have rec_:∀ σ',aR (fun n=>nb Tb (X n) N all l σ' (k n)) (nb Tb Y N all l σ' k'):=fun σ'=>LB hs hX h
  split
  ·exact zr hs hX rec_
  ·split
   ·refine .cnd ?_ (.const none)
    split
    ·exact .cnd (.cnd (.cnd (zr hs hX rec_) (AQ rec_)) (.cnd (AQ rec_) (zr hs hX rec_))) (AQ rec_)
    ·exact .const none
   ·exact .const none
theorem QH {l:List Nat} {f:Nat→Nat→Option R} {f':Nat→Option R} (h:∀ p,aR (fun n=>f n p) (f' p)):aR (fun n=>uf l (f n)) (uf l f'):=by
 refine ⟨fun n r hr m hm=>?_,fun r hr=>?_,fun n r hr=>?_⟩
 ·obtain ⟨h1,h2⟩:=rY hr
  exact xd h1 fun p hp=>(h p).mono n r (h2 p hp) m hm
 ·obtain ⟨h1,h2⟩:=rY hr
  have key:∀ l:List Nat,(∀ p∈l,f' p = some r)→∃ n, ∀ p∈l,f n p = some r:=by
   intro l
   induction l with
   | nil=>exact fun _=>⟨0,by simp⟩
   | cons q l ih =>
    intro hl
    obtain ⟨n1,g1⟩:=(h q).to r (hl q (by simp))
    obtain ⟨n2,g2⟩:=ih fun p hp=>hl p (by simp [hp])
    refine ⟨max n1 n2,fun p hp=>?_⟩
    rcases List.mem_cons.1 hp with rfl | hp
    ·exact (h p).mono n1 r g1 _ (Nat.le_max_left _ _)
    ·exact (h p).mono n2 r (g2 p hp) _ (Nat.le_max_right _ _)
  obtain ⟨n,hn⟩:=key l h2
  exact ⟨n,xd h1 hn⟩
 ·obtain ⟨h1,h2⟩:=rY hr
  exact xd h1 fun p hp=>(h p).of n r (h2 p hp)
theorem PU {σ:St} {o:Oper} {x:Operand} {k:Nat→St→Option R} {k':St→Option R} (h:∀ σ,aR (fun n=>k n σ) (k' σ)):aR (fun n=>BN N σ o x (k n)) (BN N σ o x k'):=by
 unfold BN
 refine .cnd ?_ (.const none)
 split
 ·split
  ·refine .cnd ?_ (.const none)
   split
   ·exact .cnd (.gL (.cnd (h _) (QH fun p=>h _))) (.const none)
   ·exact .const none
  ·exact .const none
 ·exact .const none
theorem SB (hs:jl Tb) (hX:∀ fi a,aR (fun n=>X n fi a) (Y fi a)) {ops:Array Oper} {dr:Bool} {σ:St} {k:Nat→St→Option R} {k':St→Option R} (h:∀ σ,aR (fun n=>k n σ) (k' σ)):aR (fun n=>qX Tb (X n) N ops dr σ (k n)) (qX Tb Y N ops dr σ k') :=
 .cnd (LD hs hX fun rs σ=>.cnd (h σ) (.const none)) (by
  split
  ·exact PU fun σ=>Gr hs hX h
  ·exact .cnd (LB hs hX h) (Gr hs hX h))
variable {J:Nat→(π:Nat)→(T:Tm)→HP T.tys→Option R} {L:(π:Nat)→(T:Tm)→HP T.tys→Option R} {cuts:List (Nat × Tm)} {hd:List (Nat × Ep)}
theorem AR {π:Nat} (hJ:∀ π T s,aR (fun n=>J n π T s) (L π T s)) {T:Tm} {σ:St}:aR (fun n=>l9 (J n π) T σ) (l9 (L π) T σ):=(aR.const (zp T σ)).bind fun s=>hJ π T s
theorem Mj (hJ:∀ π T s,aR (fun n=>J n π T s) (L π T s)) {π:Nat} {go:Nat→St→Option R} {go':St→Option R} (hg:∀ σ,aR (fun n=>go n σ) (go' σ)) {κ:Nat→KX R} {κ':KX R} (hκ:∀ e σ,aR (fun n=>κ n e σ) (κ' e σ)) (e:Exit) (σ:St) :
  aR (fun n=>KN (J n) cuts π (go n) (κ n) e σ) (KN L cuts π go' κ' e σ):=by
 cases e with
 | normal =>
  show aR (fun n=>match cX cuts π with | some T=>l9 (J n π) T σ | none=>go n σ) (match cX cuts π with | some T=>l9 (L π) T σ | none=>go' σ)
  cases cX cuts π with
  | some T=>exact AR hJ
  | none=>exact hg σ
 | exit id=>exact hκ _ σ
 | goto l=>exact hκ _ σ
 | ret=>exact hκ _ σ
 | panic c=>exact hκ _ σ
 | outgrown=>exact hκ _ σ
theorem IM (hJ:∀ π T s,aR (fun n=>J n π T s) (L π T s)) {π:Nat} {κ:Nat→KX R} {κ':KX R} (hκ:∀ e σ,aR (fun n=>κ n e σ) (κ' e σ)) (e:Exit) (σ:St):aR (fun n=>Bq (J n) cuts π (κ n) e σ) (Bq L cuts π κ' e σ):=by
 cases e with
 | normal =>
  show aR (fun n=>match cX cuts π with | some T=>l9 (J n π) T σ | none=>none) (match cX cuts π with | some T=>l9 (L π) T σ | none=>none)
  cases cX cuts π with
  | some T=>exact AR hJ
  | none=>exact .const none
 | exit id=>exact hκ _ σ
 | goto l=>exact hκ _ σ
 | ret=>exact hκ _ σ
 | panic c=>exact hκ _ σ
 | outgrown=>exact hκ _ σ
theorem Ef {id:Nat} {κ:Nat→KX R} {κ':KX R} (hκ:∀ e σ,aR (fun n=>κ n e σ) (κ' e σ)) (e:Exit) (σ:St):aR (fun n=>qG id (κ n) e σ) (qG id κ' e σ):=by
 cases e with
 | exit id'=>exact .cnd (hκ _ σ) (hκ _ σ)
 | normal=>exact hκ _ σ
 | goto l=>exact hκ _ σ
 | ret=>exact hκ _ σ
 | panic c=>exact hκ _ σ
 | outgrown=>exact hκ _ σ
theorem Lt (hs:jl Tb) (hX:∀ fi a,aR (fun n=>X n fi a) (Y fi a)) (hJ:∀ π T s,aR (fun n=>J n π T s) (L π T s)):∀ (c:Code) {π:Nat} {κ:Nat→KX R} {κ':KX R},(∀ e σ,aR (fun n=>κ n e σ) (κ' e σ))→∀ σ,
  aR (fun n=>xe Tb (X n) N (J n) cuts hd c π (κ n) σ) (xe Tb Y N L cuts hd c π κ' σ):=by
 intro c
 induction c with
 | skip=>exact fun h σ=>h _ σ
 | label l=>exact fun h σ=>h _ σ
 | region id ops dr=>exact fun h σ=>SB hs hX fun σ=>h _ σ
 | seq x y ihx ihy=>exact fun h σ=>ihx (fun e σ=>Mj hJ (fun σ=>ihy h σ) h e σ) σ
 | cond c x y ihx ihy =>
  intro π κ κ' h σ
  unfold xe
  split
  ·exact .cnd (ihx h σ) (ihy h σ)
  ·exact .const none
 | block id x ih =>
  intro π κ κ' h σ
  unfold xe
  split
  ·exact (aR.const _).bind fun y=>h _ _
  ·exact ih (fun e σ=>Ef h e σ) σ
 | exit id=>exact fun h σ=>h _ σ
 | ret=>exact fun h σ=>h _ σ
 | loop x ih =>
  intro π κ κ' h σ
  unfold xe
  split
  ·exact AR hJ
  ·exact .const none
 | rangeFunc f params assign body=>exact fun h σ=>.const none
 | scope body=>exact fun h σ=>.const none
 | goto l=>exact fun h σ=>.const none
 | refuse why=>exact fun h σ=>.const none
theorem wm (hs:jl Tb) (hX:∀ fi a,aR (fun n=>X n fi a) (Y fi a)) (hJ:∀ π T s,aR (fun n=>J n π T s) (L π T s)):∀ (b:List Bool) (c:Code) {π:Nat} {κ:Nat→KX R} {κ':KX R},(∀ e σ,aR (fun n=>κ n e σ) (κ' e σ))→∀ σ,
  aR (fun n=>Rx (Ch Tb (X n) N (J n) cuts hd b c π (κ n)) σ) (Rx (Ch Tb Y N L cuts hd b c π κ') σ)
 | [],c,π,κ,κ',h,σ=>by
  cases c <;> first | exact Lt hs hX hJ _ h σ | exact Lt hs hX hJ _ (IM hJ h) σ
 | b :: r,c,π,κ,κ',h,σ=>by
  cases c <;> cases b <;> first | exact .const none | exact wm hs hX hJ r _ h σ | exact wm hs hX hJ r _ (fun e σ=>Mj hJ (fun σ=>Lt hs hX hJ _ h σ) h e σ) σ | exact wm hs hX hJ r _ (Ef h) σ | exact wm hs hX hJ r _ (IM hJ h) σ
end
open Classical in
noncomputable def Xf (Tb:jL):JT:=fun fi π T s=>if h:∃ n r,Jn Tb n fi π T s = some r then some h.choose_spec.choose else none
section
variable {Tb:jL}
theorem Oc (n:Nat) (fi:FI) (π:Nat) (T:Tm) (s:HP T.tys):Jn Tb (n+1) fi π T s = BF Tb (Jn Tb n) fi π T s:=by rw [Jn]
theorem H9 (hs:jl Tb) {J:Nat→JT} {L:JT} (hJ:∀ fi π T s,aR (fun n=>J n fi π T s) (L fi π T s)) (fi:FI) (π:Nat) (T:Tm) (s:HP T.tys):aR (fun n=>BF Tb (J n) fi π T s) (BF Tb L fi π T s) :=
 .cnd (wm hs (X:=fun n fi a=>J n fi 1 fi.ins a) (Y:=fun fi a=>L fi 1 fi.ins a) (J:=fun n=>J n fi) (L:=L fi) (fun fi a=>hJ fi 1 fi.ins a) (hJ fi) (jp π) fi.c (κ:=fun _=>zy Tb.P fi) (κ':=zy Tb.P fi) (fun e σ=>.const _) (oR T s)) (.const none)
theorem DD (hs:jl Tb):∀ (n:Nat) (fi:FI) (π:Nat) (T:Tm) (s:HP T.tys) (r:HP fi.out.tys),Jn Tb n fi π T s = some r→Jn Tb (n+1) fi π T s = some r
 | 0,fi,π,T,s,r,h=>by simp [Jn] at h
 | n+1,fi,π,T,s,r,h=>by
  have key:∀ fi π T s,aR (fun k=>match k with | 0=>Jn Tb n fi π T s | _+1=>Jn Tb (n+1) fi π T s) (Jn Tb (n+1) fi π T s):=fun fi π T s =>
   ⟨fun k r hk m hm=>by
    match k,m with
    | 0,0=>exact hk
    | 0,m+1=>exact DD hs n fi π T s r hk
    | k+1,m+1=>exact hk,fun r hr=>⟨1,hr⟩,fun k r hk=>by
    match k with
    | 0=>exact DD hs n fi π T s r hk
    | k+1=>exact hk⟩
  have:=H9 hs (J:=fun k fi π T s=>match k with | 0=>Jn Tb n fi π T s | _+1=>Jn Tb (n+1) fi π T s) key fi π T s
  rw [Oc] at h ⊢
  exact this.of 0 r h
theorem KO (hs:jl Tb) (fi:FI) (π:Nat) (T:Tm) (s:HP T.tys):aR (fun n=>Jn Tb n fi π T s) (Xf Tb fi π T s):=by
 have mono:∀ n r,Jn Tb n fi π T s = some r→∀ m,n≤m→Jn Tb m fi π T s = some r:=by
  intro n r h m hm
  induction m with
  | zero =>
   have:n = 0:=by omega
   subst this;exact h
  | succ m ih =>
   by_cases e:n = m+1
   ·subst e;exact h
   ·exact DD hs m fi π T s r (ih (by omega))
 refine ⟨mono,fun r hr=>?_,fun n r hr=>?_⟩
 ·unfold Xf at hr
  split at hr
  ·next h=>cases hr;exact ⟨h.choose,h.choose_spec.choose_spec⟩
  ·cases hr
 ·unfold Xf
  have h:∃ n r,Jn Tb n fi π T s = some r:=⟨n,r,hr⟩
  rw [dif_pos h]
  have h1:=h.choose_spec.choose_spec
  have h2:=mono _ _ h1 (max n h.choose) (Nat.le_max_right _ _)
  rw [mono _ _ hr (max n h.choose) (Nat.le_max_left _ _)] at h2
  exact h2.symm
theorem af (hs:jl Tb) (fi:FI) (π:Nat) (T:Tm) (s:HP T.tys):Xf Tb fi π T s = BF Tb (Xf Tb) fi π T s :=
 ((KO hs fi π T s).shift).uniq (by simpa only [Oc] using H9 hs (J:=Jn Tb) (fun fi π T s=>KO hs fi π T s) fi π T s)
noncomputable abbrev Xc (Tb:jL):XT:=fun fi a=>Xf Tb fi 1 fi.ins a
theorem SE (hT:BM Tb) (hs:jl Tb) (f:FuncId):bc Tb.P f (fm Tb (Xc Tb) f):=by
 have hX:∀ fi a,aR (fun n=>Xn Tb n fi a) (Xc Tb fi a):=fun fi a=>KO hs fi 1 fi.ins a
 have hm:∀ n,bc Tb.P f (fm Tb (Xn Tb n) f):=fun n=>PJ.meets hT (UA hT n) f
 unfold fm at hm ⊢
 cases hl:cX Tb.fs f with
 | some l =>
  rw [hl] at hm
  simp only at hm ⊢
  cases hg:GM l with
  | true =>
   rw [hg] at hm
   simp only [cond_true] at hm ⊢
   intro E w H nid xs args r h1 h2 h3 h4 h5
   obtain ⟨n,hn⟩:=(zN (R:=aA) hX (k:=fun _=>some) (k':=some) (fun r=>.const (some r)) l).to r h4
   exact hm n E w H nid xs args r h1 h2 h3 hn h5
  | false =>
   rw [hg] at hm
   simp only [cond_false] at hm ⊢
   intro ok w xs vs p out h1 h2 h3 h4
   cases hk:iV (Xc Tb) vs some l with
   | none=>simp only [hk] at h3;cases h3
   | some o =>
    simp only [hk] at h3;cases h3
    obtain ⟨n,hn⟩:=(AV (R:=ko) hX (k:=fun _=>some) (k':=some) (fun r=>.const (some r)) l).to _ hk
    exact hm n ok w xs vs true out h1 h2 (by simp only [hn];rfl) rfl
 | none =>
  rw [hl] at hm
  simp only at hm ⊢
  have h:=hs.lim f
  cases hsp:Tb.sp f with
  | none=>rw [hsp] at hm;exact hm 0
  | hand fi hd =>
   rw [hsp] at hm h
   simp only at hm ⊢
   cases hg:fi.out.isGen with
   | true =>
    rw [hg] at hm
    simp only [cond_true] at hm ⊢
    intro E w H nid xs args r h1 h2 h3 h4 h5
    obtain ⟨n,hn⟩:=(H6 (R:=aA) (fun a=>h (fun n=>Xn Tb n) (Xc Tb) hX a) (k:=fun _=>some) (k':=some) (fun r=>.const (some r))).to r h4
    exact hm n E w H nid xs args r h1 h2 h3 hn h5
   | false =>
    rw [hg] at hm
    simp only [cond_false] at hm ⊢
    intro ok w xs vs p out h1 h2 h3 h4
    cases hk:mS fi (hd (Xc Tb)) vs some with
    | none=>simp only [hk] at h3;cases h3
    | some o =>
     simp only [hk] at h3;cases h3
     obtain ⟨n,hn⟩:=(Iy (R:=ko) (fun a=>h (fun n=>Xn Tb n) (Xc Tb) hX a) (k:=fun _=>some) (k':=some) (fun r=>.const (some r))).to _ hk
     exact hm n ok w xs vs true out h1 h2 (by simp only [hn];rfl) rfl
  | «mut» m =>
   rw [hsp] at hm h
   simp only at hm ⊢
   intro E w H nid xs args r h1 h2 h3 h4 h5
   obtain ⟨n,hn⟩:=(h (fun n=>Xn Tb n) (Xc Tb) hX (br (aK H args) H) nid args).to r h4
   exact hm n E w H nid xs args r h1 h2 h3 hn h5
end
end Go.Ax
