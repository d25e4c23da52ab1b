import Derived.Test.YtnnblpijaoocaaaGreatWB9
set_option linter.all false
/- Functions for good: the limit of functions of ever more steps, and its equation. -/
namespace Go.Ax
open Go.RowKit
structure aJ {α:Type} (f:Nat→Option α) (o:Option α):Prop where
  mono:∀ n r,f n = some r→∀ m,n≤m→f m = some r
  to:∀ r,o = some r→∃ n,f n = some r
  of:∀ n r,f n = some r→o = some r
namespace aJ
variable {α β:Type} {f g:Nat→Option α} {o o':Option α}
theorem const (o:Option α):aJ (fun _=>o) o:=⟨fun _ _ h _ _=>h,fun _ h=>⟨0,h⟩,fun _ _ h=>h⟩
theorem uniq (h:aJ f o) (h':aJ f o'):o = o':=by
 cases ho:o with
 | some r =>
  obtain ⟨n,hn⟩:=h.to r ho
  exact (h'.of n r hn).symm
 | none =>
  cases ho':o' with
  | none=>rfl
  | some r =>
   obtain ⟨n,hn⟩:=h'.to r ho'
   rw [h.of n r hn] at ho;cases ho
theorem cnd {b:Bool} (h:aJ f o) (h':aJ g o'):aJ (fun n=>bif b then f n else g n) (bif b then o else o'):=by
 cases b
 ·exact h'
 ·exact h
theorem bind {k:Nat→α→Option β} {k':α→Option β} (h:aJ f o) (hk:∀ a,aJ (fun n=>k n a) (k' a)):aJ (fun n=>(f n).bind (k n)) (o.bind k'):=by
 refine ⟨fun n r hr m hm=>?_,fun r hr=>?_,fun n r hr=>?_⟩
 ·obtain ⟨a,h1,h2⟩:=Option.bind_eq_some_iff.1 hr
  exact Option.bind_eq_some_iff.2 ⟨a,h.mono n a h1 m hm,(hk a).mono n r h2 m hm⟩
 ·obtain ⟨a,h1,h2⟩:=Option.bind_eq_some_iff.1 hr
  obtain ⟨n1,g1⟩:=h.to a h1
  obtain ⟨n2,g2⟩:=(hk a).to r h2
  exact ⟨max n1 n2,Option.bind_eq_some_iff.2 ⟨a,h.mono n1 a g1 _ (Nat.le_max_left _ _),(hk a).mono n2 r g2 _ (Nat.le_max_right _ _)⟩⟩
 ·obtain ⟨a,h1,h2⟩:=Option.bind_eq_some_iff.1 hr
  exact Option.bind_eq_some_iff.2 ⟨a,h.of n a h1,(hk a).of n r h2⟩
theorem gL {l:List Bool} (h:aJ f o):aJ (fun n=>Go.Ax.gL l (f n)) (Go.Ax.gL l o):=by
 induction l with
 | nil=>exact h
 | cons b l ih=>exact aJ.cnd ih (const none)
theorem shift (h:aJ f o):aJ (fun n=>f (n+1)) o:=⟨fun n r hr m hm=>h.mono _ r hr _ (by omega),fun r hr=>by
 obtain ⟨n,hn⟩:=h.to r hr
 exact ⟨n,h.mono n r hn _ (by omega)⟩,fun n r hr=>h.of _ r hr⟩
end aJ
def vh:Sp→Prop
 | .none=>True
 | .hand fi h=>∀ (X:Nat→XT) (Y:XT),(∀ fi a,aJ (fun n=>X n fi a) (Y fi a))→∀ a,aJ (fun n=>h (X n) a) (h Y a)
 | .mut m=>∀ (X:Nat→XT) (Y:XT),(∀ fi a,aJ (fun n=>X n fi a) (Y fi a))→∀ H nid vs,aJ (fun n=>m (X n) H nid vs) (m Y H nid vs)
structure iz (Tb:iW):Prop where
  lim:∀ f,vh (Tb.sp f)
section
variable {R:Type} {Tb:iW} {N:Nat} {all:List Oper} {X:Nat→XT} {Y:XT}
theorem x7 (hX:∀ fi a,aJ (fun n=>X n fi a) (Y fi a)) {vs:List V} {k:Nat→js→Option R} {k':js→Option R} (hk:∀ o,aJ (fun n=>k n o) (k' o)):∀ l:List FI,aJ (fun n=>gZ (X n) vs (k n) l) (gZ Y vs k' l)
 | []=>.const none
 | fi :: r=>by
  unfold gZ
  cases yt fi vs with
  | some a=>exact (hX fi a).bind fun y=>hk _
  | none=>exact x7 hX hk r
theorem AD {T:Tm} {xs:List TV} {H:ae} {nid:Nat} {args:List V} {k:Nat→av→Option R} {k':av→Option R} (hk:∀ r,aJ (fun n=>k n r) (k' r)):aJ (fun n=>jd T xs H nid args (k n)) (jd T xs H nid args k'):=by
 unfold jd
 split
 ·exact .cnd (hk _) (.const none)
 ·exact .const none
theorem Ht {H:ae} {nid:Nat} {args:List V} {k:Nat→av→Option R} {k':av→Option R} (hk:∀ r,aJ (fun n=>k n r) (k' r)) (o:cP) (y:HP o.tys):aJ (fun n=>jE o y H nid args (k n)) (jE o y H nid args k'):=by
 unfold jE
 split
 ·exact AD hk
 ·split
  ·exact .cnd (AD hk) (AD hk)
  ·exact .const none
 ·exact .const none
theorem xH (hX:∀ fi a,aJ (fun n=>X n fi a) (Y fi a)) {H:ae} {nid:Nat} {args:List V} {k:Nat→av→Option R} {k':av→Option R} (hk:∀ r,aJ (fun n=>k n r) (k' r)):∀ l:List FI,aJ (fun n=>je (X n) H nid args (k n) l) (je Y H nid args k' l)
 | []=>.const none
 | fi :: r=>by
  unfold je
  cases rdG fi H args with
  | some a=>exact (hX fi a).bind fun y=>Ht hk _ _
  | none=>exact xH hX hk r
theorem Nh {H:ae} {nid:Nat} {args:List V} {k:Nat→av→Option R} {k':av→Option R} (hk:∀ r,aJ (fun n=>k n r) (k' r)) (out:js):aJ (fun n=>match pP H nid args out with | some r=>k n r | none=>none) (match pP H nid args out with | some r=>k' r | none=>none):=by
 cases pP H nid args out with
 | some r=>exact hk r
 | none=>exact .const none
theorem Fy {fi:FI} {h:Nat→HP fi.ins.tys→Option (HP fi.out.tys)} {h':HP fi.ins.tys→Option (HP fi.out.tys)} (hh:∀ a,aJ (fun n=>h n a) (h' a)) {H:ae} {nid:Nat} {args:List V} {k:Nat→av→Option R} {k':av→Option R} (hk:∀ r,aJ (fun n=>k n r) (k' r)):aJ (fun n=>lO fi (h n) H nid args (k n)) (lO fi h' H nid args k'):=by
 unfold lO
 cases rdG fi H args with
 | some a=>exact (hh a).bind fun y=>Ht hk _ _
 | none=>exact .const none
theorem F1 {fi:FI} {h:Nat→HP fi.ins.tys→Option (HP fi.out.tys)} {h':HP fi.ins.tys→Option (HP fi.out.tys)} (hh:∀ a,aJ (fun n=>h n a) (h' a)) {vs:List V} {k:Nat→js→Option R} {k':js→Option R} (hk:∀ o,aJ (fun n=>k n o) (k' o)):aJ (fun n=>lT fi (h n) vs (k n)) (lT fi h' vs k'):=by
 unfold lT
 cases yt fi vs with
 | some a=>exact (hh a).bind fun y=>hk _
 | none=>exact .const none
theorem FW (hs:iz Tb) (hX:∀ fi a,aJ (fun n=>X n fi a) (Y fi a)) {f:FuncId} {H:ae} {nid:Nat} {args:List V} {k:Nat→av→Option R} {k':av→Option R} (hk:∀ r,aJ (fun n=>k n r) (k' r)):aJ (fun n=>uT Tb (X n) f H nid args (k n)) (uT Tb Y f H nid args k'):=by
 unfold uT
 cases cA Tb.fs f with
 | some l =>
  simp only [Mf]
  exact .cnd (xH hX hk l) (x7 hX (fun out=>Nh hk out) l)
 | none =>
  have h:=hs.lim f
  cases hsp:Tb.sp f with
  | none=>exact .const none
  | hand fi hd=>rw [hsp] at h;exact .cnd (Fy (fun a=>h X Y hX a) hk) (F1 (fun a=>h X Y hX a) fun out=>Nh hk out)
  | «mut» m=>rw [hsp] at h;exact (h X Y hX _ _ _).bind fun r=>(hk r).gL
theorem sK:∀ {ch:aI} {σ:St} {k:Nat→St→Option R} {k':St→Option R},(∀ σ,aJ (fun n=>k n σ) (k' σ))→aJ (fun n=>mf ch σ (k n)) (mf ch σ k')
 | [],σ,k,k',h=>h σ
 | (t,w) :: r,σ,k,k',h=>by
  unfold mf
  split
  ·exact .cnd (sK h) (sK h)
  ·exact .const none
theorem Dz (hs:iz Tb) (hX:∀ fi a,aJ (fun n=>X n fi a) (Y fi a)) {σ:St} {nid:Nat} {o:Oper} {fT fF:List FuncId} {k:Nat→St→bY→List FuncId→List FuncId→Option R} {k':St→bY→List FuncId→List FuncId→Option R}
  (hk:∀ σ rc a b,aJ (fun n=>k n σ rc a b) (k' σ rc a b)):aJ (fun n=>FN Tb (X n) N all σ nid o fT fF (k n)) (FN Tb Y N all σ nid o fT fF k'):=by
 unfold FN
 refine .cnd (.cnd ?_ (.const none)) ?_
 ·split
  ·refine .cnd (sK fun σ=>?_) (.const none)
   split
   ·split
    ·refine .cnd (.cnd (.const none) (FW hs hX fun r=>.cnd (hk _ _ _ _) (.const none))) (.cnd (FW hs hX fun r=>.cnd (hk _ _ _ _) (.const none)) (.cnd (hk _ _ _ _) (.const none)))
    ·exact .const none
   ·exact .const none
  ·exact .const none
 ·split
  ·exact (hk _ _ _ _).gL
  ·exact .const none
theorem Ec (hs:iz Tb) (hX:∀ fi a,aJ (fun n=>X n fi a) (Y fi a)):∀ {l:List Oper} {σ:St} {fT fF:List FuncId} {k:Nat→St→Option R} {k':St→Option R},(∀ σ,aJ (fun n=>k n σ) (k' σ))→aJ (fun n=>Fc Tb (X n) N all l σ fT fF (k n)) (Fc Tb Y N all l σ fT fF k')
 | [],σ,fT,fF,k,k',h=>h _
 | o :: l,σ,fT,fF,k,k',h=>by
  unfold Fc
  exact Dz hs hX fun σ rc a b=>Ec hs hX h
theorem Hz (hs:iz Tb) (hX:∀ fi a,aJ (fun n=>X n fi a) (Y fi a)):∀ {l:List Oper} {nid:Nat} {σ:St} {fT fF:List FuncId} {rcs:List bY} {k:Nat→List bY→St→Option R} {k':List bY→St→Option R},(∀ rs σ,aJ (fun n=>k n rs σ) (k' rs σ)) →
  aJ (fun n=>AC Tb (X n) N all l nid σ fT fF rcs (k n)) (AC Tb Y N all l nid σ fT fF rcs k')
 | [],nid,σ,fT,fF,rcs,k,k',h=>h _ _
 | o :: l,nid,σ,fT,fF,rcs,k,k',h=>by
  unfold AC
  exact Dz hs hX fun σ rc a b=>Hz hs hX h
theorem yf (hs:iz Tb) (hX:∀ fi a,aJ (fun n=>X n fi a) (Y fi a)) {σ:St} {o:Oper} {k:Nat→St→Option R} {k':St→Option R} (h:∀ σ,aJ (fun n=>k n σ) (k' σ)):aJ (fun n=>vJ Tb (X n) N all σ o (k n)) (vJ Tb Y N all σ o k') :=
 Dz hs hX fun σ rc a b=>h _
theorem xE {σ:St} {o:Oper} {ch:aI} {k:Nat→St→Option R} {k':St→Option R} (h:∀ σ,aJ (fun n=>k n σ) (k' σ)):aJ (fun n=>wd N σ o ch (k n)) (wd N σ o ch k'):=.cnd (h _) (.const none)
theorem IC (hs:iz Tb) (hX:∀ fi a,aJ (fun n=>X n fi a) (Y fi a)):∀ {l:List Oper} {σ:St} {k:Nat→St→Option R} {k':St→Option R},(∀ σ,aJ (fun n=>k n σ) (k' σ))→aJ (fun n=>lX Tb (X n) N all l σ (k n)) (lX Tb Y N all l σ k')
 | [],σ,k,k',h=>h _
 | o :: l,σ,k,k',h=>by
  unfold lX
  have rec_:∀ σ',aJ (fun n=>lX Tb (X n) N all l σ' (k n)) (lX Tb Y N all l σ' k'):=fun σ'=>IC hs hX h
  split
  ·exact yf hs hX rec_
  ·split
   ·refine .cnd ?_ (.const none)
    split
    ·exact .cnd (.cnd (.cnd (yf hs hX rec_) (xE rec_)) (.cnd (xE rec_) (yf hs hX rec_))) (xE rec_)
    ·exact .const none
   ·exact .const none
theorem Mx {l:List Nat} {f:Nat→Nat→Option R} {f':Nat→Option R} (h:∀ p,aJ (fun n=>f n p) (f' p)):aJ (fun n=>rV l (f n)) (rV l f'):=by
 refine ⟨fun n r hr m hm=>?_,fun r hr=>?_,fun n r hr=>?_⟩
 ·obtain ⟨h1,h2⟩:=pK hr
  exact vS h1 fun p hp=>(h p).mono n r (h2 p hp) m hm
 ·obtain ⟨h1,h2⟩:=pK hr
  have key:∀ l:List Nat,(∀ p∈l,f' p = some r)→∃ n, ∀ p∈l,f n p = some r:=by
   intro l
   induction l with
   | nil=>exact fun _=>⟨0,by simp⟩
   | cons q l ih =>
    intro hl
    obtain ⟨n1,g1⟩:=(h q).to r (hl q (by simp))
    obtain ⟨n2,g2⟩:=ih fun p hp=>hl p (by simp [hp])
    refine ⟨max n1 n2,fun p hp=>?_⟩
    rcases List.mem_cons.1 hp with rfl | hp
    ·exact (h p).mono n1 r g1 _ (Nat.le_max_left _ _)
    ·exact (h p).mono n2 r (g2 p hp) _ (Nat.le_max_right _ _)
  obtain ⟨n,hn⟩:=key l h2
  exact ⟨n,vS h1 hn⟩
 ·obtain ⟨h1,h2⟩:=pK hr
  exact vS h1 fun p hp=>(h p).of n r (h2 p hp)
theorem Mm {σ:St} {o:Oper} {x:Operand} {k:Nat→St→Option R} {k':St→Option R} (h:∀ σ,aJ (fun n=>k n σ) (k' σ)):aJ (fun n=>zh N σ o x (k n)) (zh N σ o x k'):=by
 unfold zh
 refine .cnd ?_ (.const none)
 split
 ·split
  ·refine .cnd ?_ (.const none)
   split
   ·exact .cnd (.gL (.cnd (h _) (Mx fun p=>h _))) (.const none)
   ·exact .const none
  ·exact .const none
 ·exact .const none
theorem On (hs:iz Tb) (hX:∀ fi a,aJ (fun n=>X n fi a) (Y fi a)) {ops:Array Oper} {dr:Bool} {σ:St} {k:Nat→St→Option R} {k':St→Option R} (h:∀ σ,aJ (fun n=>k n σ) (k' σ)):aJ (fun n=>o9 Tb (X n) N ops dr σ (k n)) (o9 Tb Y N ops dr σ k') :=
 .cnd (Hz hs hX fun rs σ=>.cnd (h σ) (.const none)) (by
  split
  ·exact Mm fun σ=>Ec hs hX h
  ·exact .cnd (IC hs hX h) (Ec hs hX h))
variable {J:Nat→(π:Nat)→(T:Tm)→HP T.tys→Option R} {L:(π:Nat)→(T:Tm)→HP T.tys→Option R} {cuts:List (Nat × Tm)} {hd:List (Nat × CJ)}
theorem wZ {π:Nat} (hJ:∀ π T s,aJ (fun n=>J n π T s) (L π T s)) {T:Tm} {σ:St}:aJ (fun n=>kP (J n π) T σ) (kP (L π) T σ):=(aJ.const (xQ T σ)).bind fun s=>hJ π T s
theorem Hl (hJ:∀ π T s,aJ (fun n=>J n π T s) (L π T s)) {π:Nat} {go:Nat→St→Option R} {go':St→Option R} (hg:∀ σ,aJ (fun n=>go n σ) (go' σ)) {κ:Nat→KX R} {κ':KX R} (hκ:∀ e σ,aJ (fun n=>κ n e σ) (κ' e σ)) (e:Exit) (σ:St) :
  aJ (fun n=>Hc (J n) cuts π (go n) (κ n) e σ) (Hc L cuts π go' κ' e σ):=by
 cases e with
 | normal =>
  show aJ (fun n=>match cA cuts π with | some T=>kP (J n π) T σ | none=>go n σ) (match cA cuts π with | some T=>kP (L π) T σ | none=>go' σ)
  cases cA cuts π with
  | some T=>exact wZ hJ
  | none=>exact hg σ
 | exit id=>exact hκ _ σ
 | goto l=>exact hκ _ σ
 | ret=>exact hκ _ σ
 | panic c=>exact hκ _ σ
 | outgrown=>exact hκ _ σ
theorem Fp (hJ:∀ π T s,aJ (fun n=>J n π T s) (L π T s)) {π:Nat} {κ:Nat→KX R} {κ':KX R} (hκ:∀ e σ,aJ (fun n=>κ n e σ) (κ' e σ)) (e:Exit) (σ:St):aJ (fun n=>yV (J n) cuts π (κ n) e σ) (yV L cuts π κ' e σ):=by
 cases e with
 | normal =>
  show aJ (fun n=>match cA cuts π with | some T=>kP (J n π) T σ | none=>none) (match cA cuts π with | some T=>kP (L π) T σ | none=>none)
  cases cA cuts π with
  | some T=>exact wZ hJ
  | none=>exact .const none
 | exit id=>exact hκ _ σ
 | goto l=>exact hκ _ σ
 | ret=>exact hκ _ σ
 | panic c=>exact hκ _ σ
 | outgrown=>exact hκ _ σ
theorem Cu {id:Nat} {κ:Nat→KX R} {κ':KX R} (hκ:∀ e σ,aJ (fun n=>κ n e σ) (κ' e σ)) (e:Exit) (σ:St):aJ (fun n=>oQ id (κ n) e σ) (oQ id κ' e σ):=by
 cases e with
 | exit id'=>exact .cnd (hκ _ σ) (hκ _ σ)
 | normal=>exact hκ _ σ
 | goto l=>exact hκ _ σ
 | ret=>exact hκ _ σ
 | panic c=>exact hκ _ σ
 | outgrown=>exact hκ _ σ
theorem II (hs:iz Tb) (hX:∀ fi a,aJ (fun n=>X n fi a) (Y fi a)) (hJ:∀ π T s,aJ (fun n=>J n π T s) (L π T s)):∀ (c:Code) {π:Nat} {κ:Nat→KX R} {κ':KX R},(∀ e σ,aJ (fun n=>κ n e σ) (κ' e σ))→∀ σ,
  aJ (fun n=>xe Tb (X n) N (J n) cuts hd c π (κ n) σ) (xe Tb Y N L cuts hd c π κ' σ):=by
 intro c
 induction c with
 | skip=>exact fun h σ=>h _ σ
 | label l=>exact fun h σ=>h _ σ
 | region id ops dr=>exact fun h σ=>On hs hX fun σ=>h _ σ
 | seq x y ihx ihy=>exact fun h σ=>ihx (fun e σ=>Hl hJ (fun σ=>ihy h σ) h e σ) σ
 | cond c x y ihx ihy =>
  intro π κ κ' h σ
  unfold xe
  split
  ·exact .cnd (ihx h σ) (ihy h σ)
  ·exact .const none
 | block id x ih =>
  intro π κ κ' h σ
  unfold xe
  split
  ·exact (aJ.const _).bind fun y=>h _ _
  ·exact ih (fun e σ=>Cu h e σ) σ
 | exit id=>exact fun h σ=>h _ σ
 | ret=>exact fun h σ=>h _ σ
 | loop x ih =>
  intro π κ κ' h σ
  unfold xe
  split
  ·exact wZ hJ
  ·exact .const none
 | rangeFunc f params assign body=>exact fun h σ=>.const none
 | scope body=>exact fun h σ=>.const none
 | goto l=>exact fun h σ=>.const none
 | refuse why=>exact fun h σ=>.const none
theorem th (hs:iz Tb) (hX:∀ fi a,aJ (fun n=>X n fi a) (Y fi a)) (hJ:∀ π T s,aJ (fun n=>J n π T s) (L π T s)):∀ (b:List Bool) (c:Code) {π:Nat} {κ:Nat→KX R} {κ':KX R},(∀ e σ,aJ (fun n=>κ n e σ) (κ' e σ))→∀ σ,
  aJ (fun n=>O4 (Ab Tb (X n) N (J n) cuts hd b c π (κ n)) σ) (O4 (Ab Tb Y N L cuts hd b c π κ') σ)
 | [],c,π,κ,κ',h,σ=>by
  cases c <;> first | exact II hs hX hJ _ h σ | exact II hs hX hJ _ (Fp hJ h) σ
 | b :: r,c,π,κ,κ',h,σ=>by
  cases c <;> cases b <;> first | exact .const none | exact th hs hX hJ r _ h σ | exact th hs hX hJ r _ (fun e σ=>Hl hJ (fun σ=>II hs hX hJ _ h σ) h e σ) σ | exact th hs hX hJ r _ (Cu h) σ | exact th hs hX hJ r _ (Fp hJ h) σ
end
open Classical in
noncomputable def Xf (Tb:iW):JT:=fun fi π T s=>if h:∃ n r,Jn Tb n fi π T s = some r then some h.choose_spec.choose else none
section
variable {Tb:iW}
theorem Ks (n:Nat) (fi:FI) (π:Nat) (T:Tm) (s:HP T.tys):Jn Tb (n+1) fi π T s = yQ Tb (Jn Tb n) fi π T s:=by rw [Jn]
theorem Fg (hs:iz Tb) {J:Nat→JT} {L:JT} (hJ:∀ fi π T s,aJ (fun n=>J n fi π T s) (L fi π T s)) (fi:FI) (π:Nat) (T:Tm) (s:HP T.tys):aJ (fun n=>yQ Tb (J n) fi π T s) (yQ Tb L fi π T s) :=
 .cnd (th hs (X:=fun n fi a=>J n fi 1 fi.ins a) (Y:=fun fi a=>L fi 1 fi.ins a) (J:=fun n=>J n fi) (L:=L fi) (fun fi a=>hJ fi 1 fi.ins a) (hJ fi) (iM π) fi.c (κ:=fun _=>xZ Tb.P fi) (κ':=xZ Tb.P fi) (fun e σ=>.const _) (na T s)) (.const none)
theorem AS (hs:iz Tb):∀ (n:Nat) (fi:FI) (π:Nat) (T:Tm) (s:HP T.tys) (r:HP fi.out.tys),Jn Tb n fi π T s = some r→Jn Tb (n+1) fi π T s = some r
 | 0,fi,π,T,s,r,h=>by simp [Jn] at h
 | n+1,fi,π,T,s,r,h=>by
  have key:∀ fi π T s,aJ (fun k=>match k with | 0=>Jn Tb n fi π T s | _+1=>Jn Tb (n+1) fi π T s) (Jn Tb (n+1) fi π T s):=fun fi π T s =>
   ⟨fun k r hk m hm=>by
    match k,m with
    | 0,0=>exact hk
    | 0,m+1=>exact AS hs n fi π T s r hk
    | k+1,m+1=>exact hk,fun r hr=>⟨1,hr⟩,fun k r hk=>by
    match k with
    | 0=>exact AS hs n fi π T s r hk
    | k+1=>exact hk⟩
  have:=Fg hs (J:=fun k fi π T s=>match k with | 0=>Jn Tb n fi π T s | _+1=>Jn Tb (n+1) fi π T s) key fi π T s
  rw [Ks] at h ⊢
  exact this.of 0 r h
theorem IW (hs:iz Tb) (fi:FI) (π:Nat) (T:Tm) (s:HP T.tys):aJ (fun n=>Jn Tb n fi π T s) (Xf Tb fi π T s):=by
 have mono:∀ n r,Jn Tb n fi π T s = some r→∀ m,n≤m→Jn Tb m fi π T s = some r:=by
  intro n r h m hm
  induction m with
  | zero =>
   have:n = 0:=by omega
   subst this;exact h
  | succ m ih =>
   by_cases e:n = m+1
   ·subst e;exact h
   ·exact AS hs m fi π T s r (ih (by omega))
 refine ⟨mono,fun r hr=>?_,fun n r hr=>?_⟩
 ·unfold Xf at hr
  split at hr
  ·next h=>cases hr;exact ⟨h.choose,h.choose_spec.choose_spec⟩
  ·cases hr
 ·unfold Xf
  have h:∃ n r,Jn Tb n fi π T s = some r:=⟨n,r,hr⟩
  rw [dif_pos h]
  have h1:=h.choose_spec.choose_spec
  have h2:=mono _ _ h1 (max n h.choose) (Nat.le_max_right _ _)
  rw [mono _ _ hr (max n h.choose) (Nat.le_max_left _ _)] at h2
  exact h2.symm
theorem ah (hs:iz Tb) (fi:FI) (π:Nat) (T:Tm) (s:HP T.tys):Xf Tb fi π T s = yQ Tb (Xf Tb) fi π T s :=
 ((IW hs fi π T s).shift).uniq (by simpa only [Ks] using Fg hs (J:=Jn Tb) (fun fi π T s=>IW hs fi π T s) fi π T s)
noncomputable abbrev Xc (Tb:iW):XT:=fun fi a=>Xf Tb fi 1 fi.ins a
theorem Oy (hT:zl Tb) (hs:iz Tb) (f:FuncId):aQ Tb.P f (et Tb (Xc Tb) f):=by
 have hX:∀ fi a,aJ (fun n=>Xn Tb n fi a) (Xc Tb fi a):=fun fi a=>IW hs fi 1 fi.ins a
 have hm:∀ n,aQ Tb.P f (et Tb (Xn Tb n) f):=fun n=>PJ.meets hT (Rb hT n) f
 unfold et at hm ⊢
 cases hl:cA Tb.fs f with
 | some l =>
  rw [hl] at hm
  simp only at hm ⊢
  cases hg:DA l with
  | true =>
   rw [hg] at hm
   simp only [cond_true] at hm ⊢
   intro E w H nid xs args r h1 h2 h3 h4 h5
   obtain ⟨n,hn⟩:=(xH (R:=av) hX (k:=fun _=>some) (k':=some) (fun r=>.const (some r)) l).to r h4
   exact hm n E w H nid xs args r h1 h2 h3 hn h5
  | false =>
   rw [hg] at hm
   simp only [cond_false] at hm ⊢
   intro ok w xs vs p out h1 h2 h3 h4
   cases hk:gZ (Xc Tb) vs some l with
   | none=>simp only [hk] at h3;cases h3
   | some o =>
    simp only [hk] at h3;cases h3
    obtain ⟨n,hn⟩:=(x7 (R:=js) hX (k:=fun _=>some) (k':=some) (fun r=>.const (some r)) l).to _ hk
    exact hm n ok w xs vs true out h1 h2 (by simp only [hn];rfl) rfl
 | none =>
  rw [hl] at hm
  simp only at hm ⊢
  have h:=hs.lim f
  cases hsp:Tb.sp f with
  | none=>rw [hsp] at hm;exact hm 0
  | hand fi hd =>
   rw [hsp] at hm h
   simp only at hm ⊢
   cases hg:fi.out.isGen with
   | true =>
    rw [hg] at hm
    simp only [cond_true] at hm ⊢
    intro E w H nid xs args r h1 h2 h3 h4 h5
    obtain ⟨n,hn⟩:=(Fy (R:=av) (fun a=>h (fun n=>Xn Tb n) (Xc Tb) hX a) (k:=fun _=>some) (k':=some) (fun r=>.const (some r))).to r h4
    exact hm n E w H nid xs args r h1 h2 h3 hn h5
   | false =>
    rw [hg] at hm
    simp only [cond_false] at hm ⊢
    intro ok w xs vs p out h1 h2 h3 h4
    cases hk:lT fi (hd (Xc Tb)) vs some with
    | none=>simp only [hk] at h3;cases h3
    | some o =>
     simp only [hk] at h3;cases h3
     obtain ⟨n,hn⟩:=(F1 (R:=js) (fun a=>h (fun n=>Xn Tb n) (Xc Tb) hX a) (k:=fun _=>some) (k':=some) (fun r=>.const (some r))).to _ hk
     exact hm n ok w xs vs true out h1 h2 (by simp only [hn];rfl) rfl
  | «mut» m =>
   rw [hsp] at hm h
   simp only at hm ⊢
   intro E w H nid xs args r h1 h2 h3 h4 h5
   obtain ⟨n,hn⟩:=(h (fun n=>Xn Tb n) (Xc Tb) hX (aY (aC H args) H) nid args).to r h4
   exact hm n E w H nid xs args r h1 h2 h3 hn h5
end
end Go.Ax
