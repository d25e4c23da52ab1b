import Derived.Test.YtokecajedkojlaaGreatZB9
set_option linter.all false
/- Functions for good: the limit of functions of ever more steps, and its equation. -/
namespace Go.Ax
open Go.RowKit
structure aM {α:Type} (f:Nat→Option α) (o:Option α):Prop where
  mono:∀ n r,f n = some r→∀ m,n≤m→f m = some r
  to:∀ r,o = some r→∃ n,f n = some r
  of:∀ n r,f n = some r→o = some r
namespace aM
variable {α β:Type} {f g:Nat→Option α} {o o':Option α}
theorem const (o:Option α):aM (fun _=>o) o:=⟨fun _ _ h _ _=>h,fun _ h=>⟨0,h⟩,fun _ _ h=>h⟩
theorem uniq (h:aM f o) (h':aM f o'):o = o':=by
  cases ho:o with
  | some r =>
    obtain ⟨n,hn⟩:=h.to r ho
    exact (h'.of n r hn).symm
  | none =>
    cases ho':o' with
    | none=>rfl
    | some r =>
      obtain ⟨n,hn⟩:=h'.to r ho'
      rw [h.of n r hn] at ho; cases ho
theorem cnd {b:Bool} (h:aM f o) (h':aM g o'):aM (fun n=>bif b then f n else g n) (bif b then o else o'):=by
  cases b
  · exact h'
  · exact h
theorem bind {k:Nat→α→Option β} {k':α→Option β} (h:aM f o) (hk:∀ a,aM (fun n=>k n a) (k' a)):aM (fun n=>(f n).bind (k n)) (o.bind k'):=by
  refine ⟨fun n r hr m hm=>?_,fun r hr=>?_,fun n r hr=>?_⟩
  · obtain ⟨a,h1,h2⟩:=Option.bind_eq_some_iff.1 hr
    exact Option.bind_eq_some_iff.2 ⟨a,h.mono n a h1 m hm,(hk a).mono n r h2 m hm⟩
  · obtain ⟨a,h1,h2⟩:=Option.bind_eq_some_iff.1 hr
    obtain ⟨n1,g1⟩:=h.to a h1
    obtain ⟨n2,g2⟩:=(hk a).to r h2
    exact ⟨max n1 n2,Option.bind_eq_some_iff.2 ⟨a,h.mono n1 a g1 _ (Nat.le_max_left _ _),(hk a).mono n2 r g2 _ (Nat.le_max_right _ _)⟩⟩
  · obtain ⟨a,h1,h2⟩:=Option.bind_eq_some_iff.1 hr
    exact Option.bind_eq_some_iff.2 ⟨a,h.of n a h1,(hk a).of n r h2⟩
theorem gL {l:List Bool} (h:aM f o):aM (fun n=>Go.Ax.gL l (f n)) (Go.Ax.gL l o):=by
  induction l with
  | nil=>exact h
  | cons b l ih=>exact aM.cnd ih (const none)
theorem shift (h:aM f o):aM (fun n=>f (n+1)) o:=⟨fun n r hr m hm=>h.mono _ r hr _ (by omega),fun r hr=>by
  obtain ⟨n,hn⟩:=h.to r hr
  exact ⟨n,h.mono n r hn _ (by omega)⟩,fun n r hr=>h.of _ r hr⟩
end aM
def yB:Sp→Prop
  | .none=>True
  | .hand fi h=>∀ (X:Nat→XT) (Y:XT),(∀ fi a,aM (fun n=>X n fi a) (Y fi a))→∀ a,aM (fun n=>h (X n) a) (h Y a)
  | .mut m=>∀ (X:Nat→XT) (Y:XT),(∀ fi a,aM (fun n=>X n fi a) (Y fi a))→∀ H nid vs,aM (fun n=>m (X n) H nid vs) (m Y H nid vs)
structure jr (Tb:kM):Prop where
  lim:∀ f,yB (Tb.sp f)
section
variable {R:Type} {Tb:kM} {N:Nat} {all:List Oper} {X:Nat→XT} {Y:XT}
theorem BV (hX:∀ fi a,aM (fun n=>X n fi a) (Y fi a)) {vs:List V} {k:Nat→kQ→Option R} {k':kQ→Option R} (hk:∀ o,aM (fun n=>k n o) (k' o)):∀ l:List FI,aM (fun n=>iY (X n) vs (k n) l) (iY Y vs k' l)
  | []=>.const none
  | fi :: r=>by
    unfold iY
    cases BX fi vs with
    | some a=>exact (hX fi a).bind fun y=>hk _
    | none=>exact BV hX hk r
theorem DQ {T:Tm} {xs:List TV} {H:ak} {nid:Nat} {args:List V} {k:Nat→aA→Option R} {k':aA→Option R} (hk:∀ r,aM (fun n=>k n r) (k' r)):aM (fun n=>kz T xs H nid args (k n)) (kz T xs H nid args k'):=by
  unfold kz
  split
  · exact .cnd (hk _) (.const none)
  · exact .const none
theorem Mo {H:ak} {nid:Nat} {args:List V} {k:Nat→aA→Option R} {k':aA→Option R} (hk:∀ r,aM (fun n=>k n r) (k' r)) (o:dc) (y:HP o.tys):aM (fun n=>ld o y H nid args (k n)) (ld o y H nid args k'):=by
  unfold ld
  split
  · exact DQ hk
  · split
    · exact .cnd (DQ hk) (DQ hk)
    · exact .const none
  · exact .const none
theorem A9 (hX:∀ fi a,aM (fun n=>X n fi a) (Y fi a)) {H:ak} {nid:Nat} {args:List V} {k:Nat→aA→Option R} {k':aA→Option R} (hk:∀ r,aM (fun n=>k n r) (k' r)):∀ l:List FI,aM (fun n=>ko (X n) H nid args (k n) l) (ko Y H nid args k' l)
  | []=>.const none
  | fi :: r=>by
    unfold ko
    cases rdG fi H args with
    | some a=>exact (hX fi a).bind fun y=>Mo hk _ _
    | none=>exact A9 hX hk r
theorem SN {H:ak} {nid:Nat} {args:List V} {k:Nat→aA→Option R} {k':aA→Option R} (hk:∀ r,aM (fun n=>k n r) (k' r)) (out:kQ):aM (fun n=>match tV H nid args out with | some r=>k n r | none=>none) (match tV H nid args out with | some r=>k' r | none=>none):=by
  cases tV H nid args out with
  | some r=>exact hk r
  | none=>exact .const none
theorem JA {fi:FI} {h:Nat→HP fi.ins.tys→Option (HP fi.out.tys)} {h':HP fi.ins.tys→Option (HP fi.out.tys)} (hh:∀ a,aM (fun n=>h n a) (h' a)) {H:ak} {nid:Nat} {args:List V} {k:Nat→aA→Option R} {k':aA→Option R} (hk:∀ r,aM (fun n=>k n r) (k' r)):aM (fun n=>oa fi (h n) H nid args (k n)) (oa fi h' H nid args k'):=by
  unfold oa
  cases rdG fi H args with
  | some a=>exact (hh a).bind fun y=>Mo hk _ _
  | none=>exact .const none
theorem JH {fi:FI} {h:Nat→HP fi.ins.tys→Option (HP fi.out.tys)} {h':HP fi.ins.tys→Option (HP fi.out.tys)} (hh:∀ a,aM (fun n=>h n a) (h' a)) {vs:List V} {k:Nat→kQ→Option R} {k':kQ→Option R} (hk:∀ o,aM (fun n=>k n o) (k' o)):aM (fun n=>nT fi (h n) vs (k n)) (nT fi h' vs k'):=by
  unfold nT
  cases BX fi vs with
  | some a=>exact (hh a).bind fun y=>hk _
  | none=>exact .const none
theorem Ke (hs:jr Tb) (hX:∀ fi a,aM (fun n=>X n fi a) (Y fi a)) {f:FuncId} {H:ak} {nid:Nat} {args:List V} {k:Nat→aA→Option R} {k':aA→Option R} (hk:∀ r,aM (fun n=>k n r) (k' r)):aM (fun n=>zj Tb (X n) f H nid args (k n)) (zj Tb Y f H nid args k'):=by
  unfold zj
  cases dB Tb.fs f with
  | some l =>
    simp only [QA]
    exact .cnd (A9 hX hk l) (BV hX (fun out=>SN hk out) l)
  | none =>
    have h:=hs.lim f
    cases hsp:Tb.sp f with
    | none=>exact .const none
    | hand fi hd=>rw [hsp] at h; exact .cnd (JA (fun a=>h X Y hX a) hk) (JH (fun a=>h X Y hX a) fun out=>SN hk out)
    | «mut» m=>rw [hsp] at h; exact (h X Y hX _ _ _).bind fun r=>(hk r).gL
theorem wI:∀ {ch:aJ} {σ:St} {k:Nat→St→Option R} {k':St→Option R},(∀ σ,aM (fun n=>k n σ) (k' σ))→aM (fun n=>oL ch σ (k n)) (oL ch σ k')
  | [],σ,k,k',h=>h σ
  | (t,w) :: r,σ,k,k',h=>by
    unfold oL
    split
    · exact .cnd (wI h) (wI h)
    · exact .const none
theorem I2 (hs:jr Tb) (hX:∀ fi a,aM (fun n=>X n fi a) (Y fi a)) {σ:St} {nid:Nat} {o:Oper} {fT fF:List FuncId} {k:Nat→St→cd→List FuncId→List FuncId→Option R} {k':St→cd→List FuncId→List FuncId→Option R}
    (hk:∀ σ rc a b,aM (fun n=>k n σ rc a b) (k' σ rc a b)):aM (fun n=>Km Tb (X n) N all σ nid o fT fF (k n)) (Km Tb Y N all σ nid o fT fF k'):=by
  unfold Km
  refine .cnd (.cnd ?_ (.const none)) ?_
  · split
    · refine .cnd (wI fun σ=>?_) (.const none)
      split
      · split
        · refine .cnd (.cnd (.const none) (Ke hs hX fun r=>.cnd (hk _ _ _ _) (.const none))) (.cnd (Ke hs hX fun r=>.cnd (hk _ _ _ _) (.const none)) (.cnd (hk _ _ _ _) (.const none)))
        · exact .const none
      · exact .const none
    · exact .const none
  · split
    · exact (hk _ _ _ _).gL
    · exact .const none
theorem Pt (hs:jr Tb) (hX:∀ fi a,aM (fun n=>X n fi a) (Y fi a)):∀ {l:List Oper} {σ:St} {fT fF:List FuncId} {k:Nat→St→Option R} {k':St→Option R},(∀ σ,aM (fun n=>k n σ) (k' σ))→aM (fun n=>M3 Tb (X n) N all l σ fT fF (k n)) (M3 Tb Y N all l σ fT fF k')
  | [],σ,fT,fF,k,k',h=>h _
  | o :: l,σ,fT,fF,k,k',h=>by
    unfold M3
    exact I2 hs hX fun σ rc a b=>Pt hs hX h
theorem Ol (hs:jr Tb) (hX:∀ fi a,aM (fun n=>X n fi a) (Y fi a)):∀ {l:List Oper} {nid:Nat} {σ:St} {fT fF:List FuncId} {rcs:List cd} {k:Nat→List cd→St→Option R} {k':List cd→St→Option R},(∀ rs σ,aM (fun n=>k n rs σ) (k' rs σ)) →
    aM (fun n=>EE Tb (X n) N all l nid σ fT fF rcs (k n)) (EE Tb Y N all l nid σ fT fF rcs k')
  | [],nid,σ,fT,fF,rcs,k,k',h=>h _ _
  | o :: l,nid,σ,fT,fF,rcs,k,k',h=>by
    unfold EE
    exact I2 hs hX fun σ rc a b=>Ol hs hX h
theorem AV (hs:jr Tb) (hX:∀ fi a,aM (fun n=>X n fi a) (Y fi a)) {σ:St} {o:Oper} {k:Nat→St→Option R} {k':St→Option R} (h:∀ σ,aM (fun n=>k n σ) (k' σ)):aM (fun n=>z7 Tb (X n) N all σ o (k n)) (z7 Tb Y N all σ o k') :=
  I2 hs hX fun σ rc a b=>h _
theorem Cp {σ:St} {o:Oper} {ch:aJ} {k:Nat→St→Option R} {k':St→Option R} (h:∀ σ,aM (fun n=>k n σ) (k' σ)):aM (fun n=>zh N σ o ch (k n)) (zh N σ o ch k'):=.cnd (h _) (.const none)
theorem Mc (hs:jr Tb) (hX:∀ fi a,aM (fun n=>X n fi a) (Y fi a)):∀ {l:List Oper} {σ:St} {k:Nat→St→Option R} {k':St→Option R},(∀ σ,aM (fun n=>k n σ) (k' σ))→aM (fun n=>ou Tb (X n) N all l σ (k n)) (ou Tb Y N all l σ k')
  | [],σ,k,k',h=>h _
  | o :: l,σ,k,k',h=>by
    unfold ou
    have rec_:∀ σ',aM (fun n=>ou Tb (X n) N all l σ' (k n)) (ou Tb Y N all l σ' k'):=fun σ'=>Mc hs hX h
    split
    · exact AV hs hX rec_
    · split
      · refine .cnd ?_ (.const none)
        split
        · exact .cnd (.cnd (.cnd (AV hs hX rec_) (Cp rec_)) (.cnd (Cp rec_) (AV hs hX rec_))) (Cp rec_)
        · exact .const none
      · exact .const none
theorem T8 (hs:jr Tb) (hX:∀ fi a,aM (fun n=>X n fi a) (Y fi a)) {ops:Array Oper} {dr:Bool} {σ:St} {k:Nat→St→Option R} {k':St→Option R} (h:∀ σ,aM (fun n=>k n σ) (k' σ)):aM (fun n=>Nc Tb (X n) N ops dr σ (k n)) (Nc Tb Y N ops dr σ k') :=
  .cnd (Ol hs hX fun rs σ=>.cnd (h σ) (.const none)) (.cnd (Mc hs hX h) (Pt hs hX h))
variable {J:Nat→(π:Nat)→(T:Tm)→HP T.tys→Option R} {L:(π:Nat)→(T:Tm)→HP T.tys→Option R} {cuts:List (Nat × Tm)}
theorem A0 {π:Nat} (hJ:∀ π T s,aM (fun n=>J n π T s) (L π T s)) {T:Tm} {σ:St}:aM (fun n=>mw (J n π) T σ) (mw (L π) T σ):=(aM.const (Gn T σ)).bind fun s=>hJ π T s
theorem NS (hJ:∀ π T s,aM (fun n=>J n π T s) (L π T s)) {π:Nat} {go:Nat→St→Option R} {go':St→Option R} (hg:∀ σ,aM (fun n=>go n σ) (go' σ)) {κ:Nat→KX R} {κ':KX R} (hκ:∀ e σ,aM (fun n=>κ n e σ) (κ' e σ)) (e:Exit) (σ:St) :
    aM (fun n=>LO (J n) cuts π (go n) (κ n) e σ) (LO L cuts π go' κ' e σ):=by
  cases e with
  | normal =>
    show aM (fun n=>match dB cuts π with | some T=>mw (J n π) T σ | none=>go n σ) (match dB cuts π with | some T=>mw (L π) T σ | none=>go' σ)
    cases dB cuts π with
    | some T=>exact A0 hJ
    | none=>exact hg σ
  | exit id=>exact hκ _ σ
  | goto l=>exact hκ _ σ
  | ret=>exact hκ _ σ
  | panic c=>exact hκ _ σ
  | outgrown=>exact hκ _ σ
theorem Ki (hJ:∀ π T s,aM (fun n=>J n π T s) (L π T s)) {π:Nat} {κ:Nat→KX R} {κ':KX R} (hκ:∀ e σ,aM (fun n=>κ n e σ) (κ' e σ)) (e:Exit) (σ:St):aM (fun n=>Ct (J n) cuts π (κ n) e σ) (Ct L cuts π κ' e σ):=by
  cases e with
  | normal =>
    show aM (fun n=>match dB cuts π with | some T=>mw (J n π) T σ | none=>none) (match dB cuts π with | some T=>mw (L π) T σ | none=>none)
    cases dB cuts π with
    | some T=>exact A0 hJ
    | none=>exact .const none
  | exit id=>exact hκ _ σ
  | goto l=>exact hκ _ σ
  | ret=>exact hκ _ σ
  | panic c=>exact hκ _ σ
  | outgrown=>exact hκ _ σ
theorem FN {id:Nat} {κ:Nat→KX R} {κ':KX R} (hκ:∀ e σ,aM (fun n=>κ n e σ) (κ' e σ)) (e:Exit) (σ:St):aM (fun n=>uB id (κ n) e σ) (uB id κ' e σ):=by
  cases e with
  | exit id'=>exact .cnd (hκ _ σ) (hκ _ σ)
  | normal=>exact hκ _ σ
  | goto l=>exact hκ _ σ
  | ret=>exact hκ _ σ
  | panic c=>exact hκ _ σ
  | outgrown=>exact hκ _ σ
theorem N2 (hs:jr Tb) (hX:∀ fi a,aM (fun n=>X n fi a) (Y fi a)) (hJ:∀ π T s,aM (fun n=>J n π T s) (L π T s)):∀ (c:Code) {π:Nat} {κ:Nat→KX R} {κ':KX R},(∀ e σ,aM (fun n=>κ n e σ) (κ' e σ))→∀ σ,
    aM (fun n=>xe Tb (X n) N (J n) cuts c π (κ n) σ) (xe Tb Y N L cuts c π κ' σ):=by
  intro c
  induction c with
  | skip=>exact fun h σ=>h _ σ
  | label l=>exact fun h σ=>h _ σ
  | region id ops dr=>exact fun h σ=>T8 hs hX fun σ=>h _ σ
  | seq x y ihx ihy=>exact fun h σ=>ihx (fun e σ=>NS hJ (fun σ=>ihy h σ) h e σ) σ
  | cond c x y ihx ihy =>
    intro π κ κ' h σ
    unfold xe
    split
    · exact .cnd (ihx h σ) (ihy h σ)
    · exact .const none
  | block id x ih=>exact fun h σ=>ih (fun e σ=>FN h e σ) σ
  | exit id=>exact fun h σ=>h _ σ
  | ret=>exact fun h σ=>h _ σ
  | loop x ih =>
    intro π κ κ' h σ
    unfold xe
    split
    · exact A0 hJ
    · exact .const none
  | rangeFunc f params assign body=>exact fun h σ=>.const none
  | scope body=>exact fun h σ=>.const none
  | goto l=>exact fun h σ=>.const none
  | refuse why=>exact fun h σ=>.const none
theorem x7 (hs:jr Tb) (hX:∀ fi a,aM (fun n=>X n fi a) (Y fi a)) (hJ:∀ π T s,aM (fun n=>J n π T s) (L π T s)):∀ (b:List Bool) (c:Code) {π:Nat} {κ:Nat→KX R} {κ':KX R},(∀ e σ,aM (fun n=>κ n e σ) (κ' e σ))→∀ σ,
    aM (fun n=>TX (Dl Tb (X n) N (J n) cuts b c π (κ n)) σ) (TX (Dl Tb Y N L cuts b c π κ') σ)
  | [],c,π,κ,κ',h,σ=>by
    cases c <;> first | exact N2 hs hX hJ _ h σ | exact N2 hs hX hJ _ (Ki hJ h) σ
  | b :: r,c,π,κ,κ',h,σ=>by
    cases c <;> cases b <;> first | exact .const none | exact x7 hs hX hJ r _ h σ | exact x7 hs hX hJ r _ (fun e σ=>NS hJ (fun σ=>N2 hs hX hJ _ h σ) h e σ) σ | exact x7 hs hX hJ r _ (FN h) σ | exact x7 hs hX hJ r _ (Ki hJ h) σ
end
open Classical in
noncomputable def Xf (Tb:kM):JT:=fun fi π T s=>if h:∃ n r,Jn Tb n fi π T s = some r then some h.choose_spec.choose else none
section
variable {Tb:kM}
theorem Qa (n:Nat) (fi:FI) (π:Nat) (T:Tm) (s:HP T.tys):Jn Tb (n+1) fi π T s = CK Tb (Jn Tb n) fi π T s:=by rw [Jn]
theorem Kn (hs:jr Tb) {J:Nat→JT} {L:JT} (hJ:∀ fi π T s,aM (fun n=>J n fi π T s) (L fi π T s)) (fi:FI) (π:Nat) (T:Tm) (s:HP T.tys):aM (fun n=>CK Tb (J n) fi π T s) (CK Tb L fi π T s) :=
  .cnd (x7 hs (X:=fun n fi a=>J n fi 1 fi.ins a) (Y:=fun fi a=>L fi 1 fi.ins a) (J:=fun n=>J n fi) (L:=L fi) (fun fi a=>hJ fi 1 fi.ins a) (hJ fi) (uw π) fi.c (κ:=fun _=>Ca Tb.P fi) (κ':=Ca Tb.P fi) (fun e σ=>.const _) (Db T s)) (.const none)
theorem DZ (hs:jr Tb):∀ (n:Nat) (fi:FI) (π:Nat) (T:Tm) (s:HP T.tys) (r:HP fi.out.tys),Jn Tb n fi π T s = some r→Jn Tb (n+1) fi π T s = some r
  | 0,fi,π,T,s,r,h=>by simp [Jn] at h
  | n+1,fi,π,T,s,r,h=>by
    have key:∀ fi π T s,aM (fun k=>match k with | 0=>Jn Tb n fi π T s | _+1=>Jn Tb (n+1) fi π T s) (Jn Tb (n+1) fi π T s):=fun fi π T s =>
      ⟨fun k r hk m hm=>by
        match k,m with
        | 0,0=>exact hk
        | 0,m+1=>exact DZ hs n fi π T s r hk
        | k+1,m+1=>exact hk,fun r hr=>⟨1,hr⟩,fun k r hk=>by
        match k with
        | 0=>exact DZ hs n fi π T s r hk
        | k+1=>exact hk⟩
    have:=Kn hs (J:=fun k fi π T s=>match k with | 0=>Jn Tb n fi π T s | _+1=>Jn Tb (n+1) fi π T s) key fi π T s
    rw [Qa] at h ⊢
    exact this.of 0 r h
theorem Nt (hs:jr Tb) (fi:FI) (π:Nat) (T:Tm) (s:HP T.tys):aM (fun n=>Jn Tb n fi π T s) (Xf Tb fi π T s):=by
  have mono:∀ n r,Jn Tb n fi π T s = some r→∀ m,n≤m→Jn Tb m fi π T s = some r:=by
    intro n r h m hm
    induction m with
    | zero =>
      have:n = 0:=by omega
      subst this; exact h
    | succ m ih =>
      by_cases e:n = m+1
      · subst e; exact h
      · exact DZ hs m fi π T s r (ih (by omega))
  refine ⟨mono,fun r hr=>?_,fun n r hr=>?_⟩
  · unfold Xf at hr
    split at hr
    · next h=>cases hr; exact ⟨h.choose,h.choose_spec.choose_spec⟩
    · cases hr
  · unfold Xf
    have h:∃ n r,Jn Tb n fi π T s = some r:=⟨n,r,hr⟩
    rw [dif_pos h]
    have h1:=h.choose_spec.choose_spec
    have h2:=mono _ _ h1 (max n h.choose) (Nat.le_max_right _ _)
    rw [mono _ _ hr (max n h.choose) (Nat.le_max_left _ _)] at h2
    exact h2.symm
theorem ae (hs:jr Tb) (fi:FI) (π:Nat) (T:Tm) (s:HP T.tys):Xf Tb fi π T s = CK Tb (Xf Tb) fi π T s :=
  ((Nt hs fi π T s).shift).uniq (by simpa only [Qa] using Kn hs (J:=Jn Tb) (fun fi π T s=>Nt hs fi π T s) fi π T s)
noncomputable abbrev Xc (Tb:kM):XT:=fun fi a=>Xf Tb fi 1 fi.ins a
theorem UE (hT:CD Tb) (hs:jr Tb) (f:FuncId):bI Tb.P f (gg Tb (Xc Tb) f):=by
  have hX:∀ fi a,aM (fun n=>Xn Tb n fi a) (Xc Tb fi a):=fun fi a=>Nt hs fi 1 fi.ins a
  have hm:∀ n,bI Tb.P f (gg Tb (Xn Tb n) f):=fun n=>PJ.meets hT (WD hT n) f
  unfold gg at hm ⊢
  cases hl:dB Tb.fs f with
  | some l =>
    rw [hl] at hm
    simp only at hm ⊢
    cases hg:Ij l with
    | true =>
      rw [hg] at hm
      simp only [cond_true] at hm ⊢
      intro E w H nid xs args r h1 h2 h3 h4 h5
      obtain ⟨n,hn⟩:=(A9 (R:=aA) hX (k:=fun _=>some) (k':=some) (fun r=>.const (some r)) l).to r h4
      exact hm n E w H nid xs args r h1 h2 h3 hn h5
    | false =>
      rw [hg] at hm
      simp only [cond_false] at hm ⊢
      intro ok w xs vs p out h1 h2 h3 h4
      cases hk:iY (Xc Tb) vs some l with
      | none=>simp only [hk] at h3; cases h3
      | some o =>
        simp only [hk] at h3; cases h3
        obtain ⟨n,hn⟩:=(BV (R:=kQ) hX (k:=fun _=>some) (k':=some) (fun r=>.const (some r)) l).to _ hk
        exact hm n ok w xs vs true out h1 h2 (by simp only [hn]; rfl) rfl
  | none =>
    rw [hl] at hm
    simp only at hm ⊢
    have h:=hs.lim f
    cases hsp:Tb.sp f with
    | none=>rw [hsp] at hm; exact hm 0
    | hand fi hd =>
      rw [hsp] at hm h
      simp only at hm ⊢
      cases hg:fi.out.isGen with
      | true =>
        rw [hg] at hm
        simp only [cond_true] at hm ⊢
        intro E w H nid xs args r h1 h2 h3 h4 h5
        obtain ⟨n,hn⟩:=(JA (R:=aA) (fun a=>h (fun n=>Xn Tb n) (Xc Tb) hX a) (k:=fun _=>some) (k':=some) (fun r=>.const (some r))).to r h4
        exact hm n E w H nid xs args r h1 h2 h3 hn h5
      | false =>
        rw [hg] at hm
        simp only [cond_false] at hm ⊢
        intro ok w xs vs p out h1 h2 h3 h4
        cases hk:nT fi (hd (Xc Tb)) vs some with
        | none=>simp only [hk] at h3; cases h3
        | some o =>
          simp only [hk] at h3; cases h3
          obtain ⟨n,hn⟩:=(JH (R:=kQ) (fun a=>h (fun n=>Xn Tb n) (Xc Tb) hX a) (k:=fun _=>some) (k':=some) (fun r=>.const (some r))).to _ hk
          exact hm n ok w xs vs true out h1 h2 (by simp only [hn]; rfl) rfl
    | «mut» m =>
      rw [hsp] at hm h
      simp only at hm ⊢
      intro E w H nid xs args r h1 h2 h3 h4 h5
      obtain ⟨n,hn⟩:=(h (fun n=>Xn Tb n) (Xc Tb) hX (bD (aQ H args) H) nid args).to r h4
      exact hm n E w H nid xs args r h1 h2 h3 hn h5
end
end Go.Ax
