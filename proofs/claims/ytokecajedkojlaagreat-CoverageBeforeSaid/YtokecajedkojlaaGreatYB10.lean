import Derived.Test.YtokecajedkojlaaGreatYB9
set_option linter.all false
/- Functions for good: the limit of functions of ever more steps, and its equation. -/
namespace Go.Ax
open Go.RowKit
structure aI {α:Type} (f:Nat→Option α) (o:Option α):Prop where
  mono:∀ n r,f n = some r→∀ m,n≤m→f m = some r
  to:∀ r,o = some r→∃ n,f n = some r
  of:∀ n r,f n = some r→o = some r
namespace aI
variable {α β:Type} {f g:Nat→Option α} {o o':Option α}
theorem const (o:Option α):aI (fun _=>o) o:=⟨fun _ _ h _ _=>h,fun _ h=>⟨0,h⟩,fun _ _ h=>h⟩
theorem uniq (h:aI f o) (h':aI f o'):o = o':=by
  cases ho:o with
  | some r =>
    obtain ⟨n,hn⟩:=h.to r ho
    exact (h'.of n r hn).symm
  | none =>
    cases ho':o' with
    | none=>rfl
    | some r =>
      obtain ⟨n,hn⟩:=h'.to r ho'
      rw [h.of n r hn] at ho; cases ho
theorem cnd {b:Bool} (h:aI f o) (h':aI g o'):aI (fun n=>bif b then f n else g n) (bif b then o else o'):=by
  cases b
  · exact h'
  · exact h
theorem bind {k:Nat→α→Option β} {k':α→Option β} (h:aI f o) (hk:∀ a,aI (fun n=>k n a) (k' a)):aI (fun n=>(f n).bind (k n)) (o.bind k'):=by
  refine ⟨fun n r hr m hm=>?_,fun r hr=>?_,fun n r hr=>?_⟩
  · obtain ⟨a,h1,h2⟩:=Option.bind_eq_some_iff.1 hr
    exact Option.bind_eq_some_iff.2 ⟨a,h.mono n a h1 m hm,(hk a).mono n r h2 m hm⟩
  · obtain ⟨a,h1,h2⟩:=Option.bind_eq_some_iff.1 hr
    obtain ⟨n1,g1⟩:=h.to a h1
    obtain ⟨n2,g2⟩:=(hk a).to r h2
    exact ⟨max n1 n2,Option.bind_eq_some_iff.2 ⟨a,h.mono n1 a g1 _ (Nat.le_max_left _ _),(hk a).mono n2 r g2 _ (Nat.le_max_right _ _)⟩⟩
  · obtain ⟨a,h1,h2⟩:=Option.bind_eq_some_iff.1 hr
    exact Option.bind_eq_some_iff.2 ⟨a,h.of n a h1,(hk a).of n r h2⟩
theorem gL {l:List Bool} (h:aI f o):aI (fun n=>Go.Ax.gL l (f n)) (Go.Ax.gL l o):=by
  induction l with
  | nil=>exact h
  | cons b l ih=>exact aI.cnd ih (const none)
theorem shift (h:aI f o):aI (fun n=>f (n+1)) o:=⟨fun n r hr m hm=>h.mono _ r hr _ (by omega),fun r hr=>by
  obtain ⟨n,hn⟩:=h.to r hr
  exact ⟨n,h.mono n r hn _ (by omega)⟩,fun n r hr=>h.of _ r hr⟩
end aI
def ug:Sp→Prop
  | .none=>True
  | .hand fi h=>∀ (X:Nat→XT) (Y:XT),(∀ fi a,aI (fun n=>X n fi a) (Y fi a))→∀ a,aI (fun n=>h (X n) a) (h Y a)
  | .mut m=>∀ (X:Nat→XT) (Y:XT),(∀ fi a,aI (fun n=>X n fi a) (Y fi a))→∀ H nid vs,aI (fun n=>m (X n) H nid vs) (m Y H nid vs)
structure gG (Tb:iQ):Prop where
  lim:∀ f,ug (Tb.sp f)
section
variable {R:Type} {Tb:iQ} {N:Nat} {all:List Oper} {X:Nat→XT} {Y:XT}
theorem xr (hX:∀ fi a,aI (fun n=>X n fi a) (Y fi a)) {vs:List V} {k:Nat→i7→Option R} {k':i7→Option R} (hk:∀ o,aI (fun n=>k n o) (k' o)):∀ l:List FI,aI (fun n=>fX (X n) vs (k n) l) (fX Y vs k' l)
  | []=>.const none
  | fi :: r=>by
    unfold fX
    cases wD fi vs with
    | some a=>exact (hX fi a).bind fun y=>hk _
    | none=>exact xr hX hk r
theorem zl {T:Tm} {xs:List TV} {H:af} {nid:Nat} {args:List V} {k:Nat→aA→Option R} {k':aA→Option R} (hk:∀ r,aI (fun n=>k n r) (k' r)):aI (fun n=>im T xs H nid args (k n)) (im T xs H nid args k'):=by
  unfold im
  split
  · exact .cnd (hk _) (.const none)
  · exact .const none
theorem Hq {H:af} {nid:Nat} {args:List V} {k:Nat→aA→Option R} {k':aA→Option R} (hk:∀ r,aI (fun n=>k n r) (k' r)) (o:cG) (y:HP o.tys):aI (fun n=>jm o y H nid args (k n)) (jm o y H nid args k'):=by
  unfold jm
  split
  · exact zl hk
  · split
    · exact .cnd (zl hk) (zl hk)
    · exact .const none
  · exact .const none
theorem xt (hX:∀ fi a,aI (fun n=>X n fi a) (Y fi a)) {H:af} {nid:Nat} {args:List V} {k:Nat→aA→Option R} {k':aA→Option R} (hk:∀ r,aI (fun n=>k n r) (k' r)):∀ l:List FI,aI (fun n=>iE (X n) H nid args (k n) l) (iE Y H nid args k' l)
  | []=>.const none
  | fi :: r=>by
    unfold iE
    cases rdG fi H args with
    | some a=>exact (hX fi a).bind fun y=>Hq hk _ _
    | none=>exact xt hX hk r
theorem Lf {H:af} {nid:Nat} {args:List V} {k:Nat→aA→Option R} {k':aA→Option R} (hk:∀ r,aI (fun n=>k n r) (k' r)) (out:i7):aI (fun n=>match pI H nid args out with | some r=>k n r | none=>none) (match pI H nid args out with | some r=>k' r | none=>none):=by
  cases pI H nid args out with
  | some r=>exact hk r
  | none=>exact .const none
theorem Ek {fi:FI} {h:Nat→HP fi.ins.tys→Option (HP fi.out.tys)} {h':HP fi.ins.tys→Option (HP fi.out.tys)} (hh:∀ a,aI (fun n=>h n a) (h' a)) {H:af} {nid:Nat} {args:List V} {k:Nat→aA→Option R} {k':aA→Option R} (hk:∀ r,aI (fun n=>k n r) (k' r)):aI (fun n=>k7 fi (h n) H nid args (k n)) (k7 fi h' H nid args k'):=by
  unfold k7
  cases rdG fi H args with
  | some a=>exact (hh a).bind fun y=>Hq hk _ _
  | none=>exact .const none
theorem DX {fi:FI} {h:Nat→HP fi.ins.tys→Option (HP fi.out.tys)} {h':HP fi.ins.tys→Option (HP fi.out.tys)} (hh:∀ a,aI (fun n=>h n a) (h' a)) {vs:List V} {k:Nat→i7→Option R} {k':i7→Option R} (hk:∀ o,aI (fun n=>k n o) (k' o)):aI (fun n=>lk fi (h n) vs (k n)) (lk fi h' vs k'):=by
  unfold lk
  cases wD fi vs with
  | some a=>exact (hh a).bind fun y=>hk _
  | none=>exact .const none
theorem Ex (hs:gG Tb) (hX:∀ fi a,aI (fun n=>X n fi a) (Y fi a)) {f:FuncId} {H:af} {nid:Nat} {args:List V} {k:Nat→aA→Option R} {k':aA→Option R} (hk:∀ r,aI (fun n=>k n r) (k' r)):aI (fun n=>uI Tb (X n) f H nid args (k n)) (uI Tb Y f H nid args k'):=by
  unfold uI
  cases cN Tb.fs f with
  | some l =>
    simp only [Kw]
    exact .cnd (xt hX hk l) (xr hX (fun out=>Lf hk out) l)
  | none =>
    have h:=hs.lim f
    cases hsp:Tb.sp f with
    | none=>exact .const none
    | hand fi hd=>rw [hsp] at h; exact .cnd (Ek (fun a=>h X Y hX a) hk) (DX (fun a=>h X Y hX a) fun out=>Lf hk out)
    | «mut» m=>rw [hsp] at h; exact (h X Y hX _ _ _).bind fun r=>(hk r).gL
theorem sw:∀ {ch:aG} {σ:St} {k:Nat→St→Option R} {k':St→Option R},(∀ σ,aI (fun n=>k n σ) (k' σ))→aI (fun n=>lP ch σ (k n)) (lP ch σ k')
  | [],σ,k,k',h=>h σ
  | (t,w) :: r,σ,k,k',h=>by
    unfold lP
    split
    · exact .cnd (sw h) (sw h)
    · exact .const none
theorem C4 (hs:gG Tb) (hX:∀ fi a,aI (fun n=>X n fi a) (Y fi a)) {σ:St} {nid:Nat} {o:Oper} {fT fF:List FuncId} {k:Nat→St→bJ→List FuncId→List FuncId→Option R} {k':St→bJ→List FuncId→List FuncId→Option R}
    (hk:∀ σ rc a b,aI (fun n=>k n σ rc a b) (k' σ rc a b)):aI (fun n=>D1 Tb (X n) N all σ nid o fT fF (k n)) (D1 Tb Y N all σ nid o fT fF k'):=by
  unfold D1
  refine .cnd (.cnd ?_ (.const none)) ?_
  · split
    · refine .cnd (sw fun σ=>?_) (.const none)
      split
      · split
        · refine .cnd (.cnd (.const none) (Ex hs hX fun r=>.cnd (hk _ _ _ _) (.const none))) (.cnd (Ex hs hX fun r=>.cnd (hk _ _ _ _) (.const none)) (.cnd (hk _ _ _ _) (.const none)))
        · exact .const none
      · exact .const none
    · exact .const none
  · split
    · exact (hk _ _ _ _).gL
    · exact .const none
theorem I3 (hs:gG Tb) (hX:∀ fi a,aI (fun n=>X n fi a) (Y fi a)):∀ {l:List Oper} {σ:St} {fT fF:List FuncId} {k:Nat→St→Option R} {k':St→Option R},(∀ σ,aI (fun n=>k n σ) (k' σ))→aI (fun n=>Fu Tb (X n) N all l σ fT fF (k n)) (Fu Tb Y N all l σ fT fF k')
  | [],σ,fT,fF,k,k',h=>h _
  | o :: l,σ,fT,fF,k,k',h=>by
    unfold Fu
    exact C4 hs hX fun σ rc a b=>I3 hs hX h
theorem Gj (hs:gG Tb) (hX:∀ fi a,aI (fun n=>X n fi a) (Y fi a)):∀ {l:List Oper} {nid:Nat} {σ:St} {fT fF:List FuncId} {rcs:List bJ} {k:Nat→List bJ→St→Option R} {k':List bJ→St→Option R},(∀ rs σ,aI (fun n=>k n rs σ) (k' rs σ)) →
    aI (fun n=>yZ Tb (X n) N all l nid σ fT fF rcs (k n)) (yZ Tb Y N all l nid σ fT fF rcs k')
  | [],nid,σ,fT,fF,rcs,k,k',h=>h _ _
  | o :: l,nid,σ,fT,fF,rcs,k,k',h=>by
    unfold yZ
    exact C4 hs hX fun σ rc a b=>Gj hs hX h
theorem we (hs:gG Tb) (hX:∀ fi a,aI (fun n=>X n fi a) (Y fi a)) {σ:St} {o:Oper} {k:Nat→St→Option R} {k':St→Option R} (h:∀ σ,aI (fun n=>k n σ) (k' σ)):aI (fun n=>tR Tb (X n) N all σ o (k n)) (tR Tb Y N all σ o k') :=
  C4 hs hX fun σ rc a b=>h _
theorem v7 {σ:St} {o:Oper} {ch:aG} {k:Nat→St→Option R} {k':St→Option R} (h:∀ σ,aI (fun n=>k n σ) (k' σ)):aI (fun n=>um N σ o ch (k n)) (um N σ o ch k'):=.cnd (h _) (.const none)
theorem Gq (hs:gG Tb) (hX:∀ fi a,aI (fun n=>X n fi a) (Y fi a)):∀ {l:List Oper} {σ:St} {k:Nat→St→Option R} {k':St→Option R},(∀ σ,aI (fun n=>k n σ) (k' σ))→aI (fun n=>ln Tb (X n) N all l σ (k n)) (ln Tb Y N all l σ k')
  | [],σ,k,k',h=>h _
  | o :: l,σ,k,k',h=>by
    unfold ln
    have rec_:∀ σ',aI (fun n=>ln Tb (X n) N all l σ' (k n)) (ln Tb Y N all l σ' k'):=fun σ'=>Gq hs hX h
    split
    · exact we hs hX rec_
    · split
      · refine .cnd ?_ (.const none)
        split
        · exact .cnd (.cnd (.cnd (we hs hX rec_) (v7 rec_)) (.cnd (v7 rec_) (we hs hX rec_))) (v7 rec_)
        · exact .const none
      · exact .const none
theorem M9 (hs:gG Tb) (hX:∀ fi a,aI (fun n=>X n fi a) (Y fi a)) {ops:Array Oper} {dr:Bool} {σ:St} {k:Nat→St→Option R} {k':St→Option R} (h:∀ σ,aI (fun n=>k n σ) (k' σ)):aI (fun n=>F7 Tb (X n) N ops dr σ (k n)) (F7 Tb Y N ops dr σ k') :=
  .cnd (Gj hs hX fun rs σ=>.cnd (h σ) (.const none)) (.cnd (Gq hs hX h) (I3 hs hX h))
variable {J:Nat→(π:Nat)→(T:Tm)→HP T.tys→Option R} {L:(π:Nat)→(T:Tm)→HP T.tys→Option R} {cuts:List (Nat × Tm)}
theorem xf {π:Nat} (hJ:∀ π T s,aI (fun n=>J n π T s) (L π T s)) {T:Tm} {σ:St}:aI (fun n=>kn (J n π) T σ) (kn (L π) T σ):=(aI.const (BJ T σ)).bind fun s=>hJ π T s
theorem G4 (hJ:∀ π T s,aI (fun n=>J n π T s) (L π T s)) {π:Nat} {go:Nat→St→Option R} {go':St→Option R} (hg:∀ σ,aI (fun n=>go n σ) (go' σ)) {κ:Nat→KX R} {κ':KX R} (hκ:∀ e σ,aI (fun n=>κ n e σ) (κ' e σ)) (e:Exit) (σ:St) :
    aI (fun n=>Hu (J n) cuts π (go n) (κ n) e σ) (Hu L cuts π go' κ' e σ):=by
  cases e with
  | normal =>
    show aI (fun n=>match cN cuts π with | some T=>kn (J n π) T σ | none=>go n σ) (match cN cuts π with | some T=>kn (L π) T σ | none=>go' σ)
    cases cN cuts π with
    | some T=>exact xf hJ
    | none=>exact hg σ
  | exit id=>exact hκ _ σ
  | goto l=>exact hκ _ σ
  | ret=>exact hκ _ σ
  | panic c=>exact hκ _ σ
  | outgrown=>exact hκ _ σ
theorem Eg (hJ:∀ π T s,aI (fun n=>J n π T s) (L π T s)) {π:Nat} {κ:Nat→KX R} {κ':KX R} (hκ:∀ e σ,aI (fun n=>κ n e σ) (κ' e σ)) (e:Exit) (σ:St):aI (fun n=>xG (J n) cuts π (κ n) e σ) (xG L cuts π κ' e σ):=by
  cases e with
  | normal =>
    show aI (fun n=>match cN cuts π with | some T=>kn (J n π) T σ | none=>none) (match cN cuts π with | some T=>kn (L π) T σ | none=>none)
    cases cN cuts π with
    | some T=>exact xf hJ
    | none=>exact .const none
  | exit id=>exact hκ _ σ
  | goto l=>exact hκ _ σ
  | ret=>exact hκ _ σ
  | panic c=>exact hκ _ σ
  | outgrown=>exact hκ _ σ
theorem AU {id:Nat} {κ:Nat→KX R} {κ':KX R} (hκ:∀ e σ,aI (fun n=>κ n e σ) (κ' e σ)) (e:Exit) (σ:St):aI (fun n=>qN id (κ n) e σ) (qN id κ' e σ):=by
  cases e with
  | exit id'=>exact .cnd (hκ _ σ) (hκ _ σ)
  | normal=>exact hκ _ σ
  | goto l=>exact hκ _ σ
  | ret=>exact hκ _ σ
  | panic c=>exact hκ _ σ
  | outgrown=>exact hκ _ σ
theorem Gb (hs:gG Tb) (hX:∀ fi a,aI (fun n=>X n fi a) (Y fi a)) (hJ:∀ π T s,aI (fun n=>J n π T s) (L π T s)):∀ (c:Code) {π:Nat} {κ:Nat→KX R} {κ':KX R},(∀ e σ,aI (fun n=>κ n e σ) (κ' e σ))→∀ σ,
    aI (fun n=>xe Tb (X n) N (J n) cuts c π (κ n) σ) (xe Tb Y N L cuts c π κ' σ):=by
  intro c
  induction c with
  | skip=>exact fun h σ=>h _ σ
  | label l=>exact fun h σ=>h _ σ
  | region id ops dr=>exact fun h σ=>M9 hs hX fun σ=>h _ σ
  | seq x y ihx ihy=>exact fun h σ=>ihx (fun e σ=>G4 hJ (fun σ=>ihy h σ) h e σ) σ
  | cond c x y ihx ihy =>
    intro π κ κ' h σ
    unfold xe
    split
    · exact .cnd (ihx h σ) (ihy h σ)
    · exact .const none
  | block id x ih=>exact fun h σ=>ih (fun e σ=>AU h e σ) σ
  | exit id=>exact fun h σ=>h _ σ
  | ret=>exact fun h σ=>h _ σ
  | loop x ih =>
    intro π κ κ' h σ
    unfold xe
    split
    · exact xf hJ
    · exact .const none
  | rangeFunc f params assign body=>exact fun h σ=>.const none
  | scope body=>exact fun h σ=>.const none
  | goto l=>exact fun h σ=>.const none
  | refuse why=>exact fun h σ=>.const none
theorem tf (hs:gG Tb) (hX:∀ fi a,aI (fun n=>X n fi a) (Y fi a)) (hJ:∀ π T s,aI (fun n=>J n π T s) (L π T s)):∀ (b:List Bool) (c:Code) {π:Nat} {κ:Nat→KX R} {κ':KX R},(∀ e σ,aI (fun n=>κ n e σ) (κ' e σ))→∀ σ,
    aI (fun n=>ME (yP Tb (X n) N (J n) cuts b c π (κ n)) σ) (ME (yP Tb Y N L cuts b c π κ') σ)
  | [],c,π,κ,κ',h,σ=>by
    cases c <;> first | exact Gb hs hX hJ _ h σ | exact Gb hs hX hJ _ (Eg hJ h) σ
  | b :: r,c,π,κ,κ',h,σ=>by
    cases c <;> cases b <;> first | exact .const none | exact tf hs hX hJ r _ h σ | exact tf hs hX hJ r _ (fun e σ=>G4 hJ (fun σ=>Gb hs hX hJ _ h σ) h e σ) σ | exact tf hs hX hJ r _ (AU h) σ | exact tf hs hX hJ r _ (Eg hJ h) σ
end
open Classical in
noncomputable def Xf (Tb:iQ):JT:=fun fi π T s=>if h:∃ n r,Jn Tb n fi π T s = some r then some h.choose_spec.choose else none
section
variable {Tb:iQ}
theorem Ja (n:Nat) (fi:FI) (π:Nat) (T:Tm) (s:HP T.tys):Jn Tb (n+1) fi π T s = xK Tb (Jn Tb n) fi π T s:=by rw [Jn]
theorem D6 (hs:gG Tb) {J:Nat→JT} {L:JT} (hJ:∀ fi π T s,aI (fun n=>J n fi π T s) (L fi π T s)) (fi:FI) (π:Nat) (T:Tm) (s:HP T.tys):aI (fun n=>xK Tb (J n) fi π T s) (xK Tb L fi π T s) :=
  .cnd (tf hs (X:=fun n fi a=>J n fi 1 fi.ins a) (Y:=fun fi a=>L fi 1 fi.ins a) (J:=fun n=>J n fi) (L:=L fi) (fun fi a=>hJ fi 1 fi.ins a) (hJ fi) (qz π) fi.c (κ:=fun _=>w9 Tb.P fi) (κ':=w9 Tb.P fi) (fun e σ=>.const _) (yL T s)) (.const none)
theorem zK (hs:gG Tb):∀ (n:Nat) (fi:FI) (π:Nat) (T:Tm) (s:HP T.tys) (r:HP fi.out.tys),Jn Tb n fi π T s = some r→Jn Tb (n+1) fi π T s = some r
  | 0,fi,π,T,s,r,h=>by simp [Jn] at h
  | n+1,fi,π,T,s,r,h=>by
    have key:∀ fi π T s,aI (fun k=>match k with | 0=>Jn Tb n fi π T s | _+1=>Jn Tb (n+1) fi π T s) (Jn Tb (n+1) fi π T s):=fun fi π T s =>
      ⟨fun k r hk m hm=>by
        match k,m with
        | 0,0=>exact hk
        | 0,m+1=>exact zK hs n fi π T s r hk
        | k+1,m+1=>exact hk,fun r hr=>⟨1,hr⟩,fun k r hk=>by
        match k with
        | 0=>exact zK hs n fi π T s r hk
        | k+1=>exact hk⟩
    have:=D6 hs (J:=fun k fi π T s=>match k with | 0=>Jn Tb n fi π T s | _+1=>Jn Tb (n+1) fi π T s) key fi π T s
    rw [Ja] at h ⊢
    exact this.of 0 r h
theorem Ga (hs:gG Tb) (fi:FI) (π:Nat) (T:Tm) (s:HP T.tys):aI (fun n=>Jn Tb n fi π T s) (Xf Tb fi π T s):=by
  have mono:∀ n r,Jn Tb n fi π T s = some r→∀ m,n≤m→Jn Tb m fi π T s = some r:=by
    intro n r h m hm
    induction m with
    | zero =>
      have:n = 0:=by omega
      subst this; exact h
    | succ m ih =>
      by_cases e:n = m+1
      · subst e; exact h
      · exact zK hs m fi π T s r (ih (by omega))
  refine ⟨mono,fun r hr=>?_,fun n r hr=>?_⟩
  · unfold Xf at hr
    split at hr
    · next h=>cases hr; exact ⟨h.choose,h.choose_spec.choose_spec⟩
    · cases hr
  · unfold Xf
    have h:∃ n r,Jn Tb n fi π T s = some r:=⟨n,r,hr⟩
    rw [dif_pos h]
    have h1:=h.choose_spec.choose_spec
    have h2:=mono _ _ h1 (max n h.choose) (Nat.le_max_right _ _)
    rw [mono _ _ hr (max n h.choose) (Nat.le_max_left _ _)] at h2
    exact h2.symm
theorem ae (hs:gG Tb) (fi:FI) (π:Nat) (T:Tm) (s:HP T.tys):Xf Tb fi π T s = xK Tb (Xf Tb) fi π T s :=
  ((Ga hs fi π T s).shift).uniq (by simpa only [Ja] using D6 hs (J:=Jn Tb) (fun fi π T s=>Ga hs fi π T s) fi π T s)
noncomputable abbrev Xc (Tb:iQ):XT:=fun fi a=>Xf Tb fi 1 fi.ins a
theorem M4 (hT:xX Tb) (hs:gG Tb) (f:FuncId):bI Tb.P f (eP Tb (Xc Tb) f):=by
  have hX:∀ fi a,aI (fun n=>Xn Tb n fi a) (Xc Tb fi a):=fun fi a=>Ga hs fi 1 fi.ins a
  have hm:∀ n,bI Tb.P f (eP Tb (Xn Tb n) f):=fun n=>PJ.meets hT (OS hT n) f
  unfold eP at hm ⊢
  cases hl:cN Tb.fs f with
  | some l =>
    rw [hl] at hm
    simp only at hm ⊢
    cases hg:CZ l with
    | true =>
      rw [hg] at hm
      simp only [cond_true] at hm ⊢
      intro E w H nid xs args r h1 h2 h3 h4 h5
      obtain ⟨n,hn⟩:=(xt (R:=aA) hX (k:=fun _=>some) (k':=some) (fun r=>.const (some r)) l).to r h4
      exact hm n E w H nid xs args r h1 h2 h3 hn h5
    | false =>
      rw [hg] at hm
      simp only [cond_false] at hm ⊢
      intro ok w xs vs p out h1 h2 h3 h4
      cases hk:fX (Xc Tb) vs some l with
      | none=>simp only [hk] at h3; cases h3
      | some o =>
        simp only [hk] at h3; cases h3
        obtain ⟨n,hn⟩:=(xr (R:=i7) hX (k:=fun _=>some) (k':=some) (fun r=>.const (some r)) l).to _ hk
        exact hm n ok w xs vs true out h1 h2 (by simp only [hn]; rfl) rfl
  | none =>
    rw [hl] at hm
    simp only at hm ⊢
    have h:=hs.lim f
    cases hsp:Tb.sp f with
    | none=>rw [hsp] at hm; exact hm 0
    | hand fi hd =>
      rw [hsp] at hm h
      simp only at hm ⊢
      cases hg:fi.out.isGen with
      | true =>
        rw [hg] at hm
        simp only [cond_true] at hm ⊢
        intro E w H nid xs args r h1 h2 h3 h4 h5
        obtain ⟨n,hn⟩:=(Ek (R:=aA) (fun a=>h (fun n=>Xn Tb n) (Xc Tb) hX a) (k:=fun _=>some) (k':=some) (fun r=>.const (some r))).to r h4
        exact hm n E w H nid xs args r h1 h2 h3 hn h5
      | false =>
        rw [hg] at hm
        simp only [cond_false] at hm ⊢
        intro ok w xs vs p out h1 h2 h3 h4
        cases hk:lk fi (hd (Xc Tb)) vs some with
        | none=>simp only [hk] at h3; cases h3
        | some o =>
          simp only [hk] at h3; cases h3
          obtain ⟨n,hn⟩:=(DX (R:=i7) (fun a=>h (fun n=>Xn Tb n) (Xc Tb) hX a) (k:=fun _=>some) (k':=some) (fun r=>.const (some r))).to _ hk
          exact hm n ok w xs vs true out h1 h2 (by simp only [hn]; rfl) rfl
    | «mut» m =>
      rw [hsp] at hm h
      simp only at hm ⊢
      intro E w H nid xs args r h1 h2 h3 h4 h5
      obtain ⟨n,hn⟩:=(h (fun n=>Xn Tb n) (Xc Tb) hX (br (aR H args) H) nid args).to r h4
      exact hm n E w H nid xs args r h1 h2 h3 hn h5
end
end Go.Ax
