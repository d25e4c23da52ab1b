import Derived.Test.YtnnblpijaoocaaaGreatZB9
set_option linter.all false
/- Functions for good: the limit of functions of ever more steps, and its equation. -/
namespace Go.Ax
open Go.RowKit
structure aG {α:Type} (f:Nat→Option α) (o:Option α):Prop where
  mono:∀ n r,f n = some r→∀ m,n≤m→f m = some r
  to:∀ r,o = some r→∃ n,f n = some r
  of:∀ n r,f n = some r→o = some r
namespace aG
variable {α β:Type} {f g:Nat→Option α} {o o':Option α}
theorem const (o:Option α):aG (fun _=>o) o:=⟨fun _ _ h _ _=>h,fun _ h=>⟨0,h⟩,fun _ _ h=>h⟩
theorem uniq (h:aG f o) (h':aG f o'):o = o':=by
  cases ho:o with
  | some r =>
    obtain ⟨n,hn⟩:=h.to r ho
    exact (h'.of n r hn).symm
  | none =>
    cases ho':o' with
    | none=>rfl
    | some r =>
      obtain ⟨n,hn⟩:=h'.to r ho'
      rw [h.of n r hn] at ho; cases ho
theorem cnd {b:Bool} (h:aG f o) (h':aG g o'):aG (fun n=>bif b then f n else g n) (bif b then o else o'):=by
  cases b
  · exact h'
  · exact h
theorem bind {k:Nat→α→Option β} {k':α→Option β} (h:aG f o) (hk:∀ a,aG (fun n=>k n a) (k' a)):aG (fun n=>(f n).bind (k n)) (o.bind k'):=by
  refine ⟨fun n r hr m hm=>?_,fun r hr=>?_,fun n r hr=>?_⟩
  · obtain ⟨a,h1,h2⟩:=Option.bind_eq_some_iff.1 hr
    exact Option.bind_eq_some_iff.2 ⟨a,h.mono n a h1 m hm,(hk a).mono n r h2 m hm⟩
  · obtain ⟨a,h1,h2⟩:=Option.bind_eq_some_iff.1 hr
    obtain ⟨n1,g1⟩:=h.to a h1
    obtain ⟨n2,g2⟩:=(hk a).to r h2
    exact ⟨max n1 n2,Option.bind_eq_some_iff.2 ⟨a,h.mono n1 a g1 _ (Nat.le_max_left _ _),(hk a).mono n2 r g2 _ (Nat.le_max_right _ _)⟩⟩
  · obtain ⟨a,h1,h2⟩:=Option.bind_eq_some_iff.1 hr
    exact Option.bind_eq_some_iff.2 ⟨a,h.of n a h1,(hk a).of n r h2⟩
theorem gL {l:List Bool} (h:aG f o):aG (fun n=>Go.Ax.gL l (f n)) (Go.Ax.gL l o):=by
  induction l with
  | nil=>exact h
  | cons b l ih=>exact aG.cnd ih (const none)
theorem shift (h:aG f o):aG (fun n=>f (n+1)) o:=⟨fun n r hr m hm=>h.mono _ r hr _ (by omega),fun r hr=>by
  obtain ⟨n,hn⟩:=h.to r hr
  exact ⟨n,h.mono n r hn _ (by omega)⟩,fun n r hr=>h.of _ r hr⟩
end aG
def s7:Sp→Prop
  | .none=>True
  | .hand fi h=>∀ (X:Nat→XT) (Y:XT),(∀ fi a,aG (fun n=>X n fi a) (Y fi a))→∀ a,aG (fun n=>h (X n) a) (h Y a)
  | .mut m=>∀ (X:Nat→XT) (Y:XT),(∀ fi a,aG (fun n=>X n fi a) (Y fi a))→∀ H nid vs,aG (fun n=>m (X n) H nid vs) (m Y H nid vs)
structure gm (Tb:iy):Prop where
  lim:∀ f,s7 (Tb.sp f)
section
variable {R:Type} {Tb:iy} {N:Nat} {all:List Oper} {X:Nat→XT} {Y:XT}
theorem uY (hX:∀ fi a,aG (fun n=>X n fi a) (Y fi a)) {vs:List V} {k:Nat→iw→Option R} {k':iw→Option R} (hk:∀ o,aG (fun n=>k n o) (k' o)):∀ l:List FI,aG (fun n=>fG (X n) vs (k n) l) (fG Y vs k' l)
  | []=>.const none
  | fi :: r=>by
    unfold fG
    cases v6 fi vs with
    | some a=>exact (hX fi a).bind fun y=>hk _
    | none=>exact uY hX hk r
theorem yI {T:Tm} {xs:List TV} {H:ae} {nid:Nat} {args:List V} {k:Nat→ax→Option R} {k':ax→Option R} (hk:∀ r,aG (fun n=>k n r) (k' r)):aG (fun n=>g9 T xs H nid args (k n)) (g9 T xs H nid args k'):=by
  unfold g9
  split
  · exact .cnd (hk _) (.const none)
  · exact .const none
theorem Gv {H:ae} {nid:Nat} {args:List V} {k:Nat→ax→Option R} {k':ax→Option R} (hk:∀ r,aG (fun n=>k n r) (k' r)) (o:cm) (y:HP o.tys):aG (fun n=>iL o y H nid args (k n)) (iL o y H nid args k'):=by
  unfold iL
  split
  · exact yI hk
  · split
    · exact .cnd (yI hk) (yI hk)
    · exact .const none
  · exact .const none
theorem wA (hX:∀ fi a,aG (fun n=>X n fi a) (Y fi a)) {H:ae} {nid:Nat} {args:List V} {k:Nat→ax→Option R} {k':ax→Option R} (hk:∀ r,aG (fun n=>k n r) (k' r)):∀ l:List FI,aG (fun n=>ic (X n) H nid args (k n) l) (ic Y H nid args k' l)
  | []=>.const none
  | fi :: r=>by
    unfold ic
    cases rdG fi H args with
    | some a=>exact (hX fi a).bind fun y=>Gv hk _ _
    | none=>exact wA hX hk r
theorem KI {H:ae} {nid:Nat} {args:List V} {k:Nat→ax→Option R} {k':ax→Option R} (hk:∀ r,aG (fun n=>k n r) (k' r)) (out:iw):aG (fun n=>match oJ H nid args out with | some r=>k n r | none=>none) (match oJ H nid args out with | some r=>k' r | none=>none):=by
  cases oJ H nid args out with
  | some r=>exact hk r
  | none=>exact .const none
theorem Dy {fi:FI} {h:Nat→HP fi.ins.tys→Option (HP fi.out.tys)} {h':HP fi.ins.tys→Option (HP fi.out.tys)} (hh:∀ a,aG (fun n=>h n a) (h' a)) {H:ae} {nid:Nat} {args:List V} {k:Nat→ax→Option R} {k':ax→Option R} (hk:∀ r,aG (fun n=>k n r) (k' r)):aG (fun n=>kA fi (h n) H nid args (k n)) (kA fi h' H nid args k'):=by
  unfold kA
  cases rdG fi H args with
  | some a=>exact (hh a).bind fun y=>Gv hk _ _
  | none=>exact .const none
theorem DY {fi:FI} {h:Nat→HP fi.ins.tys→Option (HP fi.out.tys)} {h':HP fi.ins.tys→Option (HP fi.out.tys)} (hh:∀ a,aG (fun n=>h n a) (h' a)) {vs:List V} {k:Nat→iw→Option R} {k':iw→Option R} (hk:∀ o,aG (fun n=>k n o) (k' o)):aG (fun n=>kC fi (h n) vs (k n)) (kC fi h' vs k'):=by
  unfold kC
  cases v6 fi vs with
  | some a=>exact (hh a).bind fun y=>hk _
  | none=>exact .const none
theorem DU (hs:gm Tb) (hX:∀ fi a,aG (fun n=>X n fi a) (Y fi a)) {f:FuncId} {H:ae} {nid:Nat} {args:List V} {k:Nat→ax→Option R} {k':ax→Option R} (hk:∀ r,aG (fun n=>k n r) (k' r)):aG (fun n=>sW Tb (X n) f H nid args (k n)) (sW Tb Y f H nid args k'):=by
  unfold sW
  cases cB Tb.fs f with
  | some l =>
    simp only [JI]
    exact .cnd (wA hX hk l) (uY hX (fun out=>KI hk out) l)
  | none =>
    have h:=hs.lim f
    cases hsp:Tb.sp f with
    | none=>exact .const none
    | hand fi hd=>rw [hsp] at h; exact .cnd (Dy (fun a=>h X Y hX a) hk) (DY (fun a=>h X Y hX a) fun out=>KI hk out)
    | «mut» m=>rw [hsp] at h; exact (h X Y hX _ _ _).bind fun r=>(hk r).gL
theorem ra:∀ {ch:aE} {σ:St} {k:Nat→St→Option R} {k':St→Option R},(∀ σ,aG (fun n=>k n σ) (k' σ))→aG (fun n=>kU ch σ (k n)) (kU ch σ k')
  | [],σ,k,k',h=>h σ
  | (t,w) :: r,σ,k,k',h=>by
    unfold kU
    split
    · exact .cnd (ra h) (ra h)
    · exact .const none
theorem C7 (hs:gm Tb) (hX:∀ fi a,aG (fun n=>X n fi a) (Y fi a)) {σ:St} {nid:Nat} {o:Oper} {fT fF:List FuncId} {k:Nat→St→bz→List FuncId→List FuncId→Option R} {k':St→bz→List FuncId→List FuncId→Option R}
    (hk:∀ σ rc a b,aG (fun n=>k n σ rc a b) (k' σ rc a b)):aG (fun n=>Du Tb (X n) N all σ nid o fT fF (k n)) (Du Tb Y N all σ nid o fT fF k'):=by
  unfold Du
  refine .cnd (.cnd ?_ (.const none)) ?_
  · split
    · refine .cnd (ra fun σ=>?_) (.const none)
      split
      · split
        · refine .cnd (.cnd (.const none) (DU hs hX fun r=>.cnd (hk _ _ _ _) (.const none))) (.cnd (DU hs hX fun r=>.cnd (hk _ _ _ _) (.const none)) (.cnd (hk _ _ _ _) (.const none)))
        · exact .const none
      · exact .const none
    · exact .const none
  · split
    · exact (hk _ _ _ _).gL
    · exact .const none
theorem Ie (hs:gm Tb) (hX:∀ fi a,aG (fun n=>X n fi a) (Y fi a)):∀ {l:List Oper} {σ:St} {fT fF:List FuncId} {k:Nat→St→Option R} {k':St→Option R},(∀ σ,aG (fun n=>k n σ) (k' σ))→aG (fun n=>FZ Tb (X n) N all l σ fT fF (k n)) (FZ Tb Y N all l σ fT fF k')
  | [],σ,fT,fF,k,k',h=>h _
  | o :: l,σ,fT,fF,k,k',h=>by
    unfold FZ
    exact C7 hs hX fun σ rc a b=>Ie hs hX h
theorem G7 (hs:gm Tb) (hX:∀ fi a,aG (fun n=>X n fi a) (Y fi a)):∀ {l:List Oper} {nid:Nat} {σ:St} {fT fF:List FuncId} {rcs:List bz} {k:Nat→List bz→St→Option R} {k':List bz→St→Option R},(∀ rs σ,aG (fun n=>k n rs σ) (k' rs σ)) →
    aG (fun n=>yR Tb (X n) N all l nid σ fT fF rcs (k n)) (yR Tb Y N all l nid σ fT fF rcs k')
  | [],nid,σ,fT,fF,rcs,k,k',h=>h _ _
  | o :: l,nid,σ,fT,fF,rcs,k,k',h=>by
    unfold yR
    exact C7 hs hX fun σ rc a b=>G7 hs hX h
theorem wG (hs:gm Tb) (hX:∀ fi a,aG (fun n=>X n fi a) (Y fi a)) {σ:St} {o:Oper} {k:Nat→St→Option R} {k':St→Option R} (h:∀ σ,aG (fun n=>k n σ) (k' σ)):aG (fun n=>tr Tb (X n) N all σ o (k n)) (tr Tb Y N all σ o k') :=
  C7 hs hX fun σ rc a b=>h _
theorem u4 {σ:St} {o:Oper} {ch:aE} {k:Nat→St→Option R} {k':St→Option R} (h:∀ σ,aG (fun n=>k n σ) (k' σ)):aG (fun n=>tJ N σ o ch (k n)) (tJ N σ o ch k'):=.cnd (h _) (.const none)
theorem GW (hs:gm Tb) (hX:∀ fi a,aG (fun n=>X n fi a) (Y fi a)):∀ {l:List Oper} {σ:St} {k:Nat→St→Option R} {k':St→Option R},(∀ σ,aG (fun n=>k n σ) (k' σ))→aG (fun n=>kO Tb (X n) N all l σ (k n)) (kO Tb Y N all l σ k')
  | [],σ,k,k',h=>h _
  | o :: l,σ,k,k',h=>by
    unfold kO
    have rec_:∀ σ',aG (fun n=>kO Tb (X n) N all l σ' (k n)) (kO Tb Y N all l σ' k'):=fun σ'=>GW hs hX h
    split
    · exact wG hs hX rec_
    · split
      · refine .cnd ?_ (.const none)
        split
        · exact .cnd (.cnd (.cnd (wG hs hX rec_) (u4 rec_)) (.cnd (u4 rec_) (wG hs hX rec_))) (u4 rec_)
        · exact .const none
      · exact .const none
theorem LJ (hs:gm Tb) (hX:∀ fi a,aG (fun n=>X n fi a) (Y fi a)) {ops:Array Oper} {dr:Bool} {σ:St} {k:Nat→St→Option R} {k':St→Option R} (h:∀ σ,aG (fun n=>k n σ) (k' σ)):aG (fun n=>Fc Tb (X n) N ops dr σ (k n)) (Fc Tb Y N ops dr σ k') :=
  .cnd (G7 hs hX fun rs σ=>.cnd (h σ) (.const none)) (.cnd (GW hs hX h) (Ie hs hX h))
variable {J:Nat→(π:Nat)→(T:Tm)→HP T.tys→Option R} {L:(π:Nat)→(T:Tm)→HP T.tys→Option R} {cuts:List (Nat × Tm)}
theorem vJ {π:Nat} (hJ:∀ π T s,aG (fun n=>J n π T s) (L π T s)) {T:Tm} {σ:St}:aG (fun n=>jN (J n π) T σ) (jN (L π) T σ):=(aG.const (Aa T σ)).bind fun s=>hJ π T s
theorem Fh (hJ:∀ π T s,aG (fun n=>J n π T s) (L π T s)) {π:Nat} {go:Nat→St→Option R} {go':St→Option R} (hg:∀ σ,aG (fun n=>go n σ) (go' σ)) {κ:Nat→KX R} {κ':KX R} (hκ:∀ e σ,aG (fun n=>κ n e σ) (κ' e σ)) (e:Exit) (σ:St) :
    aG (fun n=>E5 (J n) cuts π (go n) (κ n) e σ) (E5 L cuts π go' κ' e σ):=by
  cases e with
  | normal =>
    show aG (fun n=>match cB cuts π with | some T=>jN (J n π) T σ | none=>go n σ) (match cB cuts π with | some T=>jN (L π) T σ | none=>go' σ)
    cases cB cuts π with
    | some T=>exact vJ hJ
    | none=>exact hg σ
  | exit id=>exact hκ _ σ
  | goto l=>exact hκ _ σ
  | ret=>exact hκ _ σ
  | panic c=>exact hκ _ σ
  | outgrown=>exact hκ _ σ
theorem DX (hJ:∀ π T s,aG (fun n=>J n π T s) (L π T s)) {π:Nat} {κ:Nat→KX R} {κ':KX R} (hκ:∀ e σ,aG (fun n=>κ n e σ) (κ' e σ)) (e:Exit) (σ:St):aG (fun n=>wU (J n) cuts π (κ n) e σ) (wU L cuts π κ' e σ):=by
  cases e with
  | normal =>
    show aG (fun n=>match cB cuts π with | some T=>jN (J n π) T σ | none=>none) (match cB cuts π with | some T=>jN (L π) T σ | none=>none)
    cases cB cuts π with
    | some T=>exact vJ hJ
    | none=>exact .const none
  | exit id=>exact hκ _ σ
  | goto l=>exact hκ _ σ
  | ret=>exact hκ _ σ
  | panic c=>exact hκ _ σ
  | outgrown=>exact hκ _ σ
theorem zC {id:Nat} {κ:Nat→KX R} {κ':KX R} (hκ:∀ e σ,aG (fun n=>κ n e σ) (κ' e σ)) (e:Exit) (σ:St):aG (fun n=>pi id (κ n) e σ) (pi id κ' e σ):=by
  cases e with
  | exit id'=>exact .cnd (hκ _ σ) (hκ _ σ)
  | normal=>exact hκ _ σ
  | goto l=>exact hκ _ σ
  | ret=>exact hκ _ σ
  | panic c=>exact hκ _ σ
  | outgrown=>exact hκ _ σ
theorem FS (hs:gm Tb) (hX:∀ fi a,aG (fun n=>X n fi a) (Y fi a)) (hJ:∀ π T s,aG (fun n=>J n π T s) (L π T s)):∀ (c:Code) {π:Nat} {κ:Nat→KX R} {κ':KX R},(∀ e σ,aG (fun n=>κ n e σ) (κ' e σ))→∀ σ,
    aG (fun n=>xe Tb (X n) N (J n) cuts c π (κ n) σ) (xe Tb Y N L cuts c π κ' σ):=by
  intro c
  induction c with
  | skip=>exact fun h σ=>h _ σ
  | label l=>exact fun h σ=>h _ σ
  | region id ops dr=>exact fun h σ=>LJ hs hX fun σ=>h _ σ
  | seq x y ihx ihy=>exact fun h σ=>ihx (fun e σ=>Fh hJ (fun σ=>ihy h σ) h e σ) σ
  | cond c x y ihx ihy =>
    intro π κ κ' h σ
    unfold xe
    split
    · exact .cnd (ihx h σ) (ihy h σ)
    · exact .const none
  | block id x ih=>exact fun h σ=>ih (fun e σ=>zC h e σ) σ
  | exit id=>exact fun h σ=>h _ σ
  | ret=>exact fun h σ=>h _ σ
  | loop x ih =>
    intro π κ κ' h σ
    unfold xe
    split
    · exact vJ hJ
    · exact .const none
  | rangeFunc f params assign body=>exact fun h σ=>.const none
  | scope body=>exact fun h σ=>.const none
  | goto l=>exact fun h σ=>.const none
  | refuse why=>exact fun h σ=>.const none
theorem sd (hs:gm Tb) (hX:∀ fi a,aG (fun n=>X n fi a) (Y fi a)) (hJ:∀ π T s,aG (fun n=>J n π T s) (L π T s)):∀ (b:List Bool) (c:Code) {π:Nat} {κ:Nat→KX R} {κ':KX R},(∀ e σ,aG (fun n=>κ n e σ) (κ' e σ))→∀ σ,
    aG (fun n=>Lm (xT Tb (X n) N (J n) cuts b c π (κ n)) σ) (Lm (xT Tb Y N L cuts b c π κ') σ)
  | [],c,π,κ,κ',h,σ=>by
    cases c <;> first | exact FS hs hX hJ _ h σ | exact FS hs hX hJ _ (DX hJ h) σ
  | b :: r,c,π,κ,κ',h,σ=>by
    cases c <;> cases b <;> first | exact .const none | exact sd hs hX hJ r _ h σ | exact sd hs hX hJ r _ (fun e σ=>Fh hJ (fun σ=>FS hs hX hJ _ h σ) h e σ) σ | exact sd hs hX hJ r _ (zC h) σ | exact sd hs hX hJ r _ (DX hJ h) σ
end
open Classical in
noncomputable def Xf (Tb:iy):JT:=fun fi π T s=>if h:∃ n r,Jn Tb n fi π T s = some r then some h.choose_spec.choose else none
section
variable {Tb:iy}
theorem IF (n:Nat) (fi:FI) (π:Nat) (T:Tm) (s:HP T.tys):Jn Tb (n+1) fi π T s = xb Tb (Jn Tb n) fi π T s:=by rw [Jn]
theorem Dv (hs:gm Tb) {J:Nat→JT} {L:JT} (hJ:∀ fi π T s,aG (fun n=>J n fi π T s) (L fi π T s)) (fi:FI) (π:Nat) (T:Tm) (s:HP T.tys):aG (fun n=>xb Tb (J n) fi π T s) (xb Tb L fi π T s) :=
  .cnd (sd hs (X:=fun n fi a=>J n fi 1 fi.ins a) (Y:=fun fi a=>L fi 1 fi.ins a) (J:=fun n=>J n fi) (L:=L fi) (fun fi a=>hJ fi 1 fi.ins a) (hJ fi) (pN π) fi.c (κ:=fun _=>wv Tb.P fi) (κ':=wv Tb.P fi) (fun e σ=>.const _) (yg T s)) (.const none)
theorem yB (hs:gm Tb):∀ (n:Nat) (fi:FI) (π:Nat) (T:Tm) (s:HP T.tys) (r:HP fi.out.tys),Jn Tb n fi π T s = some r→Jn Tb (n+1) fi π T s = some r
  | 0,fi,π,T,s,r,h=>by simp [Jn] at h
  | n+1,fi,π,T,s,r,h=>by
    have key:∀ fi π T s,aG (fun k=>match k with | 0=>Jn Tb n fi π T s | _+1=>Jn Tb (n+1) fi π T s) (Jn Tb (n+1) fi π T s):=fun fi π T s =>
      ⟨fun k r hk m hm=>by
        match k,m with
        | 0,0=>exact hk
        | 0,m+1=>exact yB hs n fi π T s r hk
        | k+1,m+1=>exact hk,fun r hr=>⟨1,hr⟩,fun k r hk=>by
        match k with
        | 0=>exact yB hs n fi π T s r hk
        | k+1=>exact hk⟩
    have:=Dv hs (J:=fun k fi π T s=>match k with | 0=>Jn Tb n fi π T s | _+1=>Jn Tb (n+1) fi π T s) key fi π T s
    rw [IF] at h ⊢
    exact this.of 0 r h
theorem EV (hs:gm Tb) (fi:FI) (π:Nat) (T:Tm) (s:HP T.tys):aG (fun n=>Jn Tb n fi π T s) (Xf Tb fi π T s):=by
  have mono:∀ n r,Jn Tb n fi π T s = some r→∀ m,n≤m→Jn Tb m fi π T s = some r:=by
    intro n r h m hm
    induction m with
    | zero =>
      have:n = 0:=by omega
      subst this; exact h
    | succ m ih =>
      by_cases e:n = m+1
      · subst e; exact h
      · exact yB hs m fi π T s r (ih (by omega))
  refine ⟨mono,fun r hr=>?_,fun n r hr=>?_⟩
  · unfold Xf at hr
    split at hr
    · next h=>cases hr; exact ⟨h.choose,h.choose_spec.choose_spec⟩
    · cases hr
  · unfold Xf
    have h:∃ n r,Jn Tb n fi π T s = some r:=⟨n,r,hr⟩
    rw [dif_pos h]
    have h1:=h.choose_spec.choose_spec
    have h2:=mono _ _ h1 (max n h.choose) (Nat.le_max_right _ _)
    rw [mono _ _ hr (max n h.choose) (Nat.le_max_left _ _)] at h2
    exact h2.symm
theorem af (hs:gm Tb) (fi:FI) (π:Nat) (T:Tm) (s:HP T.tys):Xf Tb fi π T s = xb Tb (Xf Tb) fi π T s :=
  ((EV hs fi π T s).shift).uniq (by simpa only [IF] using Dv hs (J:=Jn Tb) (fun fi π T s=>EV hs fi π T s) fi π T s)
noncomputable abbrev Xc (Tb:iy):XT:=fun fi a=>Xf Tb fi 1 fi.ins a
theorem LZ (hT:w9 Tb) (hs:gm Tb) (f:FuncId):aN Tb.P f (eA Tb (Xc Tb) f):=by
  have hX:∀ fi a,aG (fun n=>Xn Tb n fi a) (Xc Tb fi a):=fun fi a=>EV hs fi 1 fi.ins a
  have hm:∀ n,aN Tb.P f (eA Tb (Xn Tb n) f):=fun n=>PJ.meets hT (Ng hT n) f
  unfold eA at hm ⊢
  cases hl:cB Tb.fs f with
  | some l =>
    rw [hl] at hm
    simp only at hm ⊢
    cases hg:Ch l with
    | true =>
      rw [hg] at hm
      simp only [cond_true] at hm ⊢
      intro E w H nid xs args r h1 h2 h3 h4 h5
      obtain ⟨n,hn⟩:=(wA (R:=ax) hX (k:=fun _=>some) (k':=some) (fun r=>.const (some r)) l).to r h4
      exact hm n E w H nid xs args r h1 h2 h3 hn h5
    | false =>
      rw [hg] at hm
      simp only [cond_false] at hm ⊢
      intro ok w xs vs p out h1 h2 h3 h4
      cases hk:fG (Xc Tb) vs some l with
      | none=>simp only [hk] at h3; cases h3
      | some o =>
        simp only [hk] at h3; cases h3
        obtain ⟨n,hn⟩:=(uY (R:=iw) hX (k:=fun _=>some) (k':=some) (fun r=>.const (some r)) l).to _ hk
        exact hm n ok w xs vs true out h1 h2 (by simp only [hn]; rfl) rfl
  | none =>
    rw [hl] at hm
    simp only at hm ⊢
    have h:=hs.lim f
    cases hsp:Tb.sp f with
    | none=>rw [hsp] at hm; exact hm 0
    | hand fi hd =>
      rw [hsp] at hm h
      simp only at hm ⊢
      cases hg:fi.out.isGen with
      | true =>
        rw [hg] at hm
        simp only [cond_true] at hm ⊢
        intro E w H nid xs args r h1 h2 h3 h4 h5
        obtain ⟨n,hn⟩:=(Dy (R:=ax) (fun a=>h (fun n=>Xn Tb n) (Xc Tb) hX a) (k:=fun _=>some) (k':=some) (fun r=>.const (some r))).to r h4
        exact hm n E w H nid xs args r h1 h2 h3 hn h5
      | false =>
        rw [hg] at hm
        simp only [cond_false] at hm ⊢
        intro ok w xs vs p out h1 h2 h3 h4
        cases hk:kC fi (hd (Xc Tb)) vs some with
        | none=>simp only [hk] at h3; cases h3
        | some o =>
          simp only [hk] at h3; cases h3
          obtain ⟨n,hn⟩:=(DY (R:=iw) (fun a=>h (fun n=>Xn Tb n) (Xc Tb) hX a) (k:=fun _=>some) (k':=some) (fun r=>.const (some r))).to _ hk
          exact hm n ok w xs vs true out h1 h2 (by simp only [hn]; rfl) rfl
    | «mut» m =>
      rw [hsp] at hm h
      simp only at hm ⊢
      intro E w H nid xs args r h1 h2 h3 h4 h5
      obtain ⟨n,hn⟩:=(h (fun n=>Xn Tb n) (Xc Tb) hX (aR (aD H args) H) nid args).to r h4
      exact hm n E w H nid xs args r h1 h2 h3 hn h5
end
end Go.Ax
