import Derived.Test.YtokecajedkojlaaGreatZB9
set_option linter.all false
/- Functions for good: the limit of functions of ever more steps, and its equation. -/
namespace Go.Ax
open Go.RowKit
structure aI {α:Type} (f:Nat→Option α) (o:Option α):Prop where
  mono:∀ n r,f n = some r→∀ m,n≤m→f m = some r
  to:∀ r,o = some r→∃ n,f n = some r
  of:∀ n r,f n = some r→o = some r
namespace aI
variable {α β:Type} {f g:Nat→Option α} {o o':Option α}
theorem const (o:Option α):aI (fun _=>o) o:=⟨fun _ _ h _ _=>h,fun _ h=>⟨0,h⟩,fun _ _ h=>h⟩
theorem uniq (h:aI f o) (h':aI f o'):o = o':=by
  cases ho:o with
  | some r =>
    obtain ⟨n,hn⟩:=h.to r ho
    exact (h'.of n r hn).symm
  | none =>
    cases ho':o' with
    | none=>rfl
    | some r =>
      obtain ⟨n,hn⟩:=h'.to r ho'
      rw [h.of n r hn] at ho; cases ho
theorem cnd {b:Bool} (h:aI f o) (h':aI g o'):aI (fun n=>bif b then f n else g n) (bif b then o else o'):=by
  cases b
  · exact h'
  · exact h
theorem bind {k:Nat→α→Option β} {k':α→Option β} (h:aI f o) (hk:∀ a,aI (fun n=>k n a) (k' a)):aI (fun n=>(f n).bind (k n)) (o.bind k'):=by
  refine ⟨fun n r hr m hm=>?_,fun r hr=>?_,fun n r hr=>?_⟩
  · obtain ⟨a,h1,h2⟩:=Option.bind_eq_some_iff.1 hr
    exact Option.bind_eq_some_iff.2 ⟨a,h.mono n a h1 m hm,(hk a).mono n r h2 m hm⟩
  · obtain ⟨a,h1,h2⟩:=Option.bind_eq_some_iff.1 hr
    obtain ⟨n1,g1⟩:=h.to a h1
    obtain ⟨n2,g2⟩:=(hk a).to r h2
    exact ⟨max n1 n2,Option.bind_eq_some_iff.2 ⟨a,h.mono n1 a g1 _ (Nat.le_max_left _ _),(hk a).mono n2 r g2 _ (Nat.le_max_right _ _)⟩⟩
  · obtain ⟨a,h1,h2⟩:=Option.bind_eq_some_iff.1 hr
    exact Option.bind_eq_some_iff.2 ⟨a,h.of n a h1,(hk a).of n r h2⟩
theorem gL {l:List Bool} (h:aI f o):aI (fun n=>Go.Ax.gL l (f n)) (Go.Ax.gL l o):=by
  induction l with
  | nil=>exact h
  | cons b l ih=>exact aI.cnd ih (const none)
theorem shift (h:aI f o):aI (fun n=>f (n+1)) o:=⟨fun n r hr m hm=>h.mono _ r hr _ (by omega),fun r hr=>by
  obtain ⟨n,hn⟩:=h.to r hr
  exact ⟨n,h.mono n r hn _ (by omega)⟩,fun n r hr=>h.of _ r hr⟩
end aI
def vA:Sp→Prop
  | .none=>True
  | .hand fi h=>∀ (X:Nat→XT) (Y:XT),(∀ fi a,aI (fun n=>X n fi a) (Y fi a))→∀ a,aI (fun n=>h (X n) a) (h Y a)
  | .mut m=>∀ (X:Nat→XT) (Y:XT),(∀ fi a,aI (fun n=>X n fi a) (Y fi a))→∀ H nid vs,aI (fun n=>m (X n) H nid vs) (m Y H nid vs)
structure gQ (Tb:jg):Prop where
  lim:∀ f,vA (Tb.sp f)
section
variable {R:Type} {Tb:jg} {N:Nat} {all:List Oper} {X:Nat→XT} {Y:XT}
theorem xu (hX:∀ fi a,aI (fun n=>X n fi a) (Y fi a)) {vs:List V} {k:Nat→iZ→Option R} {k':iZ→Option R} (hk:∀ o,aI (fun n=>k n o) (k' o)):∀ l:List FI,aI (fun n=>gq (X n) vs (k n) l) (gq Y vs k' l)
  | []=>.const none
  | fi :: r=>by
    unfold gq
    cases ya fi vs with
    | some a=>exact (hX fi a).bind fun y=>hk _
    | none=>exact xu hX hk r
theorem AL {T:Tm} {xs:List TV} {H:af} {nid:Nat} {args:List V} {k:Nat→aA→Option R} {k':aA→Option R} (hk:∀ r,aI (fun n=>k n r) (k' r)):aI (fun n=>iC T xs H nid args (k n)) (iC T xs H nid args k'):=by
  unfold iC
  split
  · exact .cnd (hk _) (.const none)
  · exact .const none
theorem HR {H:af} {nid:Nat} {args:List V} {k:Nat→aA→Option R} {k':aA→Option R} (hk:∀ r,aI (fun n=>k n r) (k' r)) (o:cI) (y:HP o.tys):aI (fun n=>jv o y H nid args (k n)) (jv o y H nid args k'):=by
  unfold jv
  split
  · exact AL hk
  · split
    · exact .cnd (AL hk) (AL hk)
    · exact .const none
  · exact .const none
theorem wT (hX:∀ fi a,aI (fun n=>X n fi a) (Y fi a)) {H:af} {nid:Nat} {args:List V} {k:Nat→aA→Option R} {k':aA→Option R} (hk:∀ r,aI (fun n=>k n r) (k' r)):∀ l:List FI,aI (fun n=>iY (X n) H nid args (k n) l) (iY Y H nid args k' l)
  | []=>.const none
  | fi :: r=>by
    unfold iY
    cases rdG fi H args with
    | some a=>exact (hX fi a).bind fun y=>HR hk _ _
    | none=>exact wT hX hk r
theorem MF {H:af} {nid:Nat} {args:List V} {k:Nat→aA→Option R} {k':aA→Option R} (hk:∀ r,aI (fun n=>k n r) (k' r)) (out:iZ):aI (fun n=>match p8 H nid args out with | some r=>k n r | none=>none) (match p8 H nid args out with | some r=>k' r | none=>none):=by
  cases p8 H nid args out with
  | some r=>exact hk r
  | none=>exact .const none
theorem ET {fi:FI} {h:Nat→HP fi.ins.tys→Option (HP fi.out.tys)} {h':HP fi.ins.tys→Option (HP fi.out.tys)} (hh:∀ a,aI (fun n=>h n a) (h' a)) {H:af} {nid:Nat} {args:List V} {k:Nat→aA→Option R} {k':aA→Option R} (hk:∀ r,aI (fun n=>k n r) (k' r)):aI (fun n=>lN fi (h n) H nid args (k n)) (lN fi h' H nid args k'):=by
  unfold lN
  cases rdG fi H args with
  | some a=>exact (hh a).bind fun y=>HR hk _ _
  | none=>exact .const none
theorem Fe {fi:FI} {h:Nat→HP fi.ins.tys→Option (HP fi.out.tys)} {h':HP fi.ins.tys→Option (HP fi.out.tys)} (hh:∀ a,aI (fun n=>h n a) (h' a)) {vs:List V} {k:Nat→iZ→Option R} {k':iZ→Option R} (hk:∀ o,aI (fun n=>k n o) (k' o)):aI (fun n=>lD fi (h n) vs (k n)) (lD fi h' vs k'):=by
  unfold lD
  cases ya fi vs with
  | some a=>exact (hh a).bind fun y=>hk _
  | none=>exact .const none
theorem Fu (hs:gQ Tb) (hX:∀ fi a,aI (fun n=>X n fi a) (Y fi a)) {f:FuncId} {H:af} {nid:Nat} {args:List V} {k:Nat→aA→Option R} {k':aA→Option R} (hk:∀ r,aI (fun n=>k n r) (k' r)):aI (fun n=>vd Tb (X n) f H nid args (k n)) (vd Tb Y f H nid args k'):=by
  unfold vd
  cases cR Tb.fs f with
  | some l =>
    simp only [Lh]
    exact .cnd (wT hX hk l) (xu hX (fun out=>MF hk out) l)
  | none =>
    have h:=hs.lim f
    cases hsp:Tb.sp f with
    | none=>exact .const none
    | hand fi hd=>rw [hsp] at h; exact .cnd (ET (fun a=>h X Y hX a) hk) (Fe (fun a=>h X Y hX a) fun out=>MF hk out)
    | «mut» m=>rw [hsp] at h; exact (h X Y hX _ _ _).bind fun r=>(hk r).gL
theorem sO:∀ {ch:aH} {σ:St} {k:Nat→St→Option R} {k':St→Option R},(∀ σ,aI (fun n=>k n σ) (k' σ))→aI (fun n=>l4 ch σ (k n)) (l4 ch σ k')
  | [],σ,k,k',h=>h σ
  | (t,w) :: r,σ,k,k',h=>by
    unfold l4
    split
    · exact .cnd (sO h) (sO h)
    · exact .const none
theorem C2 (hs:gQ Tb) (hX:∀ fi a,aI (fun n=>X n fi a) (Y fi a)) {σ:St} {nid:Nat} {o:Oper} {fT fF:List FuncId} {k:Nat→St→bP→List FuncId→List FuncId→Option R} {k':St→bP→List FuncId→List FuncId→Option R}
    (hk:∀ σ rc a b,aI (fun n=>k n σ rc a b) (k' σ rc a b)):aI (fun n=>E8 Tb (X n) N all σ nid o fT fF (k n)) (E8 Tb Y N all σ nid o fT fF k'):=by
  unfold E8
  refine .cnd (.cnd ?_ (.const none)) ?_
  · split
    · refine .cnd (sO fun σ=>?_) (.const none)
      split
      · split
        · refine .cnd (.cnd (.const none) (Fu hs hX fun r=>.cnd (hk _ _ _ _) (.const none))) (.cnd (Fu hs hX fun r=>.cnd (hk _ _ _ _) (.const none)) (.cnd (hk _ _ _ _) (.const none)))
        · exact .const none
      · exact .const none
    · exact .const none
  · split
    · exact (hk _ _ _ _).gL
    · exact .const none
theorem J4 (hs:gQ Tb) (hX:∀ fi a,aI (fun n=>X n fi a) (Y fi a)):∀ {l:List Oper} {σ:St} {fT fF:List FuncId} {k:Nat→St→Option R} {k':St→Option R},(∀ σ,aI (fun n=>k n σ) (k' σ))→aI (fun n=>Hg Tb (X n) N all l σ fT fF (k n)) (Hg Tb Y N all l σ fT fF k')
  | [],σ,fT,fF,k,k',h=>h _
  | o :: l,σ,fT,fF,k,k',h=>by
    unfold Hg
    exact C2 hs hX fun σ rc a b=>J4 hs hX h
theorem IA (hs:gQ Tb) (hX:∀ fi a,aI (fun n=>X n fi a) (Y fi a)):∀ {l:List Oper} {nid:Nat} {σ:St} {fT fF:List FuncId} {rcs:List bP} {k:Nat→List bP→St→Option R} {k':List bP→St→Option R},(∀ rs σ,aI (fun n=>k n rs σ) (k' rs σ)) →
    aI (fun n=>zW Tb (X n) N all l nid σ fT fF rcs (k n)) (zW Tb Y N all l nid σ fT fF rcs k')
  | [],nid,σ,fT,fF,rcs,k,k',h=>h _ _
  | o :: l,nid,σ,fT,fF,rcs,k,k',h=>by
    unfold zW
    exact C2 hs hX fun σ rc a b=>IA hs hX h
theorem xI (hs:gQ Tb) (hX:∀ fi a,aI (fun n=>X n fi a) (Y fi a)) {σ:St} {o:Oper} {k:Nat→St→Option R} {k':St→Option R} (h:∀ σ,aI (fun n=>k n σ) (k' σ)):aI (fun n=>uG Tb (X n) N all σ o (k n)) (uG Tb Y N all σ o k') :=
  C2 hs hX fun σ rc a b=>h _
theorem xa {σ:St} {o:Oper} {ch:aH} {k:Nat→St→Option R} {k':St→Option R} (h:∀ σ,aI (fun n=>k n σ) (k' σ)):aI (fun n=>vT N σ o ch (k n)) (vT N σ o ch k'):=.cnd (h _) (.const none)
theorem Ih (hs:gQ Tb) (hX:∀ fi a,aI (fun n=>X n fi a) (Y fi a)):∀ {l:List Oper} {σ:St} {k:Nat→St→Option R} {k':St→Option R},(∀ σ,aI (fun n=>k n σ) (k' σ))→aI (fun n=>lS Tb (X n) N all l σ (k n)) (lS Tb Y N all l σ k')
  | [],σ,k,k',h=>h _
  | o :: l,σ,k,k',h=>by
    unfold lS
    have rec_:∀ σ',aI (fun n=>lS Tb (X n) N all l σ' (k n)) (lS Tb Y N all l σ' k'):=fun σ'=>Ih hs hX h
    split
    · exact xI hs hX rec_
    · split
      · refine .cnd ?_ (.const none)
        split
        · exact .cnd (.cnd (.cnd (xI hs hX rec_) (xa rec_)) (.cnd (xa rec_) (xI hs hX rec_))) (xa rec_)
        · exact .const none
      · exact .const none
theorem NC (hs:gQ Tb) (hX:∀ fi a,aI (fun n=>X n fi a) (Y fi a)) {ops:Array Oper} {dr:Bool} {σ:St} {k:Nat→St→Option R} {k':St→Option R} (h:∀ σ,aI (fun n=>k n σ) (k' σ)):aI (fun n=>GN Tb (X n) N ops dr σ (k n)) (GN Tb Y N ops dr σ k') :=
  .cnd (IA hs hX fun rs σ=>.cnd (h σ) (.const none)) (.cnd (Ih hs hX h) (J4 hs hX h))
variable {J:Nat→(π:Nat)→(T:Tm)→HP T.tys→Option R} {L:(π:Nat)→(T:Tm)→HP T.tys→Option R} {cuts:List (Nat × Tm)}
theorem xh {π:Nat} (hJ:∀ π T s,aI (fun n=>J n π T s) (L π T s)) {T:Tm} {σ:St}:aI (fun n=>kN (J n π) T σ) (kN (L π) T σ):=(aI.const (Cx T σ)).bind fun s=>hJ π T s
theorem HW (hJ:∀ π T s,aI (fun n=>J n π T s) (L π T s)) {π:Nat} {go:Nat→St→Option R} {go':St→Option R} (hg:∀ σ,aI (fun n=>go n σ) (go' σ)) {κ:Nat→KX R} {κ':KX R} (hκ:∀ e σ,aI (fun n=>κ n e σ) (κ' e σ)) (e:Exit) (σ:St) :
    aI (fun n=>IG (J n) cuts π (go n) (κ n) e σ) (IG L cuts π go' κ' e σ):=by
  cases e with
  | normal =>
    show aI (fun n=>match cR cuts π with | some T=>kN (J n π) T σ | none=>go n σ) (match cR cuts π with | some T=>kN (L π) T σ | none=>go' σ)
    cases cR cuts π with
    | some T=>exact xh hJ
    | none=>exact hg σ
  | exit id=>exact hκ _ σ
  | goto l=>exact hκ _ σ
  | ret=>exact hκ _ σ
  | panic c=>exact hκ _ σ
  | outgrown=>exact hκ _ σ
theorem FE (hJ:∀ π T s,aI (fun n=>J n π T s) (L π T s)) {π:Nat} {κ:Nat→KX R} {κ':KX R} (hκ:∀ e σ,aI (fun n=>κ n e σ) (κ' e σ)) (e:Exit) (σ:St):aI (fun n=>yx (J n) cuts π (κ n) e σ) (yx L cuts π κ' e σ):=by
  cases e with
  | normal =>
    show aI (fun n=>match cR cuts π with | some T=>kN (J n π) T σ | none=>none) (match cR cuts π with | some T=>kN (L π) T σ | none=>none)
    cases cR cuts π with
    | some T=>exact xh hJ
    | none=>exact .const none
  | exit id=>exact hκ _ σ
  | goto l=>exact hκ _ σ
  | ret=>exact hκ _ σ
  | panic c=>exact hκ _ σ
  | outgrown=>exact hκ _ σ
theorem B5 {id:Nat} {κ:Nat→KX R} {κ':KX R} (hκ:∀ e σ,aI (fun n=>κ n e σ) (κ' e σ)) (e:Exit) (σ:St):aI (fun n=>qG id (κ n) e σ) (qG id κ' e σ):=by
  cases e with
  | exit id'=>exact .cnd (hκ _ σ) (hκ _ σ)
  | normal=>exact hκ _ σ
  | goto l=>exact hκ _ σ
  | ret=>exact hκ _ σ
  | panic c=>exact hκ _ σ
  | outgrown=>exact hκ _ σ
theorem Iy (hs:gQ Tb) (hX:∀ fi a,aI (fun n=>X n fi a) (Y fi a)) (hJ:∀ π T s,aI (fun n=>J n π T s) (L π T s)):∀ (c:Code) {π:Nat} {κ:Nat→KX R} {κ':KX R},(∀ e σ,aI (fun n=>κ n e σ) (κ' e σ))→∀ σ,
    aI (fun n=>xe Tb (X n) N (J n) cuts c π (κ n) σ) (xe Tb Y N L cuts c π κ' σ):=by
  intro c
  induction c with
  | skip=>exact fun h σ=>h _ σ
  | label l=>exact fun h σ=>h _ σ
  | region id ops dr=>exact fun h σ=>NC hs hX fun σ=>h _ σ
  | seq x y ihx ihy=>exact fun h σ=>ihx (fun e σ=>HW hJ (fun σ=>ihy h σ) h e σ) σ
  | cond c x y ihx ihy =>
    intro π κ κ' h σ
    unfold xe
    split
    · exact .cnd (ihx h σ) (ihy h σ)
    · exact .const none
  | block id x ih=>exact fun h σ=>ih (fun e σ=>B5 h e σ) σ
  | exit id=>exact fun h σ=>h _ σ
  | ret=>exact fun h σ=>h _ σ
  | loop x ih =>
    intro π κ κ' h σ
    unfold xe
    split
    · exact xh hJ
    · exact .const none
  | rangeFunc f params assign body=>exact fun h σ=>.const none
  | scope body=>exact fun h σ=>.const none
  | goto l=>exact fun h σ=>.const none
  | refuse why=>exact fun h σ=>.const none
theorem tH (hs:gQ Tb) (hX:∀ fi a,aI (fun n=>X n fi a) (Y fi a)) (hJ:∀ π T s,aI (fun n=>J n π T s) (L π T s)):∀ (b:List Bool) (c:Code) {π:Nat} {κ:Nat→KX R} {κ':KX R},(∀ e σ,aI (fun n=>κ n e σ) (κ' e σ))→∀ σ,
    aI (fun n=>NF (zB Tb (X n) N (J n) cuts b c π (κ n)) σ) (NF (zB Tb Y N L cuts b c π κ') σ)
  | [],c,π,κ,κ',h,σ=>by
    cases c <;> first | exact Iy hs hX hJ _ h σ | exact Iy hs hX hJ _ (FE hJ h) σ
  | b :: r,c,π,κ,κ',h,σ=>by
    cases c <;> cases b <;> first | exact .const none | exact tH hs hX hJ r _ h σ | exact tH hs hX hJ r _ (fun e σ=>HW hJ (fun σ=>Iy hs hX hJ _ h σ) h e σ) σ | exact tH hs hX hJ r _ (B5 h) σ | exact tH hs hX hJ r _ (FE hJ h) σ
end
open Classical in
noncomputable def Xf (Tb:jg):JT:=fun fi π T s=>if h:∃ n r,Jn Tb n fi π T s = some r then some h.choose_spec.choose else none
section
variable {Tb:jg}
theorem Kl (n:Nat) (fi:FI) (π:Nat) (T:Tm) (s:HP T.tys):Jn Tb (n+1) fi π T s = yy Tb (Jn Tb n) fi π T s:=by rw [Jn]
theorem FF (hs:gQ Tb) {J:Nat→JT} {L:JT} (hJ:∀ fi π T s,aI (fun n=>J n fi π T s) (L fi π T s)) (fi:FI) (π:Nat) (T:Tm) (s:HP T.tys):aI (fun n=>yy Tb (J n) fi π T s) (yy Tb L fi π T s) :=
  .cnd (tH hs (X:=fun n fi a=>J n fi 1 fi.ins a) (Y:=fun fi a=>L fi 1 fi.ins a) (J:=fun n=>J n fi) (L:=L fi) (fun fi a=>hJ fi 1 fi.ins a) (hJ fi) (qP π) fi.c (κ:=fun _=>yd Tb.P fi) (κ':=yd Tb.P fi) (fun e σ=>.const _) (zE T s)) (.const none)
theorem AR (hs:gQ Tb):∀ (n:Nat) (fi:FI) (π:Nat) (T:Tm) (s:HP T.tys) (r:HP fi.out.tys),Jn Tb n fi π T s = some r→Jn Tb (n+1) fi π T s = some r
  | 0,fi,π,T,s,r,h=>by simp [Jn] at h
  | n+1,fi,π,T,s,r,h=>by
    have key:∀ fi π T s,aI (fun k=>match k with | 0=>Jn Tb n fi π T s | _+1=>Jn Tb (n+1) fi π T s) (Jn Tb (n+1) fi π T s):=fun fi π T s =>
      ⟨fun k r hk m hm=>by
        match k,m with
        | 0,0=>exact hk
        | 0,m+1=>exact AR hs n fi π T s r hk
        | k+1,m+1=>exact hk,fun r hr=>⟨1,hr⟩,fun k r hk=>by
        match k with
        | 0=>exact AR hs n fi π T s r hk
        | k+1=>exact hk⟩
    have:=FF hs (J:=fun k fi π T s=>match k with | 0=>Jn Tb n fi π T s | _+1=>Jn Tb (n+1) fi π T s) key fi π T s
    rw [Kl] at h ⊢
    exact this.of 0 r h
theorem HC (hs:gQ Tb) (fi:FI) (π:Nat) (T:Tm) (s:HP T.tys):aI (fun n=>Jn Tb n fi π T s) (Xf Tb fi π T s):=by
  have mono:∀ n r,Jn Tb n fi π T s = some r→∀ m,n≤m→Jn Tb m fi π T s = some r:=by
    intro n r h m hm
    induction m with
    | zero =>
      have:n = 0:=by omega
      subst this; exact h
    | succ m ih =>
      by_cases e:n = m+1
      · subst e; exact h
      · exact AR hs m fi π T s r (ih (by omega))
  refine ⟨mono,fun r hr=>?_,fun n r hr=>?_⟩
  · unfold Xf at hr
    split at hr
    · next h=>cases hr; exact ⟨h.choose,h.choose_spec.choose_spec⟩
    · cases hr
  · unfold Xf
    have h:∃ n r,Jn Tb n fi π T s = some r:=⟨n,r,hr⟩
    rw [dif_pos h]
    have h1:=h.choose_spec.choose_spec
    have h2:=mono _ _ h1 (max n h.choose) (Nat.le_max_right _ _)
    rw [mono _ _ hr (max n h.choose) (Nat.le_max_left _ _)] at h2
    exact h2.symm
theorem ae (hs:gQ Tb) (fi:FI) (π:Nat) (T:Tm) (s:HP T.tys):Xf Tb fi π T s = yy Tb (Xf Tb) fi π T s :=
  ((HC hs fi π T s).shift).uniq (by simpa only [Kl] using FF hs (J:=Jn Tb) (fun fi π T s=>HC hs fi π T s) fi π T s)
noncomputable abbrev Xc (Tb:jg):XT:=fun fi a=>Xf Tb fi 1 fi.ins a
theorem Oe (hT:yK Tb) (hs:gQ Tb) (f:FuncId):bN Tb.P f (eZ Tb (Xc Tb) f):=by
  have hX:∀ fi a,aI (fun n=>Xn Tb n fi a) (Xc Tb fi a):=fun fi a=>HC hs fi 1 fi.ins a
  have hm:∀ n,bN Tb.P f (eZ Tb (Xn Tb n) f):=fun n=>PJ.meets hT (Pa hT n) f
  unfold eZ at hm ⊢
  cases hl:cR Tb.fs f with
  | some l =>
    rw [hl] at hm
    simp only at hm ⊢
    cases hg:Dm l with
    | true =>
      rw [hg] at hm
      simp only [cond_true] at hm ⊢
      intro E w H nid xs args r h1 h2 h3 h4 h5
      obtain ⟨n,hn⟩:=(wT (R:=aA) hX (k:=fun _=>some) (k':=some) (fun r=>.const (some r)) l).to r h4
      exact hm n E w H nid xs args r h1 h2 h3 hn h5
    | false =>
      rw [hg] at hm
      simp only [cond_false] at hm ⊢
      intro ok w xs vs p out h1 h2 h3 h4
      cases hk:gq (Xc Tb) vs some l with
      | none=>simp only [hk] at h3; cases h3
      | some o =>
        simp only [hk] at h3; cases h3
        obtain ⟨n,hn⟩:=(xu (R:=iZ) hX (k:=fun _=>some) (k':=some) (fun r=>.const (some r)) l).to _ hk
        exact hm n ok w xs vs true out h1 h2 (by simp only [hn]; rfl) rfl
  | none =>
    rw [hl] at hm
    simp only at hm ⊢
    have h:=hs.lim f
    cases hsp:Tb.sp f with
    | none=>rw [hsp] at hm; exact hm 0
    | hand fi hd =>
      rw [hsp] at hm h
      simp only at hm ⊢
      cases hg:fi.out.isGen with
      | true =>
        rw [hg] at hm
        simp only [cond_true] at hm ⊢
        intro E w H nid xs args r h1 h2 h3 h4 h5
        obtain ⟨n,hn⟩:=(ET (R:=aA) (fun a=>h (fun n=>Xn Tb n) (Xc Tb) hX a) (k:=fun _=>some) (k':=some) (fun r=>.const (some r))).to r h4
        exact hm n E w H nid xs args r h1 h2 h3 hn h5
      | false =>
        rw [hg] at hm
        simp only [cond_false] at hm ⊢
        intro ok w xs vs p out h1 h2 h3 h4
        cases hk:lD fi (hd (Xc Tb)) vs some with
        | none=>simp only [hk] at h3; cases h3
        | some o =>
          simp only [hk] at h3; cases h3
          obtain ⟨n,hn⟩:=(Fe (R:=iZ) (fun a=>h (fun n=>Xn Tb n) (Xc Tb) hX a) (k:=fun _=>some) (k':=some) (fun r=>.const (some r))).to _ hk
          exact hm n ok w xs vs true out h1 h2 (by simp only [hn]; rfl) rfl
    | «mut» m =>
      rw [hsp] at hm h
      simp only at hm ⊢
      intro E w H nid xs args r h1 h2 h3 h4 h5
      obtain ⟨n,hn⟩:=(h (fun n=>Xn Tb n) (Xc Tb) hX (bz (aR H args) H) nid args).to r h4
      exact hm n E w H nid xs args r h1 h2 h3 hn h5
end
end Go.Ax
