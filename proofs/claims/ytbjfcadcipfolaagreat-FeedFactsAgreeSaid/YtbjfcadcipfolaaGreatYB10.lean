import Derived.Test.YtbjfcadcipfolaaGreatYB9
set_option linter.all false
/- Functions for good: the limit of functions of ever more steps, and its equation. -/
namespace Go.Ax
open Go.RowKit
structure aO {α:Type} (f:Nat→Option α) (o:Option α):Prop where
  mono:∀ n r,f n = some r→∀ m,n≤m→f m = some r
  to:∀ r,o = some r→∃ n,f n = some r
  of:∀ n r,f n = some r→o = some r
namespace aO
variable {α β:Type} {f g:Nat→Option α} {o o':Option α}
theorem const (o:Option α):aO (fun _=>o) o:=⟨fun _ _ h _ _=>h,fun _ h=>⟨0,h⟩,fun _ _ h=>h⟩
theorem uniq (h:aO f o) (h':aO f o'):o = o':=by
 cases ho:o with
 | some r =>
  obtain ⟨n,hn⟩:=h.to r ho
  exact (h'.of n r hn).symm
 | none =>
  cases ho':o' with
  | none=>rfl
  | some r =>
   obtain ⟨n,hn⟩:=h'.to r ho'
   rw [h.of n r hn] at ho;cases ho
theorem cnd {b:Bool} (h:aO f o) (h':aO g o'):aO (fun n=>bif b then f n else g n) (bif b then o else o'):=by
 cases b
 ·exact h'
 ·exact h
theorem bind {k:Nat→α→Option β} {k':α→Option β} (h:aO f o) (hk:∀ a,aO (fun n=>k n a) (k' a)):aO (fun n=>(f n).bind (k n)) (o.bind k'):=by
 refine ⟨fun n r hr m hm=>?_,fun r hr=>?_,fun n r hr=>?_⟩
 ·obtain ⟨a,h1,h2⟩:=Option.bind_eq_some_iff.1 hr
  exact Option.bind_eq_some_iff.2 ⟨a,h.mono n a h1 m hm,(hk a).mono n r h2 m hm⟩
 ·obtain ⟨a,h1,h2⟩:=Option.bind_eq_some_iff.1 hr
  obtain ⟨n1,g1⟩:=h.to a h1
  obtain ⟨n2,g2⟩:=(hk a).to r h2
  exact ⟨max n1 n2,Option.bind_eq_some_iff.2 ⟨a,h.mono n1 a g1 _ (Nat.le_max_left _ _),(hk a).mono n2 r g2 _ (Nat.le_max_right _ _)⟩⟩
 ·obtain ⟨a,h1,h2⟩:=Option.bind_eq_some_iff.1 hr
  exact Option.bind_eq_some_iff.2 ⟨a,h.of n a h1,(hk a).of n r h2⟩
theorem gL {l:List Bool} (h:aO f o):aO (fun n=>Go.Ax.gL l (f n)) (Go.Ax.gL l o):=by
 induction l with
 | nil=>exact h
 | cons b l ih=>exact aO.cnd ih (const none)
theorem shift (h:aO f o):aO (fun n=>f (n+1)) o:=⟨fun n r hr m hm=>h.mono _ r hr _ (by omega),fun r hr=>by
 obtain ⟨n,hn⟩:=h.to r hr
 exact ⟨n,h.mono n r hn _ (by omega)⟩,fun n r hr=>h.of _ r hr⟩
end aO
def xI:Sp→Prop
 | .none=>True
 | .hand fi h=>∀ (X:Nat→XT) (Y:XT),(∀ fi a,aO (fun n=>X n fi a) (Y fi a))→∀ a,aO (fun n=>h (X n) a) (h Y a)
 | .mut m=>∀ (X:Nat→XT) (Y:XT),(∀ fi a,aO (fun n=>X n fi a) (Y fi a))→∀ H nid vs,aO (fun n=>m (X n) H nid vs) (m Y H nid vs)
structure iK (Tb:jT):Prop where
  lim:∀ f,xI (Tb.sp f)
section
variable {R:Type} {Tb:jT} {N:Nat} {all:List Oper} {X:Nat→XT} {Y:XT}
theorem y4 (hX:∀ fi a,aO (fun n=>X n fi a) (Y fi a)) {vs:List V} {k:Nat→jY→Option R} {k':jY→Option R} (hk:∀ o,aO (fun n=>k n o) (k' o)):∀ l:List FI,aO (fun n=>gZ (X n) vs (k n) l) (gZ Y vs k' l)
 | []=>.const none
 | fi :: r=>by
  unfold gZ
  cases zp fi vs with
  | some a=>exact (hX fi a).bind fun y=>hk _
  | none=>exact y4 hX hk r
theorem By {T:Tm} {xs:List TV} {H:ae} {nid:Nat} {args:List V} {k:Nat→aH→Option R} {k':aH→Option R} (hk:∀ r,aO (fun n=>k n r) (k' r)):aO (fun n=>jM T xs H nid args (k n)) (jM T xs H nid args k'):=by
 unfold jM
 split
 ·exact .cnd (hk _) (.const none)
 ·exact .const none
theorem Hg {H:ae} {nid:Nat} {args:List V} {k:Nat→aH→Option R} {k':aH→Option R} (hk:∀ r,aO (fun n=>k n r) (k' r)) (o:cS) (y:HP o.tys):aO (fun n=>j9 o y H nid args (k n)) (j9 o y H nid args k'):=by
 unfold j9
 split
 ·exact By hk
 ·split
  ·exact .cnd (By hk) (By hk)
  ·exact .const none
 ·exact .const none
theorem zm (hX:∀ fi a,aO (fun n=>X n fi a) (Y fi a)) {H:ae} {nid:Nat} {args:List V} {k:Nat→aH→Option R} {k':aH→Option R} (hk:∀ r,aO (fun n=>k n r) (k' r)):∀ l:List FI,aO (fun n=>jA (X n) H nid args (k n) l) (jA Y H nid args k' l)
 | []=>.const none
 | fi :: r=>by
  unfold jA
  cases rdG fi H args with
  | some a=>exact (hX fi a).bind fun y=>Hg hk _ _
  | none=>exact zm hX hk r
theorem Nk {H:ae} {nid:Nat} {args:List V} {k:Nat→aH→Option R} {k':aH→Option R} (hk:∀ r,aO (fun n=>k n r) (k' r)) (out:jY):aO (fun n=>match rC H nid args out with | some r=>k n r | none=>none) (match rC H nid args out with | some r=>k' r | none=>none):=by
 cases rC H nid args out with
 | some r=>exact hk r
 | none=>exact .const none
theorem Gi {fi:FI} {h:Nat→HP fi.ins.tys→Option (HP fi.out.tys)} {h':HP fi.ins.tys→Option (HP fi.out.tys)} (hh:∀ a,aO (fun n=>h n a) (h' a)) {H:ae} {nid:Nat} {args:List V} {k:Nat→aH→Option R} {k':aH→Option R} (hk:∀ r,aO (fun n=>k n r) (k' r)):aO (fun n=>mJ fi (h n) H nid args (k n)) (mJ fi h' H nid args k'):=by
 unfold mJ
 cases rdG fi H args with
 | some a=>exact (hh a).bind fun y=>Hg hk _ _
 | none=>exact .const none
theorem FD {fi:FI} {h:Nat→HP fi.ins.tys→Option (HP fi.out.tys)} {h':HP fi.ins.tys→Option (HP fi.out.tys)} (hh:∀ a,aO (fun n=>h n a) (h' a)) {vs:List V} {k:Nat→jY→Option R} {k':jY→Option R} (hk:∀ o,aO (fun n=>k n o) (k' o)):aO (fun n=>mA fi (h n) vs (k n)) (mA fi h' vs k'):=by
 unfold mA
 cases zp fi vs with
 | some a=>exact (hh a).bind fun y=>hk _
 | none=>exact .const none
theorem M7 (hs:iK Tb) (hX:∀ fi a,aO (fun n=>X n fi a) (Y fi a)) {f:FuncId} {H:ae} {nid:Nat} {args:List V} {k:Nat→aH→Option R} {k':aH→Option R} (hk:∀ r,aO (fun n=>k n r) (k' r)):aO (fun n=>Ai Tb (X n) f H nid args (k n)) (Ai Tb Y f H nid args k'):=by
 unfold Ai
 cases cB Tb.fs f with
 | some l =>
  simp only [Lx]
  exact .cnd (zm hX hk l) (y4 hX (fun out=>Nk hk out) l)
 | none =>
  have h:=hs.lim f
  cases hsp:Tb.sp f with
  | none=>exact .const none
  | hand fi hd=>rw [hsp] at h;exact .cnd (Gi (fun a=>h X Y hX a) hk) (FD (fun a=>h X Y hX a) fun out=>Nk hk out)
  | «mut» m=>rw [hsp] at h;exact (h X Y hX _ _ _).bind fun r=>(hk r).gL
theorem uD:∀ {ch:aN} {σ:St} {k:Nat→St→Option R} {k':St→Option R},(∀ σ,aO (fun n=>k n σ) (k' σ))→aO (fun n=>m7 ch σ (k n)) (m7 ch σ k')
 | [],σ,k,k',h=>h σ
 | (t,w) :: r,σ,k,k',h=>by
  unfold m7
  split
  ·exact .cnd (uD h) (uD h)
  ·exact .const none
theorem Ev (hs:iK Tb) (hX:∀ fi a,aO (fun n=>X n fi a) (Y fi a)) {σ:St} {nid:Nat} {o:Oper} {k:Nat→St→bA→Option R} {k':St→bA→Option R}
  (hk:∀ σ rc,aO (fun n=>k n σ rc) (k' σ rc)):aO (fun n=>FZ Tb (X n) N all σ nid o (k n)) (FZ Tb Y N all σ nid o k'):=by
 unfold FZ
 refine .cnd (.cnd ?_ (.const none)) ?_
 ·split
  ·refine .cnd (uD fun σ=>.cnd ?_ (.cnd (hk _ _) (.const none))) (.const none)
   split
   ·split
    ·exact M7 hs hX fun r=>.cnd (hk _ _) (.const none)
    ·exact .const none
   ·exact .const none
  ·exact .const none
 ·split
  ·exact (hk _ _).gL
  ·exact .const none
theorem Ef (hs:iK Tb) (hX:∀ fi a,aO (fun n=>X n fi a) (Y fi a)):∀ {l:List Oper} {σ:St} {k:Nat→St→Option R} {k':St→Option R},(∀ σ,aO (fun n=>k n σ) (k' σ))→aO (fun n=>FH Tb (X n) N all l σ (k n)) (FH Tb Y N all l σ k')
 | [],σ,k,k',h=>h _
 | o :: l,σ,k,k',h=>by
  unfold FH
  exact Ev hs hX fun σ rc=>Ef hs hX h
theorem H1 (hs:iK Tb) (hX:∀ fi a,aO (fun n=>X n fi a) (Y fi a)):∀ {l:List Oper} {nid:Nat} {σ:St} {rcs:List bA} {k:Nat→List bA→St→Option R} {k':List bA→St→Option R},(∀ rs σ,aO (fun n=>k n rs σ) (k' rs σ)) →
  aO (fun n=>Be Tb (X n) N all l nid σ rcs (k n)) (Be Tb Y N all l nid σ rcs k')
 | [],nid,σ,rcs,k,k',h=>h _ _
 | o :: l,nid,σ,rcs,k,k',h=>by
  unfold Be
  exact Ev hs hX fun σ rc=>H1 hs hX h
theorem zN (hs:iK Tb) (hX:∀ fi a,aO (fun n=>X n fi a) (Y fi a)) {σ:St} {o:Oper} {k:Nat→St→Option R} {k':St→Option R} (h:∀ σ,aO (fun n=>k n σ) (k' σ)):aO (fun n=>wG Tb (X n) N all σ o (k n)) (wG Tb Y N all σ o k') :=
 Ev hs hX fun σ rc=>h _
theorem yr {σ:St} {o:Oper} {ch:aN} {k:Nat→St→Option R} {k':St→Option R} (h:∀ σ,aO (fun n=>k n σ) (k' σ)):aO (fun n=>xK N σ o ch (k n)) (xK N σ o ch k'):=.cnd (h _) (.const none)
theorem Im (hs:iK Tb) (hX:∀ fi a,aO (fun n=>X n fi a) (Y fi a)):∀ {l:List Oper} {σ:St} {k:Nat→St→Option R} {k':St→Option R},(∀ σ,aO (fun n=>k n σ) (k' σ))→aO (fun n=>mN Tb (X n) N all l σ (k n)) (mN Tb Y N all l σ k')
 | [],σ,k,k',h=>h _
 | o :: l,σ,k,k',h=>by
  unfold mN
  have rec_:∀ σ',aO (fun n=>mN Tb (X n) N all l σ' (k n)) (mN Tb Y N all l σ' k'):=fun σ'=>Im hs hX h
  split
  ·exact zN hs hX rec_
  ·split
   ·refine .cnd ?_ (.const none)
    split
    ·exact .cnd (.cnd (.cnd (zN hs hX rec_) (yr rec_)) (.cnd (yr rec_) (zN hs hX rec_))) (yr rec_)
    ·exact .const none
   ·exact .const none
theorem NT {l:List Nat} {f:Nat→Nat→Option R} {f':Nat→Option R} (h:∀ p,aO (fun n=>f n p) (f' p)):aO (fun n=>rk l (f n)) (rk l f'):=by
 refine ⟨fun n r hr m hm=>?_,fun r hr=>?_,fun n r hr=>?_⟩
 ·obtain ⟨h1,h2⟩:=rt hr
  exact td h1 fun p hp=>(h p).mono n r (h2 p hp) m hm
 ·obtain ⟨h1,h2⟩:=rt hr
  have key:∀ l:List Nat,(∀ p∈l,f' p = some r)→∃ n, ∀ p∈l,f n p = some r:=by
   intro l
   induction l with
   | nil=>exact fun _=>⟨0,by simp⟩
   | cons q l ih =>
    intro hl
    obtain ⟨n1,g1⟩:=(h q).to r (hl q (by simp))
    obtain ⟨n2,g2⟩:=ih fun p hp=>hl p (by simp [hp])
    refine ⟨max n1 n2,fun p hp=>?_⟩
    rcases List.mem_cons.1 hp with rfl | hp
    ·exact (h p).mono n1 r g1 _ (Nat.le_max_left _ _)
    ·exact (h p).mono n2 r (g2 p hp) _ (Nat.le_max_right _ _)
  obtain ⟨n,hn⟩:=key l h2
  exact ⟨n,td h1 hn⟩
 ·obtain ⟨h1,h2⟩:=rt hr
  exact td h1 fun p hp=>(h p).of n r (h2 p hp)
theorem Nb {σ:St} {o:Oper} {x:Operand} {k:Nat→St→Option R} {k':St→Option R} (h:∀ σ,aO (fun n=>k n σ) (k' σ)):aO (fun n=>zQ N σ o x (k n)) (zQ N σ o x k'):=by
 unfold zQ
 refine .cnd ?_ (.const none)
 split
 ·split
  ·refine .cnd ?_ (.const none)
   split
   ·exact .cnd (.gL (.cnd (h _) (NT fun p=>h _))) (.const none)
   ·exact .const none
  ·exact .const none
 ·exact .const none
theorem OY (hs:iK Tb) (hX:∀ fi a,aO (fun n=>X n fi a) (Y fi a)) {ops:Array Oper} {dr:Bool} {σ:St} {k:Nat→St→Option R} {k':St→Option R} (h:∀ σ,aO (fun n=>k n σ) (k' σ)):aO (fun n=>Jg Tb (X n) N ops dr σ (k n)) (Jg Tb Y N ops dr σ k') :=
 .cnd (H1 hs hX fun rs σ=>.cnd (h σ) (.const none)) (by
  split
  ·exact Nb fun σ=>Ef hs hX h
  ·exact .cnd (Im hs hX h) (Ef hs hX h))
variable {J:Nat→(π:Nat)→(T:Tm)→HP T.tys→Option R} {L:(π:Nat)→(T:Tm)→HP T.tys→Option R} {cuts:List (Nat × Tm)} {hd:List (Nat × JR)}
theorem ym {π:Nat} (hJ:∀ π T s,aO (fun n=>J n π T s) (L π T s)) {T:Tm} {σ:St}:aO (fun n=>lK (J n π) T σ) (lK (L π) T σ):=(aO.const (zI T σ)).bind fun s=>hJ π T s
theorem IE (hJ:∀ π T s,aO (fun n=>J n π T s) (L π T s)) {π:Nat} {go:Nat→St→Option R} {go':St→Option R} (hg:∀ σ,aO (fun n=>go n σ) (go' σ)) {κ:Nat→KX R} {κ':KX R} (hκ:∀ e σ,aO (fun n=>κ n e σ) (κ' e σ)) (e:Exit) (σ:St) :
  aO (fun n=>IG (J n) cuts π (go n) (κ n) e σ) (IG L cuts π go' κ' e σ):=by
 cases e with
 | normal =>
  show aO (fun n=>match cB cuts π with | some T=>lK (J n π) T σ | none=>go n σ) (match cB cuts π with | some T=>lK (L π) T σ | none=>go' σ)
  cases cB cuts π with
  | some T=>exact ym hJ
  | none=>exact hg σ
 | exit id=>exact hκ _ σ
 | goto l=>exact hκ _ σ
 | ret=>exact hκ _ σ
 | panic c=>exact hκ _ σ
 | outgrown=>exact hκ _ σ
theorem FK (hJ:∀ π T s,aO (fun n=>J n π T s) (L π T s)) {π:Nat} {κ:Nat→KX R} {κ':KX R} (hκ:∀ e σ,aO (fun n=>κ n e σ) (κ' e σ)) (e:Exit) (σ:St):aO (fun n=>z7 (J n) cuts π (κ n) e σ) (z7 L cuts π κ' e σ):=by
 cases e with
 | normal =>
  show aO (fun n=>match cB cuts π with | some T=>lK (J n π) T σ | none=>none) (match cB cuts π with | some T=>lK (L π) T σ | none=>none)
  cases cB cuts π with
  | some T=>exact ym hJ
  | none=>exact .const none
 | exit id=>exact hκ _ σ
 | goto l=>exact hκ _ σ
 | ret=>exact hκ _ σ
 | panic c=>exact hκ _ σ
 | outgrown=>exact hκ _ σ
theorem Da {id:Nat} {κ:Nat→KX R} {κ':KX R} (hκ:∀ e σ,aO (fun n=>κ n e σ) (κ' e σ)) (e:Exit) (σ:St):aO (fun n=>qy id (κ n) e σ) (qy id κ' e σ):=by
 cases e with
 | exit id'=>exact .cnd (hκ _ σ) (hκ _ σ)
 | normal=>exact hκ _ σ
 | goto l=>exact hκ _ σ
 | ret=>exact hκ _ σ
 | panic c=>exact hκ _ σ
 | outgrown=>exact hκ _ σ
theorem Ig (hs:iK Tb) (hX:∀ fi a,aO (fun n=>X n fi a) (Y fi a)) (hJ:∀ π T s,aO (fun n=>J n π T s) (L π T s)):∀ (c:Code) {π:Nat} {κ:Nat→KX R} {κ':KX R},(∀ e σ,aO (fun n=>κ n e σ) (κ' e σ))→∀ σ,
  aO (fun n=>xe Tb (X n) N (J n) cuts hd c π (κ n) σ) (xe Tb Y N L cuts hd c π κ' σ):=by
 intro c
 induction c with
 | skip=>exact fun h σ=>h _ σ
 | label l=>exact fun h σ=>h _ σ
 | region id ops dr=>exact fun h σ=>OY hs hX fun σ=>h _ σ
 | seq x y ihx ihy=>exact fun h σ=>ihx (fun e σ=>IE hJ (fun σ=>ihy h σ) h e σ) σ
 | cond c x y ihx ihy =>
  intro π κ κ' h σ
  unfold xe
  split
  ·exact .cnd (ihx h σ) (ihy h σ)
  ·exact .const none
 | block id x ih =>
  intro π κ κ' h σ
  unfold xe
  split
  ·exact (aO.const _).bind fun y=>h _ _
  ·exact ih (fun e σ=>Da h e σ) σ
 | exit id=>exact fun h σ=>h _ σ
 | ret=>exact fun h σ=>h _ σ
 | loop x ih =>
  intro π κ κ' h σ
  unfold xe
  split
  ·exact ym hJ
  ·exact .const none
 | rangeFunc f params assign body=>exact fun h σ=>.const none
 | scope body=>exact fun h σ=>.const none
 | goto l=>exact fun h σ=>.const none
 | refuse why=>exact fun h σ=>.const none
theorem vA (hs:iK Tb) (hX:∀ fi a,aO (fun n=>X n fi a) (Y fi a)) (hJ:∀ π T s,aO (fun n=>J n π T s) (L π T s)):∀ (b:List Bool) (c:Code) {π:Nat} {κ:Nat→KX R} {κ':KX R},(∀ e σ,aO (fun n=>κ n e σ) (κ' e σ))→∀ σ,
  aO (fun n=>Pm (AU Tb (X n) N (J n) cuts hd b c π (κ n)) σ) (Pm (AU Tb Y N L cuts hd b c π κ') σ)
 | [],c,π,κ,κ',h,σ=>by
  cases c <;> first | exact Ig hs hX hJ _ h σ | exact Ig hs hX hJ _ (FK hJ h) σ
 | b :: r,c,π,κ,κ',h,σ=>by
  cases c <;> cases b <;> first | exact .const none | exact vA hs hX hJ r _ h σ | exact vA hs hX hJ r _ (fun e σ=>IE hJ (fun σ=>Ig hs hX hJ _ h σ) h e σ) σ | exact vA hs hX hJ r _ (Da h) σ | exact vA hs hX hJ r _ (FK hJ h) σ
end
open Classical in
noncomputable def Xf (Tb:jT):JT:=fun fi π T s=>if h:∃ n r,Jn Tb n fi π T s = some r then some h.choose_spec.choose else none
section
variable {Tb:jT}
theorem KC (n:Nat) (fi:FI) (π:Nat) (T:Tm) (s:HP T.tys):Jn Tb (n+1) fi π T s = Af Tb (Jn Tb n) fi π T s:=by rw [Jn]
theorem Gf (hs:iK Tb) {J:Nat→JT} {L:JT} (hJ:∀ fi π T s,aO (fun n=>J n fi π T s) (L fi π T s)) (fi:FI) (π:Nat) (T:Tm) (s:HP T.tys):aO (fun n=>Af Tb (J n) fi π T s) (Af Tb L fi π T s) :=
 .cnd (vA hs (X:=fun n fi a=>J n fi 1 fi.ins a) (Y:=fun fi a=>L fi 1 fi.ins a) (J:=fun n=>J n fi) (L:=L fi) (fun fi a=>hJ fi 1 fi.ins a) (hJ fi) (nO π) fi.c (κ:=fun _=>yC Tb.P fi) (κ':=yC Tb.P fi) (fun e σ=>.const _) (tS T s)) (.const none)
theorem Bg (hs:iK Tb):∀ (n:Nat) (fi:FI) (π:Nat) (T:Tm) (s:HP T.tys) (r:HP fi.out.tys),Jn Tb n fi π T s = some r→Jn Tb (n+1) fi π T s = some r
 | 0,fi,π,T,s,r,h=>by simp [Jn] at h
 | n+1,fi,π,T,s,r,h=>by
  have key:∀ fi π T s,aO (fun k=>match k with | 0=>Jn Tb n fi π T s | _+1=>Jn Tb (n+1) fi π T s) (Jn Tb (n+1) fi π T s):=fun fi π T s =>
   ⟨fun k r hk m hm=>by
    match k,m with
    | 0,0=>exact hk
    | 0,m+1=>exact Bg hs n fi π T s r hk
    | k+1,m+1=>exact hk,fun r hr=>⟨1,hr⟩,fun k r hk=>by
    match k with
    | 0=>exact Bg hs n fi π T s r hk
    | k+1=>exact hk⟩
  have:=Gf hs (J:=fun k fi π T s=>match k with | 0=>Jn Tb n fi π T s | _+1=>Jn Tb (n+1) fi π T s) key fi π T s
  rw [KC] at h ⊢
  exact this.of 0 r h
theorem IP (hs:iK Tb) (fi:FI) (π:Nat) (T:Tm) (s:HP T.tys):aO (fun n=>Jn Tb n fi π T s) (Xf Tb fi π T s):=by
 have mono:∀ n r,Jn Tb n fi π T s = some r→∀ m,n≤m→Jn Tb m fi π T s = some r:=by
  intro n r h m hm
  induction m with
  | zero =>
   have:n = 0:=by omega
   subst this;exact h
  | succ m ih =>
   by_cases e:n = m+1
   ·subst e;exact h
   ·exact Bg hs m fi π T s r (ih (by omega))
 refine ⟨mono,fun r hr=>?_,fun n r hr=>?_⟩
 ·unfold Xf at hr
  split at hr
  ·next h=>cases hr;exact ⟨h.choose,h.choose_spec.choose_spec⟩
  ·cases hr
 ·unfold Xf
  have h:∃ n r,Jn Tb n fi π T s = some r:=⟨n,r,hr⟩
  rw [dif_pos h]
  have h1:=h.choose_spec.choose_spec
  have h2:=mono _ _ h1 (max n h.choose) (Nat.le_max_right _ _)
  rw [mono _ _ hr (max n h.choose) (Nat.le_max_left _ _)] at h2
  exact h2.symm
theorem ai (hs:iK Tb) (fi:FI) (π:Nat) (T:Tm) (s:HP T.tys):Xf Tb fi π T s = Af Tb (Xf Tb) fi π T s :=
 ((IP hs fi π T s).shift).uniq (by simpa only [KC] using Gf hs (J:=Jn Tb) (fun fi π T s=>IP hs fi π T s) fi π T s)
noncomputable abbrev Xc (Tb:jT):XT:=fun fi a=>Xf Tb fi 1 fi.ins a
theorem ON (hT:zX Tb) (hs:iK Tb) (f:FuncId):bz Tb.P f (eT Tb (Xc Tb) f):=by
 have hX:∀ fi a,aO (fun n=>Xn Tb n fi a) (Xc Tb fi a):=fun fi a=>IP hs fi 1 fi.ins a
 have hm:∀ n,bz Tb.P f (eT Tb (Xn Tb n) f):=fun n=>PJ.meets hT (QT hT n) f
 unfold eT at hm ⊢
 cases hl:cB Tb.fs f with
 | some l =>
  rw [hl] at hm
  simp only at hm ⊢
  cases hg:Fd l with
  | true =>
   rw [hg] at hm
   simp only [cond_true] at hm ⊢
   intro E w H nid xs args r h1 h2 h3 h4 h5
   obtain ⟨n,hn⟩:=(zm (R:=aH) hX (k:=fun _=>some) (k':=some) (fun r=>.const (some r)) l).to r h4
   exact hm n E w H nid xs args r h1 h2 h3 hn h5
  | false =>
   rw [hg] at hm
   simp only [cond_false] at hm ⊢
   intro ok w xs vs p out h1 h2 h3 h4
   cases hk:gZ (Xc Tb) vs some l with
   | none=>simp only [hk] at h3;cases h3
   | some o =>
    simp only [hk] at h3;cases h3
    obtain ⟨n,hn⟩:=(y4 (R:=jY) hX (k:=fun _=>some) (k':=some) (fun r=>.const (some r)) l).to _ hk
    exact hm n ok w xs vs true out h1 h2 (by simp only [hn];rfl) rfl
 | none =>
  rw [hl] at hm
  simp only at hm ⊢
  have h:=hs.lim f
  cases hsp:Tb.sp f with
  | none=>rw [hsp] at hm;exact hm 0
  | hand fi hd =>
   rw [hsp] at hm h
   simp only at hm ⊢
   cases hg:fi.out.isGen with
   | true =>
    rw [hg] at hm
    simp only [cond_true] at hm ⊢
    intro E w H nid xs args r h1 h2 h3 h4 h5
    obtain ⟨n,hn⟩:=(Gi (R:=aH) (fun a=>h (fun n=>Xn Tb n) (Xc Tb) hX a) (k:=fun _=>some) (k':=some) (fun r=>.const (some r))).to r h4
    exact hm n E w H nid xs args r h1 h2 h3 hn h5
   | false =>
    rw [hg] at hm
    simp only [cond_false] at hm ⊢
    intro ok w xs vs p out h1 h2 h3 h4
    cases hk:mA fi (hd (Xc Tb)) vs some with
    | none=>simp only [hk] at h3;cases h3
    | some o =>
     simp only [hk] at h3;cases h3
     obtain ⟨n,hn⟩:=(FD (R:=jY) (fun a=>h (fun n=>Xn Tb n) (Xc Tb) hX a) (k:=fun _=>some) (k':=some) (fun r=>.const (some r))).to _ hk
     exact hm n ok w xs vs true out h1 h2 (by simp only [hn];rfl) rfl
  | «mut» m =>
   rw [hsp] at hm h
   simp only at hm ⊢
   intro E w H nid xs args r h1 h2 h3 h4 h5
   obtain ⟨n,hn⟩:=(h (fun n=>Xn Tb n) (Xc Tb) hX (bB (aR H args) H) nid args).to r h4
   exact hm n E w H nid xs args r h1 h2 h3 hn h5
end
end Go.Ax
