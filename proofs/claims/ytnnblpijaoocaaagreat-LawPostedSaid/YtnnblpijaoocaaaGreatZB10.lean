import Derived.Test.YtnnblpijaoocaaaGreatZB9
set_option linter.all false
/- Functions for good: the limit of functions of ever more steps, and its equation. -/
namespace Go.Ax
open Go.RowKit
structure aN {α:Type} (f:Nat→Option α) (o:Option α):Prop where
  mono:∀ n r,f n = some r→∀ m,n≤m→f m = some r
  to:∀ r,o = some r→∃ n,f n = some r
  of:∀ n r,f n = some r→o = some r
namespace aN
variable {α β:Type} {f g:Nat→Option α} {o o':Option α}
theorem const (o:Option α):aN (fun _=>o) o:=⟨fun _ _ h _ _=>h,fun _ h=>⟨0,h⟩,fun _ _ h=>h⟩
theorem uniq (h:aN f o) (h':aN f o'):o = o':=by
  cases ho:o with
  | some r =>
    obtain ⟨n,hn⟩:=h.to r ho
    exact (h'.of n r hn).symm
  | none =>
    cases ho':o' with
    | none=>rfl
    | some r =>
      obtain ⟨n,hn⟩:=h'.to r ho'
      rw [h.of n r hn] at ho;cases ho
theorem cnd {b:Bool} (h:aN f o) (h':aN g o'):aN (fun n=>bif b then f n else g n) (bif b then o else o'):=by
  cases b
  · exact h'
  · exact h
theorem bind {k:Nat→α→Option β} {k':α→Option β} (h:aN f o) (hk:∀ a,aN (fun n=>k n a) (k' a)):aN (fun n=>(f n).bind (k n)) (o.bind k'):=by
  refine ⟨fun n r hr m hm=>?_,fun r hr=>?_,fun n r hr=>?_⟩
  · obtain ⟨a,h1,h2⟩:=Option.bind_eq_some_iff.1 hr
    exact Option.bind_eq_some_iff.2 ⟨a,h.mono n a h1 m hm,(hk a).mono n r h2 m hm⟩
  · obtain ⟨a,h1,h2⟩:=Option.bind_eq_some_iff.1 hr
    obtain ⟨n1,g1⟩:=h.to a h1
    obtain ⟨n2,g2⟩:=(hk a).to r h2
    exact ⟨max n1 n2,Option.bind_eq_some_iff.2 ⟨a,h.mono n1 a g1 _ (Nat.le_max_left _ _),(hk a).mono n2 r g2 _ (Nat.le_max_right _ _)⟩⟩
  · obtain ⟨a,h1,h2⟩:=Option.bind_eq_some_iff.1 hr
    exact Option.bind_eq_some_iff.2 ⟨a,h.of n a h1,(hk a).of n r h2⟩
theorem gL {l:List Bool} (h:aN f o):aN (fun n=>Go.Ax.gL l (f n)) (Go.Ax.gL l o):=by
  induction l with
  | nil=>exact h
  | cons b l ih=>exact aN.cnd ih (const none)
theorem shift (h:aN f o):aN (fun n=>f (n+1)) o:=⟨fun n r hr m hm=>h.mono _ r hr _ (by omega),fun r hr=>by
  obtain ⟨n,hn⟩:=h.to r hr
  exact ⟨n,h.mono n r hn _ (by omega)⟩,fun n r hr=>h.of _ r hr⟩
end aN
def wm:Sp→Prop
  | .none=>True
  | .hand fi h=>∀ (X:Nat→XT) (Y:XT),(∀ fi a,aN (fun n=>X n fi a) (Y fi a))→∀ a,aN (fun n=>h (X n) a) (h Y a)
  | .mut m=>∀ (X:Nat→XT) (Y:XT),(∀ fi a,aN (fun n=>X n fi a) (Y fi a))→∀ H nid vs,aN (fun n=>m (X n) H nid vs) (m Y H nid vs)
structure iS (Tb:jv):Prop where
  lim:∀ f,wm (Tb.sp f)
section
variable {R:Type} {Tb:jv} {N:Nat} {all:List Oper} {X:Nat→XT} {Y:XT}
theorem zF (hX:∀ fi a,aN (fun n=>X n fi a) (Y fi a)) {vs:List V} {k:Nat→jU→Option R} {k':jU→Option R} (hk:∀ o,aN (fun n=>k n o) (k' o)):∀ l:List FI,aN (fun n=>it (X n) vs (k n) l) (it Y vs k' l)
  | []=>.const none
  | fi :: r=>by
    unfold it
    cases zk fi vs with
    | some a=>exact (hX fi a).bind fun y=>hk _
    | none=>exact zF hX hk r
theorem B0 {T:Tm} {xs:List TV} {H:af} {nid:Nat} {args:List V} {k:Nat→ay→Option R} {k':ay→Option R} (hk:∀ r,aN (fun n=>k n r) (k' r)):aN (fun n=>jR T xs H nid args (k n)) (jR T xs H nid args k'):=by
  unfold jR
  split
  · exact .cnd (hk _) (.const none)
  · exact .const none
theorem J2 {H:af} {nid:Nat} {args:List V} {k:Nat→ay→Option R} {k':ay→Option R} (hk:∀ r,aN (fun n=>k n r) (k' r)) (o:dg) (y:HP o.tys):aN (fun n=>ki o y H nid args (k n)) (ki o y H nid args k'):=by
  unfold ki
  split
  · exact B0 hk
  · split
    · exact .cnd (B0 hk) (B0 hk)
    · exact .const none
  · exact .const none
theorem yB (hX:∀ fi a,aN (fun n=>X n fi a) (Y fi a)) {H:af} {nid:Nat} {args:List V} {k:Nat→ay→Option R} {k':ay→Option R} (hk:∀ r,aN (fun n=>k n r) (k' r)):∀ l:List FI,aN (fun n=>jx (X n) H nid args (k n) l) (jx Y H nid args k' l)
  | []=>.const none
  | fi :: r=>by
    unfold jx
    cases rdG fi H args with
    | some a=>exact (hX fi a).bind fun y=>J2 hk _ _
    | none=>exact yB hX hk r
theorem O4 {H:af} {nid:Nat} {args:List V} {k:Nat→ay→Option R} {k':ay→Option R} (hk:∀ r,aN (fun n=>k n r) (k' r)) (out:jU):aN (fun n=>match qW H nid args out with | some r=>k n r | none=>none) (match qW H nid args out with | some r=>k' r | none=>none):=by
  cases qW H nid args out with
  | some r=>exact hk r
  | none=>exact .const none
theorem G1 {fi:FI} {h:Nat→HP fi.ins.tys→Option (HP fi.out.tys)} {h':HP fi.ins.tys→Option (HP fi.out.tys)} (hh:∀ a,aN (fun n=>h n a) (h' a)) {H:af} {nid:Nat} {args:List V} {k:Nat→ay→Option R} {k':ay→Option R} (hk:∀ r,aN (fun n=>k n r) (k' r)):aN (fun n=>mG fi (h n) H nid args (k n)) (mG fi h' H nid args k'):=by
  unfold mG
  cases rdG fi H args with
  | some a=>exact (hh a).bind fun y=>J2 hk _ _
  | none=>exact .const none
theorem GV {fi:FI} {h:Nat→HP fi.ins.tys→Option (HP fi.out.tys)} {h':HP fi.ins.tys→Option (HP fi.out.tys)} (hh:∀ a,aN (fun n=>h n a) (h' a)) {vs:List V} {k:Nat→jU→Option R} {k':jU→Option R} (hk:∀ o,aN (fun n=>k n o) (k' o)):aN (fun n=>mw fi (h n) vs (k n)) (mw fi h' vs k'):=by
  unfold mw
  cases zk fi vs with
  | some a=>exact (hh a).bind fun y=>hk _
  | none=>exact .const none
theorem G3 (hs:iS Tb) (hX:∀ fi a,aN (fun n=>X n fi a) (Y fi a)) {f:FuncId} {H:af} {nid:Nat} {args:List V} {k:Nat→ay→Option R} {k':ay→Option R} (hk:∀ r,aN (fun n=>k n r) (k' r)):aN (fun n=>vH Tb (X n) f H nid args (k n)) (vH Tb Y f H nid args k'):=by
  unfold vH
  cases cR Tb.fs f with
  | some l =>
    simp only [Nf]
    exact .cnd (yB hX hk l) (zF hX (fun out=>O4 hk out) l)
  | none =>
    have h:=hs.lim f
    cases hsp:Tb.sp f with
    | none=>exact .const none
    | hand fi hd=>rw [hsp] at h;exact .cnd (G1 (fun a=>h X Y hX a) hk) (GV (fun a=>h X Y hX a) fun out=>O4 hk out)
    | «mut» m=>rw [hsp] at h;exact (h X Y hX _ _ _).bind fun r=>(hk r).gL
theorem ue:∀ {ch:aM} {σ:St} {k:Nat→St→Option R} {k':St→Option R},(∀ σ,aN (fun n=>k n σ) (k' σ))→aN (fun n=>na ch σ (k n)) (na ch σ k')
  | [],σ,k,k',h=>h σ
  | (t,w) :: r,σ,k,k',h=>by
    unfold na
    split
    · exact .cnd (ue h) (ue h)
    · exact .const none
theorem GJ (hs:iS Tb) (hX:∀ fi a,aN (fun n=>X n fi a) (Y fi a)) {σ:St} {nid:Nat} {o:Oper} {fT fF:List FuncId} {k:Nat→St→ct→List FuncId→List FuncId→Option R} {k':St→ct→List FuncId→List FuncId→Option R}
    (hk:∀ σ rc a b,aN (fun n=>k n σ rc a b) (k' σ rc a b)):aN (fun n=>HN Tb (X n) N all σ nid o fT fF (k n)) (HN Tb Y N all σ nid o fT fF k'):=by
  unfold HN
  refine .cnd (.cnd ?_ (.const none)) ?_
  · split
    · refine .cnd (ue fun σ=>?_) (.const none)
      split
      · split
        · refine .cnd (.cnd (.const none) (G3 hs hX fun r=>.cnd (hk _ _ _ _) (.const none))) (.cnd (G3 hs hX fun r=>.cnd (hk _ _ _ _) (.const none)) (.cnd (hk _ _ _ _) (.const none)))
        · exact .const none
      · exact .const none
    · exact .const none
  · split
    · exact (hk _ _ _ _).gL
    · exact .const none
theorem EP (hs:iS Tb) (hX:∀ fi a,aN (fun n=>X n fi a) (Y fi a)):∀ {l:List Oper} {σ:St} {fT fF:List FuncId} {k:Nat→St→Option R} {k':St→Option R},(∀ σ,aN (fun n=>k n σ) (k' σ))→aN (fun n=>Hm Tb (X n) N all l σ fT fF (k n)) (Hm Tb Y N all l σ fT fF k')
  | [],σ,fT,fF,k,k',h=>h _
  | o :: l,σ,fT,fF,k,k',h=>by
    unfold Hm
    exact GJ hs hX fun σ rc a b=>EP hs hX h
theorem Kc (hs:iS Tb) (hX:∀ fi a,aN (fun n=>X n fi a) (Y fi a)):∀ {l:List Oper} {nid:Nat} {σ:St} {fT fF:List FuncId} {rcs:List ct} {k:Nat→List ct→St→Option R} {k':List ct→St→Option R},(∀ rs σ,aN (fun n=>k n rs σ) (k' rs σ)) →
    aN (fun n=>Cz Tb (X n) N all l nid σ fT fF rcs (k n)) (Cz Tb Y N all l nid σ fT fF rcs k')
  | [],nid,σ,fT,fF,rcs,k,k',h=>h _ _
  | o :: l,nid,σ,fT,fF,rcs,k,k',h=>by
    unfold Cz
    exact GJ hs hX fun σ rc a b=>Kc hs hX h
theorem zB (hs:iS Tb) (hX:∀ fi a,aN (fun n=>X n fi a) (Y fi a)) {σ:St} {o:Oper} {k:Nat→St→Option R} {k':St→Option R} (h:∀ σ,aN (fun n=>k n σ) (k' σ)):aN (fun n=>wg Tb (X n) N all σ o (k n)) (wg Tb Y N all σ o k') :=
  GJ hs hX fun σ rc a b=>h _
theorem zQ {σ:St} {o:Oper} {ch:aM} {k:Nat→St→Option R} {k':St→Option R} (h:∀ σ,aN (fun n=>k n σ) (k' σ)):aN (fun n=>xy N σ o ch (k n)) (xy N σ o ch k'):=.cnd (h _) (.const none)
theorem JK (hs:iS Tb) (hX:∀ fi a,aN (fun n=>X n fi a) (Y fi a)):∀ {l:List Oper} {σ:St} {k:Nat→St→Option R} {k':St→Option R},(∀ σ,aN (fun n=>k n σ) (k' σ))→aN (fun n=>mM Tb (X n) N all l σ (k n)) (mM Tb Y N all l σ k')
  | [],σ,k,k',h=>h _
  | o :: l,σ,k,k',h=>by
    unfold mM
    have rec_:∀ σ',aN (fun n=>mM Tb (X n) N all l σ' (k n)) (mM Tb Y N all l σ' k'):=fun σ'=>JK hs hX h
    split
    · exact zB hs hX rec_
    · split
      · refine .cnd ?_ (.const none)
        split
        · exact .cnd (.cnd (.cnd (zB hs hX rec_) (zQ rec_)) (.cnd (zQ rec_) (zB hs hX rec_))) (zQ rec_)
        · exact .const none
      · exact .const none
theorem Ps {l:List Nat} {f:Nat→Nat→Option R} {f':Nat→Option R} (h:∀ p,aN (fun n=>f n p) (f' p)):aN (fun n=>td l (f n)) (td l f'):=by
  refine ⟨fun n r hr m hm=>?_,fun r hr=>?_,fun n r hr=>?_⟩
  · obtain ⟨h1,h2⟩:=qX hr
    exact vZ h1 fun p hp=>(h p).mono n r (h2 p hp) m hm
  · obtain ⟨h1,h2⟩:=qX hr
    have key:∀ l:List Nat,(∀ p∈l,f' p = some r)→∃ n, ∀ p∈l,f n p = some r:=by
      intro l
      induction l with
      | nil=>exact fun _=>⟨0,by simp⟩
      | cons q l ih =>
        intro hl
        obtain ⟨n1,g1⟩:=(h q).to r (hl q (by simp))
        obtain ⟨n2,g2⟩:=ih fun p hp=>hl p (by simp [hp])
        refine ⟨max n1 n2,fun p hp=>?_⟩
        rcases List.mem_cons.1 hp with rfl | hp
        · exact (h p).mono n1 r g1 _ (Nat.le_max_left _ _)
        · exact (h p).mono n2 r (g2 p hp) _ (Nat.le_max_right _ _)
    obtain ⟨n,hn⟩:=key l h2
    exact ⟨n,vZ h1 hn⟩
  · obtain ⟨h1,h2⟩:=qX hr
    exact vZ h1 fun p hp=>(h p).of n r (h2 p hp)
theorem OQ {σ:St} {o:Oper} {x:Operand} {k:Nat→St→Option R} {k':St→Option R} (h:∀ σ,aN (fun n=>k n σ) (k' σ)):aN (fun n=>Az N σ o x (k n)) (Az N σ o x k'):=by
  unfold Az
  refine .cnd ?_ (.const none)
  split
  · split
    · refine .cnd ?_ (.const none)
      split
      · exact .cnd (.gL (.cnd (h _) (Ps fun p=>h _))) (.const none)
      · exact .const none
    · exact .const none
  · exact .const none
theorem Qr (hs:iS Tb) (hX:∀ fi a,aN (fun n=>X n fi a) (Y fi a)) {ops:Array Oper} {dr:Bool} {σ:St} {k:Nat→St→Option R} {k':St→Option R} (h:∀ σ,aN (fun n=>k n σ) (k' σ)):aN (fun n=>qk Tb (X n) N ops dr σ (k n)) (qk Tb Y N ops dr σ k') :=
  .cnd (Kc hs hX fun rs σ=>.cnd (h σ) (.const none)) (by
    split
    · exact OQ fun σ=>EP hs hX h
    · exact .cnd (JK hs hX h) (EP hs hX h))
variable {J:Nat→(π:Nat)→(T:Tm)→HP T.tys→Option R} {L:(π:Nat)→(T:Tm)→HP T.tys→Option R} {cuts:List (Nat × Tm)} {hd:List (Nat × DN)}
theorem zc {π:Nat} (hJ:∀ π T s,aN (fun n=>J n π T s) (L π T s)) {T:Tm} {σ:St}:aN (fun n=>lG (J n π) T σ) (lG (L π) T σ):=(aN.const (yw T σ)).bind fun s=>hJ π T s
theorem JZ (hJ:∀ π T s,aN (fun n=>J n π T s) (L π T s)) {π:Nat} {go:Nat→St→Option R} {go':St→Option R} (hg:∀ σ,aN (fun n=>go n σ) (go' σ)) {κ:Nat→KX R} {κ':KX R} (hκ:∀ e σ,aN (fun n=>κ n e σ) (κ' e σ)) (e:Exit) (σ:St) :
    aN (fun n=>Jm (J n) cuts π (go n) (κ n) e σ) (Jm L cuts π go' κ' e σ):=by
  cases e with
  | normal =>
    show aN (fun n=>match cR cuts π with | some T=>lG (J n π) T σ | none=>go n σ) (match cR cuts π with | some T=>lG (L π) T σ | none=>go' σ)
    cases cR cuts π with
    | some T=>exact zc hJ
    | none=>exact hg σ
  | exit id=>exact hκ _ σ
  | goto l=>exact hκ _ σ
  | ret=>exact hκ _ σ
  | panic c=>exact hκ _ σ
  | outgrown=>exact hκ _ σ
theorem G8 (hJ:∀ π T s,aN (fun n=>J n π T s) (L π T s)) {π:Nat} {κ:Nat→KX R} {κ':KX R} (hκ:∀ e σ,aN (fun n=>κ n e σ) (κ' e σ)) (e:Exit) (σ:St):aN (fun n=>AB (J n) cuts π (κ n) e σ) (AB L cuts π κ' e σ):=by
  cases e with
  | normal =>
    show aN (fun n=>match cR cuts π with | some T=>lG (J n π) T σ | none=>none) (match cR cuts π with | some T=>lG (L π) T σ | none=>none)
    cases cR cuts π with
    | some T=>exact zc hJ
    | none=>exact .const none
  | exit id=>exact hκ _ σ
  | goto l=>exact hκ _ σ
  | ret=>exact hκ _ σ
  | panic c=>exact hκ _ σ
  | outgrown=>exact hκ _ σ
theorem DK {id:Nat} {κ:Nat→KX R} {κ':KX R} (hκ:∀ e σ,aN (fun n=>κ n e σ) (κ' e σ)) (e:Exit) (σ:St):aN (fun n=>pJ id (κ n) e σ) (pJ id κ' e σ):=by
  cases e with
  | exit id'=>exact .cnd (hκ _ σ) (hκ _ σ)
  | normal=>exact hκ _ σ
  | goto l=>exact hκ _ σ
  | ret=>exact hκ _ σ
  | panic c=>exact hκ _ σ
  | outgrown=>exact hκ _ σ
theorem JV (hs:iS Tb) (hX:∀ fi a,aN (fun n=>X n fi a) (Y fi a)) (hJ:∀ π T s,aN (fun n=>J n π T s) (L π T s)):∀ (c:Code) {π:Nat} {κ:Nat→KX R} {κ':KX R},(∀ e σ,aN (fun n=>κ n e σ) (κ' e σ))→∀ σ,
    aN (fun n=>xe Tb (X n) N (J n) cuts hd c π (κ n) σ) (xe Tb Y N L cuts hd c π κ' σ):=by
  intro c
  induction c with
  | skip=>exact fun h σ=>h _ σ
  | label l=>exact fun h σ=>h _ σ
  | region id ops dr=>exact fun h σ=>Qr hs hX fun σ=>h _ σ
  | seq x y ihx ihy=>exact fun h σ=>ihx (fun e σ=>JZ hJ (fun σ=>ihy h σ) h e σ) σ
  | cond c x y ihx ihy =>
    intro π κ κ' h σ
    unfold xe
    split
    · exact .cnd (ihx h σ) (ihy h σ)
    · exact .const none
  | block id x ih =>
    intro π κ κ' h σ
    unfold xe
    split
    · exact (aN.const _).bind fun y=>h _ _
    · exact ih (fun e σ=>DK h e σ) σ
  | exit id=>exact fun h σ=>h _ σ
  | ret=>exact fun h σ=>h _ σ
  | loop x ih =>
    intro π κ κ' h σ
    unfold xe
    split
    · exact zc hJ
    · exact .const none
  | rangeFunc f params assign body=>exact fun h σ=>.const none
  | scope body=>exact fun h σ=>.const none
  | goto l=>exact fun h σ=>.const none
  | refuse why=>exact fun h σ=>.const none
theorem uH (hs:iS Tb) (hX:∀ fi a,aN (fun n=>X n fi a) (Y fi a)) (hJ:∀ π T s,aN (fun n=>J n π T s) (L π T s)):∀ (b:List Bool) (c:Code) {π:Nat} {κ:Nat→KX R} {κ':KX R},(∀ e σ,aN (fun n=>κ n e σ) (κ' e σ))→∀ σ,
    aN (fun n=>Qf (Be Tb (X n) N (J n) cuts hd b c π (κ n)) σ) (Qf (Be Tb Y N L cuts hd b c π κ') σ)
  | [],c,π,κ,κ',h,σ=>by
    cases c <;> first | exact JV hs hX hJ _ h σ | exact JV hs hX hJ _ (G8 hJ h) σ
  | b :: r,c,π,κ,κ',h,σ=>by
    cases c <;> cases b <;> first | exact .const none | exact uH hs hX hJ r _ h σ | exact uH hs hX hJ r _ (fun e σ=>JZ hJ (fun σ=>JV hs hX hJ _ h σ) h e σ) σ | exact uH hs hX hJ r _ (DK h) σ | exact uH hs hX hJ r _ (G8 hJ h) σ
end
open Classical in
noncomputable def Xf (Tb:jv):JT:=fun fi π T s=>if h:∃ n r,Jn Tb n fi π T s = some r then some h.choose_spec.choose else none
section
variable {Tb:jv}
theorem Ml (n:Nat) (fi:FI) (π:Nat) (T:Tm) (s:HP T.tys):Jn Tb (n+1) fi π T s = AN Tb (Jn Tb n) fi π T s:=by rw [Jn]
theorem GM (hs:iS Tb) {J:Nat→JT} {L:JT} (hJ:∀ fi π T s,aN (fun n=>J n fi π T s) (L fi π T s)) (fi:FI) (π:Nat) (T:Tm) (s:HP T.tys):aN (fun n=>AN Tb (J n) fi π T s) (AN Tb L fi π T s) :=
  .cnd (uH hs (X:=fun n fi a=>J n fi 1 fi.ins a) (Y:=fun fi a=>L fi 1 fi.ins a) (J:=fun n=>J n fi) (L:=L fi) (fun fi a=>hJ fi 1 fi.ins a) (hJ fi) (i7 π) fi.c (κ:=fun _=>zl Tb.P fi) (κ':=zl Tb.P fi) (fun e σ=>.const _) (om T s)) (.const none)
theorem BR (hs:iS Tb):∀ (n:Nat) (fi:FI) (π:Nat) (T:Tm) (s:HP T.tys) (r:HP fi.out.tys),Jn Tb n fi π T s = some r→Jn Tb (n+1) fi π T s = some r
  | 0,fi,π,T,s,r,h=>by simp [Jn] at h
  | n+1,fi,π,T,s,r,h=>by
    have key:∀ fi π T s,aN (fun k=>match k with | 0=>Jn Tb n fi π T s | _+1=>Jn Tb (n+1) fi π T s) (Jn Tb (n+1) fi π T s):=fun fi π T s =>
      ⟨fun k r hk m hm=>by
        match k,m with
        | 0,0=>exact hk
        | 0,m+1=>exact BR hs n fi π T s r hk
        | k+1,m+1=>exact hk,fun r hr=>⟨1,hr⟩,fun k r hk=>by
        match k with
        | 0=>exact BR hs n fi π T s r hk
        | k+1=>exact hk⟩
    have:=GM hs (J:=fun k fi π T s=>match k with | 0=>Jn Tb n fi π T s | _+1=>Jn Tb (n+1) fi π T s) key fi π T s
    rw [Ml] at h ⊢
    exact this.of 0 r h
theorem KV (hs:iS Tb) (fi:FI) (π:Nat) (T:Tm) (s:HP T.tys):aN (fun n=>Jn Tb n fi π T s) (Xf Tb fi π T s):=by
  have mono:∀ n r,Jn Tb n fi π T s = some r→∀ m,n≤m→Jn Tb m fi π T s = some r:=by
    intro n r h m hm
    induction m with
    | zero =>
      have:n = 0:=by omega
      subst this;exact h
    | succ m ih =>
      by_cases e:n = m+1
      · subst e;exact h
      · exact BR hs m fi π T s r (ih (by omega))
  refine ⟨mono,fun r hr=>?_,fun n r hr=>?_⟩
  · unfold Xf at hr
    split at hr
    · next h=>cases hr;exact ⟨h.choose,h.choose_spec.choose_spec⟩
    · cases hr
  · unfold Xf
    have h:∃ n r,Jn Tb n fi π T s = some r:=⟨n,r,hr⟩
    rw [dif_pos h]
    have h1:=h.choose_spec.choose_spec
    have h2:=mono _ _ h1 (max n h.choose) (Nat.le_max_right _ _)
    rw [mono _ _ hr (max n h.choose) (Nat.le_max_left _ _)] at h2
    exact h2.symm
theorem ah (hs:iS Tb) (fi:FI) (π:Nat) (T:Tm) (s:HP T.tys):Xf Tb fi π T s = AN Tb (Xf Tb) fi π T s :=
  ((KV hs fi π T s).shift).uniq (by simpa only [Ml] using GM hs (J:=Jn Tb) (fun fi π T s=>KV hs fi π T s) fi π T s)
noncomputable abbrev Xc (Tb:jv):XT:=fun fi a=>Xf Tb fi 1 fi.ins a
theorem Rh (hT:Ar Tb) (hs:iS Tb) (f:FuncId):aY Tb.P f (eX Tb (Xc Tb) f):=by
  have hX:∀ fi a,aN (fun n=>Xn Tb n fi a) (Xc Tb fi a):=fun fi a=>KV hs fi 1 fi.ins a
  have hm:∀ n,aY Tb.P f (eX Tb (Xn Tb n) f):=fun n=>PJ.meets hT (Tg hT n) f
  unfold eX at hm ⊢
  cases hl:cR Tb.fs f with
  | some l =>
    rw [hl] at hm
    simp only at hm ⊢
    cases hg:ER l with
    | true =>
      rw [hg] at hm
      simp only [cond_true] at hm ⊢
      intro E w H nid xs args r h1 h2 h3 h4 h5
      obtain ⟨n,hn⟩:=(yB (R:=ay) hX (k:=fun _=>some) (k':=some) (fun r=>.const (some r)) l).to r h4
      exact hm n E w H nid xs args r h1 h2 h3 hn h5
    | false =>
      rw [hg] at hm
      simp only [cond_false] at hm ⊢
      intro ok w xs vs p out h1 h2 h3 h4
      cases hk:it (Xc Tb) vs some l with
      | none=>simp only [hk] at h3;cases h3
      | some o =>
        simp only [hk] at h3;cases h3
        obtain ⟨n,hn⟩:=(zF (R:=jU) hX (k:=fun _=>some) (k':=some) (fun r=>.const (some r)) l).to _ hk
        exact hm n ok w xs vs true out h1 h2 (by simp only [hn];rfl) rfl
  | none =>
    rw [hl] at hm
    simp only at hm ⊢
    have h:=hs.lim f
    cases hsp:Tb.sp f with
    | none=>rw [hsp] at hm;exact hm 0
    | hand fi hd =>
      rw [hsp] at hm h
      simp only at hm ⊢
      cases hg:fi.out.isGen with
      | true =>
        rw [hg] at hm
        simp only [cond_true] at hm ⊢
        intro E w H nid xs args r h1 h2 h3 h4 h5
        obtain ⟨n,hn⟩:=(G1 (R:=ay) (fun a=>h (fun n=>Xn Tb n) (Xc Tb) hX a) (k:=fun _=>some) (k':=some) (fun r=>.const (some r))).to r h4
        exact hm n E w H nid xs args r h1 h2 h3 hn h5
      | false =>
        rw [hg] at hm
        simp only [cond_false] at hm ⊢
        intro ok w xs vs p out h1 h2 h3 h4
        cases hk:mw fi (hd (Xc Tb)) vs some with
        | none=>simp only [hk] at h3;cases h3
        | some o =>
          simp only [hk] at h3;cases h3
          obtain ⟨n,hn⟩:=(GV (R:=jU) (fun a=>h (fun n=>Xn Tb n) (Xc Tb) hX a) (k:=fun _=>some) (k':=some) (fun r=>.const (some r))).to _ hk
          exact hm n ok w xs vs true out h1 h2 (by simp only [hn];rfl) rfl
    | «mut» m =>
      rw [hsp] at hm h
      simp only at hm ⊢
      intro E w H nid xs args r h1 h2 h3 h4 h5
      obtain ⟨n,hn⟩:=(h (fun n=>Xn Tb n) (Xc Tb) hX (bn (aH H args) H) nid args).to r h4
      exact hm n E w H nid xs args r h1 h2 h3 hn h5
end
end Go.Ax
