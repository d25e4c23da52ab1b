import Derived.Test.YtnnblpijaoocaaaGreatYB9
set_option linter.all false
/- Functions for good: the limit of functions of ever more steps, and its equation. -/
namespace Go.Ax
open Go.RowKit
structure aC {α:Type} (f:Nat→Option α) (o:Option α):Prop where
  mono:∀ n r,f n = some r→∀ m,n≤m→f m = some r
  to:∀ r,o = some r→∃ n,f n = some r
  of:∀ n r,f n = some r→o = some r
namespace aC
variable {α β:Type} {f g:Nat→Option α} {o o':Option α}
theorem const (o:Option α):aC (fun _=>o) o:=⟨fun _ _ h _ _=>h,fun _ h=>⟨0,h⟩,fun _ _ h=>h⟩
theorem uniq (h:aC f o) (h':aC f o'):o = o':=by
  cases ho:o with
  | some r =>
    obtain ⟨n,hn⟩:=h.to r ho
    exact (h'.of n r hn).symm
  | none =>
    cases ho':o' with
    | none=>rfl
    | some r =>
      obtain ⟨n,hn⟩:=h'.to r ho'
      rw [h.of n r hn] at ho; cases ho
theorem cnd {b:Bool} (h:aC f o) (h':aC g o'):aC (fun n=>bif b then f n else g n) (bif b then o else o'):=by
  cases b
  · exact h'
  · exact h
theorem bind {k:Nat→α→Option β} {k':α→Option β} (h:aC f o) (hk:∀ a,aC (fun n=>k n a) (k' a)):aC (fun n=>(f n).bind (k n)) (o.bind k'):=by
  refine ⟨fun n r hr m hm=>?_,fun r hr=>?_,fun n r hr=>?_⟩
  · obtain ⟨a,h1,h2⟩:=Option.bind_eq_some_iff.1 hr
    exact Option.bind_eq_some_iff.2 ⟨a,h.mono n a h1 m hm,(hk a).mono n r h2 m hm⟩
  · obtain ⟨a,h1,h2⟩:=Option.bind_eq_some_iff.1 hr
    obtain ⟨n1,g1⟩:=h.to a h1
    obtain ⟨n2,g2⟩:=(hk a).to r h2
    exact ⟨max n1 n2,Option.bind_eq_some_iff.2 ⟨a,h.mono n1 a g1 _ (Nat.le_max_left _ _),(hk a).mono n2 r g2 _ (Nat.le_max_right _ _)⟩⟩
  · obtain ⟨a,h1,h2⟩:=Option.bind_eq_some_iff.1 hr
    exact Option.bind_eq_some_iff.2 ⟨a,h.of n a h1,(hk a).of n r h2⟩
theorem gL {l:List Bool} (h:aC f o):aC (fun n=>Go.Ax.gL l (f n)) (Go.Ax.gL l o):=by
  induction l with
  | nil=>exact h
  | cons b l ih=>exact aC.cnd ih (const none)
theorem shift (h:aC f o):aC (fun n=>f (n+1)) o:=⟨fun n r hr m hm=>h.mono _ r hr _ (by omega),fun r hr=>by
  obtain ⟨n,hn⟩:=h.to r hr
  exact ⟨n,h.mono n r hn _ (by omega)⟩,fun n r hr=>h.of _ r hr⟩
end aC
def ud:Sp→Prop
  | .none=>True
  | .hand fi h=>∀ (X:Nat→XT) (Y:XT),(∀ fi a,aC (fun n=>X n fi a) (Y fi a))→∀ a,aC (fun n=>h (X n) a) (h Y a)
  | .mut m=>∀ (X:Nat→XT) (Y:XT),(∀ fi a,aC (fun n=>X n fi a) (Y fi a))→∀ H nid vs,aC (fun n=>m (X n) H nid vs) (m Y H nid vs)
structure gR (Tb:iu):Prop where
  lim:∀ f,ud (Tb.sp f)
section
variable {R:Type} {Tb:iu} {N:Nat} {all:List Oper} {X:Nat→XT} {Y:XT}
theorem wY (hX:∀ fi a,aC (fun n=>X n fi a) (Y fi a)) {vs:List V} {k:Nat→iV→Option R} {k':iV→Option R} (hk:∀ o,aC (fun n=>k n o) (k' o)):∀ l:List FI,aC (fun n=>gE (X n) vs (k n) l) (gE Y vs k' l)
  | []=>.const none
  | fi :: r=>by
    unfold gE
    cases xx fi vs with
    | some a=>exact (hX fi a).bind fun y=>hk _
    | none=>exact wY hX hk r
theorem zX {T:Tm} {xs:List TV} {H:ac} {nid:Nat} {args:List V} {k:Nat→au→Option R} {k':au→Option R} (hk:∀ r,aC (fun n=>k n r) (k' r)):aC (fun n=>iM T xs H nid args (k n)) (iM T xs H nid args k'):=by
  unfold iM
  split
  · exact .cnd (hk _) (.const none)
  · exact .const none
theorem GC {H:ac} {nid:Nat} {args:List V} {k:Nat→au→Option R} {k':au→Option R} (hk:∀ r,aC (fun n=>k n r) (k' r)) (o:cD) (y:HP o.tys):aC (fun n=>jj o y H nid args (k n)) (jj o y H nid args k'):=by
  unfold jj
  split
  · exact zX hk
  · split
    · exact .cnd (zX hk) (zX hk)
    · exact .const none
  · exact .const none
theorem wj (hX:∀ fi a,aC (fun n=>X n fi a) (Y fi a)) {H:ac} {nid:Nat} {args:List V} {k:Nat→au→Option R} {k':au→Option R} (hk:∀ r,aC (fun n=>k n r) (k' r)):∀ l:List FI,aC (fun n=>iI (X n) H nid args (k n) l) (iI Y H nid args k' l)
  | []=>.const none
  | fi :: r=>by
    unfold iI
    cases rdG fi H args with
    | some a=>exact (hX fi a).bind fun y=>GC hk _ _
    | none=>exact wj hX hk r
theorem MQ {H:ac} {nid:Nat} {args:List V} {k:Nat→au→Option R} {k':au→Option R} (hk:∀ r,aC (fun n=>k n r) (k' r)) (out:iV):aC (fun n=>match oS H nid args out with | some r=>k n r | none=>none) (match oS H nid args out with | some r=>k' r | none=>none):=by
  cases oS H nid args out with
  | some r=>exact hk r
  | none=>exact .const none
theorem Ej {fi:FI} {h:Nat→HP fi.ins.tys→Option (HP fi.out.tys)} {h':HP fi.ins.tys→Option (HP fi.out.tys)} (hh:∀ a,aC (fun n=>h n a) (h' a)) {H:ac} {nid:Nat} {args:List V} {k:Nat→au→Option R} {k':au→Option R} (hk:∀ r,aC (fun n=>k n r) (k' r)):aC (fun n=>k7 fi (h n) H nid args (k n)) (k7 fi h' H nid args k'):=by
  unfold k7
  cases rdG fi H args with
  | some a=>exact (hh a).bind fun y=>GC hk _ _
  | none=>exact .const none
theorem Em {fi:FI} {h:Nat→HP fi.ins.tys→Option (HP fi.out.tys)} {h':HP fi.ins.tys→Option (HP fi.out.tys)} (hh:∀ a,aC (fun n=>h n a) (h' a)) {vs:List V} {k:Nat→iV→Option R} {k':iV→Option R} (hk:∀ o,aC (fun n=>k n o) (k' o)):aC (fun n=>lq fi (h n) vs (k n)) (lq fi h' vs k'):=by
  unfold lq
  cases xx fi vs with
  | some a=>exact (hh a).bind fun y=>hk _
  | none=>exact .const none
theorem EB (hs:gR Tb) (hX:∀ fi a,aC (fun n=>X n fi a) (Y fi a)) {f:FuncId} {H:ac} {nid:Nat} {args:List V} {k:Nat→au→Option R} {k':au→Option R} (hk:∀ r,aC (fun n=>k n r) (k' r)):aC (fun n=>uG Tb (X n) f H nid args (k n)) (uG Tb Y f H nid args k'):=by
  unfold uG
  cases co Tb.fs f with
  | some l =>
    simp only [Kt]
    exact .cnd (wj hX hk l) (wY hX (fun out=>MQ hk out) l)
  | none =>
    have h:=hs.lim f
    cases hsp:Tb.sp f with
    | none=>exact .const none
    | hand fi hd=>rw [hsp] at h; exact .cnd (Ej (fun a=>h X Y hX a) hk) (Em (fun a=>h X Y hX a) fun out=>MQ hk out)
    | «mut» m=>rw [hsp] at h; exact (h X Y hX _ _ _).bind fun r=>(hk r).gL
theorem rO:∀ {ch:aB} {σ:St} {k:Nat→St→Option R} {k':St→Option R},(∀ σ,aC (fun n=>k n σ) (k' σ))→aC (fun n=>ly ch σ (k n)) (ly ch σ k')
  | [],σ,k,k',h=>h σ
  | (t,w) :: r,σ,k,k',h=>by
    unfold ly
    split
    · exact .cnd (rO h) (rO h)
    · exact .const none
theorem Cv (hs:gR Tb) (hX:∀ fi a,aC (fun n=>X n fi a) (Y fi a)) {σ:St} {nid:Nat} {o:Oper} {fT fF:List FuncId} {k:Nat→St→bM→List FuncId→List FuncId→Option R} {k':St→bM→List FuncId→List FuncId→Option R}
    (hk:∀ σ rc a b,aC (fun n=>k n σ rc a b) (k' σ rc a b)):aC (fun n=>Ea Tb (X n) N all σ nid o fT fF (k n)) (Ea Tb Y N all σ nid o fT fF k'):=by
  unfold Ea
  refine .cnd (.cnd ?_ (.const none)) ?_
  · split
    · refine .cnd (rO fun σ=>?_) (.const none)
      split
      · split
        · refine .cnd (.cnd (.const none) (EB hs hX fun r=>.cnd (hk _ _ _ _) (.const none))) (.cnd (EB hs hX fun r=>.cnd (hk _ _ _ _) (.const none)) (.cnd (hk _ _ _ _) (.const none)))
        · exact .const none
      · exact .const none
    · exact .const none
  · split
    · exact (hk _ _ _ _).gL
    · exact .const none
theorem Cy (hs:gR Tb) (hX:∀ fi a,aC (fun n=>X n fi a) (Y fi a)):∀ {l:List Oper} {σ:St} {fT fF:List FuncId} {k:Nat→St→Option R} {k':St→Option R},(∀ σ,aC (fun n=>k n σ) (k' σ))→aC (fun n=>Fe Tb (X n) N all l σ fT fF (k n)) (Fe Tb Y N all l σ fT fF k')
  | [],σ,fT,fF,k,k',h=>h _
  | o :: l,σ,fT,fF,k,k',h=>by
    unfold Fe
    exact Cv hs hX fun σ rc a b=>Cy hs hX h
theorem GV (hs:gR Tb) (hX:∀ fi a,aC (fun n=>X n fi a) (Y fi a)):∀ {l:List Oper} {nid:Nat} {σ:St} {fT fF:List FuncId} {rcs:List bM} {k:Nat→List bM→St→Option R} {k':List bM→St→Option R},(∀ rs σ,aC (fun n=>k n rs σ) (k' rs σ)) →
    aC (fun n=>zq Tb (X n) N all l nid σ fT fF rcs (k n)) (zq Tb Y N all l nid σ fT fF rcs k')
  | [],nid,σ,fT,fF,rcs,k,k',h=>h _ _
  | o :: l,nid,σ,fT,fF,rcs,k,k',h=>by
    unfold zq
    exact Cv hs hX fun σ rc a b=>GV hs hX h
theorem xJ (hs:gR Tb) (hX:∀ fi a,aC (fun n=>X n fi a) (Y fi a)) {σ:St} {o:Oper} {k:Nat→St→Option R} {k':St→Option R} (h:∀ σ,aC (fun n=>k n σ) (k' σ)):aC (fun n=>ui Tb (X n) N all σ o (k n)) (ui Tb Y N all σ o k') :=
  Cv hs hX fun σ rc a b=>h _
theorem xj {σ:St} {o:Oper} {ch:aB} {k:Nat→St→Option R} {k':St→Option R} (h:∀ σ,aC (fun n=>k n σ) (k' σ)):aC (fun n=>uL N σ o ch (k n)) (uL N σ o ch k'):=.cnd (h _) (.const none)
theorem Ik (hs:gR Tb) (hX:∀ fi a,aC (fun n=>X n fi a) (Y fi a)):∀ {l:List Oper} {σ:St} {k:Nat→St→Option R} {k':St→Option R},(∀ σ,aC (fun n=>k n σ) (k' σ))→aC (fun n=>lw Tb (X n) N all l σ (k n)) (lw Tb Y N all l σ k')
  | [],σ,k,k',h=>h _
  | o :: l,σ,k,k',h=>by
    unfold lw
    have rec_:∀ σ',aC (fun n=>lw Tb (X n) N all l σ' (k n)) (lw Tb Y N all l σ' k'):=fun σ'=>Ik hs hX h
    split
    · exact xJ hs hX rec_
    · split
      · refine .cnd ?_ (.const none)
        split
        · exact .cnd (.cnd (.cnd (xJ hs hX rec_) (xj rec_)) (.cnd (xj rec_) (xJ hs hX rec_))) (xj rec_)
        · exact .const none
      · exact .const none
theorem LR {l:List Nat} {f:Nat→Nat→Option R} {f':Nat→Option R} (h:∀ p,aC (fun n=>f n p) (f' p)):aC (fun n=>qI l (f n)) (qI l f'):=by
  refine ⟨fun n r hr m hm=>?_,fun r hr=>?_,fun n r hr=>?_⟩
  · obtain ⟨h1,h2⟩:=oY hr
    exact tP h1 fun p hp=>(h p).mono n r (h2 p hp) m hm
  · obtain ⟨h1,h2⟩:=oY hr
    have key:∀ l:List Nat,(∀ p∈l,f' p = some r)→∃ n, ∀ p∈l,f n p = some r:=by
      intro l
      induction l with
      | nil=>exact fun _=>⟨0,by simp⟩
      | cons q l ih =>
        intro hl
        obtain ⟨n1,g1⟩:=(h q).to r (hl q (by simp))
        obtain ⟨n2,g2⟩:=ih fun p hp=>hl p (by simp [hp])
        refine ⟨max n1 n2,fun p hp=>?_⟩
        rcases List.mem_cons.1 hp with rfl | hp
        · exact (h p).mono n1 r g1 _ (Nat.le_max_left _ _)
        · exact (h p).mono n2 r (g2 p hp) _ (Nat.le_max_right _ _)
    obtain ⟨n,hn⟩:=key l h2
    exact ⟨n,tP h1 hn⟩
  · obtain ⟨h1,h2⟩:=oY hr
    exact tP h1 fun p hp=>(h p).of n r (h2 p hp)
theorem L7 {σ:St} {o:Oper} {x:Operand} {k:Nat→St→Option R} {k':St→Option R} (h:∀ σ,aC (fun n=>k n σ) (k' σ)):aC (fun n=>yd N σ o x (k n)) (yd N σ o x k'):=by
  unfold yd
  refine .cnd ?_ (.const none)
  split
  · split
    · refine .cnd ?_ (.const none)
      split
      · exact .cnd (.gL (.cnd (h _) (LR fun p=>h _))) (.const none)
      · exact .const none
    · exact .const none
  · exact .const none
theorem OD (hs:gR Tb) (hX:∀ fi a,aC (fun n=>X n fi a) (Y fi a)) {ops:Array Oper} {dr:Bool} {σ:St} {k:Nat→St→Option R} {k':St→Option R} (h:∀ σ,aC (fun n=>k n σ) (k' σ)):aC (fun n=>oC Tb (X n) N ops dr σ (k n)) (oC Tb Y N ops dr σ k') :=
  .cnd (GV hs hX fun rs σ=>.cnd (h σ) (.const none)) (by
    split
    · exact L7 fun σ=>Cy hs hX h
    · exact .cnd (Ik hs hX h) (Cy hs hX h))
variable {J:Nat→(π:Nat)→(T:Tm)→HP T.tys→Option R} {L:(π:Nat)→(T:Tm)→HP T.tys→Option R} {cuts:List (Nat × Tm)} {hd:List (Nat × A7)}
theorem xw {π:Nat} (hJ:∀ π T s,aC (fun n=>J n π T s) (L π T s)) {T:Tm} {σ:St}:aC (fun n=>kn (J n π) T σ) (kn (L π) T σ):=(aC.const (wC T σ)).bind fun s=>hJ π T s
theorem F8 (hJ:∀ π T s,aC (fun n=>J n π T s) (L π T s)) {π:Nat} {go:Nat→St→Option R} {go':St→Option R} (hg:∀ σ,aC (fun n=>go n σ) (go' σ)) {κ:Nat→KX R} {κ':KX R} (hκ:∀ e σ,aC (fun n=>κ n e σ) (κ' e σ)) (e:Exit) (σ:St) :
    aC (fun n=>HU (J n) cuts π (go n) (κ n) e σ) (HU L cuts π go' κ' e σ):=by
  cases e with
  | normal =>
    show aC (fun n=>match co cuts π with | some T=>kn (J n π) T σ | none=>go n σ) (match co cuts π with | some T=>kn (L π) T σ | none=>go' σ)
    cases co cuts π with
    | some T=>exact xw hJ
    | none=>exact hg σ
  | exit id=>exact hκ _ σ
  | goto l=>exact hκ _ σ
  | ret=>exact hκ _ σ
  | panic c=>exact hκ _ σ
  | outgrown=>exact hκ _ σ
theorem Eo (hJ:∀ π T s,aC (fun n=>J n π T s) (L π T s)) {π:Nat} {κ:Nat→KX R} {κ':KX R} (hκ:∀ e σ,aC (fun n=>κ n e σ) (κ' e σ)) (e:Exit) (σ:St):aC (fun n=>yi (J n) cuts π (κ n) e σ) (yi L cuts π κ' e σ):=by
  cases e with
  | normal =>
    show aC (fun n=>match co cuts π with | some T=>kn (J n π) T σ | none=>none) (match co cuts π with | some T=>kn (L π) T σ | none=>none)
    cases co cuts π with
    | some T=>exact xw hJ
    | none=>exact .const none
  | exit id=>exact hκ _ σ
  | goto l=>exact hκ _ σ
  | ret=>exact hκ _ σ
  | panic c=>exact hκ _ σ
  | outgrown=>exact hκ _ σ
theorem A8 {id:Nat} {κ:Nat→KX R} {κ':KX R} (hκ:∀ e σ,aC (fun n=>κ n e σ) (κ' e σ)) (e:Exit) (σ:St):aC (fun n=>ou id (κ n) e σ) (ou id κ' e σ):=by
  cases e with
  | exit id'=>exact .cnd (hκ _ σ) (hκ _ σ)
  | normal=>exact hκ _ σ
  | goto l=>exact hκ _ σ
  | ret=>exact hκ _ σ
  | panic c=>exact hκ _ σ
  | outgrown=>exact hκ _ σ
theorem HO (hs:gR Tb) (hX:∀ fi a,aC (fun n=>X n fi a) (Y fi a)) (hJ:∀ π T s,aC (fun n=>J n π T s) (L π T s)):∀ (c:Code) {π:Nat} {κ:Nat→KX R} {κ':KX R},(∀ e σ,aC (fun n=>κ n e σ) (κ' e σ))→∀ σ,
    aC (fun n=>xe Tb (X n) N (J n) cuts hd c π (κ n) σ) (xe Tb Y N L cuts hd c π κ' σ):=by
  intro c
  induction c with
  | skip=>exact fun h σ=>h _ σ
  | label l=>exact fun h σ=>h _ σ
  | region id ops dr=>exact fun h σ=>OD hs hX fun σ=>h _ σ
  | seq x y ihx ihy=>exact fun h σ=>ihx (fun e σ=>F8 hJ (fun σ=>ihy h σ) h e σ) σ
  | cond c x y ihx ihy =>
    intro π κ κ' h σ
    unfold xe
    split
    · exact .cnd (ihx h σ) (ihy h σ)
    · exact .const none
  | block id x ih =>
    intro π κ κ' h σ
    unfold xe
    split
    · exact (aC.const _).bind fun y=>h _ _
    · exact ih (fun e σ=>A8 h e σ) σ
  | exit id=>exact fun h σ=>h _ σ
  | ret=>exact fun h σ=>h _ σ
  | loop x ih =>
    intro π κ κ' h σ
    unfold xe
    split
    · exact xw hJ
    · exact .const none
  | rangeFunc f params assign body=>exact fun h σ=>.const none
  | scope body=>exact fun h σ=>.const none
  | goto l=>exact fun h σ=>.const none
  | refuse why=>exact fun h σ=>.const none
theorem sS (hs:gR Tb) (hX:∀ fi a,aC (fun n=>X n fi a) (Y fi a)) (hJ:∀ π T s,aC (fun n=>J n π T s) (L π T s)):∀ (b:List Bool) (c:Code) {π:Nat} {κ:Nat→KX R} {κ':KX R},(∀ e σ,aC (fun n=>κ n e σ) (κ' e σ))→∀ σ,
    aC (fun n=>Nf (zg Tb (X n) N (J n) cuts hd b c π (κ n)) σ) (Nf (zg Tb Y N L cuts hd b c π κ') σ)
  | [],c,π,κ,κ',h,σ=>by
    cases c <;> first | exact HO hs hX hJ _ h σ | exact HO hs hX hJ _ (Eo hJ h) σ
  | b :: r,c,π,κ,κ',h,σ=>by
    cases c <;> cases b <;> first | exact .const none | exact sS hs hX hJ r _ h σ | exact sS hs hX hJ r _ (fun e σ=>F8 hJ (fun σ=>HO hs hX hJ _ h σ) h e σ) σ | exact sS hs hX hJ r _ (A8 h) σ | exact sS hs hX hJ r _ (Eo hJ h) σ
end
open Classical in
noncomputable def Xf (Tb:iu):JT:=fun fi π T s=>if h:∃ n r,Jn Tb n fi π T s = some r then some h.choose_spec.choose else none
section
variable {Tb:iu}
theorem JE (n:Nat) (fi:FI) (π:Nat) (T:Tm) (s:HP T.tys):Jn Tb (n+1) fi π T s = yc Tb (Jn Tb n) fi π T s:=by rw [Jn]
theorem Et (hs:gR Tb) {J:Nat→JT} {L:JT} (hJ:∀ fi π T s,aC (fun n=>J n fi π T s) (L fi π T s)) (fi:FI) (π:Nat) (T:Tm) (s:HP T.tys):aC (fun n=>yc Tb (J n) fi π T s) (yc Tb L fi π T s) :=
  .cnd (sS hs (X:=fun n fi a=>J n fi 1 fi.ins a) (Y:=fun fi a=>L fi 1 fi.ins a) (J:=fun n=>J n fi) (L:=L fi) (fun fi a=>hJ fi 1 fi.ins a) (hJ fi) (ic π) fi.c (κ:=fun _=>wa Tb.P fi) (κ':=wa Tb.P fi) (fun e σ=>.const _) (mM T s)) (.const none)
theorem Aj (hs:gR Tb):∀ (n:Nat) (fi:FI) (π:Nat) (T:Tm) (s:HP T.tys) (r:HP fi.out.tys),Jn Tb n fi π T s = some r→Jn Tb (n+1) fi π T s = some r
  | 0,fi,π,T,s,r,h=>by simp [Jn] at h
  | n+1,fi,π,T,s,r,h=>by
    have key:∀ fi π T s,aC (fun k=>match k with | 0=>Jn Tb n fi π T s | _+1=>Jn Tb (n+1) fi π T s) (Jn Tb (n+1) fi π T s):=fun fi π T s =>
      ⟨fun k r hk m hm=>by
        match k,m with
        | 0,0=>exact hk
        | 0,m+1=>exact Aj hs n fi π T s r hk
        | k+1,m+1=>exact hk,fun r hr=>⟨1,hr⟩,fun k r hk=>by
        match k with
        | 0=>exact Aj hs n fi π T s r hk
        | k+1=>exact hk⟩
    have:=Et hs (J:=fun k fi π T s=>match k with | 0=>Jn Tb n fi π T s | _+1=>Jn Tb (n+1) fi π T s) key fi π T s
    rw [JE] at h ⊢
    exact this.of 0 r h
theorem Gc (hs:gR Tb) (fi:FI) (π:Nat) (T:Tm) (s:HP T.tys):aC (fun n=>Jn Tb n fi π T s) (Xf Tb fi π T s):=by
  have mono:∀ n r,Jn Tb n fi π T s = some r→∀ m,n≤m→Jn Tb m fi π T s = some r:=by
    intro n r h m hm
    induction m with
    | zero =>
      have:n = 0:=by omega
      subst this; exact h
    | succ m ih =>
      by_cases e:n = m+1
      · subst e; exact h
      · exact Aj hs m fi π T s r (ih (by omega))
  refine ⟨mono,fun r hr=>?_,fun n r hr=>?_⟩
  · unfold Xf at hr
    split at hr
    · next h=>cases hr; exact ⟨h.choose,h.choose_spec.choose_spec⟩
    · cases hr
  · unfold Xf
    have h:∃ n r,Jn Tb n fi π T s = some r:=⟨n,r,hr⟩
    rw [dif_pos h]
    have h1:=h.choose_spec.choose_spec
    have h2:=mono _ _ h1 (max n h.choose) (Nat.le_max_right _ _)
    rw [mono _ _ hr (max n h.choose) (Nat.le_max_left _ _)] at h2
    exact h2.symm
theorem ai (hs:gR Tb) (fi:FI) (π:Nat) (T:Tm) (s:HP T.tys):Xf Tb fi π T s = yc Tb (Xf Tb) fi π T s :=
  ((Gc hs fi π T s).shift).uniq (by simpa only [JE] using Et hs (J:=Jn Tb) (fun fi π T s=>Gc hs fi π T s) fi π T s)
noncomputable abbrev Xc (Tb:iu):XT:=fun fi a=>Xf Tb fi 1 fi.ins a
theorem Oz (hT:yg Tb) (hs:gR Tb) (f:FuncId):aP Tb.P f (em Tb (Xc Tb) f):=by
  have hX:∀ fi a,aC (fun n=>Xn Tb n fi a) (Xc Tb fi a):=fun fi a=>Gc hs fi 1 fi.ins a
  have hm:∀ n,aP Tb.P f (em Tb (Xn Tb n) f):=fun n=>PJ.meets hT (Qc hT n) f
  unfold em at hm ⊢
  cases hl:co Tb.fs f with
  | some l =>
    rw [hl] at hm
    simp only at hm ⊢
    cases hg:DY l with
    | true =>
      rw [hg] at hm
      simp only [cond_true] at hm ⊢
      intro E w H nid xs args r h1 h2 h3 h4 h5
      obtain ⟨n,hn⟩:=(wj (R:=au) hX (k:=fun _=>some) (k':=some) (fun r=>.const (some r)) l).to r h4
      exact hm n E w H nid xs args r h1 h2 h3 hn h5
    | false =>
      rw [hg] at hm
      simp only [cond_false] at hm ⊢
      intro ok w xs vs p out h1 h2 h3 h4
      cases hk:gE (Xc Tb) vs some l with
      | none=>simp only [hk] at h3; cases h3
      | some o =>
        simp only [hk] at h3; cases h3
        obtain ⟨n,hn⟩:=(wY (R:=iV) hX (k:=fun _=>some) (k':=some) (fun r=>.const (some r)) l).to _ hk
        exact hm n ok w xs vs true out h1 h2 (by simp only [hn]; rfl) rfl
  | none =>
    rw [hl] at hm
    simp only at hm ⊢
    have h:=hs.lim f
    cases hsp:Tb.sp f with
    | none=>rw [hsp] at hm; exact hm 0
    | hand fi hd =>
      rw [hsp] at hm h
      simp only at hm ⊢
      cases hg:fi.out.isGen with
      | true =>
        rw [hg] at hm
        simp only [cond_true] at hm ⊢
        intro E w H nid xs args r h1 h2 h3 h4 h5
        obtain ⟨n,hn⟩:=(Ej (R:=au) (fun a=>h (fun n=>Xn Tb n) (Xc Tb) hX a) (k:=fun _=>some) (k':=some) (fun r=>.const (some r))).to r h4
        exact hm n E w H nid xs args r h1 h2 h3 hn h5
      | false =>
        rw [hg] at hm
        simp only [cond_false] at hm ⊢
        intro ok w xs vs p out h1 h2 h3 h4
        cases hk:lq fi (hd (Xc Tb)) vs some with
        | none=>simp only [hk] at h3; cases h3
        | some o =>
          simp only [hk] at h3; cases h3
          obtain ⟨n,hn⟩:=(Em (R:=iV) (fun a=>h (fun n=>Xn Tb n) (Xc Tb) hX a) (k:=fun _=>some) (k':=some) (fun r=>.const (some r))).to _ hk
          exact hm n ok w xs vs true out h1 h2 (by simp only [hn]; rfl) rfl
    | «mut» m =>
      rw [hsp] at hm h
      simp only at hm ⊢
      intro E w H nid xs args r h1 h2 h3 h4 h5
      obtain ⟨n,hn⟩:=(h (fun n=>Xn Tb n) (Xc Tb) hX (aX (az H args) H) nid args).to r h4
      exact hm n E w H nid xs args r h1 h2 h3 hn h5
end
end Go.Ax
