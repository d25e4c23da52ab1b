import Derived.Test.YtnnblpijaoocaaaGreatZB9
set_option linter.all false
/- Functions for good: the limit of functions of ever more steps, and its equation. -/
namespace Go.Ax
open Go.RowKit
structure ay {α:Type} (f:Nat→Option α) (o:Option α):Prop where
  mono:∀ n r,f n = some r→∀ m,n≤m→f m = some r
  to:∀ r,o = some r→∃ n,f n = some r
  of:∀ n r,f n = some r→o = some r
namespace ay
variable {α β:Type} {f g:Nat→Option α} {o o':Option α}
theorem const (o:Option α):ay (fun _=>o) o:=⟨fun _ _ h _ _=>h,fun _ h=>⟨0,h⟩,fun _ _ h=>h⟩
theorem uniq (h:ay f o) (h':ay f o'):o = o':=by
  cases ho:o with
  | some r =>
    obtain ⟨n,hn⟩:=h.to r ho
    exact (h'.of n r hn).symm
  | none =>
    cases ho':o' with
    | none=>rfl
    | some r =>
      obtain ⟨n,hn⟩:=h'.to r ho'
      rw [h.of n r hn] at ho; cases ho
theorem cnd {b:Bool} (h:ay f o) (h':ay g o'):ay (fun n=>bif b then f n else g n) (bif b then o else o'):=by
  cases b
  · exact h'
  · exact h
theorem bind {k:Nat→α→Option β} {k':α→Option β} (h:ay f o) (hk:∀ a,ay (fun n=>k n a) (k' a)):ay (fun n=>(f n).bind (k n)) (o.bind k'):=by
  refine ⟨fun n r hr m hm=>?_,fun r hr=>?_,fun n r hr=>?_⟩
  · obtain ⟨a,h1,h2⟩:=Option.bind_eq_some_iff.1 hr
    exact Option.bind_eq_some_iff.2 ⟨a,h.mono n a h1 m hm,(hk a).mono n r h2 m hm⟩
  · obtain ⟨a,h1,h2⟩:=Option.bind_eq_some_iff.1 hr
    obtain ⟨n1,g1⟩:=h.to a h1
    obtain ⟨n2,g2⟩:=(hk a).to r h2
    exact ⟨max n1 n2,Option.bind_eq_some_iff.2 ⟨a,h.mono n1 a g1 _ (Nat.le_max_left _ _),(hk a).mono n2 r g2 _ (Nat.le_max_right _ _)⟩⟩
  · obtain ⟨a,h1,h2⟩:=Option.bind_eq_some_iff.1 hr
    exact Option.bind_eq_some_iff.2 ⟨a,h.of n a h1,(hk a).of n r h2⟩
theorem gL {l:List Bool} (h:ay f o):ay (fun n=>Go.Ax.gL l (f n)) (Go.Ax.gL l o):=by
  induction l with
  | nil=>exact h
  | cons b l ih=>exact ay.cnd ih (const none)
theorem shift (h:ay f o):ay (fun n=>f (n+1)) o:=⟨fun n r hr m hm=>h.mono _ r hr _ (by omega),fun r hr=>by
  obtain ⟨n,hn⟩:=h.to r hr
  exact ⟨n,h.mono n r hn _ (by omega)⟩,fun n r hr=>h.of _ r hr⟩
end ay
def pq:Sp→Prop
  | .none=>True
  | .hand fi h=>∀ (X:Nat→XT) (Y:XT),(∀ fi a,ay (fun n=>X n fi a) (Y fi a))→∀ a,ay (fun n=>h (X n) a) (h Y a)
  | .mut m=>∀ (X:Nat→XT) (Y:XT),(∀ fi a,ay (fun n=>X n fi a) (Y fi a))→∀ H nid vs,ay (fun n=>m (X n) H nid vs) (m Y H nid vs)
structure fh (Tb:fE):Prop where
  lim:∀ f,pq (Tb.sp f)
section
variable {R:Type} {Tb:fE} {N:Nat} {all:List Oper} {X:Nat→XT} {Y:XT}
theorem sR (hX:∀ fi a,ay (fun n=>X n fi a) (Y fi a)) {vs:List V} {k:Nat→gc→Option R} {k':gc→Option R} (hk:∀ o,ay (fun n=>k n o) (k' o)):∀ l:List FI,ay (fun n=>eW (X n) vs (k n) l) (eW Y vs k' l)
  | []=>.const none
  | fi :: r=>by
    unfold eW
    cases rC fi vs with
    | some a=>exact (hX fi a).bind fun y=>hk _
    | none=>exact sR hX hk r
theorem uO {T:Tm} {xs:List TV} {H:ab} {nid:Nat} {args:List V} {k:Nat→ap→Option R} {k':ap→Option R} (hk:∀ r,ay (fun n=>k n r) (k' r)):ay (fun n=>fU T xs H nid args (k n)) (fU T xs H nid args k'):=by
  unfold fU
  split
  · exact .cnd (hk _) (.const none)
  · exact .const none
theorem Aw {H:ab} {nid:Nat} {args:List V} {k:Nat→ap→Option R} {k':ap→Option R} (hk:∀ r,ay (fun n=>k n r) (k' r)) (o:bY) (y:HP o.tys):ay (fun n=>gC o y H nid args (k n)) (gC o y H nid args k'):=by
  unfold gC
  split
  · exact uO hk
  · split
    · exact .cnd (uO hk) (uO hk)
    · exact .const none
  · exact .const none
theorem sV (hX:∀ fi a,ay (fun n=>X n fi a) (Y fi a)) {H:ab} {nid:Nat} {args:List V} {k:Nat→ap→Option R} {k':ap→Option R} (hk:∀ r,ay (fun n=>k n r) (k' r)):∀ l:List FI,ay (fun n=>fR (X n) H nid args (k n) l) (fR Y H nid args k' l)
  | []=>.const none
  | fi :: r=>by
    unfold fR
    cases rdG fi H args with
    | some a=>exact (hX fi a).bind fun y=>Aw hk _ _
    | none=>exact sV hX hk r
theorem E7 {H:ab} {nid:Nat} {args:List V} {k:Nat→ap→Option R} {k':ap→Option R} (hk:∀ r,ay (fun n=>k n r) (k' r)) (out:gc):ay (fun n=>match l5 H nid args out with | some r=>k n r | none=>none) (match l5 H nid args out with | some r=>k' r | none=>none):=by
  cases l5 H nid args out with
  | some r=>exact hk r
  | none=>exact .const none
theorem yP {fi:FI} {h:Nat→HP fi.ins.tys→Option (HP fi.out.tys)} {h':HP fi.ins.tys→Option (HP fi.out.tys)} (hh:∀ a,ay (fun n=>h n a) (h' a)) {H:ab} {nid:Nat} {args:List V} {k:Nat→ap→Option R} {k':ap→Option R} (hk:∀ r,ay (fun n=>k n r) (k' r)):ay (fun n=>i7 fi (h n) H nid args (k n)) (i7 fi h' H nid args k'):=by
  unfold i7
  cases rdG fi H args with
  | some a=>exact (hh a).bind fun y=>Aw hk _ _
  | none=>exact .const none
theorem zp {fi:FI} {h:Nat→HP fi.ins.tys→Option (HP fi.out.tys)} {h':HP fi.ins.tys→Option (HP fi.out.tys)} (hh:∀ a,ay (fun n=>h n a) (h' a)) {vs:List V} {k:Nat→gc→Option R} {k':gc→Option R} (hk:∀ o,ay (fun n=>k n o) (k' o)):ay (fun n=>jh fi (h n) vs (k n)) (jh fi h' vs k'):=by
  unfold jh
  cases rC fi vs with
  | some a=>exact (hh a).bind fun y=>hk _
  | none=>exact .const none
theorem yX (hs:fh Tb) (hX:∀ fi a,ay (fun n=>X n fi a) (Y fi a)) {f:FuncId} {H:ab} {nid:Nat} {args:List V} {k:Nat→ap→Option R} {k':ap→Option R} (hk:∀ r,ay (fun n=>k n r) (k' r)):ay (fun n=>pm Tb (X n) f H nid args (k n)) (pm Tb Y f H nid args k'):=by
  unfold pm
  cases bI Tb.fs f with
  | some l =>
    simp only [ET]
    exact .cnd (sV hX hk l) (sR hX (fun out=>E7 hk out) l)
  | none =>
    have h:=hs.lim f
    cases hsp:Tb.sp f with
    | none=>exact .const none
    | hand fi hd=>rw [hsp] at h; exact .cnd (yP (fun a=>h X Y hX a) hk) (zp (fun a=>h X Y hX a) fun out=>E7 hk out)
    | «mut» m=>rw [hsp] at h; exact (h X Y hX _ _ _).bind fun r=>(hk r).gL
theorem oa:∀ {ch:ax} {σ:St} {k:Nat→St→Option R} {k':St→Option R},(∀ σ,ay (fun n=>k n σ) (k' σ))→ay (fun n=>jB ch σ (k n)) (jB ch σ k')
  | [],σ,k,k',h=>h σ
  | (t,w) :: r,σ,k,k',h=>by
    unfold jB
    split
    · exact .cnd (oa h) (oa h)
    · exact .const none
theorem yb (hs:fh Tb) (hX:∀ fi a,ay (fun n=>X n fi a) (Y fi a)) {σ:St} {nid:Nat} {o:Oper} {fT fF:List FuncId} {k:Nat→St→bn→List FuncId→List FuncId→Option R} {k':St→bn→List FuncId→List FuncId→Option R}
    (hk:∀ σ rc a b,ay (fun n=>k n σ rc a b) (k' σ rc a b)):ay (fun n=>ze Tb (X n) N all σ nid o fT fF (k n)) (ze Tb Y N all σ nid o fT fF k'):=by
  unfold ze
  refine .cnd (.cnd ?_ (.const none)) ?_
  · split
    · refine .cnd (oa fun σ=>?_) (.const none)
      split
      · split
        · refine .cnd (.cnd (.const none) (yX hs hX fun r=>.cnd (hk _ _ _ _) (.const none))) (.cnd (yX hs hX fun r=>.cnd (hk _ _ _ _) (.const none)) (.cnd (hk _ _ _ _) (.const none)))
        · exact .const none
      · exact .const none
    · exact .const none
  · split
    · exact (hk _ _ _ _).gL
    · exact .const none
theorem xh (hs:fh Tb) (hX:∀ fi a,ay (fun n=>X n fi a) (Y fi a)):∀ {l:List Oper} {σ:St} {fT fF:List FuncId} {k:Nat→St→Option R} {k':St→Option R},(∀ σ,ay (fun n=>k n σ) (k' σ))→ay (fun n=>yJ Tb (X n) N all l σ fT fF (k n)) (yJ Tb Y N all l σ fT fF k')
  | [],σ,fT,fF,k,k',h=>h _
  | o :: l,σ,fT,fF,k,k',h=>by
    unfold yJ
    exact yb hs hX fun σ rc a b=>xh hs hX h
theorem AA (hs:fh Tb) (hX:∀ fi a,ay (fun n=>X n fi a) (Y fi a)):∀ {l:List Oper} {nid:Nat} {σ:St} {fT fF:List FuncId} {rcs:List bn} {k:Nat→List bn→St→Option R} {k':List bn→St→Option R},(∀ rs σ,ay (fun n=>k n rs σ) (k' rs σ)) →
    ay (fun n=>ug Tb (X n) N all l nid σ fT fF rcs (k n)) (ug Tb Y N all l nid σ fT fF rcs k')
  | [],nid,σ,fT,fF,rcs,k,k',h=>h _ _
  | o :: l,nid,σ,fT,fF,rcs,k,k',h=>by
    unfold ug
    exact yb hs hX fun σ rc a b=>AA hs hX h
theorem sh (hs:fh Tb) (hX:∀ fi a,ay (fun n=>X n fi a) (Y fi a)) {σ:St} {o:Oper} {k:Nat→St→Option R} {k':St→Option R} (h:∀ σ,ay (fun n=>k n σ) (k' σ)):ay (fun n=>qk Tb (X n) N all σ o (k n)) (qk Tb Y N all σ o k') :=
  yb hs hX fun σ rc a b=>h _
theorem sN {σ:St} {o:Oper} {ch:ax} {k:Nat→St→Option R} {k':St→Option R} (h:∀ σ,ay (fun n=>k n σ) (k' σ)):ay (fun n=>qg N σ o ch (k n)) (qg N σ o ch k'):=.cnd (h _) (.const none)
theorem A2 (hs:fh Tb) (hX:∀ fi a,ay (fun n=>X n fi a) (Y fi a)):∀ {l:List Oper} {σ:St} {k:Nat→St→Option R} {k':St→Option R},(∀ σ,ay (fun n=>k n σ) (k' σ))→ay (fun n=>jk Tb (X n) N all l σ (k n)) (jk Tb Y N all l σ k')
  | [],σ,k,k',h=>h _
  | o :: l,σ,k,k',h=>by
    unfold jk
    have rec_:∀ σ',ay (fun n=>jk Tb (X n) N all l σ' (k n)) (jk Tb Y N all l σ' k'):=fun σ'=>A2 hs hX h
    split
    · exact sh hs hX rec_
    · split
      · refine .cnd ?_ (.const none)
        split
        · exact .cnd (.cnd (.cnd (sh hs hX rec_) (sN rec_)) (.cnd (sN rec_) (sh hs hX rec_))) (sN rec_)
        · exact .const none
      · exact .const none
theorem FZ {l:List Nat} {f:Nat→Nat→Option R} {f':Nat→Option R} (h:∀ p,ay (fun n=>f n p) (f' p)):ay (fun n=>nD l (f n)) (nD l f'):=by
  refine ⟨fun n r hr m hm=>?_,fun r hr=>?_,fun n r hr=>?_⟩
  · obtain ⟨h1,h2⟩:=l3 hr
    exact ql h1 fun p hp=>(h p).mono n r (h2 p hp) m hm
  · obtain ⟨h1,h2⟩:=l3 hr
    have key:∀ l:List Nat,(∀ p∈l,f' p = some r)→∃ n, ∀ p∈l,f n p = some r:=by
      intro l
      induction l with
      | nil=>exact fun _=>⟨0,by simp⟩
      | cons q l ih =>
        intro hl
        obtain ⟨n1,g1⟩:=(h q).to r (hl q (by simp))
        obtain ⟨n2,g2⟩:=ih fun p hp=>hl p (by simp [hp])
        refine ⟨max n1 n2,fun p hp=>?_⟩
        rcases List.mem_cons.1 hp with rfl | hp
        · exact (h p).mono n1 r g1 _ (Nat.le_max_left _ _)
        · exact (h p).mono n2 r (g2 p hp) _ (Nat.le_max_right _ _)
    obtain ⟨n,hn⟩:=key l h2
    exact ⟨n,ql h1 hn⟩
  · obtain ⟨h1,h2⟩:=l3 hr
    exact ql h1 fun p hp=>(h p).of n r (h2 p hp)
theorem FN {σ:St} {o:Oper} {x:Operand} {k:Nat→St→Option R} {k':St→Option R} (h:∀ σ,ay (fun n=>k n σ) (k' σ)):ay (fun n=>ta N σ o x (k n)) (ta N σ o x k'):=by
  unfold ta
  refine .cnd ?_ (.const none)
  split
  · split
    · refine .cnd ?_ (.const none)
      split
      · exact .cnd (.gL (.cnd (h _) (FZ fun p=>h _))) (.const none)
      · exact .const none
    · exact .const none
  · exact .const none
theorem Hl (hs:fh Tb) (hX:∀ fi a,ay (fun n=>X n fi a) (Y fi a)) {ops:Array Oper} {dr:Bool} {σ:St} {k:Nat→St→Option R} {k':St→Option R} (h:∀ σ,ay (fun n=>k n σ) (k' σ)):ay (fun n=>lF Tb (X n) N ops dr σ (k n)) (lF Tb Y N ops dr σ k') :=
  .cnd (AA hs hX fun rs σ=>.cnd (h σ) (.const none)) (by
    split
    · exact FN fun σ=>xh hs hX h
    · exact .cnd (A2 hs hX h) (xh hs hX h))
variable {J:Nat→(π:Nat)→(T:Tm)→HP T.tys→Option R} {L:(π:Nat)→(T:Tm)→HP T.tys→Option R} {cuts:List (Nat × Tm)} {hd:List (Nat × wQ)}
theorem rF {π:Nat} (hJ:∀ π T s,ay (fun n=>J n π T s) (L π T s)) {T:Tm} {σ:St}:ay (fun n=>iq (J n π) T σ) (iq (L π) T σ):=(ay.const (sj T σ)).bind fun s=>hJ π T s
theorem BM (hJ:∀ π T s,ay (fun n=>J n π T s) (L π T s)) {π:Nat} {go:Nat→St→Option R} {go':St→Option R} (hg:∀ σ,ay (fun n=>go n σ) (go' σ)) {κ:Nat→KX R} {κ':KX R} (hκ:∀ e σ,ay (fun n=>κ n e σ) (κ' e σ)) (e:Exit) (σ:St) :
    ay (fun n=>BU (J n) cuts π (go n) (κ n) e σ) (BU L cuts π go' κ' e σ):=by
  cases e with
  | normal =>
    show ay (fun n=>match bI cuts π with | some T=>iq (J n π) T σ | none=>go n σ) (match bI cuts π with | some T=>iq (L π) T σ | none=>go' σ)
    cases bI cuts π with
    | some T=>exact rF hJ
    | none=>exact hg σ
  | exit id=>exact hκ _ σ
  | goto l=>exact hκ _ σ
  | ret=>exact hκ _ σ
  | panic c=>exact hκ _ σ
  | outgrown=>exact hκ _ σ
theorem yp (hJ:∀ π T s,ay (fun n=>J n π T s) (L π T s)) {π:Nat} {κ:Nat→KX R} {κ':KX R} (hκ:∀ e σ,ay (fun n=>κ n e σ) (κ' e σ)) (e:Exit) (σ:St):ay (fun n=>th (J n) cuts π (κ n) e σ) (th L cuts π κ' e σ):=by
  cases e with
  | normal =>
    show ay (fun n=>match bI cuts π with | some T=>iq (J n π) T σ | none=>none) (match bI cuts π with | some T=>iq (L π) T σ | none=>none)
    cases bI cuts π with
    | some T=>exact rF hJ
    | none=>exact .const none
  | exit id=>exact hκ _ σ
  | goto l=>exact hκ _ σ
  | ret=>exact hκ _ σ
  | panic c=>exact hκ _ σ
  | outgrown=>exact hκ _ σ
theorem wR {id:Nat} {κ:Nat→KX R} {κ':KX R} (hκ:∀ e σ,ay (fun n=>κ n e σ) (κ' e σ)) (e:Exit) (σ:St):ay (fun n=>lq id (κ n) e σ) (lq id κ' e σ):=by
  cases e with
  | exit id'=>exact .cnd (hκ _ σ) (hκ _ σ)
  | normal=>exact hκ _ σ
  | goto l=>exact hκ _ σ
  | ret=>exact hκ _ σ
  | panic c=>exact hκ _ σ
  | outgrown=>exact hκ _ σ
theorem AT (hs:fh Tb) (hX:∀ fi a,ay (fun n=>X n fi a) (Y fi a)) (hJ:∀ π T s,ay (fun n=>J n π T s) (L π T s)):∀ (c:Code) {π:Nat} {κ:Nat→KX R} {κ':KX R},(∀ e σ,ay (fun n=>κ n e σ) (κ' e σ))→∀ σ,
    ay (fun n=>xe Tb (X n) N (J n) cuts hd c π (κ n) σ) (xe Tb Y N L cuts hd c π κ' σ):=by
  intro c
  induction c with
  | skip=>exact fun h σ=>h _ σ
  | label l=>exact fun h σ=>h _ σ
  | region id ops dr=>exact fun h σ=>Hl hs hX fun σ=>h _ σ
  | seq x y ihx ihy=>exact fun h σ=>ihx (fun e σ=>BM hJ (fun σ=>ihy h σ) h e σ) σ
  | cond c x y ihx ihy =>
    intro π κ κ' h σ
    unfold xe
    split
    · exact .cnd (ihx h σ) (ihy h σ)
    · exact .const none
  | block id x ih =>
    intro π κ κ' h σ
    unfold xe
    split
    · exact (ay.const _).bind fun y=>h _ _
    · exact ih (fun e σ=>wR h e σ) σ
  | exit id=>exact fun h σ=>h _ σ
  | ret=>exact fun h σ=>h _ σ
  | loop x ih =>
    intro π κ κ' h σ
    unfold xe
    split
    · exact rF hJ
    · exact .const none
  | rangeFunc f params assign body=>exact fun h σ=>.const none
  | scope body=>exact fun h σ=>.const none
  | goto l=>exact fun h σ=>.const none
  | refuse why=>exact fun h σ=>.const none
theorem oC (hs:fh Tb) (hX:∀ fi a,ay (fun n=>X n fi a) (Y fi a)) (hJ:∀ π T s,ay (fun n=>J n π T s) (L π T s)):∀ (b:List Bool) (c:Code) {π:Nat} {κ:Nat→KX R} {κ':KX R},(∀ e σ,ay (fun n=>κ n e σ) (κ' e σ))→∀ σ,
    ay (fun n=>Gz (tV Tb (X n) N (J n) cuts hd b c π (κ n)) σ) (Gz (tV Tb Y N L cuts hd b c π κ') σ)
  | [],c,π,κ,κ',h,σ=>by
    cases c <;> first | exact AT hs hX hJ _ h σ | exact AT hs hX hJ _ (yp hJ h) σ
  | b :: r,c,π,κ,κ',h,σ=>by
    cases c <;> cases b <;> first | exact .const none | exact oC hs hX hJ r _ h σ | exact oC hs hX hJ r _ (fun e σ=>BM hJ (fun σ=>AT hs hX hJ _ h σ) h e σ) σ | exact oC hs hX hJ r _ (wR h) σ | exact oC hs hX hJ r _ (yp hJ h) σ
end
open Classical in
noncomputable def Xf (Tb:fE):JT:=fun fi π T s=>if h:∃ n r,Jn Tb n fi π T s = some r then some h.choose_spec.choose else none
section
variable {Tb:fE}
theorem DI (n:Nat) (fi:FI) (π:Nat) (T:Tm) (s:HP T.tys):Jn Tb (n+1) fi π T s = tr Tb (Jn Tb n) fi π T s:=by rw [Jn]
theorem yW (hs:fh Tb) {J:Nat→JT} {L:JT} (hJ:∀ fi π T s,ay (fun n=>J n fi π T s) (L fi π T s)) (fi:FI) (π:Nat) (T:Tm) (s:HP T.tys):ay (fun n=>tr Tb (J n) fi π T s) (tr Tb L fi π T s) :=
  .cnd (oC hs (X:=fun n fi a=>J n fi 1 fi.ins a) (Y:=fun fi a=>L fi 1 fi.ins a) (J:=fun n=>J n fi) (L:=L fi) (fun fi a=>hJ fi 1 fi.ins a) (hJ fi) (fw π) fi.c (κ:=fun _=>sx Tb.P fi) (κ':=sx Tb.P fi) (fun e σ=>.const _) (ko T s)) (.const none)
theorem uF (hs:fh Tb):∀ (n:Nat) (fi:FI) (π:Nat) (T:Tm) (s:HP T.tys) (r:HP fi.out.tys),Jn Tb n fi π T s = some r→Jn Tb (n+1) fi π T s = some r
  | 0,fi,π,T,s,r,h=>by simp [Jn] at h
  | n+1,fi,π,T,s,r,h=>by
    have key:∀ fi π T s,ay (fun k=>match k with | 0=>Jn Tb n fi π T s | _+1=>Jn Tb (n+1) fi π T s) (Jn Tb (n+1) fi π T s):=fun fi π T s =>
      ⟨fun k r hk m hm=>by
        match k,m with
        | 0,0=>exact hk
        | 0,m+1=>exact uF hs n fi π T s r hk
        | k+1,m+1=>exact hk,fun r hr=>⟨1,hr⟩,fun k r hk=>by
        match k with
        | 0=>exact uF hs n fi π T s r hk
        | k+1=>exact hk⟩
    have:=yW hs (J:=fun k fi π T s=>match k with | 0=>Jn Tb n fi π T s | _+1=>Jn Tb (n+1) fi π T s) key fi π T s
    rw [DI] at h ⊢
    exact this.of 0 r h
theorem B4 (hs:fh Tb) (fi:FI) (π:Nat) (T:Tm) (s:HP T.tys):ay (fun n=>Jn Tb n fi π T s) (Xf Tb fi π T s):=by
  have mono:∀ n r,Jn Tb n fi π T s = some r→∀ m,n≤m→Jn Tb m fi π T s = some r:=by
    intro n r h m hm
    induction m with
    | zero =>
      have:n = 0:=by omega
      subst this; exact h
    | succ m ih =>
      by_cases e:n = m+1
      · subst e; exact h
      · exact uF hs m fi π T s r (ih (by omega))
  refine ⟨mono,fun r hr=>?_,fun n r hr=>?_⟩
  · unfold Xf at hr
    split at hr
    · next h=>cases hr; exact ⟨h.choose,h.choose_spec.choose_spec⟩
    · cases hr
  · unfold Xf
    have h:∃ n r,Jn Tb n fi π T s = some r:=⟨n,r,hr⟩
    rw [dif_pos h]
    have h1:=h.choose_spec.choose_spec
    have h2:=mono _ _ h1 (max n h.choose) (Nat.le_max_right _ _)
    rw [mono _ _ hr (max n h.choose) (Nat.le_max_left _ _)] at h2
    exact h2.symm
theorem ai (hs:fh Tb) (fi:FI) (π:Nat) (T:Tm) (s:HP T.tys):Xf Tb fi π T s = tr Tb (Xf Tb) fi π T s :=
  ((B4 hs fi π T s).shift).uniq (by simpa only [DI] using yW hs (J:=Jn Tb) (fun fi π T s=>B4 hs fi π T s) fi π T s)
noncomputable abbrev Xc (Tb:fE):XT:=fun fi a=>Xf Tb fi 1 fi.ins a
theorem HQ (hT:tu Tb) (hs:fh Tb) (f:FuncId):aG Tb.P f (dx Tb (Xc Tb) f):=by
  have hX:∀ fi a,ay (fun n=>Xn Tb n fi a) (Xc Tb fi a):=fun fi a=>B4 hs fi 1 fi.ins a
  have hm:∀ n,aG Tb.P f (dx Tb (Xn Tb n) f):=fun n=>PJ.meets hT (Ko hT n) f
  unfold dx at hm ⊢
  cases hl:bI Tb.fs f with
  | some l =>
    rw [hl] at hm
    simp only at hm ⊢
    cases hg:xy l with
    | true =>
      rw [hg] at hm
      simp only [cond_true] at hm ⊢
      intro E w H nid xs args r h1 h2 h3 h4 h5
      obtain ⟨n,hn⟩:=(sV (R:=ap) hX (k:=fun _=>some) (k':=some) (fun r=>.const (some r)) l).to r h4
      exact hm n E w H nid xs args r h1 h2 h3 hn h5
    | false =>
      rw [hg] at hm
      simp only [cond_false] at hm ⊢
      intro ok w xs vs p out h1 h2 h3 h4
      cases hk:eW (Xc Tb) vs some l with
      | none=>simp only [hk] at h3; cases h3
      | some o =>
        simp only [hk] at h3; cases h3
        obtain ⟨n,hn⟩:=(sR (R:=gc) hX (k:=fun _=>some) (k':=some) (fun r=>.const (some r)) l).to _ hk
        exact hm n ok w xs vs true out h1 h2 (by simp only [hn]; rfl) rfl
  | none =>
    rw [hl] at hm
    simp only at hm ⊢
    have h:=hs.lim f
    cases hsp:Tb.sp f with
    | none=>rw [hsp] at hm; exact hm 0
    | hand fi hd =>
      rw [hsp] at hm h
      simp only at hm ⊢
      cases hg:fi.out.isGen with
      | true =>
        rw [hg] at hm
        simp only [cond_true] at hm ⊢
        intro E w H nid xs args r h1 h2 h3 h4 h5
        obtain ⟨n,hn⟩:=(yP (R:=ap) (fun a=>h (fun n=>Xn Tb n) (Xc Tb) hX a) (k:=fun _=>some) (k':=some) (fun r=>.const (some r))).to r h4
        exact hm n E w H nid xs args r h1 h2 h3 hn h5
      | false =>
        rw [hg] at hm
        simp only [cond_false] at hm ⊢
        intro ok w xs vs p out h1 h2 h3 h4
        cases hk:jh fi (hd (Xc Tb)) vs some with
        | none=>simp only [hk] at h3; cases h3
        | some o =>
          simp only [hk] at h3; cases h3
          obtain ⟨n,hn⟩:=(zp (R:=gc) (fun a=>h (fun n=>Xn Tb n) (Xc Tb) hX a) (k:=fun _=>some) (k':=some) (fun r=>.const (some r))).to _ hk
          exact hm n ok w xs vs true out h1 h2 (by simp only [hn]; rfl) rfl
    | «mut» m =>
      rw [hsp] at hm h
      simp only at hm ⊢
      intro E w H nid xs args r h1 h2 h3 h4 h5
      obtain ⟨n,hn⟩:=(h (fun n=>Xn Tb n) (Xc Tb) hX (aL (au H args) H) nid args).to r h4
      exact hm n E w H nid xs args r h1 h2 h3 hn h5
end
end Go.Ax
