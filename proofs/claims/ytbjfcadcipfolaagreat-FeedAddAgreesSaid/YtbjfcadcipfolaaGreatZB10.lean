import Derived.Test.YtbjfcadcipfolaaGreatZB9
set_option linter.all false
/- Functions for good: the limit of functions of ever more steps, and its equation. -/
namespace Go.Ax
open Go.RowKit
structure aT {α:Type} (f:Nat→Option α) (o:Option α):Prop where
  mono:∀ n r,f n = some r→∀ m,n≤m→f m = some r
  to:∀ r,o = some r→∃ n,f n = some r
  of:∀ n r,f n = some r→o = some r
namespace aT
variable {α β:Type} {f g:Nat→Option α} {o o':Option α}
theorem const (o:Option α):aT (fun _=>o) o:=⟨fun _ _ h _ _=>h,fun _ h=>⟨0,h⟩,fun _ _ h=>h⟩
theorem uniq (h:aT f o) (h':aT f o'):o = o':=by
 cases ho:o with
 | some r =>
  obtain ⟨n,hn⟩:=h.to r ho
  exact (h'.of n r hn).symm
 | none =>
  cases ho':o' with
  | none=>rfl
  | some r =>
   obtain ⟨n,hn⟩:=h'.to r ho'
   rw [h.of n r hn] at ho;cases ho
theorem cnd {b:Bool} (h:aT f o) (h':aT g o'):aT (fun n=>bif b then f n else g n) (bif b then o else o'):=by
 cases b
 ·exact h'
 ·exact h
theorem bind {k:Nat→α→Option β} {k':α→Option β} (h:aT f o) (hk:∀ a,aT (fun n=>k n a) (k' a)):aT (fun n=>(f n).bind (k n)) (o.bind k'):=by
 refine ⟨fun n r hr m hm=>?_,fun r hr=>?_,fun n r hr=>?_⟩
 ·obtain ⟨a,h1,h2⟩:=Option.bind_eq_some_iff.1 hr
  exact Option.bind_eq_some_iff.2 ⟨a,h.mono n a h1 m hm,(hk a).mono n r h2 m hm⟩
 ·obtain ⟨a,h1,h2⟩:=Option.bind_eq_some_iff.1 hr
  obtain ⟨n1,g1⟩:=h.to a h1
  obtain ⟨n2,g2⟩:=(hk a).to r h2
  exact ⟨max n1 n2,Option.bind_eq_some_iff.2 ⟨a,h.mono n1 a g1 _ (Nat.le_max_left _ _),(hk a).mono n2 r g2 _ (Nat.le_max_right _ _)⟩⟩
 ·obtain ⟨a,h1,h2⟩:=Option.bind_eq_some_iff.1 hr
  exact Option.bind_eq_some_iff.2 ⟨a,h.of n a h1,(hk a).of n r h2⟩
theorem gL {l:List Bool} (h:aT f o):aT (fun n=>Go.Ax.gL l (f n)) (Go.Ax.gL l o):=by
 induction l with
 | nil=>exact h
 | cons b l ih=>exact aT.cnd ih (const none)
theorem shift (h:aT f o):aT (fun n=>f (n+1)) o:=⟨fun n r hr m hm=>h.mono _ r hr _ (by omega),fun r hr=>by
 obtain ⟨n,hn⟩:=h.to r hr
 exact ⟨n,h.mono n r hn _ (by omega)⟩,fun n r hr=>h.of _ r hr⟩
end aT
def xy:Sp→Prop
 | .none=>True
 | .hand fi h=>∀ (X:Nat→XT) (Y:XT),(∀ fi a,aT (fun n=>X n fi a) (Y fi a))→∀ a,aT (fun n=>h (X n) a) (h Y a)
 | .mut m=>∀ (X:Nat→XT) (Y:XT),(∀ fi a,aT (fun n=>X n fi a) (Y fi a))→∀ H nid vs,aT (fun n=>m (X n) H nid vs) (m Y H nid vs)
structure iV (Tb:jZ):Prop where
  lim:∀ f,xy (Tb.sp f)
section
variable {R:Type} {Tb:jZ} {N:Nat} {all:List Oper} {X:Nat→XT} {Y:XT}
theorem zU (hX:∀ fi a,aT (fun n=>X n fi a) (Y fi a)) {vs:List V} {k:Nat→j8→Option R} {k':j8→Option R} (hk:∀ o,aT (fun n=>k n o) (k' o)):∀ l:List FI,aT (fun n=>ip (X n) vs (k n) l) (ip Y vs k' l)
 | []=>.const none
 | fi :: r=>by
  unfold ip
  cases zm fi vs with
  | some a=>exact (hX fi a).bind fun y=>hk _
  | none=>exact zU hX hk r
theorem CS {T:Tm} {xs:List TV} {H:ae} {nid:Nat} {args:List V} {k:Nat→aF→Option R} {k':aF→Option R} (hk:∀ r,aT (fun n=>k n r) (k' r)):aT (fun n=>jI T xs H nid args (k n)) (jI T xs H nid args k'):=by
 unfold jI
 split
 ·exact .cnd (hk _) (.const none)
 ·exact .const none
theorem IH {H:ae} {nid:Nat} {args:List V} {k:Nat→aF→Option R} {k':aF→Option R} (hk:∀ r,aT (fun n=>k n r) (k' r)) (o:dA) (y:HP o.tys):aT (fun n=>ki o y H nid args (k n)) (ki o y H nid args k'):=by
 unfold ki
 split
 ·exact CS hk
 ·split
  ·exact .cnd (CS hk) (CS hk)
  ·exact .const none
 ·exact .const none
theorem Ah (hX:∀ fi a,aT (fun n=>X n fi a) (Y fi a)) {H:ae} {nid:Nat} {args:List V} {k:Nat→aF→Option R} {k':aF→Option R} (hk:∀ r,aT (fun n=>k n r) (k' r)):∀ l:List FI,aT (fun n=>jS (X n) H nid args (k n) l) (jS Y H nid args k' l)
 | []=>.const none
 | fi :: r=>by
  unfold jS
  cases rdG fi H args with
  | some a=>exact (hX fi a).bind fun y=>IH hk _ _
  | none=>exact Ah hX hk r
theorem NB {H:ae} {nid:Nat} {args:List V} {k:Nat→aF→Option R} {k':aF→Option R} (hk:∀ r,aT (fun n=>k n r) (k' r)) (out:j8):aT (fun n=>match sD H nid args out with | some r=>k n r | none=>none) (match sD H nid args out with | some r=>k' r | none=>none):=by
 cases sD H nid args out with
 | some r=>exact hk r
 | none=>exact .const none
theorem Ga {fi:FI} {h:Nat→HP fi.ins.tys→Option (HP fi.out.tys)} {h':HP fi.ins.tys→Option (HP fi.out.tys)} (hh:∀ a,aT (fun n=>h n a) (h' a)) {H:ae} {nid:Nat} {args:List V} {k:Nat→aF→Option R} {k':aF→Option R} (hk:∀ r,aT (fun n=>k n r) (k' r)):aT (fun n=>mL fi (h n) H nid args (k n)) (mL fi h' H nid args k'):=by
 unfold mL
 cases rdG fi H args with
 | some a=>exact (hh a).bind fun y=>IH hk _ _
 | none=>exact .const none
theorem GP {fi:FI} {h:Nat→HP fi.ins.tys→Option (HP fi.out.tys)} {h':HP fi.ins.tys→Option (HP fi.out.tys)} (hh:∀ a,aT (fun n=>h n a) (h' a)) {vs:List V} {k:Nat→j8→Option R} {k':j8→Option R} (hk:∀ o,aT (fun n=>k n o) (k' o)):aT (fun n=>mI fi (h n) vs (k n)) (mI fi h' vs k'):=by
 unfold mI
 cases zm fi vs with
 | some a=>exact (hh a).bind fun y=>hk _
 | none=>exact .const none
theorem Nk (hs:iV Tb) (hX:∀ fi a,aT (fun n=>X n fi a) (Y fi a)) {f:FuncId} {H:ae} {nid:Nat} {args:List V} {k:Nat→aF→Option R} {k':aF→Option R} (hk:∀ r,aT (fun n=>k n r) (k' r)):aT (fun n=>AB Tb (X n) f H nid args (k n)) (AB Tb Y f H nid args k'):=by
 unfold AB
 cases cT Tb.fs f with
 | some l =>
  simp only [Mo]
  exact .cnd (Ah hX hk l) (zU hX (fun out=>NB hk out) l)
 | none =>
  have h:=hs.lim f
  cases hsp:Tb.sp f with
  | none=>exact .const none
  | hand fi hd=>rw [hsp] at h;exact .cnd (Ga (fun a=>h X Y hX a) hk) (GP (fun a=>h X Y hX a) fun out=>NB hk out)
  | «mut» m=>rw [hsp] at h;exact (h X Y hX _ _ _).bind fun r=>(hk r).gL
theorem vJ:∀ {ch:aP} {σ:St} {k:Nat→St→Option R} {k':St→Option R},(∀ σ,aT (fun n=>k n σ) (k' σ))→aT (fun n=>nC ch σ (k n)) (nC ch σ k')
 | [],σ,k,k',h=>h σ
 | (t,w) :: r,σ,k,k',h=>by
  unfold nC
  split
  ·exact .cnd (vJ h) (vJ h)
  ·exact .const none
theorem E6 (hs:iV Tb) (hX:∀ fi a,aT (fun n=>X n fi a) (Y fi a)) {σ:St} {nid:Nat} {o:Oper} {k:Nat→St→bI→Option R} {k':St→bI→Option R}
  (hk:∀ σ rc,aT (fun n=>k n σ rc) (k' σ rc)):aT (fun n=>GT Tb (X n) N all σ nid o (k n)) (GT Tb Y N all σ nid o k'):=by
 unfold GT
 refine .cnd (.cnd ?_ (.const none)) ?_
 ·split
  ·refine .cnd (vJ fun σ=>.cnd ?_ (.cnd (hk _ _) (.const none))) (.const none)
   split
   ·split
    ·exact Nk hs hX fun r=>.cnd (hk _ _) (.const none)
    ·exact .const none
   ·exact .const none
  ·exact .const none
 ·split
  ·exact (hk _ _).gL
  ·exact .const none
theorem EI (hs:iV Tb) (hX:∀ fi a,aT (fun n=>X n fi a) (Y fi a)):∀ {l:List Oper} {σ:St} {k:Nat→St→Option R} {k':St→Option R},(∀ σ,aT (fun n=>k n σ) (k' σ))→aT (fun n=>Gd Tb (X n) N all l σ (k n)) (Gd Tb Y N all l σ k')
 | [],σ,k,k',h=>h _
 | o :: l,σ,k,k',h=>by
  unfold Gd
  exact E6 hs hX fun σ rc=>EI hs hX h
theorem JI (hs:iV Tb) (hX:∀ fi a,aT (fun n=>X n fi a) (Y fi a)):∀ {l:List Oper} {nid:Nat} {σ:St} {rcs:List bI} {k:Nat→List bI→St→Option R} {k':List bI→St→Option R},(∀ rs σ,aT (fun n=>k n rs σ) (k' rs σ)) →
  aT (fun n=>Ce Tb (X n) N all l nid σ rcs (k n)) (Ce Tb Y N all l nid σ rcs k')
 | [],nid,σ,rcs,k,k',h=>h _ _
 | o :: l,nid,σ,rcs,k,k',h=>by
  unfold Ce
  exact E6 hs hX fun σ rc=>JI hs hX h
theorem zW (hs:iV Tb) (hX:∀ fi a,aT (fun n=>X n fi a) (Y fi a)) {σ:St} {o:Oper} {k:Nat→St→Option R} {k':St→Option R} (h:∀ σ,aT (fun n=>k n σ) (k' σ)):aT (fun n=>w9 Tb (X n) N all σ o (k n)) (w9 Tb Y N all σ o k') :=
 E6 hs hX fun σ rc=>h _
theorem Az {σ:St} {o:Oper} {ch:aP} {k:Nat→St→Option R} {k':St→Option R} (h:∀ σ,aT (fun n=>k n σ) (k' σ)):aT (fun n=>yf N σ o ch (k n)) (yf N σ o ch k'):=.cnd (h _) (.const none)
theorem JG (hs:iV Tb) (hX:∀ fi a,aT (fun n=>X n fi a) (Y fi a)):∀ {l:List Oper} {σ:St} {k:Nat→St→Option R} {k':St→Option R},(∀ σ,aT (fun n=>k n σ) (k' σ))→aT (fun n=>mU Tb (X n) N all l σ (k n)) (mU Tb Y N all l σ k')
 | [],σ,k,k',h=>h _
 | o :: l,σ,k,k',h=>by
  unfold mU
  have rec_:∀ σ',aT (fun n=>mU Tb (X n) N all l σ' (k n)) (mU Tb Y N all l σ' k'):=fun σ'=>JG hs hX h
  split
  ·exact zW hs hX rec_
  ·split
   ·refine .cnd ?_ (.const none)
    split
    ·exact .cnd (.cnd (.cnd (zW hs hX rec_) (Az rec_)) (.cnd (Az rec_) (zW hs hX rec_))) (Az rec_)
    ·exact .const none
   ·exact .const none
theorem Nt {l:List Nat} {f:Nat→Nat→Option R} {f':Nat→Option R} (h:∀ p,aT (fun n=>f n p) (f' p)):aT (fun n=>sC l (f n)) (sC l f'):=by
 refine ⟨fun n r hr m hm=>?_,fun r hr=>?_,fun n r hr=>?_⟩
 ·obtain ⟨h1,h2⟩:=sI hr
  exact tg h1 fun p hp=>(h p).mono n r (h2 p hp) m hm
 ·obtain ⟨h1,h2⟩:=sI hr
  have key:∀ l:List Nat,(∀ p∈l,f' p = some r)→∃ n, ∀ p∈l,f n p = some r:=by
   intro l
   induction l with
   | nil=>exact fun _=>⟨0,by simp⟩
   | cons q l ih =>
    intro hl
    obtain ⟨n1,g1⟩:=(h q).to r (hl q (by simp))
    obtain ⟨n2,g2⟩:=ih fun p hp=>hl p (by simp [hp])
    refine ⟨max n1 n2,fun p hp=>?_⟩
    rcases List.mem_cons.1 hp with rfl | hp
    ·exact (h p).mono n1 r g1 _ (Nat.le_max_left _ _)
    ·exact (h p).mono n2 r (g2 p hp) _ (Nat.le_max_right _ _)
  obtain ⟨n,hn⟩:=key l h2
  exact ⟨n,tg h1 hn⟩
 ·obtain ⟨h1,h2⟩:=sI hr
  exact tg h1 fun p hp=>(h p).of n r (h2 p hp)
theorem Of {σ:St} {o:Oper} {x:Operand} {k:Nat→St→Option R} {k':St→Option R} (h:∀ σ,aT (fun n=>k n σ) (k' σ)):aT (fun n=>AX N σ o x (k n)) (AX N σ o x k'):=by
 unfold AX
 refine .cnd ?_ (.const none)
 split
 ·split
  ·refine .cnd ?_ (.const none)
   split
   ·exact .cnd (.gL (.cnd (h _) (Nt fun p=>h _))) (.const none)
   ·exact .const none
  ·exact .const none
 ·exact .const none
theorem PF (hs:iV Tb) (hX:∀ fi a,aT (fun n=>X n fi a) (Y fi a)) {ops:Array Oper} {dr:Bool} {σ:St} {k:Nat→St→Option R} {k':St→Option R} (h:∀ σ,aT (fun n=>k n σ) (k' σ)):aT (fun n=>JE Tb (X n) N ops dr σ (k n)) (JE Tb Y N ops dr σ k') :=
 .cnd (JI hs hX fun rs σ=>.cnd (h σ) (.const none)) (by
  split
  ·exact Of fun σ=>EI hs hX h
  ·exact .cnd (JG hs hX h) (EI hs hX h))
variable {J:Nat→(π:Nat)→(T:Tm)→HP T.tys→Option R} {L:(π:Nat)→(T:Tm)→HP T.tys→Option R} {cuts:List (Nat × Tm)} {hd:List (Nat × Jf)}
theorem Al {π:Nat} (hJ:∀ π T s,aT (fun n=>J n π T s) (L π T s)) {T:Tm} {σ:St}:aT (fun n=>lX (J n π) T σ) (lX (L π) T σ):=(aT.const (y9 T σ)).bind fun s=>hJ π T s
theorem Id (hJ:∀ π T s,aT (fun n=>J n π T s) (L π T s)) {π:Nat} {go:Nat→St→Option R} {go':St→Option R} (hg:∀ σ,aT (fun n=>go n σ) (go' σ)) {κ:Nat→KX R} {κ':KX R} (hκ:∀ e σ,aT (fun n=>κ n e σ) (κ' e σ)) (e:Exit) (σ:St) :
  aT (fun n=>H9 (J n) cuts π (go n) (κ n) e σ) (H9 L cuts π go' κ' e σ):=by
 cases e with
 | normal =>
  show aT (fun n=>match cT cuts π with | some T=>lX (J n π) T σ | none=>go n σ) (match cT cuts π with | some T=>lX (L π) T σ | none=>go' σ)
  cases cT cuts π with
  | some T=>exact Al hJ
  | none=>exact hg σ
 | exit id=>exact hκ _ σ
 | goto l=>exact hκ _ σ
 | ret=>exact hκ _ σ
 | panic c=>exact hκ _ σ
 | outgrown=>exact hκ _ σ
theorem Gv (hJ:∀ π T s,aT (fun n=>J n π T s) (L π T s)) {π:Nat} {κ:Nat→KX R} {κ':KX R} (hκ:∀ e σ,aT (fun n=>κ n e σ) (κ' e σ)) (e:Exit) (σ:St):aT (fun n=>AW (J n) cuts π (κ n) e σ) (AW L cuts π κ' e σ):=by
 cases e with
 | normal =>
  show aT (fun n=>match cT cuts π with | some T=>lX (J n π) T σ | none=>none) (match cT cuts π with | some T=>lX (L π) T σ | none=>none)
  cases cT cuts π with
  | some T=>exact Al hJ
  | none=>exact .const none
 | exit id=>exact hκ _ σ
 | goto l=>exact hκ _ σ
 | ret=>exact hκ _ σ
 | panic c=>exact hκ _ σ
 | outgrown=>exact hκ _ σ
theorem C7 {id:Nat} {κ:Nat→KX R} {κ':KX R} (hκ:∀ e σ,aT (fun n=>κ n e σ) (κ' e σ)) (e:Exit) (σ:St):aT (fun n=>qK id (κ n) e σ) (qK id κ' e σ):=by
 cases e with
 | exit id'=>exact .cnd (hκ _ σ) (hκ _ σ)
 | normal=>exact hκ _ σ
 | goto l=>exact hκ _ σ
 | ret=>exact hκ _ σ
 | panic c=>exact hκ _ σ
 | outgrown=>exact hκ _ σ
theorem Ik (hs:iV Tb) (hX:∀ fi a,aT (fun n=>X n fi a) (Y fi a)) (hJ:∀ π T s,aT (fun n=>J n π T s) (L π T s)):∀ (c:Code) {π:Nat} {κ:Nat→KX R} {κ':KX R},(∀ e σ,aT (fun n=>κ n e σ) (κ' e σ))→∀ σ,
  aT (fun n=>xe Tb (X n) N (J n) cuts hd c π (κ n) σ) (xe Tb Y N L cuts hd c π κ' σ):=by
 intro c
 induction c with
 | skip=>exact fun h σ=>h _ σ
 | label l=>exact fun h σ=>h _ σ
 | region id ops dr=>exact fun h σ=>PF hs hX fun σ=>h _ σ
 | seq x y ihx ihy=>exact fun h σ=>ihx (fun e σ=>Id hJ (fun σ=>ihy h σ) h e σ) σ
 | cond c x y ihx ihy =>
  intro π κ κ' h σ
  unfold xe
  split
  ·exact .cnd (ihx h σ) (ihy h σ)
  ·exact .const none
 | block id x ih =>
  intro π κ κ' h σ
  unfold xe
  split
  ·exact (aT.const _).bind fun y=>h _ _
  ·exact ih (fun e σ=>C7 h e σ) σ
 | exit id=>exact fun h σ=>h _ σ
 | ret=>exact fun h σ=>h _ σ
 | loop x ih =>
  intro π κ κ' h σ
  unfold xe
  split
  ·exact Al hJ
  ·exact .const none
 | rangeFunc f params assign body=>exact fun h σ=>.const none
 | scope body=>exact fun h σ=>.const none
 | goto l=>exact fun h σ=>.const none
 | refuse why=>exact fun h σ=>.const none
theorem wT (hs:iV Tb) (hX:∀ fi a,aT (fun n=>X n fi a) (Y fi a)) (hJ:∀ π T s,aT (fun n=>J n π T s) (L π T s)):∀ (b:List Bool) (c:Code) {π:Nat} {κ:Nat→KX R} {κ':KX R},(∀ e σ,aT (fun n=>κ n e σ) (κ' e σ))→∀ σ,
  aT (fun n=>Pz (Bw Tb (X n) N (J n) cuts hd b c π (κ n)) σ) (Pz (Bw Tb Y N L cuts hd b c π κ') σ)
 | [],c,π,κ,κ',h,σ=>by
  cases c <;> first | exact Ik hs hX hJ _ h σ | exact Ik hs hX hJ _ (Gv hJ h) σ
 | b :: r,c,π,κ,κ',h,σ=>by
  cases c <;> cases b <;> first | exact .const none | exact wT hs hX hJ r _ h σ | exact wT hs hX hJ r _ (fun e σ=>Id hJ (fun σ=>Ik hs hX hJ _ h σ) h e σ) σ | exact wT hs hX hJ r _ (C7 h) σ | exact wT hs hX hJ r _ (Gv hJ h) σ
end
open Classical in
noncomputable def Xf (Tb:jZ):JT:=fun fi π T s=>if h:∃ n r,Jn Tb n fi π T s = some r then some h.choose_spec.choose else none
section
variable {Tb:jZ}
theorem Lu (n:Nat) (fi:FI) (π:Nat) (T:Tm) (s:HP T.tys):Jn Tb (n+1) fi π T s = AJ Tb (Jn Tb n) fi π T s:=by rw [Jn]
theorem Gx (hs:iV Tb) {J:Nat→JT} {L:JT} (hJ:∀ fi π T s,aT (fun n=>J n fi π T s) (L fi π T s)) (fi:FI) (π:Nat) (T:Tm) (s:HP T.tys):aT (fun n=>AJ Tb (J n) fi π T s) (AJ Tb L fi π T s) :=
 .cnd (wT hs (X:=fun n fi a=>J n fi 1 fi.ins a) (Y:=fun fi a=>L fi 1 fi.ins a) (J:=fun n=>J n fi) (L:=L fi) (fun fi a=>hJ fi 1 fi.ins a) (hJ fi) (oY π) fi.c (κ:=fun _=>zT Tb.P fi) (κ':=zT Tb.P fi) (fun e σ=>.const _) (uJ T s)) (.const none)
theorem CN (hs:iV Tb):∀ (n:Nat) (fi:FI) (π:Nat) (T:Tm) (s:HP T.tys) (r:HP fi.out.tys),Jn Tb n fi π T s = some r→Jn Tb (n+1) fi π T s = some r
 | 0,fi,π,T,s,r,h=>by simp [Jn] at h
 | n+1,fi,π,T,s,r,h=>by
  have key:∀ fi π T s,aT (fun k=>match k with | 0=>Jn Tb n fi π T s | _+1=>Jn Tb (n+1) fi π T s) (Jn Tb (n+1) fi π T s):=fun fi π T s =>
   ⟨fun k r hk m hm=>by
    match k,m with
    | 0,0=>exact hk
    | 0,m+1=>exact CN hs n fi π T s r hk
    | k+1,m+1=>exact hk,fun r hr=>⟨1,hr⟩,fun k r hk=>by
    match k with
    | 0=>exact CN hs n fi π T s r hk
    | k+1=>exact hk⟩
  have:=Gx hs (J:=fun k fi π T s=>match k with | 0=>Jn Tb n fi π T s | _+1=>Jn Tb (n+1) fi π T s) key fi π T s
  rw [Lu] at h ⊢
  exact this.of 0 r h
theorem If (hs:iV Tb) (fi:FI) (π:Nat) (T:Tm) (s:HP T.tys):aT (fun n=>Jn Tb n fi π T s) (Xf Tb fi π T s):=by
 have mono:∀ n r,Jn Tb n fi π T s = some r→∀ m,n≤m→Jn Tb m fi π T s = some r:=by
  intro n r h m hm
  induction m with
  | zero =>
   have:n = 0:=by omega
   subst this;exact h
  | succ m ih =>
   by_cases e:n = m+1
   ·subst e;exact h
   ·exact CN hs m fi π T s r (ih (by omega))
 refine ⟨mono,fun r hr=>?_,fun n r hr=>?_⟩
 ·unfold Xf at hr
  split at hr
  ·next h=>cases hr;exact ⟨h.choose,h.choose_spec.choose_spec⟩
  ·cases hr
 ·unfold Xf
  have h:∃ n r,Jn Tb n fi π T s = some r:=⟨n,r,hr⟩
  rw [dif_pos h]
  have h1:=h.choose_spec.choose_spec
  have h2:=mono _ _ h1 (max n h.choose) (Nat.le_max_right _ _)
  rw [mono _ _ hr (max n h.choose) (Nat.le_max_left _ _)] at h2
  exact h2.symm
theorem aj (hs:iV Tb) (fi:FI) (π:Nat) (T:Tm) (s:HP T.tys):Xf Tb fi π T s = AJ Tb (Xf Tb) fi π T s :=
 ((If hs fi π T s).shift).uniq (by simpa only [Lu] using Gx hs (J:=Jn Tb) (fun fi π T s=>If hs fi π T s) fi π T s)
noncomputable abbrev Xc (Tb:jZ):XT:=fun fi a=>Xf Tb fi 1 fi.ins a
theorem OP (hT:AP Tb) (hs:iV Tb) (f:FuncId):bD Tb.P f (fw Tb (Xc Tb) f):=by
 have hX:∀ fi a,aT (fun n=>Xn Tb n fi a) (Xc Tb fi a):=fun fi a=>If hs fi 1 fi.ins a
 have hm:∀ n,bD Tb.P f (fw Tb (Xn Tb n) f):=fun n=>PJ.meets hT (Rr hT n) f
 unfold fw at hm ⊢
 cases hl:cT Tb.fs f with
 | some l =>
  rw [hl] at hm
  simp only at hm ⊢
  cases hg:Ev l with
  | true =>
   rw [hg] at hm
   simp only [cond_true] at hm ⊢
   intro E w H nid xs args r h1 h2 h3 h4 h5
   obtain ⟨n,hn⟩:=(Ah (R:=aF) hX (k:=fun _=>some) (k':=some) (fun r=>.const (some r)) l).to r h4
   exact hm n E w H nid xs args r h1 h2 h3 hn h5
  | false =>
   rw [hg] at hm
   simp only [cond_false] at hm ⊢
   intro ok w xs vs p out h1 h2 h3 h4
   cases hk:ip (Xc Tb) vs some l with
   | none=>simp only [hk] at h3;cases h3
   | some o =>
    simp only [hk] at h3;cases h3
    obtain ⟨n,hn⟩:=(zU (R:=j8) hX (k:=fun _=>some) (k':=some) (fun r=>.const (some r)) l).to _ hk
    exact hm n ok w xs vs true out h1 h2 (by simp only [hn];rfl) rfl
 | none =>
  rw [hl] at hm
  simp only at hm ⊢
  have h:=hs.lim f
  cases hsp:Tb.sp f with
  | none=>rw [hsp] at hm;exact hm 0
  | hand fi hd =>
   rw [hsp] at hm h
   simp only at hm ⊢
   cases hg:fi.out.isGen with
   | true =>
    rw [hg] at hm
    simp only [cond_true] at hm ⊢
    intro E w H nid xs args r h1 h2 h3 h4 h5
    obtain ⟨n,hn⟩:=(Ga (R:=aF) (fun a=>h (fun n=>Xn Tb n) (Xc Tb) hX a) (k:=fun _=>some) (k':=some) (fun r=>.const (some r))).to r h4
    exact hm n E w H nid xs args r h1 h2 h3 hn h5
   | false =>
    rw [hg] at hm
    simp only [cond_false] at hm ⊢
    intro ok w xs vs p out h1 h2 h3 h4
    cases hk:mI fi (hd (Xc Tb)) vs some with
    | none=>simp only [hk] at h3;cases h3
    | some o =>
     simp only [hk] at h3;cases h3
     obtain ⟨n,hn⟩:=(GP (R:=j8) (fun a=>h (fun n=>Xn Tb n) (Xc Tb) hX a) (k:=fun _=>some) (k':=some) (fun r=>.const (some r))).to _ hk
     exact hm n ok w xs vs true out h1 h2 (by simp only [hn];rfl) rfl
  | «mut» m =>
   rw [hsp] at hm h
   simp only at hm ⊢
   intro E w H nid xs args r h1 h2 h3 h4 h5
   obtain ⟨n,hn⟩:=(h (fun n=>Xn Tb n) (Xc Tb) hX (bE (aX H args) H) nid args).to r h4
   exact hm n E w H nid xs args r h1 h2 h3 hn h5
end
end Go.Ax
