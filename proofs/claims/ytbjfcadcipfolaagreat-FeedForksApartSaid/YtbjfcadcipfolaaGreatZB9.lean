import Derived.Test.YtbjfcadcipfolaaGreatZB8
set_option linter.all false
/- Functions meet the contracts that their evaluation gives. -/
namespace Go.Ax
open Go.RowKit
def iz:List Bool→Code→Option Code
 | [],c=>some c
 | true :: r, .seq _ y=>iz r y
 | false :: r, .seq x _=>iz r x
 | true :: r, .cond _ _ y=>iz r y
 | false :: r, .cond _ x _=>iz r x
 | false :: r, .block _ x=>iz r x
 | false :: r, .loop x=>iz r x
 | _,_=>none
def Ix (P:Program) (fi:FI):Prop:=∀ π h,bK fi.hd π = some h→∀ c,iz (iG π) fi.c = some c→∀ s y,h.f s = some y→bh P fi.fn.ntmps c (fun e σ'=>e = .normal∧σ' = mq h.T' y) (mq h.T s)
theorem Ix.none {P:Program} {fi:FI} (h:fi.hd = []):Ix P fi:=fun π hp hl=>by rw [h] at hl;cases hl
structure BJ (P:Program) (fi:FI):Prop where
  hf:P.funcs[fi.fid]? = some fi.fn
  hb:fi.fn.body = some fi.c
  hn:(fi.fn.name == "runtime.NumGoroutine") = false
  hd:Ix P fi
structure wK (Tb:iE):Prop where
  mixed:Tb.P.follows .mixedOrders = true
  fis:∀ f l,bK Tb.fs f = some l→∀ fi∈l,fi.fid = f∧BJ Tb.P fi
  sp:∀ X:XT,(∀ f l,bK Tb.fs f = some l→bq Tb.P f (dN Tb X f))→∀ f,bK Tb.fs f = none→bq Tb.P f (dN Tb X f)
section
variable (Tb:iE) (fi:FI)
abbrev RX:=HP fi.out.tys
noncomputable abbrev Xn (m:Nat):XT:=fun fi a=>Jn Tb m fi 1 fi.ins a
abbrev KF:=Nat→KX (RX fi)
noncomputable abbrev xn (m:Nat):Code→Nat→KX (RX fi)→St→Option (RX fi):=xe Tb (Xn Tb m) fi.fn.ntmps (Jn Tb m fi) fi.cuts fi.hd
noncomputable def HO (π:Nat) (y:Code) (κ:KF fi):KF fi:=fun m=>DV (Jn Tb m fi) fi.cuts π (xn Tb fi m y π (κ m)) (κ m)
noncomputable def Ig (π:Nat) (κ:KF fi):KF fi:=fun m=>wM (Jn Tb m fi) fi.cuts π (κ m)
noncomputable def dX:List Bool→Code→Nat→KF fi→Option (Code × Nat × KF fi)
 | [],c,π,κ=>some (c,π,κ)
 | true :: r, .seq _ y,π,κ=>dX r y (2*π+1) κ
 | false :: r, .seq x y,π,κ=>dX r x (2*π) (HO Tb fi (2*π+1) y κ)
 | true :: r, .cond _ _ y,π,κ=>dX r y (2*π+1) κ
 | false :: r, .cond _ x _,π,κ=>dX r x (2*π) κ
 | false :: r, .block id x,π,κ=>dX r x (2*π) (fun m=>nU id (κ m))
 | false :: r, .loop x,π,κ=>dX r x (2*π) (Ig Tb fi π κ)
 | _,_,_,_=>none
noncomputable def LK (m:Nat):Code × Nat × KF fi→St→Option (RX fi)
 | (.loop x,π,κ)=>xn Tb fi m x (2*π) (wM (Jn Tb m fi) fi.cuts π (κ m))
 | (c,π,κ)=>xn Tb fi m c π (κ m)
end
section
variable {Tb:iE} {fi:FI}
theorem vb:∀ (b1 b2:List Bool) (c:Code) (π:Nat) (κ:KF fi),dX Tb fi (b1++b2) c π κ = (dX Tb fi b1 c π κ).bind fun p=>dX Tb fi b2 p.1 p.2.1 p.2.2
 | [],b2,c,π,κ=>rfl
 | b :: b1,b2,c,π,κ=>by
  rw [List.cons_append]
  cases c <;> cases b <;> first | rfl | exact vb b1 b2 _ _ _
theorem pS (m:Nat):∀ (b:List Bool) (c:Code) (π:Nat) (κ:KF fi),xm Tb (Xn Tb m) fi.fn.ntmps (Jn Tb m fi) fi.cuts fi.hd b c π (κ m) = (dX Tb fi b c π κ).map (LK Tb fi m)
 | [],c,π,κ=>by cases c <;> rfl
 | b :: r,c,π,κ=>by
  cases c <;> cases b <;> first | rfl | exact pS m r _ _ κ | exact pS m r _ _ (HO Tb fi _ _ κ) | exact pS m r _ _ (fun m=>nU _ (κ m)) | exact pS m r _ _ (Ig Tb fi _ κ)
theorem LA (π:Nat) (h:1≤π) (b:Nat) (hb:b < 2):Nat.log2 (2*π+b) = Nat.log2 π+1:=by
 rw [Nat.log2_def,if_pos (by omega),show (2*π+b) / 2 = π by omega]
theorem ET (π:Nat) (h:1≤π) (b:Nat) (hb:b < 2):iG (2*π+b) = iG π++[b == 1]:=by
 unfold iG
 rw [LA π h b hb,List.range_succ_eq_map,List.map_cons,List.reverse_cons,List.map_map]
 congr 1
 ·congr 1
  apply List.map_congr_left
  intro i _
  show Nat.testBit (2*π+b) (i+1) = _
  rw [Nat.testBit_succ,show (2*π+b) / 2 = π by omega]
 ·congr 1
  rw [Nat.testBit_zero]
  rcases (show b = 0∨b = 1 by omega) with rfl | rfl
  ·simp
  ·simp [show (2*π+1) % 2 = 1 by omega]
structure js (Tb:iE) (fi:FI) (c:Code) (π:Nat) (κ:KF fi):Prop where
  one:1≤π
  at_:dX Tb fi (iG π) fi.c 1 (fun _=>wo Tb.P fi) = some (c,π,κ)
theorem js.root:js Tb fi fi.c 1 (fun _=>wo Tb.P fi):=⟨Nat.le_refl _,rfl⟩
theorem js.left {c x:Code} {π:Nat} {κ κ':KF fi} (h:js Tb fi c π κ) (e:dX Tb fi [false] c π κ = some (x,2*π,κ')):js Tb fi x (2*π) κ' :=
 ⟨by have:=h.one;omega,by
  have:=ET π h.one 0 (by omega)
  rw [Nat.add_zero] at this
  rw [this,vb,h.at_];exact e⟩
theorem js.right {c x:Code} {π:Nat} {κ κ':KF fi} (h:js Tb fi c π κ) (e:dX Tb fi [true] c π κ = some (x,2*π+1,κ')):js Tb fi x (2*π+1) κ' :=
 ⟨by have:=h.one;omega,by rw [ET π h.one 1 (by omega),vb,h.at_];exact e⟩
theorem zp:∀ {b:List Bool} {c:Code} {π:Nat} {κ:KF fi} {p:Code × Nat × KF fi},dX Tb fi b c π κ = some p→iz b c = some p.1
 | [],c,π,κ,p,h=>by simp only [dX,Option.some.injEq] at h;subst h;rfl
 | b :: r,c,π,κ,p,h=>by
  cases c <;> cases b <;> first | (cases h;done) | exact zp (b:=r) h
theorem js.code {c:Code} {π:Nat} {κ:KF fi} (h:js Tb fi c π κ):iz (iG π) fi.c = some c:=zp h.at_
def PJ (Tb:iE) (n:Nat):Prop:=∀ fi,BJ Tb.P fi→∀ π T s r,Jn Tb n fi π T s = some r→∀ c κ,js Tb fi c π κ→bh Tb.P fi.fn.ntmps c (fun e σ'=>∃ m,m < n∧κ m e σ' = some r) (mq T s)
theorem wH {n:Nat} {π:Nat} {T:Tm} {s:HP T.tys} {r:RX fi} (h:Jn Tb n fi π T s = some r) {c:Code} {κ:KF fi} (hp:js Tb fi c π κ):∃ j,n = j+1∧DI fi = true∧LK Tb fi j (c,π,κ) (mq T s) = some r:=by
 cases n with
 | zero=>simp [Jn] at h
 | succ j =>
  rw [Jn] at h
  simp only at h
  unfold wW at h
  cases hf:DI fi with
  | false=>rw [hf] at h;cases h
  | true =>
   rw [hf,cond_true] at h
   refine ⟨j,rfl,rfl, ?_⟩
   have:=pS (Tb:=Tb) (fi:=fi) j (iG π) fi.c 1 (fun _=>wo Tb.P fi)
   rw [hp.at_] at this
   rw [this] at h
   exact h
theorem yZ {X:XT} {vs:List V} {out:gW}:∀ {l:List FI},fB X vs some l = some out→∃ fi∈l, ∃ a y,uH fi vs = some a∧X fi a = some y∧out = fi.out.out y
 | [],h=>by simp [fB] at h
 | fi :: l,h=>by
  unfold fB at h
  split at h
  ·next a ha =>
   rw [Option.bind_eq_some_iff] at h
   obtain ⟨y,h1,h2⟩:=h
   cases h2
   exact ⟨fi,by simp,a,y,ha,h1,rfl⟩
  ·obtain ⟨g,h1,h2⟩:=yZ h
   exact ⟨g,by simp [h1],h2⟩
theorem iN {E:ar} {w:World} {v:Value} {o k:Nat} (h:af E w v (.row o k)):∃ a n c,v = .slice a n c∧E.live o∧n = E.len o∧((a = none∧n = 0∧c = 0∧E.conc o = none)∨∃ b,E.conc o = some b∧a = some ⟨b,0,none⟩∧c = E.cap o):=by
 generalize hd:V.row o k = d at h
 cases h with
 | row _ _ a n c hn hl hc hm h0=>cases hd;exact ⟨a,n,c,rfl,hn,hl,h0⟩
 | _=>cases hd
theorem nL:∀ {os:List Nat} {H:ab} {o:Nat} {b:Ob},ab.get (bu os H) o = some b→ab.get H o = some b∧o∈os
 | [],H,o,b,h=>by simp [bu,ab.get] at h
 | p :: r,H,o,b,h=>by
  unfold bu at h
  split at h
  ·next b' hb' =>
   rw [ab.get_cons] at h
   split at h
   ·next e=>subst e;cases h;exact ⟨hb',by simp⟩
   ·have:=nL h;exact ⟨this.1,List.mem_cons_of_mem _ this.2⟩
  ·have:=nL h;exact ⟨this.1,List.mem_cons_of_mem _ this.2⟩
theorem Mz {o:cq} {σ:St} {v:V} {y:HP o.tys} (ho:o.isGen = false) (h:o.rdR σ v = some y):pc (o.out y) σ.hp v:=by
 unfold cq.rdR at h
 rw [ho,cond_false] at h
 exact cq.rd_ok h
theorem K3 {o:cq} {y:HP o.tys} {H:ab} {nid:Nat} {args:List V} {r:aB} (h:iT o y H nid args some = some r):o.isGen = true:=by
 cases o with
 | gen T=>rfl
 | gen2 T T'=>rfl
 | data c=>cases h
 | new c=>cases h
 | own fr e t=>cases h
theorem zQ {X:XT} {H:ab} {nid:Nat} {args:List V} {r:aB}:∀ {l:List FI},im X H nid args some l = some r→∃ fi∈l, ∃ a y,rdG fi H args = some a∧X fi a = some y∧iT fi.out y H nid args some = some r
 | [],h=>by simp [im] at h
 | fi :: l,h=>by
  unfold im at h
  split at h
  ·next a ha =>
   rw [Option.bind_eq_some_iff] at h
   obtain ⟨y,h1,h2⟩:=h
   exact ⟨fi,by simp,a,y,ha,h1,h2⟩
  ·obtain ⟨g,h1,h2⟩:=zQ h
   exact ⟨g,by simp [h1],h2⟩
theorem GY:∀ (cs:List (Nat × Cd)) (xs:List TV) (t:Nat) (s:az),au (lN cs xs).1 t = some s→s.ch = []
 | [],xs,t,s,h=>by simp [lN,au] at h
 | (t',c) :: cs,xs,t,s,h=>by
  have h:au ((t',(⟨[],(filC c xs).1⟩:az)) :: (lN cs (filC c xs).2).1) t = some s:=h
  rw [aY] at h
  split at h
  ·cases h;rfl
  ·exact GY cs _ t s h
theorem Km:∀ (cs:List (Nat × Cd)) (xs:List TV) (t:Nat) (v:V),fO (cs.map (·.1)) = true→(t,Cd.k v)∈cs→au (lN cs xs).1 t = some ⟨[],v⟩
 | [],xs,t,v,_,h=>by simp at h
 | (t',c) :: cs,xs,t,v,hn,h=>by
  show au ((t',(⟨[],(filC c xs).1⟩:az)) :: (lN cs (filC c xs).2).1) t = _
  have hn':=tf hn
  rw [List.map_cons,List.nodup_cons] at hn'
  rw [List.map_cons,fO,Bool.and_eq_true] at hn
  rw [aY]
  rcases List.mem_cons.1 h with h | h
  ·cases h;rw [if_pos rfl];rfl
  ·rw [if_neg (fun e=>hn'.1 (by show t'∈_;rw [e];exact List.mem_map.2 ⟨_,h,rfl⟩))]
   exact Km cs _ t v hn.2 h
theorem vE:∀ (cs:List Od) (i:Nat) (xs:List TV),cC (jI i cs xs) = List.range' i cs.length
 | [],i,xs=>rfl
 | c :: cs,i,xs=>by
  show i :: cC (jI (i+1) cs (lO c xs).2) = _
  rw [vE cs (i+1),List.length_cons,List.range'_succ]
theorem xN:∀ (cs:List Od) (i:Nat) (xs:List TV) (q:Nat) (b:Ob),ab.get (jI i cs xs) q = some b→∃ c ys,i≤q∧cs[q - i]? = some c∧b = (lO c ys).1
 | [],i,xs,q,b,h=>by simp [jI,ab.get] at h
 | c :: cs,i,xs,q,b,h=>by
  have h:ab.get ((i,some (lO c xs).1) :: jI (i+1) cs (lO c xs).2) q = some b:=h
  rw [ab.get_cons] at h
  split at h
  ·next e=>cases h;subst e;exact ⟨c,xs,Nat.le_refl _,by simp,rfl⟩
  ·obtain ⟨c',ys,h1,h2,h3⟩:=xN cs (i+1) _ q b h
   refine ⟨c',ys,by omega, ?_,h3⟩
   rw [show q - i = (q - (i+1))+1 by omega]
   simpa using h2
theorem pY {args:List V}:∀ {cs:List (Nat × Cd)} {q o:Nat} {p:Bool},(q,o,p)∈fF args cs→∃ t,1000000≤t∧((p = true∧∃ k i j k' i' j',(t,Cd.k (.ptr q k i j))∈cs∧args[t - 1000000]? = some (.ptr o k' i' j'))∨(p = false∧∃ k k',(t,Cd.k (.row q k))∈cs∧args[t - 1000000]? = some (.row o k'))∨(p = true∧∃ k i j k' i' j',(t,Cd.k (.fn 2000000000 [.ptr q k i j]))∈cs∧args[t - 1000000]? = some (.fn 2000000000 [.ptr o k' i' j'])))
 | [],q,o,p,h=>by simp [fF] at h
 | (t,c) :: cs,q,o,p,h=>by
  have up:(q,o,p)∈fF args cs→∃ t',1000000≤t'∧((p = true∧∃ k i j k' i' j',(t',Cd.k (.ptr q k i j))∈(t,c) :: cs∧args[t' - 1000000]? = some (.ptr o k' i' j'))∨(p = false∧∃ k k',(t',Cd.k (.row q k))∈(t,c) :: cs∧args[t' - 1000000]? = some (.row o k'))∨(p = true∧∃ k i j k' i' j',(t',Cd.k (.fn 2000000000 [.ptr q k i j]))∈(t,c) :: cs∧args[t' - 1000000]? = some (.fn 2000000000 [.ptr o k' i' j']))):=by
   intro h
   obtain ⟨t',h1,h2⟩:=pY h
   refine ⟨t',h1,h2.imp ?_ (Or.imp ?_ ?_)⟩
   ·rintro ⟨e,k,i,j,k',i',j',a,b⟩;exact ⟨e,k,i,j,k',i',j',List.mem_cons_of_mem _ a,b⟩
   ·rintro ⟨e,k,k',a,b⟩;exact ⟨e,k,k',List.mem_cons_of_mem _ a,b⟩
   ·rintro ⟨e,k,i,j,k',i',j',a,b⟩;exact ⟨e,k,i,j,k',i',j',List.mem_cons_of_mem _ a,b⟩
  unfold fF at h
  split at h
  ·next heq=>cases heq
  ·next t0 q0 k i j r heq =>
   cases heq
   cases hb:Nat.ble 1000000 t with
   | false=>rw [hb] at h;exact up h
   | true =>
    rw [hb,cond_true] at h
    split at h
    ·next o' k' i' j' ha =>
     rcases List.mem_cons.1 h with h | h
     ·cases h;exact ⟨t,Nat.ble_eq.mp hb, .inl ⟨rfl,k,i,j,k',i',j',by simp,ha⟩⟩
     ·exact up h
    ·exact up h
  ·next t0 q0 k r heq =>
   cases heq
   cases hb:Nat.ble 1000000 t with
   | false=>rw [hb] at h;exact up h
   | true =>
    rw [hb,cond_true] at h
    split at h
    ·next o' k' ha =>
     rcases List.mem_cons.1 h with h | h
     ·cases h;exact ⟨t,Nat.ble_eq.mp hb, .inr (.inl ⟨rfl,k,k',by simp,ha⟩)⟩
     ·exact up h
    ·exact up h
  ·next t0 g q0 k i j r heq =>
   cases heq
   cases hb:(Nat.ble 1000000 t&&Nat.beq g 2000000000) with
   | false=>rw [hb] at h;exact up h
   | true =>
    rw [hb,cond_true] at h
    rw [Bool.and_eq_true] at hb
    have eg:=Nat.eq_of_beq_eq_true hb.2
    subst eg
    split at h
    ·next g' o' k' i' j' ha =>
     cases hg:Nat.beq g' 2000000000 with
     | false=>rw [hg] at h;exact up h
     | true =>
      rw [hg,cond_true] at h
      have eg:=Nat.eq_of_beq_eq_true hg
      subst eg
      rcases List.mem_cons.1 h with h | h
      ·cases h;exact ⟨t,Nat.ble_eq.mp hb.1, .inr (.inr ⟨rfl,k,i,j,k',i',j',by simp,ha⟩)⟩
      ·exact up h
    ·exact up h
  ·next heq=>cases heq;exact up h
theorem mx {E:ar} {w:World} {H:ab} (h:aw E w H) (os:List Nat):aw E w (bu os H):=⟨fun o ob ho=>h.at_ o ob (nL ho).1,h.inj,h.sep,h.lt,h.oklt⟩
theorem CF:∀ (xs l:List Nat) (o:Nat),o∈zx l xs→o∈l∨o∈xs
 | [],l,o,h=>.inl h
 | x :: xs,l,o,h=>by
  have h:o∈zx (Hw l x) xs:=h
  rcases CF xs (Hw l x) o h with h | h
  ·unfold Hw at h
   cases hb:kx x l with
   | true=>rw [hb] at h;exact .inl h
   | false =>
    rw [hb,cond_false,List.mem_append,List.mem_singleton] at h
    exact h.imp id fun h=>by simp [h]
  ·exact .inr (by simp [h])
theorem K0 {H:ab} {o:Nat} (h:o∈k9 H):o∈cC H:=by
 rcases CF _ _ _ h with h | h
 ·simp at h
 ·exact h
theorem tM {H:ab}:∀ {os:List Nat} {o:Nat},o∈cC (bu os H)→∃ b,ab.get H o = some b∧ab.get (bu os H) o = some b
 | [],o,h=>by simp [bu,cC] at h
 | p :: r,o,h=>by
  unfold bu at h ⊢
  split
  ·next b hb =>
   rw [hb] at h
   simp only [cC,List.map_cons,List.mem_cons] at h
   by_cases e:p = o
   ·subst e;exact ⟨b,hb,by rw [ab.get_cons,if_pos rfl]⟩
   ·obtain ⟨b',h1,h2⟩:=tM (h.resolve_left (Ne.symm e))
    exact ⟨b',h1,by rw [ab.get_cons,if_neg e];exact h2⟩
  ·next hb=>rw [hb] at h;exact tM h
theorem zF:∀ {os:List Nat} {o:Nat},o∈os→o < rZ os
 | p :: r,o,h=>by
  unfold rZ
  rcases List.mem_cons.1 h with rfl | h
  ·exact Nat.lt_of_lt_of_le (Nat.lt_succ_self _) (Nat.le_max_left _ _)
  ·exact Nat.lt_of_lt_of_le (zF h) (Nat.le_max_right _ _)
theorem yV {E:ar} {w:World} {v:Value} {o k i j:Nat} (h:af E w v (.fn 2000000000 [.ptr o k i j])):∃ b,v = .map (some b)∧E.live o∧E.conc o = some b:=by
 generalize he:V.fn 2000000000 [V.ptr o k i j] = d at h
 cases h with
 | fn f vs ds hl h =>
  cases he
  obtain ⟨u,rfl⟩:∃ u,vs = [u]:=by
   match vs,hl with
   | [u],_=>exact ⟨u,rfl⟩
  have h0:=h 0 u _ rfl rfl
  cases h0 with
  | ptr _ _ _ _ bl hn hb hi=>exact ⟨bl,by unfold lS;rfl,hn,hb⟩
 | _=>cases he
theorem Mv {N:Nat} {B:eL} {σ':St} {E E1:ar} {a':Act} {w w':World} {H:ab} {R:List Nat} {nid:Nat} {xs:List Value} {args:List V} {o:cq} {y:HP o.tys} {u:Value} {v:V} {r:aB}
  (hH:aw E w H) (hf:eA E nid) (hx:aI E w xs args) (hW:B.W = w) (hok:B.ok = E.ok) (hmb:B.mb = fun b=>∃ o∈k9 (bu R H),E.conc o = some b) (hgh:B.gh = fun t=>xs.getD (t - 1000000) undef)
  (hs:bd N B σ' E1 a' w') (hu:af E1 w' u v) (hy:o.rdG σ' v = some y) (hr:iT o y (bu R H) nid args some = some r):∃ E',bU E w H nid r E' w' u:=by
 obtain ⟨T,ts,hent,hgen⟩:=M1 hy
 rw [hgen] at hr
 have hs1:=Ir hs (R:=RS) (by decide) hu
 obtain ⟨E2,hs2⟩:=hent.sim _ _ _ _ _ hs1
 unfold ig at hr
 split at hr
 ·next ch vR hg =>
  cases hb:FT T (bu R H) (fF args T.sl) with
  | false=>rw [hb] at hr;cases hr
  | true =>
   rw [hb,cond_true] at hr
   cases hr
   unfold FT at hb
   simp only [Bool.and_eq_true,Nat.ble_eq] at hb
   obtain ⟨hlen,hnd,hone,hall⟩:=hb
   have hall':∀ q o p,(q,o,p)∈fF args T.sl→o∈k9 (bu R H)∧q < T.ob.length∧(p = true→nJ T.ob[q]? = true∧A7 (ab.get (bu R H) o) = true):=by
    intro q o p h
    have:=List.all_eq_true.1 hall _ h
    simp only [Bool.and_eq_true,Nat.blt_eq,Bool.or_eq_true,Bool.not_eq_true'] at this
    refine ⟨uf.1 this.1,this.2.1,fun hp=>?_⟩
    rcases this.2.2 with h | h
    ·rw [hp] at h;cases h
    ·exact h
   have hch:ch = []:=GY T.sl ts RS _ hg
   subst hch
   have hslot:=hs2.slots RS _ hg
   have hv:af E2 w' (.tuple #[u]) (.tup [vR]):=by
    have:=hslot.1 rfl
    unfold cA at this
    rw [if_neg (by decide)] at this
    simpa using this
   have huR:af E2 w' u vR:=by
    generalize he:Value.tuple #[u] = x at hv
    cases hv with
    | tup vs ds hl h =>
     have:vs = [u]:=by
      have:=congrArg (fun v=>match v with | Value.tuple a=>a.toList | _=>[]) he
      simpa using this.symm
     subst this
     exact h 0 u vR rfl rfl
   have ghost:∀ t d,1000000≤t→(t,Cd.k d)∈T.sl→(∀ l,d≠.tup l)→af E2 w' (xs.getD (t - 1000000) undef) d:=by
    intro t d ht hm hd
    have h1:=Km T.sl ts t d hnd hm
    have h2:=(hs2.slots t _ h1).1 rfl
    unfold cA at h2
    rw [if_neg (by omega)] at h2
    by_cases e:t = RS
    ·subst e
     have h1':au (ya T ts).tm RS = some ⟨[],d⟩:=h1
     rw [h1'] at hg;cases hg
     exact (hd _ rfl).elim
    ·simp only [if_neg e,hgh] at h2
     exact h2
   have argrep:∀ t d,1000000≤t→args[t - 1000000]? = some d→af E w (xs.getD (t - 1000000) undef) d:=by
    intro t d _ hd
    have hlt:t - 1000000 < xs.length:=by rw [hx.1];exact (List.getElem?_eq_some_iff.1 hd).1
    have:xs.getD (t - 1000000) undef = xs[t - 1000000]:=by simp [List.getD_eq_getElem?_getD,hlt]
    rw [this]
    exact hx.2 _ _ d (List.getElem?_eq_getElem hlt) hd
   have hosl:∀ o∈k9 (bu R H), ∃ b,ab.get H o = some b∧ab.get (bu R H) o = some b:=fun o ho=>tM (K0 ho)
   refine ⟨_,Lk (os:=k9 (bu R H)) (bk:=fF args T.sl) hH hf (fun o ho=>?_) (B:={ B with gh:=fun t=>if t = RS then .tuple #[u] else B.gh t }) hW hok (fun b hb=>by have hb':B.mb b:=hb;rw [hmb] at hb'; exact hb') hs2 hlen (fun q b hq=>?_) ⟨hone,fun q o p h=>(hall' q o p h).1,fun q o p h=>?_,fun q o p h=>?_,fun q o p h=>?_,fun q o h=>?_,fun q o p h=>?_,fun q o h b hg=>?_⟩ huR⟩
   ·obtain ⟨b,h1,_⟩:=hosl o ho
    exact (hH.at_ o b h1).1
   ·have:q∈cC (jI 0 T.ob (lN T.sl ts).2):=List.mem_map.2 ⟨_,hq,rfl⟩
    rw [vE] at this
    have:=List.mem_range'_1.1 this
    show q < T.ob.length
    omega
   ·obtain ⟨t,ht,hc⟩:=pY h
    rcases hc with ⟨_,k,i,j,k',i',j',h1,h2⟩ | ⟨_,k,k',h1,h2⟩ | ⟨_,k,i,j,k',i',j',h1,h2⟩
    ·obtain ⟨_,_,hn,_⟩:=sK (ghost t _ ht h1 (fun l=>by simp))
     exact hn
    ·obtain ⟨_,_,_,_,hn,_⟩:=iN (ghost t _ ht h1 (fun l=>by simp))
     exact hn
    ·obtain ⟨_,_,hn,_⟩:=yV (ghost t _ ht h1 (fun l=>by simp))
     exact hn
   ·obtain ⟨t,ht,hc⟩:=pY h
    rcases hc with ⟨_,k,i,j,k',i',j',h1,h2⟩ | ⟨_,k,k',h1,h2⟩ | ⟨_,k,i,j,k',i',j',h1,h2⟩
    ·obtain ⟨b,e1,_,hb⟩:=sK (ghost t _ ht h1 (fun l=>by simp))
     obtain ⟨b',e2,_,hb'⟩:=sK (argrep t _ ht h2)
     rw [e1] at e2
     have eb:b = b':=by
      have:=congrArg (fun v=>match v with | Value.pointer (some a)=>a.block | _=>0) e2
      exact this
     rw [hb,hb',eb]
    ·have r1:=ghost t _ ht h1 (fun l=>by simp)
     have r2:=argrep t _ ht h2
     obtain ⟨a,n,c,e1,_,hl,h0⟩:=iN r1
     obtain ⟨_,_,_,e2,_,hl',h0'⟩:=iN r2
     rw [e1] at e2
     cases e2
     rcases h0 with ⟨g1,g2,g3,g4⟩ | ⟨b,g1,g2,g3⟩ <;> rcases h0' with ⟨e1,e2,e3,e4⟩ | ⟨b',e1,e2,e3⟩
     ·rw [g4,e4]
     ·rw [g1] at e2;cases e2
     ·rw [e1] at g2;cases g2
     ·rw [g2] at e2;cases e2;rw [g1,e1]
    ·obtain ⟨b,e1,_,hb⟩:=yV (ghost t _ ht h1 (fun l=>by simp))
     obtain ⟨b',e2,_,hb'⟩:=yV (argrep t _ ht h2)
     rw [e1] at e2
     cases e2
     rw [hb,hb']
   ·obtain ⟨t,ht,hc⟩:=pY h
    have hc:p = true∨(p = false∧∃ k k',(t,Cd.k (.row q k))∈T.sl∧args[t - 1000000]? = some (.row o k')):=by
     rcases hc with ⟨h,_⟩ | h | ⟨h,_⟩
     ·exact .inl h
     ·exact .inr h
     ·exact .inl h
    rcases hc with hp | ⟨_,k,k',h1,h2⟩
    ·obtain ⟨a1,a2,a3⟩:=hall' q o p h
     obtain ⟨a4,a5⟩:=a3 hp
     have e1:E2.len q = 1:=by
      have hq:∃ b,ab.get (jI 0 T.ob (lN T.sl ts).2) q = some b:=by
       have:∀ (cs:List Od) (i:Nat) (zs:List TV),i≤q→q < i+cs.length→∃ b,ab.get (jI i cs zs) q = some b:=by
        intro cs
        induction cs with
        | nil=>intro i zs h1 h2;simp at h2;omega
        | cons c cs ih =>
         intro i zs h1 h2
         show ∃ b,ab.get ((i,some (lO c zs).1) :: jI (i+1) cs (lO c zs).2) q = some b
         rw [ab.get_cons]
         split
         ·exact ⟨_,rfl⟩
         ·exact ih (i+1) _ (by omega) (by simp at h2;omega)
       exact this T.ob 0 _ (Nat.zero_le _) (by omega)
      obtain ⟨b,hb⟩:=hq
      have hat:=(hs2.heap.at_ q b hb).2
      obtain ⟨c,ys,_,hc,rfl⟩:=xN T.ob 0 _ q b hb
      rw [Nat.sub_zero] at hc
      rw [hc] at a4
      cases c with
      | row e t=>simp [nJ] at a4
      | box cs=>exact hat.1
      | iter c=>simp [nJ] at a4
      | str=>simp [nJ] at a4
      | map e kt vt =>
       have:∃ kt' vt' ks vs,(lO (.map e kt vt) ys).1 = .map e kt' vt' ks vs:=by
        unfold lO
        simp only
        split <;> exact ⟨_,_,_,_,rfl⟩
       obtain ⟨_,_,_,_,h⟩:=this
       rw [h] at hat
       exact hat.1
     have e2:E.len o = 1:=by
      obtain ⟨b,g1,g2⟩:=hosl o a1
      rw [g2] at a5
      have hat:=(hH.at_ o b g1).2
      cases b with
      | row e t l=>simp [A7] at a5
      | box cs=>exact hat.1
      | raw x=>exact hat.1
      | map=>exact hat.1
      | iter=>exact hat.1
     rw [e1,e2]
    ·have r1:=ghost t _ ht h1 (fun l=>by simp)
     have r2:=argrep t _ ht h2
     obtain ⟨a,n,c,e1,_,hl,h0⟩:=iN r1
     obtain ⟨_,_,_,e2,_,hl',h0'⟩:=iN r2
     rw [e1] at e2
     cases e2
     rw [← hl, ← hl']
   ·obtain ⟨t,ht,hc⟩:=pY h
    rcases hc with ⟨hp,_⟩ | ⟨_,k,k',h1,h2⟩ | ⟨hp,_⟩
    ·cases hp
    rotate_left
    ·cases hp
    ·have r1:=ghost t _ ht h1 (fun l=>by simp)
     have r2:=argrep t _ ht h2
     obtain ⟨a,n,c,e1,_,hl,h0⟩:=iN r1
     obtain ⟨_,_,_,e2,_,hl',h0'⟩:=iN r2
     rw [e1] at e2
     cases e2
     rcases h0 with ⟨g1,g2,g3,g4⟩ | ⟨b,g1,g2,g3⟩
     ·exact .inl g4
     ·rcases h0' with ⟨e1,e2,e3,e4⟩ | ⟨b',e1,e2,e3⟩
      ·rw [e1] at g2;cases g2
      ·exact .inr (by rw [← g3, ← e3])
   ·obtain ⟨_,a2,_⟩:=hall' q o p h
    show q∈cC (jI 0 T.ob (lN T.sl ts).2)
    rw [vE]
    exact List.mem_range'_1.2 ⟨Nat.zero_le _,by omega⟩
   ·obtain ⟨_,_,a3⟩:=hall' q o true h
    obtain ⟨a4,_⟩:=a3 rfl
    obtain ⟨c,ys,_,hc,rfl⟩:=xN T.ob 0 _ q b hg
    rw [Nat.sub_zero] at hc
    rw [hc] at a4
    cases c with
    | row e t=>simp [nJ] at a4
    | box cs=>rfl
    | iter c=>simp [nJ] at a4
    | str=>simp [nJ] at a4
    | map e kt vt =>
     unfold lO
     simp only
     split <;> rfl
 ·cases hr
theorem PJ.meets {n:Nat} (hT:wK Tb) (hP:PJ Tb n) (f:FuncId):bq Tb.P f (dN Tb (Xn Tb n) f):=by
 have key:∀ f l,bK Tb.fs f = some l→bq Tb.P f (dN Tb (Xn Tb n) f):=by
  intro f l hl
  unfold dN
  rw [hl]
  simp only
  cases hgl:yl l with
  | true =>
   rw [cond_true]
   intro E w H nid xs args r hH hf hx hm _
   obtain ⟨fi,hfi,a,y,ha,hy,hr⟩:=zQ hm
   obtain ⟨rfl,h0⟩:=hT.fis f _ hl fi hfi
   obtain ⟨j,_,hok,_⟩:=wH hy js.root
   have hgen:fi.out.isGen = true:=K3 hr
   unfold rdG at ha
   cases hb:(Nat.ble args.length fi.fn.ntmps&&(V.refss args).all (fun o=>kx o (k9 (bu (aO H args) H)))&&LI (k9 (bu (aO H args) H)) (bu (aO H args) H)) with
   | false=>rw [hb] at ha;cases ha
   | true =>
    rw [hb,cond_true] at ha
    rw [Bool.and_eq_true,Bool.and_eq_true,Nat.ble_eq] at hb
    unfold DI at hok
    rw [Bool.and_eq_true,Nat.ble_eq] at hok
    have hsim:=Lq (N:=fi.fn.ntmps) (os:=k9 (bu (aO H args) H)) (M:=rZ (k9 (bu (aO H args) H))) (mx hH (aO H args)) hx (fun o ho=>uf.1 (List.all_eq_true.1 hb.1.2 o ho))
     (fun o ho b hg=>by have:=List.all_eq_true.1 hb.2 o ho;rw [hg] at this;exact this) (fun o ho=>zF ho) hb.1.1 hok.2
    have hev:=bh.ent (m3 ha) (hP fi h0 1 fi.ins a y hy _ _ js.root)
    refine .inl ⟨eZ h0.hf h0.hb h0.hn _ _,calls_of_wp h0.hf h0.hb (wp_mono (hev.ok _ _ _ _ hsim) ?_)⟩
    rintro e a' w' ⟨σ',E',⟨m,_,hr'⟩,hs'⟩
    have fin:∀ e,(e = .ret∨e = .normal)→wo Tb.P fi e σ' = some y→a'.defers = []∧∃ v,(results fi.fn a'.tmps).run Tb.P w' = .ok v w'∧∃ v',Ending.returned v = .returned v'∧∃ E'',bU E w H nid r E'' w' v':=by
     intro e he hr'
     have hr'':(match kP Tb.P σ' fi.fn.results.toList with | some v=>gL (vM Tb.P σ' fi.fn.results.toList) (fi.out.rdR σ' v) | none=>none) = some y:=by rcases he with rfl | rfl <;> exact hr'
     split at hr''
     ·next v hv =>
      obtain ⟨hbs,hr''⟩:=pj hr''
      obtain ⟨u,g1,g2⟩:=xB hs' hv (tW hbs)
      unfold cq.rdR at hr''
      rw [hgen,cond_true] at hr''
      exact ⟨hs'.defers,u,g1,u,rfl,Mv hH hf hx rfl rfl rfl rfl hs' g2 hr'' hr⟩
     ·cases hr''
    cases e with
    | normal=>exact fin _ (.inr rfl) hr'
    | ret=>exact fin _ (.inl rfl) hr'
    | exit id=>cases hr'
    | goto l=>cases hr'
    | panic c=>cases hr'
    | outgrown=>cases hr'
  | false =>
   rw [cond_false]
   cases l with
   | nil =>
    intro ok w xs vs p out _ _ h1
    simp [fB] at h1
   | cons fi0 l0 =>
   obtain ⟨e0,h0⟩:=hT.fis f _ hl fi0 (by simp)
   subst e0
   refine D6 h0.hf h0.hb h0.hn fun vs p out h1 _=>?_
   cases hk:fB (Xn Tb n) vs some (fi0 :: l0) with
   | none=>rw [hk] at h1;cases h1
   | some o =>
    rw [hk] at h1;cases h1
    obtain ⟨fi,hfi,a,y,ha,hy,rfl⟩:=yZ hk
    obtain ⟨e1,h2⟩:=hT.fis _ _ hl fi hfi
    have efn:fi.fn = fi0.fn:=by
     have:=h2.hf
     rw [e1,h0.hf] at this
     exact (Option.some.inj this).symm
    have ec:fi.c = fi0.c:=by
     have:=h2.hb
     rw [efn,h0.hb] at this
     exact (Option.some.inj this).symm
    obtain ⟨j,_,hok,_⟩:=wH hy js.root
    unfold uH at ha
    cases hb:(!fi.out.isGen&&(Nat.beq vs.length fi.ins.sl.length&&fi.ins.ob.isEmpty)) with
    | false=>rw [hb] at ha;cases ha
    | true =>
     rw [hb,cond_true] at ha
     rw [Bool.and_eq_true,Bool.and_eq_true,Nat.beq_eq,Bool.not_eq_true'] at hb
     unfold DI at hok
     rw [hb.1,Bool.false_or,Bool.and_eq_true,Nat.ble_eq,Nat.ble_eq,efn] at hok
     refine ⟨vs,VLes.rfl' vs,⟨by omega,hok.2⟩, ?_⟩
     have:=hP fi h2 1 fi.ins a y hy _ _ js.root
     rw [efn,ec] at this
     refine bh.ent (LP ha (Nat.zero_le _)) (this.mono fun e σ' hh=>?_)
     obtain ⟨m,_,hr⟩:=hh
     have ret:∀ e,(e = .ret∨e = .normal)→wo Tb.P fi e σ' = some y→MR Tb.P fi0.fn.results.toList (pc (fi.out.out y)) e σ':=by
      intro e he hr
      have hr':(match kP Tb.P σ' fi.fn.results.toList with | some v=>gL (vM Tb.P σ' fi.fn.results.toList) (fi.out.rdR σ' v) | none=>none) = some y:=by rcases he with rfl | rfl <;> exact hr
      rw [efn] at hr'
      split at hr'
      ·next v hv =>
       obtain ⟨hbs,hr'⟩:=pj hr'
       have:=And.intro (tW hbs) (Mz hb.1 hr')
       rcases he with rfl | rfl
       ·show (match kP Tb.P σ' fi0.fn.results.toList with | some v=>_ | none=>_)
        rw [hv];exact this
       ·show (match kP Tb.P σ' fi0.fn.results.toList with | some v=>_ | none=>_)
        rw [hv];exact this
      ·cases hr'
     cases e with
     | normal=>exact ret _ (.inr rfl) hr
     | ret=>exact ret _ (.inl rfl) hr
     | exit id=>cases hr
     | goto l=>cases hr
     | panic c=>cases hr
     | outgrown=>cases hr
 cases hl:bK Tb.fs f with
 | some l=>exact key f l hl
 | none=>exact hT.sp _ key f hl
theorem tl {R:Type} {Jc:(T:Tm)→HP T.tys→Option R} {T:Tm} {σ:St} {r:R} (h:ka Jc T σ = some r):∃ s,sI T σ = some s∧Jc T s = some r:=Option.bind_eq_some_iff.1 h
theorem LG (hT:wK Tb) (hfi:BJ Tb.P fi):∀ (c:Code) (m:Nat),(∀ m',m'≤m→PJ Tb m')→∀ (π:Nat) (κ:KF fi),js Tb fi c π κ→∀ (σ:St) (r:RX fi),xn Tb fi m c π (κ m) σ = some r→bh Tb.P fi.fn.ntmps c (fun e σ'=>∃ m',m'≤m∧κ m' e σ' = some r) σ:=by
 intro c
 induction c with
 | skip=>exact fun m _ π κ _ σ r h=>.skip ⟨m,Nat.le_refl _,h⟩
 | label l=>exact fun m _ π κ _ σ r h=>.of_wp fun B E a w hs=>wp_label ⟨σ,E,⟨m,Nat.le_refl _,h⟩,hs⟩
 | region id ops dr =>
  intro m hm π κ hp σ r h
  refine (Mr hT.mixed (fun f=>PJ.meets hT (hm m (Nat.le_refl _)) f) h).mono ?_
  rintro e σ' ⟨rfl,h⟩
  exact ⟨m,Nat.le_refl _,h⟩
 | seq x y ihx ihy =>
  intro m hm π κ hp σ r h
  have px:js Tb fi x (2*π) (HO Tb fi (2*π+1) y κ):=hp.left rfl
  have py:js Tb fi y (2*π+1) κ:=hp.right rfl
  have h0:(match bK fi.hd π with | some h=>((sI h.T σ).bind h.f).bind fun y=>κ m .normal (mq h.T' y) | none=>xn Tb fi m x (2*π) (HO Tb fi (2*π+1) y κ m) σ) = some r:=h
  clear h
  split at h0
  ·next hh hl =>
   obtain ⟨y,h1,h2⟩:=Option.bind_eq_some_iff.1 h0
   obtain ⟨s,h3,h4⟩:=Option.bind_eq_some_iff.1 h1
   refine bh.ent (m3 h3) ((hfi.hd π hh hl _ hp.code s y h4).mono ?_)
   rintro e σ' ⟨rfl,rfl⟩
   exact ⟨m,Nat.le_refl _,h2⟩
  next hl =>
  have h:=h0
  refine bh.seq ((ihx m hm _ _ px σ r h).mono ?_)
  rintro e σ' ⟨m',hle,hh⟩
  cases e with
  | normal =>
   show bh _ _ y _ σ'
   have hh':(match bK fi.cuts (2*π+1) with | some T=>ka (Jn Tb m' fi (2*π+1)) T σ' | none=>xn Tb fi m' y (2*π+1) (κ m') σ') = some r:=hh
   split at hh'
   ·next T hc =>
    obtain ⟨s,h1,h2⟩:=tl hh'
    refine bh.ent (m3 h1) ((hm m' hle fi hfi _ _ _ _ h2 _ _ py).mono ?_)
    rintro e σ'' ⟨m2,h3,h4⟩
    exact ⟨m2,by omega,h4⟩
   ·refine (ihy m' (fun q hq=>hm q (Nat.le_trans hq hle)) _ _ py σ' r hh').mono ?_
    rintro e σ'' ⟨m2,h3,h4⟩
    exact ⟨m2,Nat.le_trans h3 hle,h4⟩
  | exit id=>exact ⟨m',hle,hh⟩
  | goto l=>exact ⟨m',hle,hh⟩
  | ret=>exact ⟨m',hle,hh⟩
  | panic c=>exact ⟨m',hle,hh⟩
  | outgrown=>exact ⟨m',hle,hh⟩
 | cond c x y ihx ihy =>
  intro m hm π κ hp σ r h
  have px:js Tb fi x (2*π) κ:=hp.left rfl
  have py:js Tb fi y (2*π+1) κ:=hp.right rfl
  have h':(match bC σ [] c with | some (.c (.lit (.bool b)))=>bif b then xn Tb fi m x (2*π) (κ m) σ else xn Tb fi m y (2*π+1) (κ m) σ | _=>none) = some r:=h
  split at h'
  ·next b hb =>
   refine bh.cond hb (fun e=>?_) fun e=>?_
   ·subst e;exact ihx m hm _ _ px σ r h'
   ·subst e;exact ihy m hm _ _ py σ r h'
  ·cases h'
 | block id x ih =>
  intro m hm π κ hp σ r h
  have px:js Tb fi x (2*π) (fun m=>nU id (κ m)):=hp.left rfl
  have h0:(match bK fi.hd π with | some h=>((sI h.T σ).bind h.f).bind fun y=>κ m .normal (mq h.T' y) | none=>xn Tb fi m x (2*π) (nU id (κ m)) σ) = some r:=h
  clear h
  split at h0
  ·next hh hl =>
   obtain ⟨y,h1,h2⟩:=Option.bind_eq_some_iff.1 h0
   obtain ⟨s,h3,h4⟩:=Option.bind_eq_some_iff.1 h1
   refine bh.ent (m3 h3) ((hfi.hd π hh hl _ hp.code s y h4).mono ?_)
   rintro e σ' ⟨rfl,rfl⟩
   exact ⟨m,Nat.le_refl _,h2⟩
  next hl =>
  have h:=h0
  refine bh.block ((ih m hm _ _ px σ r h).mono ?_)
  rintro e σ' ⟨m',hle,hh⟩
  cases e with
  | exit id' =>
   have hh':(bif Nat.beq id' id then κ m' .normal σ' else κ m' (.exit id') σ') = some r:=hh
   show bif Nat.beq id' id then _ else _
   cases hb:Nat.beq id' id with
   | true=>rw [hb] at hh'; exact ⟨m',hle,hh'⟩
   | false=>rw [hb] at hh'; exact ⟨m',hle,hh'⟩
  | normal=>exact ⟨m',hle,hh⟩
  | goto l=>exact ⟨m',hle,hh⟩
  | ret=>exact ⟨m',hle,hh⟩
  | panic c=>exact ⟨m',hle,hh⟩
  | outgrown=>exact ⟨m',hle,hh⟩
 | exit id=>exact fun m _ π κ _ σ r h=>.exit ⟨m,Nat.le_refl _,h⟩
 | ret=>exact fun m _ π κ _ σ r h=>.ret ⟨m,Nat.le_refl _,h⟩
 | loop x ih =>
  intro m hm π κ hp σ r h
  have h':(match bK fi.cuts π with | some T=>ka (Jn Tb m fi π) T σ | none=>none) = some r:=h
  split at h'
  ·next T hc =>
   obtain ⟨s,h1,h2⟩:=tl h'
   refine bh.ent (m3 h1) ((hm m (Nat.le_refl _) fi hfi _ _ _ _ h2 _ _ hp).mono ?_)
   rintro e σ'' ⟨m2,h3,h4⟩
   exact ⟨m2,by omega,h4⟩
  ·cases h'
 | rangeFunc f params assign body=>exact fun m _ π κ _ σ r h=>by cases h
 | scope body=>exact fun m _ π κ _ σ r h=>by cases h
 | goto l=>exact fun m _ π κ _ σ r h=>by cases h
 | refuse why=>exact fun m _ π κ _ σ r h=>by cases h
theorem MG (hT:wK Tb):∀ n,PJ Tb n:=by
 intro n
 induction n using Nat.strongRecOn with
 | _ n ih =>
  intro fi hfi π T s r h c κ hp
  obtain ⟨k,rfl,_,hr⟩:=wH h hp
  by_cases hl:∃ x,c = .loop x
  ·obtain ⟨x,rfl⟩:=hl
   have px:js Tb fi x (2*π) (Ig Tb fi π κ):=hp.left rfl
   refine bh.loop (fun m σ=>m≤k+1∧∃ (T':Tm) (s':HP T'.tys),σ = mq T' s'∧Jn Tb m fi π T' s' = some r) (k+1) (mq T s) (.refl _) ⟨Nat.le_refl _,T,s,rfl,h⟩ ?_
   rintro m σ ⟨hm,T',s',rfl,hJ⟩
   obtain ⟨j,rfl,_,hj⟩:=wH hJ hp
   refine (LG hT hfi x j (fun m' hm'=>ih m' (by omega)) _ _ px _ r hj).mono ?_
   rintro e σ' ⟨m',hle,hh⟩
   cases e with
   | normal =>
    have hh':(match bK fi.cuts π with | some T=>ka (Jn Tb m' fi π) T σ' | none=>none) = some r:=hh
    split at hh'
    ·next T2 hc =>
     obtain ⟨s2,h1,h2⟩:=tl hh'
     exact ⟨m',mq T2 s2,by omega,m3 h1,by omega,T2,s2,rfl,h2⟩
    ·cases hh'
   | exit id=>exact ⟨m',by omega,hh⟩
   | goto l=>exact ⟨m',by omega,hh⟩
   | ret=>exact ⟨m',by omega,hh⟩
   | panic c=>exact ⟨m',by omega,hh⟩
   | outgrown=>exact ⟨m',by omega,hh⟩
  ·have hr':xn Tb fi k c π (κ k) (mq T s) = some r:=by
    cases c with
    | loop x=>exact (hl ⟨x,rfl⟩).elim
    | _=>exact hr
   refine (LG hT hfi c k (fun m' hm'=>ih m' (by omega)) _ _ hp _ r hr').mono ?_
   rintro e σ' ⟨m',hle,hh⟩
   exact ⟨m',by omega,hh⟩
end
end Go.Ax
