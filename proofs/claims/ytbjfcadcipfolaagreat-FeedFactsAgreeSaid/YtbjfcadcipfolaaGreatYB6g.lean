import Derived.Test.YtbjfcadcipfolaaGreatYB6
set_option linter.all false
/- Calls that are handed objects, or that make several. -/
namespace Go.Ax
open Go.RowKit
abbrev p5:=List (Nat × Nat × Bool)
def dN:p5→Nat→Option (Nat × Bool)
 | [],_=>none
 | (q',o,p) :: r,q=>bif Nat.beq q' q then some (o,p) else dN r q
def mZ (bk:p5) (nid q:Nat):Nat:=match dN bk q with | some (o,_)=>o | none=>nid+q
def iz (bk:p5) (o:Nat):Bool:=bk.any fun x=>Nat.beq x.2.1 o
mutual
def V.mpB (bk:p5) (nid:Nat):V→V
 | .c d=>.c d
 | .agg vs=>.agg (V.mpBs bk nid vs)
 | .tup vs=>.tup (V.mpBs bk nid vs)
 | .ptr q k i j=>.ptr (mZ bk nid q) k i j
 | .row q k=>match dN bk q with | some (o,p)=>(bif p then .c .unk else .row o k) | none=>.row (nid+q) k
 | .sub q k off n=>match dN bk q with | some (o,p)=>(bif p then .c .unk else .sub o k off n) | none=>.sub (nid+q) k off n
 | .dptr k cs j=>.dptr k cs j
 | .fn f vs=>.fn f (V.mpBs bk nid vs)
def V.mpBs (bk:p5) (nid:Nat):List V→List V
 | []=>[]
 | v :: r=>V.mpB bk nid v :: V.mpBs bk nid r
end
def Ob.mpB (bk:p5) (nid:Nat):Ob→Ob
 | .box cs=>.box (V.mpBs bk nid cs)
 | .iter m s l=>.iter (V.mpB bk nid m) s l
 | b=>b
def vZ (os:List Nat) (bk:p5):List Nat:=os.filter fun o=>!(iz bk o)
def HE (nid:Nat) (os:List Nat) (bk:p5) (hp:ae) (v:V):aH :=
 { pre:=[true = true],val:=v.mpB bk nid,eff:=hp.map (fun x=>(mZ bk nid x.1,x.2.map (Ob.mpB bk nid)))++(vZ os bk).map (fun o=>(o,none)),kill:=vZ os bk }
section
variable {P:Program} {N:Nat} {B:fh} {σ:St} {E E2 E':au} {a:Act} {w w2:World} {H:ae} {nid:Nat} {bk:p5} {os:List Nat}
theorem mf:∀ vs:List V,(V.mpBs bk nid vs).length = vs.length
 | []=>rfl
 | _ :: r=>by simp [V.mpBs,mf r]
theorem sE:∀ (vs:List V) (i:Nat),(V.mpBs bk nid vs)[i]? = (vs[i]?).map (V.mpB bk nid)
 | [],i=>by simp [V.mpBs]
 | v :: r,0=>by simp [V.mpBs]
 | v :: r,i+1=>by simp [V.mpBs,sE r i]
structure Oi (bk:p5) (nid:Nat) (E2 E':au):Prop where
  live:∀ q,E2.live q→E'.live (mZ bk nid q)
  conc:∀ q,E2.live q→E'.conc (mZ bk nid q) = E2.conc q
  len:∀ q,E2.live q→E'.len (mZ bk nid q) = E2.len q
  cap:∀ q,E2.live q→(∀ o,dN bk q≠some (o,true))→E2.conc q = none∨E'.cap (mZ bk nid q) = E2.cap q
  ok:∀ b,E2.ok b→E'.ok b
theorem dL {q o:Nat} {p:Bool} (h:dN bk q = some (o,p)):mZ bk nid q = o:=by unfold mZ;rw [h]
theorem ed {q:Nat} (h:dN bk q = none):mZ bk nid q = nid+q:=by unfold mZ;rw [h]
theorem aj.mpB (hm:Oi bk nid E2 E') {v:Value} {d:V} (h:aj E2 w v d):aj E' w v (d.mpB bk nid):=by
 induction h with
 | c v d h=>exact .c v d (h.mono hm.ok fun _ _=>rfl)
 | agg vs ds hl h ih =>
  rw [V.mpB]
  refine .agg vs _ (by rw [mf,hl]) fun i v d hv hd=>?_
  rw [sE] at hd
  cases hx:ds[i]? with
  | none=>rw [hx] at hd;cases hd
  | some x=>rw [hx] at hd;cases hd;exact ih i v x hv hx
 | tup vs ds hl h ih =>
  rw [V.mpB]
  refine .tup vs _ (by rw [mf,hl]) fun i v d hv hd=>?_
  rw [sE] at hd
  cases hx:ds[i]? with
  | none=>rw [hx] at hd;cases hd
  | some x=>rw [hx] at hd;cases hd;exact ih i v x hv hx
 | ptr o k i j b h1 h2 h3 =>
  rw [V.mpB]
  exact .ptr _ k i j b (hm.live o h1) ((hm.conc o h1).trans h2) (by rw [hm.len o h1];exact h3)
 | row o k a n c hn hl hc hmx h0 =>
  have fin:∀ o',o' = mZ bk nid o→(∀ x,dN bk o≠some (x,true))→aj E' w (.slice a n c) (.row o' k):=by
   rintro o' rfl hp
   refine .row _ k a n c (hm.live o hn) (by rw [hm.len o hn];exact hl) hc hmx ?_
   rcases h0 with ⟨g1,g2,g3,g4⟩ | ⟨b,g1,g2,g3⟩
   ·exact .inl ⟨g1,g2,g3,(hm.conc o hn).trans g4⟩
   ·rcases hm.cap o hn hp with h | h
    ·rw [g1] at h;cases h
    ·exact .inr ⟨b,(hm.conc o hn).trans g1,g2,g3.trans h.symm⟩
  rw [V.mpB]
  cases hb:dN bk o with
  | none=>exact fin _ (ed hb).symm fun x h=>by rw [hb] at h;cases h
  | some x =>
   obtain ⟨o',p⟩:=x
   cases p with
   | true=>exact .unk _
   | false=>exact fin _ (dL hb).symm fun x h=>by rw [hb] at h;cases h
 | sub o k off n a c hn hc hmx hl ha =>
  have fin:∀ o',o' = mZ bk nid o→aj E' w (.slice a n c) (.sub o' k off n):=by
   rintro o' rfl
   refine .sub _ k off n a c (hm.live o hn) hc hmx (by rw [hm.len o hn];exact hl) fun hp=>?_
   obtain ⟨b,g1,g2⟩:=ha hp
   exact ⟨b,(hm.conc o hn).trans g1,g2⟩
  rw [V.mpB]
  cases hb:dN bk o with
  | none=>exact fin _ (ed hb).symm
  | some x =>
   obtain ⟨o',p⟩:=x
   cases p with
   | true=>exact .unk _
   | false=>exact fin _ (dL hb).symm
 | dptr k cs j ad u h1 h2 h3 h4=>exact .dptr k cs j ad u (hm.ok _ h1) h2 h3 fun i d hd=>(h4 i d hd).mono hm.ok fun _ _=>rfl
 | fn f vs ds hl h ih =>
  rw [V.mpB]
  refine .fn f vs _ (by rw [mf,hl]) fun i v d hv hd=>?_
  rw [sE] at hd
  cases hx:ds[i]? with
  | none=>rw [hx] at hd;cases hd
  | some x=>rw [hx] at hd;cases hd;exact ih i v x hv hx
theorem jy.mpB (hm:Oi bk nid E2 E') {q:Nat} {b:Ob} (hl:E2.live q) (hp:∀ o,dN bk q = some (o,true)→MG (some b) = false) (h:jy E2 w q b):jy E' w (mZ bk nid q) (b.mpB bk nid):=by
 cases b with
 | box cs =>
  obtain ⟨e1,b,C,t,e2,e3,e4,e5⟩:=h
  refine ⟨(hm.len q hl).trans e1,b,C,t,(hm.conc q hl).trans e2,e3,by rw [mf];exact e4,fun i v d hv hd=>?_⟩
  rw [sE] at hd
  cases hx:cs[i]? with
  | none=>rw [hx] at hd;cases hd
  | some x=>rw [hx] at hd;cases hd;exact (e5 i v x hv hx).mpB hm
 | raw x =>
  obtain ⟨h1,b,h2,h3⟩:=h
  exact ⟨(hm.len q hl).trans h1,b,(hm.conc q hl).trans h2,h3⟩
 | map t kt vt ks vs=>exact pL.mp h (hm.conc q hl) (hm.len q hl) (fun _ _=>rfl) fun _ _ h=>h.mono hm.ok fun _ _=>rfl
 | iter m s0 l0 =>
  obtain ⟨e1,b,bm,s,seen,c,e2,e3,e4,e5⟩:=h
  exact ⟨(hm.len q hl).trans e1,b,bm,s,seen,c,(hm.conc q hl).trans e2,e3,e4,e5.mpB hm⟩
 | row e t l =>
  obtain ⟨h1,h2⟩:=h
  refine ⟨(hm.len q hl).trans h1, ?_⟩
  rcases h2 with ⟨h2,h3⟩ | ⟨b,C,g1,g2,g3,g4,g5,g6,g7,g8⟩
  ·exact .inl ⟨(hm.conc q hl).trans h2,h3⟩
  ·have hc:E'.cap (mZ bk nid q) = E2.cap q:=by
    rcases hm.cap q hl (fun o ho=>by have:=hp o ho;simp [MG] at this) with h | h
    ·rw [g1] at h;cases h
    ·exact h
   exact .inr ⟨b,C,(hm.conc q hl).trans g1,g2,by rw [hc];exact g3,by rw [hc];exact g4,by rw [hc];exact g5,g6,g7,fun i j d u x y z=>(g8 i j d u x y z).mono hm.ok fun _ _=>rfl⟩
theorem Oa {kl:List Nat} {q:Nat} {ob ob':Ob} (h:jy E w q ob) (hk:cD kl (some ob) = some ob') (hc:E'.conc q = E.conc q∧E'.cap q = E.cap q∧E'.len q = E.len q) (hb:∀ b,E.conc q = some b→w2.heap[b]? = w.heap[b]?)
  (hr:∀ v d,aj E w v d→aj E' w2 v (d.killAll kl)) (hd:∀ v d,aK E.ok w v d→aK E'.ok w2 v d):jy E' w2 q ob':=by
 obtain ⟨c1,c2,c3⟩:=hc
 cases ob with
 | box cs =>
  rw [uG] at hk
  cases hk
  obtain ⟨hl,b,C,t,h1,h2,h3,h4⟩:=h
  refine ⟨c3.trans hl,b,C,t,c1.trans h1,(hb b h1).trans h2,by rw [List.length_map];exact h3,fun i v d hv hx=>?_⟩
  rw [List.getElem?_map] at hx
  cases hy:cs[i]? with
  | none=>rw [hy] at hx;cases hx
  | some y=>rw [hy] at hx;cases hx;exact hr _ _ (h4 i v y hv hy)
 | raw x =>
  rw [uB] at hk
  cases hk
  obtain ⟨hl,b,h1,h2⟩:=h
  exact ⟨c3.trans hl,b,c1.trans h1,(hb b h1).trans h2⟩
 | map t kt vt ks vs =>
  rw [uZ] at hk
  cases hk
  exact pL.mp h c1 c3 hb hd
 | iter m s0 l0 =>
  rw [tg] at hk
  cases hk
  obtain ⟨hl,b,bm,s,seen,c,h1,h2,h3,h4⟩:=h
  exact ⟨c3.trans hl,b,bm,s,seen,c,c1.trans h1,(hb b h1).trans h2,h3,hr _ _ h4⟩
 | row t k l =>
  rw [uS] at hk
  cases hk
  obtain ⟨hl,h⟩:=h
  refine ⟨c3.trans hl, ?_⟩
  rcases h with ⟨h1,h2⟩ | ⟨b,C,h1,h2,h3,h4,h5,h6,h7,h8⟩
  ·exact .inl ⟨c1.trans h1,h2⟩
  ·exact .inr ⟨b,C,c1.trans h1,(hb b h1).trans h2,by rw [c2];exact h3,by rw [c2];exact h4,by rw [c2];exact h5,h6,h7,fun i j d u x y z=>hd _ _ (h8 i j d u x y z)⟩
theorem qp {o:Nat}:iz bk o = true↔∃ q p,(q,o,p)∈bk:=by
 unfold iz
 rw [List.any_eq_true]
 constructor
 ·rintro ⟨⟨q,o',p⟩,h1,h2⟩
  have:=Nat.eq_of_beq_eq_true h2
  simp only at this
  subst this
  exact ⟨q,p,h1⟩
 ·rintro ⟨q,p,h⟩;exact ⟨_,h,by simp⟩
theorem cZ:∀ {bk:p5} {q o:Nat} {p:Bool},dN bk q = some (o,p)→(q,o,p)∈bk
 | [],q,o,p,h=>by simp [dN] at h
 | (q',o',p') :: r,q,o,p,h=>by
  unfold dN at h
  cases hb:Nat.beq q' q with
  | true =>
   rw [hb] at h;cases h
   have:=Nat.eq_of_beq_eq_true hb
   subst this;simp
  | false=>rw [hb] at h;exact List.mem_cons_of_mem _ (cZ h)
def CR (bk:p5):Bool:=gX (bk.map (·.1))&&gX (bk.map (·.2.1))
theorem xg {l:List Nat} (h:gX l = true):l.Nodup:=by
 induction l with
 | nil=>simp
 | cons a l ih =>
  rw [gX,Bool.and_eq_true] at h
  refine List.nodup_cons.2 ⟨fun hm=>?_,ih h.2⟩
  have:=show l5 a l = true from List.any_eq_true.2 ⟨a,hm,by simp⟩
  rw [this] at h;simp at h
theorem EW:∀ {bk:p5},gX (bk.map (·.1)) = true→∀ {q o:Nat} {p:Bool},(q,o,p)∈bk→dN bk q = some (o,p)
 | [],_,q,o,p,h=>by simp at h
 | (q',o',p') :: r,hn,q,o,p,h=>by
  have hn':=xg hn
  rw [List.map_cons,List.nodup_cons] at hn'
  rw [List.map_cons,gX,Bool.and_eq_true] at hn
  unfold dN
  rcases List.mem_cons.1 h with h | h
  ·cases h;simp
  ·have hne:q'≠q:=fun e=>hn'.1 (by subst e;exact List.mem_map.2 ⟨_,h,rfl⟩)
   rw [C8 hne,cond_false]
   exact EW hn.2 h
theorem Nq (h:CR bk = true) {q q' o:Nat} {p p':Bool} (h1:(q,o,p)∈bk) (h2:(q',o,p')∈bk):q = q':=by
 unfold CR at h
 rw [Bool.and_eq_true] at h
 have hn:=xg h.2
 obtain ⟨i,hi⟩:=List.getElem?_of_mem h1
 obtain ⟨j,hj⟩:=List.getElem?_of_mem h2
 have e1:(bk.map (·.2.1))[i]? = some o:=by simp [hi]
 have e2:(bk.map (·.2.1))[j]? = some o:=by simp [hj]
 have hi':=(List.getElem?_eq_some_iff.1 e1).1
 have:i = j:=(List.getElem?_inj hi' hn).1 (e1.trans e2.symm)
 subst this
 rw [hi] at hj;cases hj;rfl
def au.genB (E E2:au) (os:List Nat) (nid:Nat) (bk:p5):au where
  conc x:=bif iz bk x then E.conc x else if nid≤x∧x < nid+8 then (match dN bk (x - nid) with | none=>E2.conc (x - nid) | some _=>none) else bif l5 x os then none else E.conc x
  cap x:=bif iz bk x then E.cap x else if nid≤x∧x < nid+8 then E2.cap (x - nid) else E.cap x
  len x:=bif iz bk x then E.len x else if nid≤x∧x < nid+8 then E2.len (x - nid) else E.len x
  live x:=E.live x∨(nid≤x∧x < nid+8∧dN bk (x - nid) = none∧E2.live (x - nid))
  ok b:=E.ok b∨E2.ok b
structure RL (E E2:au) (os:List Nat) (hp:ae) (bk:p5):Prop where
  one:CR bk = true
  mem:∀ q o p,(q,o,p)∈bk→o∈os
  live:∀ q o p,(q,o,p)∈bk→E2.live q
  conc:∀ q o p,(q,o,p)∈bk→E2.conc q = E.conc o
  len:∀ q o p,(q,o,p)∈bk→E2.len q = E.len o
  cap:∀ q o,(q,o,false)∈bk→E2.conc q = none∨E2.cap q = E.cap o
  key:∀ q o p,(q,o,p)∈bk→q∈cW hp
  box:∀ q o,(q,o,true)∈bk→∀ b,ae.get hp q = some b→MG (some b) = false
theorem wK {o:Nat} {l:List Nat}:l5 o l = true↔o∈l:=by
 constructor
 ·exact jL
 ·intro h;exact List.any_eq_true.2 ⟨o,h,by simp⟩
theorem Fv {f:Nat→Nat} {g:Ob→Ob}:∀ {hp:ae} {o:Nat} {b:Ob},ae.get (hp.map fun x=>(f x.1,x.2.map g)) o = some b→(∀ q q',(∃ b,(q,b)∈hp)→(∃ b,(q',b)∈hp)→f q = f q'→q = q')→∃ q b0,f q = o∧ae.get hp q = some b0∧b = g b0
 | [],o,b,h,_=>by simp [ae.get] at h
 | (q,x) :: hp,o,b,h,hi=>by
  rw [List.map_cons,ae.get_cons] at h
  split at h
  ·next e =>
   cases x with
   | none=>cases h
   | some y=>cases h;exact ⟨q,y,e,by rw [ae.get_cons,if_pos rfl],rfl⟩
  ·next hne =>
   obtain ⟨q',b0,h1,h2,h3⟩:=Fv h fun a b ha hb=>hi a b (by obtain ⟨x,hx⟩:=ha;exact ⟨x,List.mem_cons_of_mem _ hx⟩) (by obtain ⟨x,hx⟩:=hb;exact ⟨x,List.mem_cons_of_mem _ hx⟩)
   refine ⟨q',b0,h1, ?_,h3⟩
   rw [ae.get_cons,if_neg,h2]
   rintro rfl
   exact hne h1
theorem N7 (l:List Nat) {o:Nat} {b:Ob}:ae.get (l.map fun o=>(o,(none:Option Ob))) o≠some b:=by
 induction l with
 | nil=>simp [ae.get]
 | cons x l ih =>
  rw [List.map_cons,ae.get_cons]
  split
  ·simp
  ·exact ih
theorem DF {o:Nat}:o∈vZ os bk↔o∈os∧iz bk o = false:=by unfold vZ;simp
theorem OA (hH:az E w H) (hf:e9 E nid) (hos:∀ o∈os,E.live o) (hW:B.W = w) (hBok:B.ok = E.ok) (hmb:∀ b,B.mb b→∃ o∈os,E.conc o = some b) (hs:bn N B σ E2 a w2) (hn:σ.nx≤8) (hk:∀ q b,(q,b)∈σ.hp→q < σ.nx)
  (hb:RL E E2 os σ.hp bk) {u:Value} {v:V} (hu:aj E2 w2 u v):ce E w H nid (HE nid os bk σ.hp v) (E.genB E2 os nid bk) w2 u:=by
 have hlt:∀ q,E2.live q→q < σ.nx:=fun q hq=>by
  by_cases h:q < σ.nx
  ·exact h
  ·exact (hs.live q (by omega) hq).elim
 have hfree:∀ x,nid≤x→x < nid+8→¬ E.live x:=fun x h1 h2 hl=>hf (x - nid) (by omega) (by rwa [show nid+(x - nid) = x by omega])
 have hback:∀ x,iz bk x = true→x∈os∧E.live x:=fun x hx=>by
  obtain ⟨q,p,hm⟩:=qp.1 hx
  exact ⟨hb.mem q x p hm,hos x (hb.mem q x p hm)⟩
 have n1:gX (bk.map (·.1)) = true:=by have:=hb.one;unfold CR at this;rw [Bool.and_eq_true] at this;exact this.1
 have eB:∀ q o p,(q,o,p)∈bk→(E.genB E2 os nid bk).conc o = E.conc o∧(E.genB E2 os nid bk).cap o = E.cap o∧(E.genB E2 os nid bk).len o = E.len o:=by
  intro q o p h
  have:iz bk o = true:=qp.2 ⟨q,p,h⟩
  simp only [au.genB,this,cond_true,and_self]
 have eN:∀ q,q < 8→dN bk q = none→(E.genB E2 os nid bk).conc (nid+q) = E2.conc q∧(E.genB E2 os nid bk).cap (nid+q) = E2.cap q∧(E.genB E2 os nid bk).len (nid+q) = E2.len q:=by
  intro q hq hn
  have h1:iz bk (nid+q) = false:=by
   cases h:iz bk (nid+q) with
   | false=>rfl
   | true=>exact (hf q hq (hback _ h).2).elim
  have h2:nid+q - nid = q:=by omega
  simp only [au.genB,h1,cond_false,h2,hn,if_pos (show nid≤nid+q∧nid+q < nid+8 by omega),and_self]
 have eO:∀ x,E.live x→x ∉ os→(E.genB E2 os nid bk).conc x = E.conc x∧(E.genB E2 os nid bk).cap x = E.cap x∧(E.genB E2 os nid bk).len x = E.len x:=by
  intro x hx ho
  have h1:iz bk x = false:=by
   cases h:iz bk x with
   | false=>rfl
   | true=>exact (ho (hback _ h).1).elim
  have h2:¬ (nid≤x∧x < nid+8):=fun h=>hfree x h.1 h.2 hx
  have h3:l5 x os = false:=by
   cases h:l5 x os with
   | false=>rfl
   | true=>exact (ho (wK.1 h)).elim
  simp only [au.genB,h1,cond_false,if_neg h2,h3,and_self]
 have eK:∀ x,E.live x→x∈os→iz bk x = false→(E.genB E2 os nid bk).conc x = none:=by
  intro x hx ho hb
  have h2:¬ (nid≤x∧x < nid+8):=fun h=>hfree x h.1 h.2 hx
  simp only [au.genB,hb,cond_false,if_neg h2,wK.2 ho,cond_true]
 have hm:Oi bk nid E2 (E.genB E2 os nid bk):=by
  refine ⟨fun q hq=>?_,fun q hq=>?_,fun q hq=>?_,fun q hq hp=>?_,fun b h=>.inr h⟩
  ·cases hx:dN bk q with
   | none =>
    rw [ed hx]
    have:=hlt q hq
    exact .inr ⟨by omega,by omega,by rw [show nid+q - nid = q by omega];exact hx,by rw [show nid+q - nid = q by omega];exact hq⟩
   | some x=>obtain ⟨o,p⟩:=x;rw [dL hx];exact .inl (hos o (hb.mem q o p (cZ hx)))
  ·cases hx:dN bk q with
   | none=>rw [ed hx];exact (eN q (by have:=hlt q hq;omega) hx).1
   | some x=>obtain ⟨o,p⟩:=x;rw [dL hx];exact (eB q o p (cZ hx)).1.trans (hb.conc q o p (cZ hx)).symm
  ·cases hx:dN bk q with
   | none=>rw [ed hx];exact (eN q (by have:=hlt q hq;omega) hx).2.2
   | some x=>obtain ⟨o,p⟩:=x;rw [dL hx];exact (eB q o p (cZ hx)).2.2.trans (hb.len q o p (cZ hx)).symm
  ·cases hx:dN bk q with
   | none=>rw [ed hx];exact .inr (eN q (by have:=hlt q hq;omega) hx).2.1
   | some x =>
    obtain ⟨o,p⟩:=x
    cases p with
    | true=>exact (hp o hx).elim
    | false=>rw [dL hx];exact (hb.cap q o (cZ hx)).imp id fun h=>(eB q o false (cZ hx)).2.1.trans h.symm
 have hinj:∀ q q',E2.live q→E2.live q'→mZ bk nid q = mZ bk nid q'→q = q':=by
  intro q q' h1 h2 e
  cases hx:dN bk q with
  | none =>
   rw [ed hx] at e
   cases hy:dN bk q' with
   | none=>rw [ed hy] at e;omega
   | some y =>
    obtain ⟨o,p⟩:=y
    rw [dL hy] at e
    have:=hos o (hb.mem q' o p (cZ hy))
    rw [← e] at this
    exact (hf q (by have:=hlt q h1;omega) this).elim
  | some x =>
   obtain ⟨o,p⟩:=x
   rw [dL hx] at e
   cases hy:dN bk q' with
   | none =>
    rw [ed hy] at e
    have:=hos o (hb.mem q o p (cZ hx))
    rw [e] at this
    exact (hf q' (by have:=hlt q' h2;omega) this).elim
   | some y =>
    obtain ⟨o',p'⟩:=y
    rw [dL hy] at e
    subst e
    exact Nq hb.one (cZ hx) (cZ hy)
 have wher:∀ x b,(E.genB E2 os nid bk).live x→(E.genB E2 os nid bk).conc x = some b→(∃ q,mZ bk nid q = x∧E2.live q∧E2.conc q = some b)∨(x ∉ os∧E.live x∧E.conc x = some b):=by
  intro x b hl hc
  rcases hl with hl | ⟨h1,h2,h3,h4⟩
  ·by_cases ho:x∈os
   ·cases hx:iz bk x with
    | true =>
     obtain ⟨q,p,hmm⟩:=qp.1 hx
     have:=(eB q x p hmm).1
     exact .inl ⟨q,dL (EW n1 hmm),hb.live q x p hmm,by rw [hb.conc q x p hmm, ← this];exact hc⟩
    | false=>rw [eK x hl ho hx] at hc;cases hc
   ·exact .inr ⟨ho,hl,by rw [← (eO x hl ho).1];exact hc⟩
  ·left
   refine ⟨x - nid,by rw [ed h3];omega,h4, ?_⟩
   have:=(eN (x - nid) (by omega) h3).1
   rw [show nid+(x - nid) = x by omega] at this
   rw [← this];exact hc
 have own:∀ q b,E2.live q→E2.conc q = some b→w.heap.size≤b∨∃ o∈os,E.conc o = some b:=fun q b h1 h2=>(hs.own q b h1 h2).imp (fun h=>by rw [← hW];exact h) fun h=>hmb b h
 have okold:∀ b,E2.ok b→E.ok b∨w.heap.size≤b∨∃ o∈os,E.conc o = some b:=fun b h=>(hs.okold b h).imp (fun h=>by rw [← hBok];exact h) fun h=>h.imp (fun h=>by rw [← hW];exact h) fun h=>hmb b h
 have hbase:=hs.base
 rw [hW] at hbase
 have hst:dn E w (vZ os bk) (E.genB E2 os nid bk) w2:=by
  refine ⟨hbase.os,hbase.tape,hbase.output,hbase.size,fun o h=>.inl h,fun b hb' hno=>hbase.block b hb' fun hm'=>?_,fun b h=>.inl h,fun b h=>?_,fun o hl hk'=>?_,fun o b hl hc=>?_⟩
  ·obtain ⟨o,ho,h⟩:=hmb b hm'
   exact hno o (hos o ho) h
  ·rcases h with h | h
   ·exact .inl h
   ·exact (okold b h).imp id fun h=>h.imp id fun ⟨o,ho,h⟩=>⟨o,hos o ho,h⟩
  ·by_cases ho:o∈os
   ·cases hx:iz bk o with
    | true=>obtain ⟨q,p,hmm⟩:=qp.1 hx;exact eB q o p hmm
    | false=>exact (hk' (DF.2 ⟨ho,hx⟩)).elim
   ·exact eO o hl ho
  ·rcases wher o b hl hc with ⟨q,_,h2,h3⟩ | ⟨_,h2,h3⟩
   ·rcases own q b h2 h3 with h | ⟨o',h,h'⟩
    ·exact .inr h
    ·exact .inl ⟨o',hos o' h,h'⟩
   ·exact .inl ⟨o,h2,h3⟩
 have hrep:∀ v d,aj E w v d→aj (E.genB E2 os nid bk) w2 v (d.killAll (vZ os bk)):=fun v d h=>h.step hst hH.sep hH.oklt
 have hrepD:∀ v d,aK E.ok w v d→aK (E.genB E2 os nid bk).ok w2 v d:=fun v d h=>h.mono hst.ok fun b hb=>hst.blk b (hH.oklt b hb) fun o ho hc=>hH.sep o b ho hc hb
 have apart:∀ q x b,E2.live q→E2.conc q = some b→x ∉ os→E.live x→E.conc x = some b→False:=by
  intro q x b h1 h2 h3 h4 h5
  rcases own q b h1 h2 with h | ⟨o,ho,h⟩
  ·have:=hH.lt x b h4 h5;omega
  ·have:=hH.inj x o b h4 (hos o ho) h5 h
   subst this;exact h3 ho
 refine ⟨hst,⟨fun x ob hx=>?_,fun x x' b h1 h2 h3 h4=>?_,fun x b h1 h2=>?_,fun x b h1 h2=>?_,fun b h=>?_⟩,hu.mpB hm,fun q h=>h.imp id fun h=>⟨h.1,h.2.1⟩⟩
 ·simp only [HE] at hx
  rw [List.append_assoc,rM] at hx
  split at hx
  ·obtain ⟨q,b0,h1,h2,rfl⟩:=Fv hx fun q q' ⟨b,hq⟩ ⟨b',hq'⟩ e=>by
    have key:∀ q,q < σ.nx→mZ bk nid q = mZ bk nid q:=fun _ _=>rfl
    have k1:=hk q b hq
    have k2:=hk q' b' hq'
    cases hx:dN bk q with
    | none =>
     rw [ed hx] at e
     cases hy:dN bk q' with
     | none=>rw [ed hy] at e;omega
     | some y =>
      obtain ⟨o,p⟩:=y
      rw [dL hy] at e
      have:=hos o (hb.mem q' o p (cZ hy))
      rw [← e] at this
      exact (hf q (by omega) this).elim
    | some x =>
     obtain ⟨o,p⟩:=x
     rw [dL hx] at e
     cases hy:dN bk q' with
     | none =>
      rw [ed hy] at e
      have:=hos o (hb.mem q o p (cZ hx))
      rw [e] at this
      exact (hf q' (by omega) this).elim
     | some y =>
      obtain ⟨o',p'⟩:=y
      rw [dL hy] at e
      subst e
      exact Nq hb.one (cZ hx) (cZ hy)
   obtain ⟨l1,l2⟩:=hs.heap.at_ q b0 h2
   subst h1
   exact ⟨hm.live q l1,l2.mpB hm l1 fun o ho=>hb.box q o (cZ ho) b0 h2⟩
  ·next hno =>
   rw [rM] at hx
   split at hx
   ·exact (N7 _ hx).elim
   ·next hno2 =>
    rw [yz] at hx
    cases hy:ae.get H x with
    | none=>rw [hy,sR] at hx;cases hx
    | some y =>
     rw [hy] at hx
     obtain ⟨l1,l2⟩:=hH.at_ x y hy
     have hxo:x ∉ os:=by
      intro ho
      cases hbx:iz bk x with
      | false=>exact hno2 (by simp only [cW,List.map_map];exact List.mem_map.2 ⟨x,DF.2 ⟨ho,hbx⟩,rfl⟩)
      | true =>
       obtain ⟨q,p,hmm⟩:=qp.1 hbx
       obtain ⟨y',hy1,hy2⟩:=List.mem_map.1 (hb.key q x p hmm)
       refine hno (List.mem_map.2 ⟨_,List.mem_map.2 ⟨y',hy1,rfl⟩, ?_⟩)
       show mZ bk nid y'.1 = x
       rw [hy2]
       exact dL (EW n1 hmm)
     refine ⟨.inl l1,Oa l2 hx (eO x l1 hxo) (fun b hb'=>hbase.block b (hH.lt x b l1 hb') fun hm'=>?_) hrep hrepD⟩
     obtain ⟨o,ho,h⟩:=hmb b hm'
     have:=hH.inj x o b l1 (hos o ho) hb' h
     subst this;exact hxo ho
 ·rcases wher x b h1 h3 with ⟨q,a1,a2,a3⟩ | ⟨a1,a2,a3⟩ <;> rcases wher x' b h2 h4 with ⟨q',b1,b2,b3⟩ | ⟨b1,b2,b3⟩
  ·have:=hs.heap.inj q q' b a2 b2 a3 b3
   subst this
   exact a1.symm.trans b1
  ·exact (apart q x' b a2 a3 b1 b2 b3).elim
  ·exact (apart q' x b b2 b3 a1 a2 a3).elim
  ·exact hH.inj x x' b a2 b2 a3 b3
 ·rcases wher x b h1 h2 with ⟨q,a1,a2,a3⟩ | ⟨a1,a2,a3⟩
  ·rintro (h | h)
   ·rcases own q b a2 a3 with g | ⟨o,ho,g⟩
    ·have:=hH.oklt b h;omega
    ·exact hH.sep o b (hos o ho) g h
   ·exact hs.heap.sep q b a2 a3 h
  ·rintro (h | h)
   ·exact hH.sep x b a2 a3 h
   ·rcases okold b h with g | g | ⟨o,ho,g⟩
    ·exact hH.sep x b a2 a3 g
    ·have:=hH.lt x b a2 a3;omega
    ·have:=hH.inj x o b a2 (hos o ho) a3 g
     subst this;exact a1 ho
 ·rcases wher x b h1 h2 with ⟨q,a1,a2,a3⟩ | ⟨a1,a2,a3⟩
  ·exact hs.heap.lt q b a2 a3
  ·have:=hH.lt x b a2 a3;have:=hbase.size;omega
 ·rcases h with h | h
  ·have:=hH.oklt b h;have:=hbase.size;omega
  ·exact hs.heap.oklt b h
theorem Ha:∀ (a b:List (Nat × aF)) (t:Nat),aw (a++b) t = match aw a t with | some s=>some s | none=>aw b t
 | [],b,t=>rfl
 | (t',s') :: a,b,t=>by
  rw [List.cons_append,br,br]
  split
  ·rfl
  ·exact Ha a b t
theorem Pb {xs:List Value} {vs:List V} {M:Nat} (hH:az E w H) (hx:aL E w xs vs) (hv:∀ o∈V.refss vs,o∈os) (hob:∀ o∈os, ∀ b,ae.get H o = some b→JA os b = true) (hM:∀ o∈os,o < M) (hN:vs.length≤N) (hsm:N≤1000000) :
  bn N ⟨w,E.ok,fun b=>∃ o∈os,E.conc o = some b,fun t=>xs.getD (t - 1000000) undef⟩ { tm:=kB vs 0++kB vs 1000000,hp:=pu os H,nx:=M } { E with live:=fun o=>E.live o∧o∈os }
   { tmps:=xs.toArray++Array.replicate (N - xs.toArray.size) undef,defers:=[] } w:=by
 have hl:=hx.1
 have rep:∀ (i:Nat) (v:Value) (d:V),xs[i]? = some v→vs[i]? = some d→aj { E with live:=fun o=>E.live o∧o∈os } w v d:=fun i v d h1 h2=>(hx.2 i v d h1 h2).only fun o ho=>hv o (ca h2 ho)
 refine ⟨?_,hsm,rfl,fun q hq h=>?_,⟨fun o ob h=>?_,fun o o' b h h'=>hH.inj o o' b h.1 h'.1,fun o b h=>hH.sep o b h.1,fun o b h=>hH.lt o b h.1,hH.oklt⟩,fun t s hg=>?_, .refl _ _ _,fun o b h hc=>.inr ⟨o,h.2,hc⟩,fun b h=>.inl h⟩
 ·simp;omega
 ·have:=hM q h.2
  have hq':M≤q:=hq
  omega
 ·obtain ⟨g1,g2,g3⟩:=tQ os H o ob h
  obtain ⟨l1,l2⟩:=hH.at_ o ob g1
  refine ⟨⟨l1,g3⟩, ?_⟩
  have hok:=hob o g3 ob g1
  cases ob with
  | box cs =>
   obtain ⟨e1,b,Cs,t,e2,e3,e4⟩:=l2
   refine ⟨e1,b,Cs,t,e2,e3,e4.1,fun i v d hv hd=>(e4.2 i v d hv hd).only fun q hq=>?_⟩
   exact jL (List.all_eq_true.1 hok q (ca hd hq))
  | row e t l=>exact l2
  | raw x=>exact l2
  | map=>exact l2
  | iter m s0 l0 =>
   obtain ⟨e1,b,bm,s,seen,c,e2,e3,e4,e5⟩:=l2
   exact ⟨e1,b,bm,s,seen,c,e2,e3,e4,e5.only fun q hq=>jL (List.all_eq_true.1 hok q hq)⟩
 ·refine (show s.ch = []∧aj { E with live:=fun o=>E.live o∧o∈os } w (ea _ _ t) s.v→kS _ _ w _ s from fun h=>⟨fun _=>h.2,fun _ hh=>by rw [h.1] at hh;simp [holds] at hh⟩) ?_
  have hg':aw (kB vs 0++kB vs 1000000) t = some s:=hg
  rw [Ha] at hg'
  split at hg'
  ·next s' hs' =>
   cases hg'
   obtain ⟨v,_,h2,rfl⟩:=ou vs 0 t s hs'
   rw [Nat.sub_zero] at h2
   have hlt:t < xs.length:=by rw [hl];exact (List.getElem?_eq_some_iff.1 h2).1
   have hget:(xs.toArray++Array.replicate (N - xs.toArray.size) undef).getD t undef = xs[t]:=by
    rw [Array.getD_eq_getD_getElem?,Array.getElem?_append_left (by simpa using hlt)]
    simp [hlt]
   refine ⟨rfl, ?_⟩
   rw [tJ (by omega)]
   simp only [hget]
   exact rep t _ v (List.getElem?_eq_getElem hlt) h2
  ·obtain ⟨v,h1,h2,rfl⟩:=ou vs 1000000 t s hg'
   have hlt:t - 1000000 < xs.length:=by rw [hl];exact (List.getElem?_eq_some_iff.1 h2).1
   refine ⟨rfl, ?_⟩
   unfold ea
   rw [if_neg (by omega)]
   have:xs.getD (t - 1000000) undef = xs[t - 1000000]:=by simp [List.getD_eq_getElem?_getD,hlt]
   simp only [this]
   exact rep _ _ v (List.getElem?_eq_getElem hlt) h2
theorem ML (hs:bn N B σ E a w) {R:Nat} (hR:1000000≤R) {u:Value} {v:V} (hu:aj E w u v) :
  bn N { B with gh:=fun t=>if t = R then .tuple #[u] else B.gh t } { σ with tm:=(R,⟨[], .tup [v]⟩) :: σ.tm } E a w:=by
 refine ⟨hs.size,hs.small,hs.defers,hs.live,hs.heap,fun t s ht=>?_,hs.base,hs.own,hs.okold⟩
 have ht':aw ((R,(⟨[], .tup [v]⟩:aF)) :: σ.tm) t = some s:=ht
 rw [br] at ht'
 split at ht'
 ·next e =>
  subst e;cases ht'
  refine ⟨fun _=>?_,fun _ h=>by simp [holds] at h⟩
  unfold ea
  rw [if_neg (by omega)]
  simp only [if_true]
  exact .tup [u] [v] rfl fun i x d h1 h2=>by
   match i with
   | 0=>simp at h1 h2;subst h1 h2;exact hu
   | i+1=>simp at h1
 ·next hne =>
  have h0:=hs.slots t s ht'
  have e:ea { B with gh:=fun t=>if t = R then .tuple #[u] else B.gh t } a t = ea B a t:=by
   unfold ea
   split
   ·rfl
   ·simp only [if_neg (Ne.symm hne)]
  rw [e]
  refine fL (tm:=σ.tm) (tm':=(R,(⟨[], .tup [v]⟩:aF)) :: σ.tm) h0 fun x hx hb=>?_
  rw [j6] at hb
  rw [br] at hb ⊢
  split
  ·next e=>rw [if_pos e] at hb;simp [bg] at hb
  ·rfl
end
end Go.Ax
