import Derived.Test.YtbjfcadcipfolaaGreatZB6
set_option linter.all false
/- Calls that are handed objects, or that make several. -/
namespace Go.Ax
open Go.RowKit
abbrev nP:=List (Nat × Nat × Bool)
def dz:nP→Nat→Option (Nat × Bool)
 | [],_=>none
 | (q',o,p) :: r,q=>bif Nat.beq q' q then some (o,p) else dz r q
def lj (bk:nP) (nid q:Nat):Nat:=match dz bk q with | some (o,_)=>o | none=>nid+q
def f8 (bk:nP) (o:Nat):Bool:=bk.any fun x=>Nat.beq x.2.1 o
mutual
def V.mpB (bk:nP) (nid:Nat):V→V
 | .c d=>.c d
 | .agg vs=>.agg (V.mpBs bk nid vs)
 | .tup vs=>.tup (V.mpBs bk nid vs)
 | .ptr q k i j=>.ptr (lj bk nid q) k i j
 | .row q k=>match dz bk q with | some (o,p)=>(bif p then .c .unk else .row o k) | none=>.row (nid+q) k
 | .sub q k off n=>match dz bk q with | some (o,p)=>(bif p then .c .unk else .sub o k off n) | none=>.sub (nid+q) k off n
 | .dptr k cs j=>.dptr k cs j
 | .fn f vs=>.fn f (V.mpBs bk nid vs)
def V.mpBs (bk:nP) (nid:Nat):List V→List V
 | []=>[]
 | v :: r=>V.mpB bk nid v :: V.mpBs bk nid r
end
def Ob.mpB (bk:nP) (nid:Nat):Ob→Ob
 | .box cs=>.box (V.mpBs bk nid cs)
 | .iter m s l=>.iter (V.mpB bk nid m) s l
 | b=>b
def sg (os:List Nat) (bk:nP):List Nat:=os.filter fun o=>!(f8 bk o)
def DJ (nid:Nat) (os:List Nat) (bk:nP) (hp:ab) (v:V):aB :=
 { pre:=[true = true],val:=v.mpB bk nid,eff:=hp.map (fun x=>(lj bk nid x.1,x.2.map (Ob.mpB bk nid)))++(sg os bk).map (fun o=>(o,none)),kill:=sg os bk }
section
variable {P:Program} {N:Nat} {B:eL} {σ:St} {E E2 E':ar} {a:Act} {w w2:World} {H:ab} {nid:Nat} {bk:nP} {os:List Nat}
theorem kC:∀ vs:List V,(V.mpBs bk nid vs).length = vs.length
 | []=>rfl
 | _ :: r=>by simp [V.mpBs,kC r]
theorem pK:∀ (vs:List V) (i:Nat),(V.mpBs bk nid vs)[i]? = (vs[i]?).map (V.mpB bk nid)
 | [],i=>by simp [V.mpBs]
 | v :: r,0=>by simp [V.mpBs]
 | v :: r,i+1=>by simp [V.mpBs,pK r i]
structure KL (bk:nP) (nid:Nat) (E2 E':ar):Prop where
  live:∀ q,E2.live q→E'.live (lj bk nid q)
  conc:∀ q,E2.live q→E'.conc (lj bk nid q) = E2.conc q
  len:∀ q,E2.live q→E'.len (lj bk nid q) = E2.len q
  cap:∀ q,E2.live q→(∀ o,dz bk q≠some (o,true))→E2.conc q = none∨E'.cap (lj bk nid q) = E2.cap q
  ok:∀ b,E2.ok b→E'.ok b
theorem dA {q o:Nat} {p:Bool} (h:dz bk q = some (o,p)):lj bk nid q = o:=by unfold lj;rw [h]
theorem dL {q:Nat} (h:dz bk q = none):lj bk nid q = nid+q:=by unfold lj;rw [h]
theorem af.mpB (hm:KL bk nid E2 E') {v:Value} {d:V} (h:af E2 w v d):af E' w v (d.mpB bk nid):=by
 induction h with
 | c v d h=>exact .c v d (h.mono hm.ok fun _ _=>rfl)
 | agg vs ds hl h ih =>
  rw [V.mpB]
  refine .agg vs _ (by rw [kC,hl]) fun i v d hv hd=>?_
  rw [pK] at hd
  cases hx:ds[i]? with
  | none=>rw [hx] at hd;cases hd
  | some x=>rw [hx] at hd;cases hd;exact ih i v x hv hx
 | tup vs ds hl h ih =>
  rw [V.mpB]
  refine .tup vs _ (by rw [kC,hl]) fun i v d hv hd=>?_
  rw [pK] at hd
  cases hx:ds[i]? with
  | none=>rw [hx] at hd;cases hd
  | some x=>rw [hx] at hd;cases hd;exact ih i v x hv hx
 | ptr o k i j b h1 h2 h3 =>
  rw [V.mpB]
  exact .ptr _ k i j b (hm.live o h1) ((hm.conc o h1).trans h2) (by rw [hm.len o h1];exact h3)
 | row o k a n c hn hl hc hmx h0 =>
  have fin:∀ o',o' = lj bk nid o→(∀ x,dz bk o≠some (x,true))→af E' w (.slice a n c) (.row o' k):=by
   rintro o' rfl hp
   refine .row _ k a n c (hm.live o hn) (by rw [hm.len o hn];exact hl) hc hmx ?_
   rcases h0 with ⟨g1,g2,g3,g4⟩ | ⟨b,g1,g2,g3⟩
   ·exact .inl ⟨g1,g2,g3,(hm.conc o hn).trans g4⟩
   ·rcases hm.cap o hn hp with h | h
    ·rw [g1] at h;cases h
    ·exact .inr ⟨b,(hm.conc o hn).trans g1,g2,g3.trans h.symm⟩
  rw [V.mpB]
  cases hb:dz bk o with
  | none=>exact fin _ (dL hb).symm fun x h=>by rw [hb] at h;cases h
  | some x =>
   obtain ⟨o',p⟩:=x
   cases p with
   | true=>exact .unk _
   | false=>exact fin _ (dA hb).symm fun x h=>by rw [hb] at h;cases h
 | sub o k off n a c hn hc hmx hl ha =>
  have fin:∀ o',o' = lj bk nid o→af E' w (.slice a n c) (.sub o' k off n):=by
   rintro o' rfl
   refine .sub _ k off n a c (hm.live o hn) hc hmx (by rw [hm.len o hn];exact hl) fun hp=>?_
   obtain ⟨b,g1,g2⟩:=ha hp
   exact ⟨b,(hm.conc o hn).trans g1,g2⟩
  rw [V.mpB]
  cases hb:dz bk o with
  | none=>exact fin _ (dL hb).symm
  | some x =>
   obtain ⟨o',p⟩:=x
   cases p with
   | true=>exact .unk _
   | false=>exact fin _ (dA hb).symm
 | dptr k cs j ad u h1 h2 h3 h4=>exact .dptr k cs j ad u (hm.ok _ h1) h2 h3 fun i d hd=>(h4 i d hd).mono hm.ok fun _ _=>rfl
 | fn f vs ds hl h ih =>
  rw [V.mpB]
  refine .fn f vs _ (by rw [kC,hl]) fun i v d hv hd=>?_
  rw [pK] at hd
  cases hx:ds[i]? with
  | none=>rw [hx] at hd;cases hd
  | some x=>rw [hx] at hd;cases hd;exact ih i v x hv hx
theorem gJ.mpB (hm:KL bk nid E2 E') {q:Nat} {b:Ob} (hl:E2.live q) (hp:∀ o,dz bk q = some (o,true)→IA (some b) = false) (h:gJ E2 w q b):gJ E' w (lj bk nid q) (b.mpB bk nid):=by
 cases b with
 | box cs =>
  obtain ⟨e1,b,C,t,e2,e3,e4,e5⟩:=h
  refine ⟨(hm.len q hl).trans e1,b,C,t,(hm.conc q hl).trans e2,e3,by rw [kC];exact e4,fun i v d hv hd=>?_⟩
  rw [pK] at hd
  cases hx:cs[i]? with
  | none=>rw [hx] at hd;cases hd
  | some x=>rw [hx] at hd;cases hd;exact (e5 i v x hv hx).mpB hm
 | raw x =>
  obtain ⟨h1,b,h2,h3⟩:=h
  exact ⟨(hm.len q hl).trans h1,b,(hm.conc q hl).trans h2,h3⟩
 | map t kt vt ks vs=>exact nv.mp h (hm.conc q hl) (hm.len q hl) (fun _ _=>rfl) fun _ _ h=>h.mono hm.ok fun _ _=>rfl
 | iter m s0 l0 =>
  obtain ⟨e1,b,bm,s,seen,c,e2,e3,e4,e5⟩:=h
  exact ⟨(hm.len q hl).trans e1,b,bm,s,seen,c,(hm.conc q hl).trans e2,e3,e4,e5.mpB hm⟩
 | row e t l =>
  obtain ⟨h1,h2⟩:=h
  refine ⟨(hm.len q hl).trans h1, ?_⟩
  rcases h2 with ⟨h2,h3⟩ | ⟨b,C,g1,g2,g3,g4,g5,g6,g7,g8⟩
  ·exact .inl ⟨(hm.conc q hl).trans h2,h3⟩
  ·have hc:E'.cap (lj bk nid q) = E2.cap q:=by
    rcases hm.cap q hl (fun o ho=>by have:=hp o ho;simp [IA] at this) with h | h
    ·rw [g1] at h;cases h
    ·exact h
   exact .inr ⟨b,C,(hm.conc q hl).trans g1,g2,by rw [hc];exact g3,by rw [hc];exact g4,by rw [hc];exact g5,g6,g7,fun i j d u x y z=>(g8 i j d u x y z).mono hm.ok fun _ _=>rfl⟩
theorem Jf {kl:List Nat} {q:Nat} {ob ob':Ob} (h:gJ E w q ob) (hk:cd kl (some ob) = some ob') (hc:E'.conc q = E.conc q∧E'.cap q = E.cap q∧E'.len q = E.len q) (hb:∀ b,E.conc q = some b→w2.heap[b]? = w.heap[b]?)
  (hr:∀ v d,af E w v d→af E' w2 v (d.killAll kl)) (hd:∀ v d,aG E.ok w v d→aG E'.ok w2 v d):gJ E' w2 q ob':=by
 obtain ⟨c1,c2,c3⟩:=hc
 cases ob with
 | box cs =>
  rw [rL] at hk
  cases hk
  obtain ⟨hl,b,C,t,h1,h2,h3,h4⟩:=h
  refine ⟨c3.trans hl,b,C,t,c1.trans h1,(hb b h1).trans h2,by rw [List.length_map];exact h3,fun i v d hv hx=>?_⟩
  rw [List.getElem?_map] at hx
  cases hy:cs[i]? with
  | none=>rw [hy] at hx;cases hx
  | some y=>rw [hy] at hx;cases hx;exact hr _ _ (h4 i v y hv hy)
 | raw x =>
  rw [rK] at hk
  cases hk
  obtain ⟨hl,b,h1,h2⟩:=h
  exact ⟨c3.trans hl,b,c1.trans h1,(hb b h1).trans h2⟩
 | map t kt vt ks vs =>
  rw [rB] at hk
  cases hk
  exact nv.mp h c1 c3 hb hd
 | iter m s0 l0 =>
  rw [pR] at hk
  cases hk
  obtain ⟨hl,b,bm,s,seen,c,h1,h2,h3,h4⟩:=h
  exact ⟨c3.trans hl,b,bm,s,seen,c,c1.trans h1,(hb b h1).trans h2,h3,hr _ _ h4⟩
 | row t k l =>
  rw [rM] at hk
  cases hk
  obtain ⟨hl,h⟩:=h
  refine ⟨c3.trans hl, ?_⟩
  rcases h with ⟨h1,h2⟩ | ⟨b,C,h1,h2,h3,h4,h5,h6,h7,h8⟩
  ·exact .inl ⟨c1.trans h1,h2⟩
  ·exact .inr ⟨b,C,c1.trans h1,(hb b h1).trans h2,by rw [c2];exact h3,by rw [c2];exact h4,by rw [c2];exact h5,h6,h7,fun i j d u x y z=>hd _ _ (h8 i j d u x y z)⟩
theorem nQ {o:Nat}:f8 bk o = true↔∃ q p,(q,o,p)∈bk:=by
 unfold f8
 rw [List.any_eq_true]
 constructor
 ·rintro ⟨⟨q,o',p⟩,h1,h2⟩
  have:=Nat.eq_of_beq_eq_true h2
  simp only at this
  subst this
  exact ⟨q,p,h1⟩
 ·rintro ⟨q,p,h⟩;exact ⟨_,h,by simp⟩
theorem cH:∀ {bk:nP} {q o:Nat} {p:Bool},dz bk q = some (o,p)→(q,o,p)∈bk
 | [],q,o,p,h=>by simp [dz] at h
 | (q',o',p') :: r,q,o,p,h=>by
  unfold dz at h
  cases hb:Nat.beq q' q with
  | true =>
   rw [hb] at h;cases h
   have:=Nat.eq_of_beq_eq_true hb
   subst this;simp
  | false=>rw [hb] at h;exact List.mem_cons_of_mem _ (cH h)
def zE (bk:nP):Bool:=fO (bk.map (·.1))&&fO (bk.map (·.2.1))
theorem tf {l:List Nat} (h:fO l = true):l.Nodup:=by
 induction l with
 | nil=>simp
 | cons a l ih =>
  rw [fO,Bool.and_eq_true] at h
  refine List.nodup_cons.2 ⟨fun hm=>?_,ih h.2⟩
  have:=show kx a l = true from List.any_eq_true.2 ⟨a,hm,by simp⟩
  rw [this] at h;simp at h
theorem AC:∀ {bk:nP},fO (bk.map (·.1)) = true→∀ {q o:Nat} {p:Bool},(q,o,p)∈bk→dz bk q = some (o,p)
 | [],_,q,o,p,h=>by simp at h
 | (q',o',p') :: r,hn,q,o,p,h=>by
  have hn':=tf hn
  rw [List.map_cons,List.nodup_cons] at hn'
  rw [List.map_cons,fO,Bool.and_eq_true] at hn
  unfold dz
  rcases List.mem_cons.1 h with h | h
  ·cases h;simp
  ·have hne:q'≠q:=fun e=>hn'.1 (by subst e;exact List.mem_map.2 ⟨_,h,rfl⟩)
   rw [zy hne,cond_false]
   exact AC hn.2 h
theorem J8 (h:zE bk = true) {q q' o:Nat} {p p':Bool} (h1:(q,o,p)∈bk) (h2:(q',o,p')∈bk):q = q':=by
 unfold zE at h
 rw [Bool.and_eq_true] at h
 have hn:=tf h.2
 obtain ⟨i,hi⟩:=List.getElem?_of_mem h1
 obtain ⟨j,hj⟩:=List.getElem?_of_mem h2
 have e1:(bk.map (·.2.1))[i]? = some o:=by simp [hi]
 have e2:(bk.map (·.2.1))[j]? = some o:=by simp [hj]
 have hi':=(List.getElem?_eq_some_iff.1 e1).1
 have:i = j:=(List.getElem?_inj hi' hn).1 (e1.trans e2.symm)
 subst this
 rw [hi] at hj;cases hj;rfl
def ar.genB (E E2:ar) (os:List Nat) (nid:Nat) (bk:nP):ar where
  conc x:=bif f8 bk x then E.conc x else if nid≤x∧x < nid+8 then (match dz bk (x - nid) with | none=>E2.conc (x - nid) | some _=>none) else bif kx x os then none else E.conc x
  cap x:=bif f8 bk x then E.cap x else if nid≤x∧x < nid+8 then E2.cap (x - nid) else E.cap x
  len x:=bif f8 bk x then E.len x else if nid≤x∧x < nid+8 then E2.len (x - nid) else E.len x
  live x:=E.live x∨(nid≤x∧x < nid+8∧dz bk (x - nid) = none∧E2.live (x - nid))
  ok b:=E.ok b∨E2.ok b
structure NQ (E E2:ar) (os:List Nat) (hp:ab) (bk:nP):Prop where
  one:zE bk = true
  mem:∀ q o p,(q,o,p)∈bk→o∈os
  live:∀ q o p,(q,o,p)∈bk→E2.live q
  conc:∀ q o p,(q,o,p)∈bk→E2.conc q = E.conc o
  len:∀ q o p,(q,o,p)∈bk→E2.len q = E.len o
  cap:∀ q o,(q,o,false)∈bk→E2.conc q = none∨E2.cap q = E.cap o
  key:∀ q o p,(q,o,p)∈bk→q∈cC hp
  box:∀ q o,(q,o,true)∈bk→∀ b,ab.get hp q = some b→IA (some b) = false
theorem uf {o:Nat} {l:List Nat}:kx o l = true↔o∈l:=by
 constructor
 ·exact ir
 ·intro h;exact List.any_eq_true.2 ⟨o,h,by simp⟩
theorem Co {f:Nat→Nat} {g:Ob→Ob}:∀ {hp:ab} {o:Nat} {b:Ob},ab.get (hp.map fun x=>(f x.1,x.2.map g)) o = some b→(∀ q q',(∃ b,(q,b)∈hp)→(∃ b,(q',b)∈hp)→f q = f q'→q = q')→∃ q b0,f q = o∧ab.get hp q = some b0∧b = g b0
 | [],o,b,h,_=>by simp [ab.get] at h
 | (q,x) :: hp,o,b,h,hi=>by
  rw [List.map_cons,ab.get_cons] at h
  split at h
  ·next e =>
   cases x with
   | none=>cases h
   | some y=>cases h;exact ⟨q,y,e,by rw [ab.get_cons,if_pos rfl],rfl⟩
  ·next hne =>
   obtain ⟨q',b0,h1,h2,h3⟩:=Co h fun a b ha hb=>hi a b (by obtain ⟨x,hx⟩:=ha;exact ⟨x,List.mem_cons_of_mem _ hx⟩) (by obtain ⟨x,hx⟩:=hb;exact ⟨x,List.mem_cons_of_mem _ hx⟩)
   refine ⟨q',b0,h1, ?_,h3⟩
   rw [ab.get_cons,if_neg,h2]
   rintro rfl
   exact hne h1
theorem Ke (l:List Nat) {o:Nat} {b:Ob}:ab.get (l.map fun o=>(o,(none:Option Ob))) o≠some b:=by
 induction l with
 | nil=>simp [ab.get]
 | cons x l ih =>
  rw [List.map_cons,ab.get_cons]
  split
  ·simp
  ·exact ih
theorem zA {o:Nat}:o∈sg os bk↔o∈os∧f8 bk o = false:=by unfold sg;simp
theorem Lk (hH:aw E w H) (hf:eA E nid) (hos:∀ o∈os,E.live o) (hW:B.W = w) (hBok:B.ok = E.ok) (hmb:∀ b,B.mb b→∃ o∈os,E.conc o = some b) (hs:bd N B σ E2 a w2) (hn:σ.nx≤8) (hk:∀ q b,(q,b)∈σ.hp→q < σ.nx)
  (hb:NQ E E2 os σ.hp bk) {u:Value} {v:V} (hu:af E2 w2 u v):bU E w H nid (DJ nid os bk σ.hp v) (E.genB E2 os nid bk) w2 u:=by
 have hlt:∀ q,E2.live q→q < σ.nx:=fun q hq=>by
  by_cases h:q < σ.nx
  ·exact h
  ·exact (hs.live q (by omega) hq).elim
 have hfree:∀ x,nid≤x→x < nid+8→¬ E.live x:=fun x h1 h2 hl=>hf (x - nid) (by omega) (by rwa [show nid+(x - nid) = x by omega])
 have hback:∀ x,f8 bk x = true→x∈os∧E.live x:=fun x hx=>by
  obtain ⟨q,p,hm⟩:=nQ.1 hx
  exact ⟨hb.mem q x p hm,hos x (hb.mem q x p hm)⟩
 have n1:fO (bk.map (·.1)) = true:=by have:=hb.one;unfold zE at this;rw [Bool.and_eq_true] at this;exact this.1
 have eB:∀ q o p,(q,o,p)∈bk→(E.genB E2 os nid bk).conc o = E.conc o∧(E.genB E2 os nid bk).cap o = E.cap o∧(E.genB E2 os nid bk).len o = E.len o:=by
  intro q o p h
  have:f8 bk o = true:=nQ.2 ⟨q,p,h⟩
  simp only [ar.genB,this,cond_true,and_self]
 have eN:∀ q,q < 8→dz bk q = none→(E.genB E2 os nid bk).conc (nid+q) = E2.conc q∧(E.genB E2 os nid bk).cap (nid+q) = E2.cap q∧(E.genB E2 os nid bk).len (nid+q) = E2.len q:=by
  intro q hq hn
  have h1:f8 bk (nid+q) = false:=by
   cases h:f8 bk (nid+q) with
   | false=>rfl
   | true=>exact (hf q hq (hback _ h).2).elim
  have h2:nid+q - nid = q:=by omega
  simp only [ar.genB,h1,cond_false,h2,hn,if_pos (show nid≤nid+q∧nid+q < nid+8 by omega),and_self]
 have eO:∀ x,E.live x→x ∉ os→(E.genB E2 os nid bk).conc x = E.conc x∧(E.genB E2 os nid bk).cap x = E.cap x∧(E.genB E2 os nid bk).len x = E.len x:=by
  intro x hx ho
  have h1:f8 bk x = false:=by
   cases h:f8 bk x with
   | false=>rfl
   | true=>exact (ho (hback _ h).1).elim
  have h2:¬ (nid≤x∧x < nid+8):=fun h=>hfree x h.1 h.2 hx
  have h3:kx x os = false:=by
   cases h:kx x os with
   | false=>rfl
   | true=>exact (ho (uf.1 h)).elim
  simp only [ar.genB,h1,cond_false,if_neg h2,h3,and_self]
 have eK:∀ x,E.live x→x∈os→f8 bk x = false→(E.genB E2 os nid bk).conc x = none:=by
  intro x hx ho hb
  have h2:¬ (nid≤x∧x < nid+8):=fun h=>hfree x h.1 h.2 hx
  simp only [ar.genB,hb,cond_false,if_neg h2,uf.2 ho,cond_true]
 have hm:KL bk nid E2 (E.genB E2 os nid bk):=by
  refine ⟨fun q hq=>?_,fun q hq=>?_,fun q hq=>?_,fun q hq hp=>?_,fun b h=>.inr h⟩
  ·cases hx:dz bk q with
   | none =>
    rw [dL hx]
    have:=hlt q hq
    exact .inr ⟨by omega,by omega,by rw [show nid+q - nid = q by omega];exact hx,by rw [show nid+q - nid = q by omega];exact hq⟩
   | some x=>obtain ⟨o,p⟩:=x;rw [dA hx];exact .inl (hos o (hb.mem q o p (cH hx)))
  ·cases hx:dz bk q with
   | none=>rw [dL hx];exact (eN q (by have:=hlt q hq;omega) hx).1
   | some x=>obtain ⟨o,p⟩:=x;rw [dA hx];exact (eB q o p (cH hx)).1.trans (hb.conc q o p (cH hx)).symm
  ·cases hx:dz bk q with
   | none=>rw [dL hx];exact (eN q (by have:=hlt q hq;omega) hx).2.2
   | some x=>obtain ⟨o,p⟩:=x;rw [dA hx];exact (eB q o p (cH hx)).2.2.trans (hb.len q o p (cH hx)).symm
  ·cases hx:dz bk q with
   | none=>rw [dL hx];exact .inr (eN q (by have:=hlt q hq;omega) hx).2.1
   | some x =>
    obtain ⟨o,p⟩:=x
    cases p with
    | true=>exact (hp o hx).elim
    | false=>rw [dA hx];exact (hb.cap q o (cH hx)).imp id fun h=>(eB q o false (cH hx)).2.1.trans h.symm
 have hinj:∀ q q',E2.live q→E2.live q'→lj bk nid q = lj bk nid q'→q = q':=by
  intro q q' h1 h2 e
  cases hx:dz bk q with
  | none =>
   rw [dL hx] at e
   cases hy:dz bk q' with
   | none=>rw [dL hy] at e;omega
   | some y =>
    obtain ⟨o,p⟩:=y
    rw [dA hy] at e
    have:=hos o (hb.mem q' o p (cH hy))
    rw [← e] at this
    exact (hf q (by have:=hlt q h1;omega) this).elim
  | some x =>
   obtain ⟨o,p⟩:=x
   rw [dA hx] at e
   cases hy:dz bk q' with
   | none =>
    rw [dL hy] at e
    have:=hos o (hb.mem q o p (cH hx))
    rw [e] at this
    exact (hf q' (by have:=hlt q' h2;omega) this).elim
   | some y =>
    obtain ⟨o',p'⟩:=y
    rw [dA hy] at e
    subst e
    exact J8 hb.one (cH hx) (cH hy)
 have wher:∀ x b,(E.genB E2 os nid bk).live x→(E.genB E2 os nid bk).conc x = some b→(∃ q,lj bk nid q = x∧E2.live q∧E2.conc q = some b)∨(x ∉ os∧E.live x∧E.conc x = some b):=by
  intro x b hl hc
  rcases hl with hl | ⟨h1,h2,h3,h4⟩
  ·by_cases ho:x∈os
   ·cases hx:f8 bk x with
    | true =>
     obtain ⟨q,p,hmm⟩:=nQ.1 hx
     have:=(eB q x p hmm).1
     exact .inl ⟨q,dA (AC n1 hmm),hb.live q x p hmm,by rw [hb.conc q x p hmm, ← this];exact hc⟩
    | false=>rw [eK x hl ho hx] at hc;cases hc
   ·exact .inr ⟨ho,hl,by rw [← (eO x hl ho).1];exact hc⟩
  ·left
   refine ⟨x - nid,by rw [dL h3];omega,h4, ?_⟩
   have:=(eN (x - nid) (by omega) h3).1
   rw [show nid+(x - nid) = x by omega] at this
   rw [← this];exact hc
 have own:∀ q b,E2.live q→E2.conc q = some b→w.heap.size≤b∨∃ o∈os,E.conc o = some b:=fun q b h1 h2=>(hs.own q b h1 h2).imp (fun h=>by rw [← hW];exact h) fun h=>hmb b h
 have okold:∀ b,E2.ok b→E.ok b∨w.heap.size≤b∨∃ o∈os,E.conc o = some b:=fun b h=>(hs.okold b h).imp (fun h=>by rw [← hBok];exact h) fun h=>h.imp (fun h=>by rw [← hW];exact h) fun h=>hmb b h
 have hbase:=hs.base
 rw [hW] at hbase
 have hst:cQ E w (sg os bk) (E.genB E2 os nid bk) w2:=by
  refine ⟨hbase.os,hbase.tape,hbase.output,hbase.size,fun o h=>.inl h,fun b hb' hno=>hbase.block b hb' fun hm'=>?_,fun b h=>.inl h,fun b h=>?_,fun o hl hk'=>?_,fun o b hl hc=>?_⟩
  ·obtain ⟨o,ho,h⟩:=hmb b hm'
   exact hno o (hos o ho) h
  ·rcases h with h | h
   ·exact .inl h
   ·exact (okold b h).imp id fun h=>h.imp id fun ⟨o,ho,h⟩=>⟨o,hos o ho,h⟩
  ·by_cases ho:o∈os
   ·cases hx:f8 bk o with
    | true=>obtain ⟨q,p,hmm⟩:=nQ.1 hx;exact eB q o p hmm
    | false=>exact (hk' (zA.2 ⟨ho,hx⟩)).elim
   ·exact eO o hl ho
  ·rcases wher o b hl hc with ⟨q,_,h2,h3⟩ | ⟨_,h2,h3⟩
   ·rcases own q b h2 h3 with h | ⟨o',h,h'⟩
    ·exact .inr h
    ·exact .inl ⟨o',hos o' h,h'⟩
   ·exact .inl ⟨o,h2,h3⟩
 have hrep:∀ v d,af E w v d→af (E.genB E2 os nid bk) w2 v (d.killAll (sg os bk)):=fun v d h=>h.step hst hH.sep hH.oklt
 have hrepD:∀ v d,aG E.ok w v d→aG (E.genB E2 os nid bk).ok w2 v d:=fun v d h=>h.mono hst.ok fun b hb=>hst.blk b (hH.oklt b hb) fun o ho hc=>hH.sep o b ho hc hb
 have apart:∀ q x b,E2.live q→E2.conc q = some b→x ∉ os→E.live x→E.conc x = some b→False:=by
  intro q x b h1 h2 h3 h4 h5
  rcases own q b h1 h2 with h | ⟨o,ho,h⟩
  ·have:=hH.lt x b h4 h5;omega
  ·have:=hH.inj x o b h4 (hos o ho) h5 h
   subst this;exact h3 ho
 refine ⟨hst,⟨fun x ob hx=>?_,fun x x' b h1 h2 h3 h4=>?_,fun x b h1 h2=>?_,fun x b h1 h2=>?_,fun b h=>?_⟩,hu.mpB hm,fun q h=>h.imp id fun h=>⟨h.1,h.2.1⟩⟩
 ·simp only [DJ] at hx
  rw [List.append_assoc,pe] at hx
  split at hx
  ·obtain ⟨q,b0,h1,h2,rfl⟩:=Co hx fun q q' ⟨b,hq⟩ ⟨b',hq'⟩ e=>by
    have key:∀ q,q < σ.nx→lj bk nid q = lj bk nid q:=fun _ _=>rfl
    have k1:=hk q b hq
    have k2:=hk q' b' hq'
    cases hx:dz bk q with
    | none =>
     rw [dL hx] at e
     cases hy:dz bk q' with
     | none=>rw [dL hy] at e;omega
     | some y =>
      obtain ⟨o,p⟩:=y
      rw [dA hy] at e
      have:=hos o (hb.mem q' o p (cH hy))
      rw [← e] at this
      exact (hf q (by omega) this).elim
    | some x =>
     obtain ⟨o,p⟩:=x
     rw [dA hx] at e
     cases hy:dz bk q' with
     | none =>
      rw [dL hy] at e
      have:=hos o (hb.mem q o p (cH hx))
      rw [e] at this
      exact (hf q' (by omega) this).elim
     | some y =>
      obtain ⟨o',p'⟩:=y
      rw [dA hy] at e
      subst e
      exact J8 hb.one (cH hx) (cH hy)
   obtain ⟨l1,l2⟩:=hs.heap.at_ q b0 h2
   subst h1
   exact ⟨hm.live q l1,l2.mpB hm l1 fun o ho=>hb.box q o (cH ho) b0 h2⟩
  ·next hno =>
   rw [pe] at hx
   split at hx
   ·exact (Ke _ hx).elim
   ·next hno2 =>
    rw [wa] at hx
    cases hy:ab.get H x with
    | none=>rw [hy,pV] at hx;cases hx
    | some y =>
     rw [hy] at hx
     obtain ⟨l1,l2⟩:=hH.at_ x y hy
     have hxo:x ∉ os:=by
      intro ho
      cases hbx:f8 bk x with
      | false=>exact hno2 (by simp only [cC,List.map_map];exact List.mem_map.2 ⟨x,zA.2 ⟨ho,hbx⟩,rfl⟩)
      | true =>
       obtain ⟨q,p,hmm⟩:=nQ.1 hbx
       obtain ⟨y',hy1,hy2⟩:=List.mem_map.1 (hb.key q x p hmm)
       refine hno (List.mem_map.2 ⟨_,List.mem_map.2 ⟨y',hy1,rfl⟩, ?_⟩)
       show lj bk nid y'.1 = x
       rw [hy2]
       exact dA (AC n1 hmm)
     refine ⟨.inl l1,Jf l2 hx (eO x l1 hxo) (fun b hb'=>hbase.block b (hH.lt x b l1 hb') fun hm'=>?_) hrep hrepD⟩
     obtain ⟨o,ho,h⟩:=hmb b hm'
     have:=hH.inj x o b l1 (hos o ho) hb' h
     subst this;exact hxo ho
 ·rcases wher x b h1 h3 with ⟨q,a1,a2,a3⟩ | ⟨a1,a2,a3⟩ <;> rcases wher x' b h2 h4 with ⟨q',b1,b2,b3⟩ | ⟨b1,b2,b3⟩
  ·have:=hs.heap.inj q q' b a2 b2 a3 b3
   subst this
   exact a1.symm.trans b1
  ·exact (apart q x' b a2 a3 b1 b2 b3).elim
  ·exact (apart q' x b b2 b3 a1 a2 a3).elim
  ·exact hH.inj x x' b a2 b2 a3 b3
 ·rcases wher x b h1 h2 with ⟨q,a1,a2,a3⟩ | ⟨a1,a2,a3⟩
  ·rintro (h | h)
   ·rcases own q b a2 a3 with g | ⟨o,ho,g⟩
    ·have:=hH.oklt b h;omega
    ·exact hH.sep o b (hos o ho) g h
   ·exact hs.heap.sep q b a2 a3 h
  ·rintro (h | h)
   ·exact hH.sep x b a2 a3 h
   ·rcases okold b h with g | g | ⟨o,ho,g⟩
    ·exact hH.sep x b a2 a3 g
    ·have:=hH.lt x b a2 a3;omega
    ·have:=hH.inj x o b a2 (hos o ho) a3 g
     subst this;exact a1 ho
 ·rcases wher x b h1 h2 with ⟨q,a1,a2,a3⟩ | ⟨a1,a2,a3⟩
  ·exact hs.heap.lt q b a2 a3
  ·have:=hH.lt x b a2 a3;have:=hbase.size;omega
 ·rcases h with h | h
  ·have:=hH.oklt b h;have:=hbase.size;omega
  ·exact hs.heap.oklt b h
theorem EZ:∀ (a b:List (Nat × az)) (t:Nat),au (a++b) t = match au a t with | some s=>some s | none=>au b t
 | [],b,t=>rfl
 | (t',s') :: a,b,t=>by
  rw [List.cons_append,aY,aY]
  split
  ·rfl
  ·exact EZ a b t
theorem Lq {xs:List Value} {vs:List V} {M:Nat} (hH:aw E w H) (hx:aI E w xs vs) (hv:∀ o∈V.refss vs,o∈os) (hob:∀ o∈os, ∀ b,ab.get H o = some b→F5 os b = true) (hM:∀ o∈os,o < M) (hN:vs.length≤N) (hsm:N≤1000000) :
  bd N ⟨w,E.ok,fun b=>∃ o∈os,E.conc o = some b,fun t=>xs.getD (t - 1000000) undef⟩ { tm:=iY vs 0++iY vs 1000000,hp:=m5 os H,nx:=M } { E with live:=fun o=>E.live o∧o∈os }
   { tmps:=xs.toArray++Array.replicate (N - xs.toArray.size) undef,defers:=[] } w:=by
 have hl:=hx.1
 have rep:∀ (i:Nat) (v:Value) (d:V),xs[i]? = some v→vs[i]? = some d→af { E with live:=fun o=>E.live o∧o∈os } w v d:=fun i v d h1 h2=>(hx.2 i v d h1 h2).only fun o ho=>hv o (bS h2 ho)
 refine ⟨?_,hsm,rfl,fun q hq h=>?_,⟨fun o ob h=>?_,fun o o' b h h'=>hH.inj o o' b h.1 h'.1,fun o b h=>hH.sep o b h.1,fun o b h=>hH.lt o b h.1,hH.oklt⟩,fun t s hg=>?_, .refl _ _ _,fun o b h hc=>.inr ⟨o,h.2,hc⟩,fun b h=>.inl h⟩
 ·simp;omega
 ·have:=hM q h.2
  have hq':M≤q:=hq
  omega
 ·obtain ⟨g1,g2,g3⟩:=qS os H o ob h
  obtain ⟨l1,l2⟩:=hH.at_ o ob g1
  refine ⟨⟨l1,g3⟩, ?_⟩
  have hok:=hob o g3 ob g1
  cases ob with
  | box cs =>
   obtain ⟨e1,b,Cs,t,e2,e3,e4⟩:=l2
   refine ⟨e1,b,Cs,t,e2,e3,e4.1,fun i v d hv hd=>(e4.2 i v d hv hd).only fun q hq=>?_⟩
   exact ir (List.all_eq_true.1 hok q (bS hd hq))
  | row e t l=>exact l2
  | raw x=>exact l2
  | map=>exact l2
  | iter m s0 l0 =>
   obtain ⟨e1,b,bm,s,seen,c,e2,e3,e4,e5⟩:=l2
   exact ⟨e1,b,bm,s,seen,c,e2,e3,e4,e5.only fun q hq=>ir (List.all_eq_true.1 hok q hq)⟩
 ·refine (show s.ch = []∧af { E with live:=fun o=>E.live o∧o∈os } w (cA _ _ t) s.v→jn _ _ w _ s from fun h=>⟨fun _=>h.2,fun _ hh=>by rw [h.1] at hh;simp [holds] at hh⟩) ?_
  have hg':au (iY vs 0++iY vs 1000000) t = some s:=hg
  rw [EZ] at hg'
  split at hg'
  ·next s' hs' =>
   cases hg'
   obtain ⟨v,_,h2,rfl⟩:=mh vs 0 t s hs'
   rw [Nat.sub_zero] at h2
   have hlt:t < xs.length:=by rw [hl];exact (List.getElem?_eq_some_iff.1 h2).1
   have hget:(xs.toArray++Array.replicate (N - xs.toArray.size) undef).getD t undef = xs[t]:=by
    rw [Array.getD_eq_getD_getElem?,Array.getElem?_append_left (by simpa using hlt)]
    simp [hlt]
   refine ⟨rfl, ?_⟩
   rw [jP (by omega)]
   simp only [hget]
   exact rep t _ v (List.getElem?_eq_getElem hlt) h2
  ·obtain ⟨v,h1,h2,rfl⟩:=mh vs 1000000 t s hg'
   have hlt:t - 1000000 < xs.length:=by rw [hl];exact (List.getElem?_eq_some_iff.1 h2).1
   refine ⟨rfl, ?_⟩
   unfold cA
   rw [if_neg (by omega)]
   have:xs.getD (t - 1000000) undef = xs[t - 1000000]:=by simp [List.getD_eq_getElem?_getD,hlt]
   simp only [this]
   exact rep _ _ v (List.getElem?_eq_getElem hlt) h2
theorem Ir (hs:bd N B σ E a w) {R:Nat} (hR:1000000≤R) {u:Value} {v:V} (hu:af E w u v) :
  bd N { B with gh:=fun t=>if t = R then .tuple #[u] else B.gh t } { σ with tm:=(R,⟨[], .tup [v]⟩) :: σ.tm } E a w:=by
 refine ⟨hs.size,hs.small,hs.defers,hs.live,hs.heap,fun t s ht=>?_,hs.base,hs.own,hs.okold⟩
 have ht':au ((R,(⟨[], .tup [v]⟩:az)) :: σ.tm) t = some s:=ht
 rw [aY] at ht'
 split at ht'
 ·next e =>
  subst e;cases ht'
  refine ⟨fun _=>?_,fun _ h=>by simp [holds] at h⟩
  unfold cA
  rw [if_neg (by omega)]
  simp only [if_true]
  exact .tup [u] [v] rfl fun i x d h1 h2=>by
   match i with
   | 0=>simp at h1 h2;subst h1 h2;exact hu
   | i+1=>simp at h1
 ·next hne =>
  have h0:=hs.slots t s ht'
  have e:cA { B with gh:=fun t=>if t = R then .tuple #[u] else B.gh t } a t = cA B a t:=by
   unfold cA
   split
   ·rfl
   ·simp only [if_neg (Ne.symm hne)]
  rw [e]
  refine e8 (tm:=σ.tm) (tm':=(R,(⟨[], .tup [v]⟩:az)) :: σ.tm) h0 fun x hx hb=>?_
  rw [iM] at hb
  rw [aY] at hb ⊢
  split
  ·next e=>rw [if_pos e] at hb;simp [aW] at hb
  ·rfl
end
end Go.Ax
