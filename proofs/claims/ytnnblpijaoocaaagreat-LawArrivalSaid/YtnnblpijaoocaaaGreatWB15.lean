import Derived.Test.YtnnblpijaoocaaaGreatWB14
import Derived.Shelf.Sort.Plain
import Derived.Shelf.Slices.In.SortNone
import Derived.Shelf.Slices.CompactI
import Derived.Lib.RowBridge
set_option linter.all false
/- A library function at one own row of ints: sorted where it lies, or cut and handed back. -/
namespace Go.Ax
open Go.RowKit Go.Sort Go.Proofs
def yR (P:Program) (f:FuncId) (e:TypeId) (back:Bool) (G:List Int→List Int):Prop :=
 ∀ (w:World) (v:Value) (l:List Int),w.ownsRow 0 e 1 v l.length (l.map (Value.int .i64))→l.length < 4611686018427387904→jI P f #[v] w fun v' w' =>
  ∃ v2,v' = (bif back then v2 else .tuple #[])∧w'.ownsRow 0 e 1 v2 (G l).length ((G l).map (Value.int .i64))∧w.grownBy w' v.ownBlock∧v2.ownBlock = v.ownBlock∧(back = false→v2 = v∧(G l).length = l.length)
section
variable {P:Program} {E:an} {w w':World} {r:av} {H:ae} {nid:Nat}
theorem Cx {ok:Nat→Prop} {l:List Int} {xs:List Value} (hx:xs.length = l.length*1) (h8:∀ i j d u,i < l.length→(els (.i .i64) l i)[j]? = some d→xs[i*1+j]? = some u→aw ok w u d):xs = l.map (Value.int .i64):=by
 apply List.ext_getElem
 ·simp [hx]
 ·intro i h1 h2
  have hi:i < l.length:=by simpa using h2
  have h3:=h8 i 0 (.lit (.int .i64 (l.getD i 0))) xs[i] hi rfl (by rw [Nat.mul_one,Nat.add_zero];exact List.getElem?_eq_getElem h1)
  have h4:=(ai.c (E:=⟨fun _=>none,fun _=>0,fun _=>0,fun _=>False,ok⟩) (w:=w) _ _ h3).lit_inv
  rw [h4]
  simp [List.getD_eq_getElem?_getD,List.getElem?_eq_getElem hi]
theorem LL (hH:aq E w H) {o':Nat} {e:TypeId} {t:Ty} {l l':List t.T} (hg:ae.get H o' = some (.row e t l)) {v':Value} {xs:List Value} (hown:w'.ownsRow 0 e t.k v' l'.length xs) (hgr:w.grownBy w' (E.conc o'))
  (hbl:v'.ownBlock = E.conc o') (h7:∀ i j u,i < l'.length→j < t.k→xs[i*t.k+j]? = some u→u.oneCell' = true) (h8:∀ i j d u,i < l'.length→(els t l' i)[j]? = some d→xs[i*t.k+j]? = some u→aw E.ok w u d)
  (he:r.eff = [(o',some (.row e t l'))]) (hk:r.kill = [o']) (hv:r.val = .row o' t.k):∃ E',co E w H nid r E' w' v':=by
 have hnq:=(hH.at_ _ _ hg).1
 have hblk:∀ b,b < w.heap.size→E.conc o'≠some b→w'.heap[b]? = w.heap[b]?:=fun b hb hne=>hgr.block b hb (fun e=>hne e.symm)
 let E':an:=⟨fun q=>if q = o' then v'.ownBlock else E.conc q,fun q=>if q = o' then iA v' else E.cap q,fun q=>if q = o' then l'.length else E.len q,E.live,E.ok⟩
 have hc0:∀ q,E.live q→q≠o'→E'.conc q = E.conc q∧E'.cap q = E.cap q∧E'.len q = E.len q:=by
  intro q hq hne
  simp [E',hne]
 have hcase:∀ q b,E'.conc q = some b→E.conc q = some b:=by
  intro q b h
  by_cases e1:q = o'
  ·subst e1;simp [E'] at h;rw [← hbl];exact h
  ·simp [E',e1] at h;exact h
 have hS:dc E w [o'] E' w':=⟨hgr.os,hgr.tape,hgr.output,hgr.size,fun _ h=>h,fun b hb hno=>hblk b hb (hno o' hnq),fun _ h=>h,fun _ h=>.inl h,fun q hq hne=>hc0 q hq (by simpa using hne),fun q b hq h=>.inl ⟨q,hq,hcase q b h⟩⟩
 have hrd:∀ v d,aw E.ok w v d→aw E'.ok w' v d:=fun v d h=>h.mono (fun _ h=>h) fun b hb=>hblk b (hH.oklt b hb) fun hc=>hH.sep _ _ hnq hc hb
 have hob:=mC (E':=E') (q:=o') (l:=l') hown (by simp [E']) (by simp [E']) (by intro a m c e;simp [E',e,iA]) h7 (fun i j d u hi hd hu=>hrd _ _ (h8 i j d u hi hd hu))
 refine ⟨E',by rw [hk];exact hS, ?_,by rw [hv];exact hob.2 hnq,fun q h=>.inl h⟩
 rw [he,hk]
 refine ⟨fun q x hq=>?_,fun q q' b hq hq' h h'=>hH.inj q q' b hq hq' (hcase _ _ h) (hcase _ _ h'),fun q b hq h=>hH.sep q b hq (hcase _ _ h),fun q b hq h=>by have:=hH.lt q b hq (hcase _ _ h);have:=hgr.size;omega,fun b h=>by have:=hH.oklt b h;have:=hgr.size;omega⟩
 rw [List.cons_append,List.nil_append,ae.get_cons] at hq
 split at hq
 ·next e1=>subst e1;cases hq;exact ⟨hnq,hob.1⟩
 ·next hne =>
  rw [dL] at hq
  obtain ⟨y,hy,hq2⟩:=sU hq
  obtain ⟨h1,h2⟩:=hH.at_ q y hy
  refine ⟨h1, ?_⟩
  have hrv:∀ v d,ai E w v d→ai E' w' v (d.kill o'):=fun v d h=>h.step hS hH.sep hH.oklt
  have hqb:∀ b,E.conc q = some b→w'.heap[b]? = w.heap[b]?:=fun b hb=>hblk b (hH.lt q b h1 hb) fun hc=>hne (hH.inj _ _ _ hnq h1 hc hb)
  obtain ⟨c1,c2,c3⟩:=hc0 q h1 (fun e=>hne e.symm)
  cases y with
  | box cs =>
   cases hq2
   obtain ⟨hl,b,C,te,g1,g2,g3⟩:=h2
   refine ⟨c3.trans hl,b,C,te,c1.trans g1,(hqb b g1).trans g2,by rw [gc];exact g3.1,fun i v d hv hd=>?_⟩
   rw [j8] at hd
   cases hx':cs[i]? with
   | none=>rw [hx'] at hd;cases hd
   | some y=>rw [hx'] at hd;cases hd;exact hrv _ _ (g3.2 i v y hv hx')
  | raw x =>
   cases hq2
   obtain ⟨hl,b,g1,g2⟩:=h2
   exact ⟨c3.trans hl,b,c1.trans g1,(hqb b g1).trans g2⟩
  | map t kt vt ks vs =>
   cases hq2
   exact lS.mp h2 c1 c3 hqb hrd
  | iter m s0 l0 =>
   cases hq2
   obtain ⟨hl,b,bm,s,seen,c,g1,g2,g3,g4⟩:=h2
   exact ⟨c3.trans hl,b,bm,s,seen,c,c1.trans g1,(hqb b g1).trans g2,g3,hrv _ _ g4⟩
  | row te tt ll =>
   cases hq2
   obtain ⟨hl,hh⟩:=h2
   refine ⟨c3.trans hl, ?_⟩
   rcases hh with ⟨g1,g2⟩ | ⟨b,C,g1,g2,g3,g4,g5,g6,g7,g8⟩
   ·exact .inl ⟨c1.trans g1,g2⟩
   ·exact .inr ⟨b,C,c1.trans g1,(hqb b g1).trans g2,by rw [c2];exact g3,by rw [c2];exact g4,by rw [c2];exact g5,g6,g7,fun i j d u a b c=>hrd _ _ (g8 i j d u a b c)⟩
theorem yP {l:List Int}:(∀ i j u,i < l.length→j < (Ty.i .i64).k→(l.map (Value.int .i64))[i*(Ty.i .i64).k+j]? = some u→u.oneCell' = true) ∧
  ∀ {ok:Nat→Prop} {w:World} i j d u,i < l.length→(els (.i .i64) l i)[j]? = some d→(l.map (Value.int .i64))[i*(Ty.i .i64).k+j]? = some u→aw ok w u d:=by
 have key:∀ i j u,i < l.length→j < 1→(l.map (Value.int .i64))[i*(Ty.i .i64).k+j]? = some u→j = 0∧u = .int .i64 (l.getD i 0):=by
  intro i j u hi hj hu
  have:j = 0:=by omega
  subst this
  rw [show (Ty.i .i64).k = 1 from rfl,Nat.mul_one,Nat.add_zero,List.getElem?_map,List.getElem?_eq_getElem hi] at hu
  refine ⟨rfl, ?_⟩
  have:=Option.some.inj hu
  rw [← this,List.getD_eq_getElem?_getD,List.getElem?_eq_getElem hi];rfl
 refine ⟨fun i j u hi hj hu=>?_,fun i j d u hi hd hu=>?_⟩
 ·rw [(key i j u hi hj hu).2];rfl
 ·have hj:j < 1:=(List.getElem?_eq_some_iff.1 hd).1
  obtain ⟨rfl,rfl⟩:=key i j u hi hj hu
  have hd:some (D.lit (.int .i64 (l.getD i 0))) = some d:=hd
  cases hd
  exact .lit _
theorem JX {f:FuncId} (hR:∀ e,yR P f e false aT):aQ P f (.mut GL):=by
 intro E w H0 nid xs args r hH0 hfn hx hmc hp
 have hH:=gg hH0 (aC H0 args)
 have hres:∀ o ob,ae.get (aY (aC H0 args) H0) o = some ob→ae.get H0 o = some ob:=fun o ob h=>(kH h).1
 generalize aY (aC H0 args) H0 = H at hmc hH hres
 unfold GL at hmc
 split at hmc
 ·next o k =>
  split at hmc
  ·next e l hg =>
   cases hb:Nat.beq k 1 with
   | false=>rw [hb] at hmc;cases hmc
   | true =>
    rw [hb,cond_true] at hmc
    have:=Nat.eq_of_beq_eq_true hb
    subst this
    cases hmc
    have hsm:l.length≤1000000:=hp _ (by simp)
    obtain ⟨u0,rfl⟩:∃ u0,xs = [u0]:=by
     match xs,hx.1 with
     | [u0],_=>exact ⟨u0,rfl⟩
    have h0:ai E w u0 (.row o (Ty.i .i64).k):=hx.2 0 u0 _ rfl rfl
    obtain ⟨xs0,hown,hbl,h7,h8⟩:=zn hH hg h0
    have hxs:=Cx hown.1 h8
    subst hxs
    refine (hR e w u0 l hown (by omega)).mono fun v' w' hw=>?_
    obtain ⟨v2,rfl,h1,h2,h3,h4⟩:=hw
    obtain ⟨rfl,hll⟩:=h4 rfl
    refine kE hH0 (hfn 0 (by omega)) (hres _ _ hg) hll (by rw [← hbl];exact h2) (fun b C hb hC=>?_) rfl rfl (fun E'=>.tup [] [] rfl fun i v d h=>by simp at h)
    rcases h1.2 with ⟨hn,_⟩ | ⟨g,cap,cur,hv,_,hc,hc2,_,hc4,hc5⟩
    ·rw [hn] at hbl;rw [← hbl] at hb;cases hb
    ·rw [hv] at hbl
     have:g = b:=by rw [← hbl] at hb;cases hb;rfl
     subst this
     have hCs:C.size = cur.size:=by
      rcases hown.2 with ⟨hn,_⟩ | ⟨g',cap',cur',hv',_,hc',hc2',_,hc4',hc5'⟩
      ·rw [hn] at hv;cases hv
      ·rw [hv] at hv'
       injection hv' with e1 e2 e3
       injection e1 with e1
       injection e1 with e1
       subst e1 e3
       rw [hC] at hc'
       cases hc'
       rw [hc4,hc4']
       rfl
     have hget:∀ i j u,i < (aT l).length→j < 1→cur[i*(Ty.i .i64).k+j]? = some u→((aT l).map (Value.int .i64))[i*(Ty.i .i64).k+j]? = some u:=by
      intro i j u hi hj hu
      rw [← hc5,List.getElem?_take,if_pos (by show i*1+j < _*1;omega),Array.getElem?_toList]
      exact hu
     refine ⟨cur,hc,hCs.symm,fun i j u hi hj hu=>yP.1 i j u hi hj (hget i j u hi hj hu),fun i j d u hi hd hu=>yP.2 i j d u hi hd (hget i j u hi (List.getElem?_eq_some_iff.1 hd).1 hu)⟩
  ·cases hmc
 ·cases hmc
theorem Eo {f:FuncId} (hR:∀ e,yR P f e true bB):aQ P f (.mut uh):=by
 intro E w H0 nid xs args r hH0 hfn hx hmc hp
 have hH:=gg hH0 (aC H0 args)
 have hres:∀ o ob,ae.get (aY (aC H0 args) H0) o = some ob→ae.get H0 o = some ob:=fun o ob h=>(kH h).1
 generalize aY (aC H0 args) H0 = H at hmc hH hres
 unfold uh at hmc
 split at hmc
 ·next o k =>
  split at hmc
  ·next e l hg =>
   cases hb:Nat.beq k 1 with
   | false=>rw [hb] at hmc;cases hmc
   | true =>
    rw [hb,cond_true] at hmc
    have:=Nat.eq_of_beq_eq_true hb
    subst this
    cases hmc
    have hsm:l.length≤1000000:=hp _ (by simp)
    obtain ⟨u0,rfl⟩:∃ u0,xs = [u0]:=by
     match xs,hx.1 with
     | [u0],_=>exact ⟨u0,rfl⟩
    have h0:ai E w u0 (.row o (Ty.i .i64).k):=hx.2 0 u0 _ rfl rfl
    obtain ⟨xs0,hown,hbl,h7,h8⟩:=zn hH hg h0
    have hxs:=Cx hown.1 h8
    subst hxs
    refine (hR e w u0 l hown (by omega)).mono fun v' w' hw=>?_
    obtain ⟨v2,rfl,h1,h2,h3,_⟩:=hw
    exact LL (t:=.i .i64) hH0 (hres _ _ hg) h1 (by rw [← hbl];exact h2) (by rw [← hbl];exact h3) yP.1 yP.2 rfl rfl rfl
  ·cases hmc
 ·cases hmc
end
theorem xK (x:Int):∀ l,(DZ x l).Perm (x :: l)
 | []=>.refl _
 | y :: r=>by
  unfold DZ
  cases aa (x≤y) with
  | true=>exact .refl _
  | false=>exact ((xK x r).cons y).trans (.swap x y r)
theorem dv:∀ l,(aT l).Perm l
 | []=>.refl _
 | x :: r=>(xK x _).trans ((dv r).cons x)
theorem Ag {x:Int}:∀ {l:List Int},l.Pairwise (·≤·)→(DZ x l).Pairwise (·≤·)
 | [],_=>List.pairwise_singleton _ _
 | y :: r,h=>by
  unfold DZ
  rw [List.pairwise_cons] at h
  by_cases hxy:x≤y
  ·rw [show aa (x≤y) = true from decide_eq_true hxy,cond_true]
   exact .cons (fun z hz=>by rcases List.mem_cons.1 hz with rfl | hz;exact hxy;exact Int.le_trans hxy (h.1 z hz)) (.cons h.1 h.2)
  ·rw [show aa (x≤y) = false from decide_eq_false hxy,cond_false]
   refine .cons (fun z hz=>?_) (Ag h.2)
   rcases List.mem_cons.1 ((xK x r).mem_iff.1 hz) with rfl | hz
   ·omega
   ·exact h.1 z hz
theorem gH:∀ l,(aT l).Pairwise (·≤·)
 | []=>.nil
 | x :: r=>Ag (gH r)
theorem JK:∀ {a b:List Int},a.Perm b→a.Pairwise (·≤·)→b.Pairwise (·≤·)→a = b:=fun h h1 h2=>h.eq_of_pairwise (fun x y _ _ hx hy=>Int.le_antisymm hx hy) h1 h2
theorem w7 (l:List Int):aT l = l.mergeSort fun x y=>decide (x≤y) :=
 JK ((dv l).trans (List.mergeSort_perm l _).symm) (gH l) ((List.pairwise_mergeSort (fun a b c h1 h2=>by simp at *; omega) (fun a b=>by simp;omega) l).imp fun h=>by simpa using h)
theorem uy:∀ (l:List Int) (x y:Int),bB (l++[x,y]) = bif af x y then bB (l++[x]) else bB (l++[x])++[y]
 | [],x,y=>by
  show bB [x,y] = _
  rw [bB]
  by_cases h:x = y
  ·subst h;simp [bB,af]
  ·have:af x y = false:=by simp [af,h]
   rw [this];rfl
 | [a],x,y=>by
  have ih:=uy [] x y
  rw [List.nil_append,List.nil_append] at ih
  show bB (a :: x :: [y]) = bif af x y then bB (a :: [x]) else bB (a :: [x])++[y]
  rw [bB,ih]
  show _ = bif af x y then (bif af a x then bB [x] else a :: bB [x]) else (bif af a x then bB [x] else a :: bB [x])++[y]
  cases af x y <;> cases af a x <;> rfl
 | a :: b :: l,x,y=>by
  have ih:=uy (b :: l) x y
  show bB (a :: b :: (l++[x,y])) = bif af x y then bB (a :: b :: (l++[x])) else bB (a :: b :: (l++[x]))++[y]
  rw [bB,bB]
  rw [show b :: (l++[x,y]) = (b :: l)++[x,y] from rfl,ih]
  rw [show (b :: l)++[x] = b :: (l++[x]) from rfl]
  cases af x y <;> cases af a b <;> rfl
theorem BM {d d':Array Int}:∀ m,(∀ j,j < m→d[j]! = d'[j]!)→Lib.compactUpTo d m = Lib.compactUpTo d' m
 | 0,_=>rfl
 | m+1,h=>by
  rw [Lib.compactUpTo_succ,Lib.compactUpTo_succ,BM m fun j hj=>h j (by omega)]
  have:Lib.keeps d m = Lib.keeps d' m:=by
   unfold Lib.keeps
   rw [h m (by omega)]
   cases m with
   | zero=>rfl
   | succ m=>rw [h (m+1 - 1) (by omega)]
  rw [this,h m (by omega)]
theorem wm (l:List Int):bB l = Lib.compact l:=by
 have key:∀ (n:Nat) (l:List Int),l.length = n→bB l = Lib.compact l:=by
  intro n
  induction n with
  | zero=>intro l h;have:l = []:=List.length_eq_zero_iff.1 h;subst this;rfl
  | succ n ih =>
   intro l h
   rcases List.eq_nil_or_concat l with rfl | ⟨l0,y,rfl⟩
   ·simp at h
   ·rw [List.concat_eq_append] at h ⊢
    have h0:l0.length = n:=by simpa using h
    have e1:Lib.compact (l0++[y]) = Lib.compact l0++(if Lib.keeps (l0++[y]).toArray l0.length then [(l0++[y]).toArray[l0.length]!] else []):=by
     unfold Lib.compact
     rw [show (l0++[y]).length = l0.length+1 by simp,Lib.compactUpTo_succ]
     rw [BM (d:=(l0++[y]).toArray) (d':=l0.toArray) l0.length fun j hj=>?_]
     rw [getElem!_pos _ j (by simp;omega),getElem!_pos _ j (by simpa using hj)]
     simp [List.getElem_append_left hj]
    have e2:(l0++[y]).toArray[l0.length]! = y:=by rw [getElem!_pos _ _ (by simp)];simp
    rw [e1,e2, ← ih l0 h0]
    rcases List.eq_nil_or_concat l0 with rfl | ⟨l1,x,rfl⟩
    ·have:Lib.keeps ([]++[y]).toArray ([]:List Int).length = true:=Lib.keeps_lt_one _ _ (by simp)
     rw [this];rfl
    ·rw [List.concat_eq_append,List.append_assoc,show [x]++[y] = [x,y] from rfl,uy]
     have hk:Lib.keeps (l1++[x,y]).toArray (l1++[x]).length = !(af x y):=by
      unfold Lib.keeps
      have a1:(l1++[x,y]).toArray[(l1++[x]).length]! = y:=by rw [getElem!_pos _ _ (by simp)];simp
      have a2:(l1++[x,y]).toArray[(l1++[x]).length - 1]! = x:=by rw [getElem!_pos _ _ (by simp)];simp
      rw [a1,a2]
      by_cases hxy:x = y
      ·subst hxy;simp [af]
      ·simp [af,hxy,Ne.symm hxy]
     rw [hk]
     cases af x y <;> simp
 exact key _ l rfl
theorem su (l:List Int):(bB l).length≤l.length:=by rw [wm];exact Lib.compact_length_le l
end Go.Ax
