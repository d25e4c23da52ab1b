import Derived.Test.YtnnblpijaoocaaaGreatWB16
import Derived.Shelf.SlIterI.Nil
set_option linter.all false
/- Keys of a map, sorted: slices.Sorted(maps.Keys(m)). -/
namespace Go.Ax
open Go.RowKit Go.Shelf Go.Maps Go.Sort Go.Proofs
section
variable {P:Program} {E:an} {w w':World} {r:av} {H:ae} {nid:Nat}
theorem ye (x:Lit × DataW Unit):∀ l:List (Lit × DataW Unit),(DataW.insert x l).Perm (x :: l)
 | []=>by rw [DataW.insert]
 | y :: r=>by
  rw [DataW.insert]
  split
  ·exact .refl _
  ·exact ((ye x r).cons y).trans (.swap x y r)
theorem xh:∀ l:List (Lit × DataW Unit),(l.foldr DataW.insert []).Perm l
 | []=>.refl _
 | x :: r=>(ye x _).trans ((xh r).cons x)
theorem Gl {o:Nat} {vt:Ty} {ks:List Int} {vs:List vt.T} (h:lS E w o (.i .i64) vt ks vs) {k:TypeId} (hk:P.underlying k = some (.int .i64)) (hwf:Kb ks = true) (hsz:ks.length≤maxLen) {b:Nat} (hb:E.conc o = some b) :
  ∃ D0:DataW Unit,w.ownsMap P k (fun _=>some (.nil,[])) b ks.length D0∧(intKeys D0).Perm ks∧Maps.size D0 = ks.length:=by
 obtain ⟨_,_,b',es,clock,h3,h4,h5,h6,h7,_⟩:=h
 rw [hb] at h3;cases h3
 have hkey:∀ i (x:MapEntry),es[i]? = some x→x.key = .int .i64 (ks.getD i 0):=fun i x hx=>(h7 i x hx).1
 have hmem:∀ i (x:MapEntry),es[i]? = some x→(ks.getD i 0)∈ks:=by
  intro i x hx
  have hi:i < ks.length:=by rw [← h6];exact (Array.getElem?_eq_some_iff.1 hx).1
  rw [List.getD_eq_getElem?_getD,List.getElem?_eq_getElem hi]
  exact List.getElem_mem hi
 have hok:∀ i (x:MapEntry),es[i]? = some x→keyOf P k x.key = some (.int .i64 (ks.getD i 0)):=by
  intro i x hx
  rw [hkey i x hx]
  have:=List.all_eq_true.1 hwf _ (hmem i x hx)
  generalize ks.getD i 0 = z at this ⊢
  simp only [Bool.and_eq_true,aa,decide_eq_true_eq] at this
  have hw:(Lit.int .i64 z).wf = true :=
   by
    have h2:=this.2
    have h1:=this.1
    simp [Lit.wf,IntKind.min,IntKind.max,IntKind.signed,IntKind.bits]
    omega
  exact keyOf_int_mk hk hw
 have hrg:es.toList.map (Go.WideElems.rg P k (fun _=>some ((.nil:DataW Unit),[]))) = ks.map fun x=>(.int .i64 x, .nil):=by
  apply List.ext_getElem?
  intro i
  rw [List.getElem?_map,List.getElem?_map,Array.getElem?_toList]
  cases hx:es[i]? with
  | none =>
   have:ks.length≤i:=by rw [← h6];simpa using hx
   rw [List.getElem?_eq_none this];rfl
  | some x =>
   have hi:i < ks.length:=by rw [← h6];exact (Array.getElem?_eq_some_iff.1 hx).1
   rw [List.getElem?_eq_getElem hi]
   show some _ = some _
   have e:=hok i x hx
   rw [List.getD_eq_getElem?_getD,List.getElem?_eq_getElem hi] at e
   rw [Go.WideElems.rg_of (y:=(.int .i64 ks[i], .nil)) (by unfold Go.WideElems.rd;rw [e];rfl)]
 have hp:=xh (ks.map fun x=>((.int .i64 x:Lit),(.nil:DataW Unit)))
 refine ⟨_,⟨es,clock,h4,⟨by rw [h6];exact hsz,h5,fun x hx=>?_⟩,Nat.le_of_eq h6,rfl⟩, ?_, ?_⟩
 ·obtain ⟨i,hi⟩:=List.getElem?_of_mem hx
  rw [Array.getElem?_toList] at hi
  exact ⟨_,by unfold Go.WideElems.rd;rw [hok i x hi];rfl⟩
 ·rw [hrg]
  have:=hp.map fun p=>intOf p.1
  rw [List.map_map] at this
  have e:List.map ((fun p:Lit × DataW Unit=>intOf p.1) ∘ fun x=>(Lit.int .i64 x,(.nil:DataW Unit))) ks = ks:=by
   conv=>rhs;rw [← List.map_id ks]
   rfl
  rw [e] at this
  exact this
 ·rw [hrg]
  exact (hp.length_eq).trans (List.length_map ..)
theorem OF (hH:aq E w H) (hf:¬ E.live nid) {e:TypeId} {t:Ty} {l:List t.T} {u:Value} {ys:List Value} (hb:Below w.heap.size w w') (hown:w'.ownsRow w.heap.size e t.k u l.length ys)
  (h7:∀ i j x,i < l.length→j < t.k→ys[i*t.k+j]? = some x→x.oneCell' = true) (h8:∀ i j d x,i < l.length→(els t l i)[j]? = some d→ys[i*t.k+j]? = some x→aw (fun _=>False) w' x d)
  (he:r.eff = [(nid,some (.row e t l))]) (hk:r.kill = []) (hv:r.val = .row nid t.k):∃ E',co E w H nid r E' w' u:=by
 have hlt:=hown.lt
 have hown0:w'.ownsRow 0 e t.k u l.length ys:=⟨hown.1,hown.2.imp id fun ⟨g,cap,cur,a,_,c⟩=>⟨g,cap,cur,a,Nat.zero_le _,c⟩⟩
 let ok':Nat→Prop:=fun b=>E.ok b∨(w.heap.size≤b∧b < w'.heap.size∧u.ownBlock≠some b)
 have h1:∀ b,u.ownBlock = some b→w.heap.size≤b∧b < w'.heap.size∧¬ ok' b:=by
  intro b hb'
  obtain ⟨a1,a2⟩:=hlt b hb'
  refine ⟨a1,a2, ?_⟩
  rintro (h | ⟨_,_,h⟩)
  ·have:=hH.oklt b h;omega
  ·exact h hb'
 have h2:∀ b,ok' b→E.ok b∨w.heap.size≤b:=fun b h=>h.imp id (·.1)
 have h3:∀ b,ok' b→b < w'.heap.size:=by
  rintro b (h | h)
  ·have:=hH.oklt b h;have:=hb.size;omega
  ·exact h.2.1
 have hS:dc E w [] (E.next nid u.ownBlock (iA u) l.length ok') w':=cw hf _ _ _ ok' hb (fun b h=>(h1 b h).1) (fun _ h=>.inl h) h2
 have hN:=cI (cap:=iA u) (len:=l.length) hf hH hb h1 (fun _ h=>.inl h) h2 h3
 have hob:=mC (E':=E.next nid u.ownBlock (iA u) l.length ok') (q:=nid) hown0 (by simp [an.next]) (by simp [an.next]) (by intro a m c e;simp [an.next,e,iA]) h7
  (fun i j d x hi hd hx=>(h8 i j d x hi hd hx).mono (fun b hb'=>hb'.elim) fun _ _=>rfl)
 refine ⟨_,by rw [hk];exact hS,by rw [he,hk];exact iS (by simpa [dU] using hN) (.inl rfl) hob.1,by rw [hv];exact hob.2 (.inl rfl),bC⟩
theorem JV {f g T:Nat} (hg:Nat.blt g 1000000000 = true) (hent:∀ args w,(callFunc f args).run P w = .ok (.enter f args) w)
  (hrun:∀ (mb:Option Nat) (W:World),Calls P f #[.map mb] W fun e w'=>e = .returned (.func (.func g) #[] #[.pointer (some ⟨W.heap.size,0,none⟩)])∧w' = W.alloc (.cells #[.map mb] T)):aQ P f (.mut (GK g)):=by
 intro E w H0 nid xs args r hH0 hfn hx hmc hp
 have hfn0:¬ E.live nid:=hfn 0 (by omega)
 have hH:=gg hH0 (aC H0 args)
 generalize aY (aC H0 args) H0 = H at hmc hH
 unfold GK at hmc
 split at hmc
 ·next m =>
  split at hmc
  ·next o tm kt vt ks vs hm =>
   cases hmc
   obtain ⟨u0,rfl⟩:∃ u0,xs = [u0]:=by
    match xs,hx.1 with
    | [u0],_=>exact ⟨u0,rfl⟩
   have h0:=hx.2 0 u0 _ rfl rfl
   obtain ⟨b,rfl,hl,hc,hg'⟩:=ii hH h0 hm
   have hlen:E.len o = 1:=(hH.at_ _ _ hg').2.1
   have hmr:ai E w (.map (some b)) (Dl o):=.fn 2000000000 [.pointer (some ⟨b,0,none⟩)] [.ptr o 1 0 0] rfl fun i v d hv hd=>by
    match i,hv,hd with
    | 0,hv,hd =>
     cases hv;cases hd
     have:=ai.ptr (w:=w) o 1 0 0 b hl hc (by omega)
     simpa using this
   refine .inl ⟨hent _ _,(hrun (some b) w).mono ?_⟩
   rintro e w' ⟨rfl,rfl⟩
   refine ⟨_,rfl,_,uI (ob:=.box [Dl o]) hH0 hfn0 T #[.map (some b)] 1 1 rfl rfl (fun E' w' hok hco hca hle hh hr hd=>⟨hle,_,_,T,hco,hh,⟨rfl,fun i v d hv hd=>?_⟩⟩) fun E' w' hnx hco hca hle=>?_⟩
   ·match i,hv,hd with
    | 0,hv,hd=>cases hv;cases hd;exact hr _ _ hmr
   ·have h1:=ai.ptr (E:=E') (w:=w') nid 1 0 0 w.heap.size hnx hco (by omega)
    have h2:ai E' w' (mL g [.pointer (some ⟨w.heap.size,0,none⟩)]) (.fn g [.ptr nid 1 0 0]):=.fn g _ [.ptr nid 1 0 0] rfl fun i v d hv hd=>by
     match i,hv,hd with
     | 0,hv,hd=>cases hv;cases hd;simpa using h1
    rw [kf hg] at h2
    exact h2
  ·cases hmc
 ·cases hmc
theorem GD {f g k:Nat} {e:TypeId} (hg:Nat.blt g 1000000000 = true) (hent:∀ args w,(callFunc f args).run P w = .ok (.enter f args) w) (hk:P.underlying k = some (.int .i64))
  (hrun:∀ (W:World) (Bm b n:Nat) (D0:DataW Unit) (R:Value→Option (DataW Unit × List MemPlace)),Bm < W.heap.size→W.cell? ⟨Bm,0,none⟩ = some (.map (some b))→W.ownsMap P k R b n D0→Maps.size D0≤1000000 →
   Calls P f #[.func (.func g) #[] #[.pointer (some ⟨Bm,0,none⟩)]] W fun e' w'=>∃ (v:Value) (ss:List Int),e' = .returned v∧ss.Perm (intKeys D0) ∧
    w'.ownsRow W.heap.size e 1 v ss.length ((ss.mergeSort (fun x y=>decide (x≤y))).map encZ)∧Below W.heap.size W w'):aQ P f (.mut (yZ g e)):=by
 intro E w H0 nid xs args r hH0 hfn hx hmc hp
 have hfn0:¬ E.live nid:=hfn 0 (by omega)
 have hH:=gg hH0 (aC H0 args)
 generalize aY (aC H0 args) H0 = H at hmc hH
 unfold yZ at hmc
 split at hmc
 ·next g_ bx k_ i_ j_ =>
  cases hb:(Nat.beq g_ g&&(Nat.beq k_ 1&&(Nat.beq i_ 0&&Nat.beq j_ 0))) with
  | false=>rw [hb] at hmc;cases hmc
  | true =>
   rw [hb,cond_true] at hmc
   simp only [Bool.and_eq_true,Nat.beq_eq] at hb
   obtain ⟨rfl,rfl,rfl,rfl⟩:=hb
   split at hmc
   ·next m hgb =>
    split at hmc
    ·next o tm vt ks vs hm =>
     cases hmc
     have hwf:Kb ks = true:=hp _ (by simp)
     have hsz:ks.length≤1000000:=hp _ (by simp)
     obtain ⟨u0,rfl⟩:∃ u0,xs = [u0]:=by
      match xs,hx.1 with
      | [u0],_=>exact ⟨u0,rfl⟩
     have h0:=hx.2 0 u0 _ rfl rfl
     obtain ⟨v1,hv1,rfl⟩:∃ v1,ai E w v1 (.ptr bx 1 0 0)∧u0 = .func (.func g_) #[] #[v1]:=by
      generalize hfd:V.fn g_ [.ptr bx 1 0 0] = fd at h0
      cases h0 with
      | fn f vs ds hl h =>
       cases hfd
       match vs,hl with
       | [v1],_=>exact ⟨v1,h 0 v1 _ rfl rfl,kf hg _⟩
      | _=>cases hfd
     obtain ⟨hnb,hlenb,bb,Cb,tb,hcb,hhb,hrb⟩:=hH.at_ _ _ hgb
     obtain ⟨bb',rfl,_,hb'⟩:=pZ hv1
     rw [hcb] at hb'; cases hb'
     have hC:Cb.size = 1:=by
      have:=hrb.1
      simpa using this
     have h0':=hrb.2 0 Cb[0] m (by simp [hC]) rfl
     obtain ⟨b,e1,hl,hc,hg'⟩:=ii hH h0' hm
     obtain ⟨_,hobm⟩:=hH.at_ _ _ hg'
     obtain ⟨D0,hown,hperm,hsize⟩:=Gl (P:=P) hobm hk hwf (by unfold maxLen;omega) hc
     have hcell:w.cell? ⟨bb,0*1+0,none⟩ = some (.map (some b)):=by
      unfold World.cell?
      rw [hhb]
      simp [hC,e1]
     refine .inl ⟨hent _ _,(hrun w bb b ks.length D0 _ (dt hhb) hcell hown (by omega)).mono ?_⟩
     rintro e' w' ⟨v,ss,rfl,hss,hro,hbl⟩
     have hms:ss.mergeSort (fun x y=>decide (x≤y)) = aT ks:=by
      rw [w7]
      exact mergeSort_of_perm_i (hss.trans hperm)
     have hlen:ss.length = (aT ks).length:=by rw [← hms,List.length_mergeSort]
     rw [hms,hlen] at hro
     refine ⟨v,rfl,OF (t:=.i .i64) (l:=aT ks) hH0 hfn0 hbl hro (fun i j x hi hj hx=>?_) (fun i j d x hi hd hx=>?_) rfl rfl rfl⟩
     ·obtain ⟨y,_,rfl⟩:=List.mem_map.1 (List.mem_of_getElem? hx)
      rfl
     ·match j,hd with
      | 0,hd =>
       cases hd
       have hx:(List.map encZ (aT ks))[i*1+0]? = some x:=hx
       rw [Nat.mul_one,Nat.add_zero,List.getElem?_map] at hx
       rw [List.getElem?_eq_getElem hi] at hx
       cases hx
       have e:gD (aT ks) i (Ty.i IntKind.i64).z = (aT ks)[i]:=Rz (List.getElem?_eq_getElem hi)
       rw [e]
       exact .lit _
    ·cases hmc
   ·cases hmc
 ·cases hmc
end
end Go.Ax
