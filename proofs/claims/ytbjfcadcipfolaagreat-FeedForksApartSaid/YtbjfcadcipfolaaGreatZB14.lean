import Derived.Test.YtbjfcadcipfolaaGreatZB13
import Derived.Shelf.SlSortFuncK.WholeK
import Derived.Shelf.GgSortFunc.Tiny
import Derived.Deep.QuietTactic
set_option linter.all false
/- sort.Slice at a row that the closure's box names. -/
namespace Go.Ax
open Go.RowKit Go.Sort
def Ty.lits (t:Ty) (x:t.T):List Value:=(t.enc x).map s9
section
variable {P:Program} {E:ar} {w w':World} {r:aB} {H:ab} {nid:Nat}
theorem p8 (hH:aw E w H) (hf:¬ E.live nid) {o':Nat} {e:TypeId} {t:Ty} {l l':List t.T} (hg:ab.get H o' = some (.row e t l)) (hll:l'.length = l.length) (hgr:w.grownBy w' (E.conc o'))
  (hrow:∀ b C,E.conc o' = some b→w.heap[b]? = some (.cells C e (0,0))→∃ C':Array Value,w'.heap[b]? = some (.cells C' e (0,0))∧C'.size = C.size∧(∀ i j u,i < l'.length→j < t.k→C'[i*t.k+j]? = some u→u.oneCell' = true) ∧
   ∀ i j d u,i < l'.length→(els t l' i)[j]? = some d→C'[i*t.k+j]? = some u→aG E.ok w u d)
  (he:r.eff = [(o',some (.row e t l'))]) (hk:r.kill = []) {v':Value} (hv:∀ E',af E' w' v' r.val):∃ E',bU E w H nid r E' w' v':=by
 obtain ⟨hn,hlen,hob⟩:=hH.at_ _ _ hg
 have hS:cQ E w [] (E.next nid none 0 0 E.ok) w':=by
  refine ⟨hgr.os,hgr.tape,hgr.output,hgr.size,fun _ h=>.inr h,fun b' hlt hno=>hgr.block b' hlt (fun e1=>hno o' hn e1.symm),fun _ h=>h,fun _ h=>.inl h,fun q hq _=>ed hf hq,fun q b' hq h'=>?_⟩
  rcases ef hq h' with ⟨_,h1,h2⟩ | ⟨_,h2⟩
  ·exact .inl ⟨_,h1,h2⟩
  ·cases h2
 have hr:∀ v d,af E w v d→af (E.next nid none 0 0 E.ok) w' v d:=fun v d h=>fk hH hS h
 have hd:∀ v d,aG E.ok w v d→aG (E.next nid none 0 0 E.ok).ok w' v d:=fun v d h=>lA hH hS h
 have hcase:∀ q b,(E.next nid none 0 0 E.ok).live q→(E.next nid none 0 0 E.ok).conc q = some b→E.live q∧E.conc q = some b:=by
  intro q b hq h
  rcases ef hq h with ⟨_,h1,h2⟩ | ⟨_,h2⟩
  ·exact ⟨h1,h2⟩
  ·cases h2
 refine ⟨_,by rw [hk];exact hS, ?_,hv _,bA⟩
 rw [he,hk]
 refine ⟨fun q x hq=>?_,fun q q' b hq hq' h h'=>?_,fun q b hq h=>?_,fun q b' hq h=>?_,fun b' h=>by have:=hH.oklt b' h;have:=hgr.size;omega⟩
 ·rw [List.cons_append,List.nil_append,ab.get_cons] at hq
  split at hq
  ·next e1 =>
   subst e1;cases hq
   obtain ⟨c1,c2,c3⟩:=ed (c:=none) (cap:=0) (len:=0) (ok':=E.ok) hf hn
   refine ⟨.inr hn,c3.trans (hlen.trans hll.symm), ?_⟩
   rcases hob with ⟨g1,g2⟩ | ⟨b,C,g1,g2,g3,g4,g5,g6,g7,g8⟩
   ·exact .inl ⟨c1.trans g1,hll.trans g2⟩
   ·obtain ⟨C',q1,q2,q3,q4⟩:=hrow b C g1 g2
    exact .inr ⟨b,C',c1.trans g1,q1,by rw [c2,q2];exact g3,by rw [c2,hll];exact g4,by rw [c2];exact g5,fun i _=>dB _ _ _,q3,fun i j d u a b c=>hd _ _ (q4 i j d u a b c)⟩
  ·next hne =>
   obtain ⟨h1,h2⟩:=hH.at_ q x hq
   refine ⟨.inr h1,lC h2 (ed hf h1) (fun b' hb'=>hgr.block b' (hH.lt q b' h1 hb') (fun e1=>?_)) hr hd⟩
   exact hne (hH.inj _ _ _ hn h1 e1.symm hb')
 ·obtain ⟨a1,a2⟩:=hcase q b hq h
  obtain ⟨b1,b2⟩:=hcase q' b hq' h'
  exact hH.inj q q' b a1 b1 a2 b2
 ·obtain ⟨a1,a2⟩:=hcase q b hq h
  exact hH.sep q b a1 a2
 ·obtain ⟨a1,a2⟩:=hcase q b' hq h
  have:=hH.lt q b' a1 a2
  have:=hgr.size
  omega
end
section
variable {T:Type} [Inhabited T]
noncomputable def ii (lt:T→T→Bool) (l:List T):List T:=if l.length < 2 then l else (pdq lt l.toArray 0 l.toArray.size (Lib.bitLen l.toArray.size) true true).toList
theorem zJ {lt:T→T→Bool} (hO:SWO lt) (l:List T):(ii lt l).Perm l∧(ii lt l).Pairwise fun a b=>lt b a = false:=by
 unfold ii
 split
 ·next h =>
  refine ⟨.refl _, ?_⟩
  match l,h with
  | [],_=>exact .nil
  | [a],_=>exact List.pairwise_singleton _ _
  | _ :: _ :: _,h=>exact absurd h (by simp)
 ·obtain ⟨⟨p1,p2,p3⟩,p4⟩:=pdq_sorts lt hO l.toArray 0 l.toArray.size (Lib.bitLen l.toArray.size) true true (Nat.zero_le _) (Nat.le_refl _) (Or.inl rfl)
  generalize pdq lt l.toArray 0 l.toArray.size (Lib.bitLen l.toArray.size) true true = d' at *
  have e1:d'.extract 0 l.toArray.size = d':=by rw [← p1];exact Array.extract_size
  have e2:l.toArray.extract 0 l.toArray.size = l.toArray:=Array.extract_size
  rw [e1,e2] at p3
  refine ⟨by simpa using p3,List.pairwise_iff_getElem.2 fun i j hi hj hij=>?_⟩
  have hi':i < d'.size:=by simpa using hi
  have hj':j < d'.size:=by simpa using hj
  have:=p4 i j (Nat.zero_le _) hij (by rw [← p1];exact hj')
  rw [getElem!_pos d' i hi',getElem!_pos d' j hj'] at this
  simpa using this
theorem FH {lt:T→T→Bool} (hO:SWO lt) (l:List T):(ii lt l).length = l.length:=(zJ hO l).1.length_eq
def Bo (P:Program) (fS t g k:Nat) (encV:T→List Value) (lt:T→T→Bool):Prop :=
 (∀ (w:World) (lb:Array Value),ik P fS #[.iface t (.slice none 0 0), .func (.func g) #[] lb] w fun v' w'=>v' = .tuple #[]∧∃ os,w' = Sort.grow w os) ∧
 ∀ (w:World) (blk c Bs:Nat) (l:List T),l.length < 4611686018427387904→HoldsK encV k w blk 0 l.toArray→blk < w.heap.size→w.cell? ⟨Bs,0,none⟩ = some (.slice (some ⟨blk,0,none⟩) l.length c)→Bs < w.heap.size→Bs≠blk →
  ik P fS #[.iface t (.slice (some ⟨blk,0,none⟩) l.length c), .func (.func g) #[] #[.pointer (some ⟨Bs,0,none⟩)]] w fun v' w'=>v' = .tuple #[]∧∃ n os,w' = Sort.grow (putRowK encV k (Sort.ahead w n) blk 0 (ii lt l).toArray) os
theorem II (w:World) (os:Array Obj) (row:Option Nat):w.grownBy (Sort.grow w os) row:=by
 refine ⟨rfl,rfl,rfl,by simp [Sort.grow],fun q hq _=>?_⟩
 show (w.heap++os)[q]? = _
 rw [Array.getElem?_append_left hq]
theorem El {encV:T→List Value} {k:Nat} {w:World} {n blk:Nat} {d:Array T} {os:Array Obj} {C:Array Value} {t:TypeId} (h:w.heap[blk]? = some (.cells C t (0,0))) :
  (Sort.grow (putRowK encV k (Sort.ahead w n) blk 0 d) os).heap[blk]? = some (.cells (putCells id 0 (flatK encV k d) C) t (0,0))∧w.grownBy (Sort.grow (putRowK encV k (Sort.ahead w n) blk 0 d) os) (some blk):=by
 have hlt:=dP h
 have hsz:(putRowK encV k (Sort.ahead w n) blk 0 d).heap.size = w.heap.size:=by simp [putRowK,putRow,mapBlock,Sort.ahead]
 constructor
 ·show ((putRowK encV k (Sort.ahead w n) blk 0 d).heap++os)[blk]? = _
  rw [Array.getElem?_append_left (by omega)]
  show (w.heap.modify blk _)[blk]? = _
  rw [Array.getElem?_modify,if_pos rfl,h]
  rfl
 ·refine ⟨rfl,rfl,rfl,by simp [Sort.grow];omega,fun q hq hne=>?_⟩
  show ((putRowK encV k (Sort.ahead w n) blk 0 d).heap++os)[q]? = _
  rw [Array.getElem?_append_left (by omega)]
  show (w.heap.modify blk _)[q]? = _
  rw [Array.getElem?_modify,if_neg (fun e=>hne (by rw [e]))]
end
section
variable {P:Program} {ty:Ty} {t e g:Nat} {fS:FuncId} {lt:ty.T→ty.T→Bool} [i:Inhabited ty.T]
theorem JE {E:ar} {w:World} {C:Array Value} {b:Nat} {l:List ty.T} {cp:Nat} (hk0:0 < ty.k) (henc:∀ x:ty.T,ty.enc x = (ty.lits x).map .lit) (c2:w.heap[b]? = some (.cells C e (0,0))) (c3:C.size = cp*ty.k) (c4:l.length≤cp)
  (c8:∀ i j d u,i < l.length→(els ty l i)[j]? = some d→C[i*ty.k+j]? = some u→aG E.ok w u d):HoldsK ty.lits ty.k w b 0 l.toArray:=by
 have hlen:∀ x,(ty.lits x).length = ty.k:=fun x=>by rw [Ty.lits,List.length_map,kc]
 have hnk:l.length*ty.k≤C.size:=by rw [c3];exact Nat.mul_le_mul_right _ c4
 have hds:l.toArray.size = l.length:=by simp
 intro q hq
 rw [size_flatK,hds] at hq
 have hqi:q / ty.k < l.length:=Nat.div_lt_of_lt_mul (by rw [Nat.mul_comm];exact hq)
 have hqj:q % ty.k < ty.k:=Nat.mod_lt _ hk0
 refine ⟨?_,by simp [World.frozen?,c2]⟩
 rw [Nat.zero_add,cell_of_row w b q C e (0,0) c2,get_flatK _ _ _ _ (by rw [hds];exact hq)]
 obtain ⟨cv,hC⟩:∃ cv,C[q]? = some cv:=⟨_,Array.getElem?_eq_getElem (by omega)⟩
 have hd:(els ty l (q / ty.k))[q % ty.k]? = some (.lit ((ty.lits (l.toArray[q / ty.k]!))[q % ty.k]!)):=by
  have h1:l.toArray[q / ty.k]! = l.getD (q / ty.k) ty.z:=by
   rw [getElem!_pos _ _ (by rw [hds];exact hqi),List.getD_eq_getElem?_getD,List.getElem?_eq_getElem hqi];simp
  rw [d7,henc,h1,List.getElem?_map,List.getElem?_eq_getElem (by rw [hlen];exact hqj),getElem!_pos _ _ (by rw [hlen];exact hqj)]
  rfl
 have h3:=c8 (q / ty.k) (q % ty.k) _ cv hqi hd (by rw [Nat.div_add_mod'];exact hC)
 rw [hC,(af.c (E:=E) (w:=w) _ _ h3).lit_inv]
 rfl
theorem Cu {ok:Nat→Prop} {w:World} {C:Array Value} {l:List ty.T} (henc:∀ x:ty.T,ty.enc x = (ty.lits x).map .lit) (hC:l.length*ty.k≤C.size) {i j:Nat} {u:Value} (hi:i < l.length) (hj:j < ty.k) (hu:(putCells id 0 (flatK ty.lits ty.k l.toArray) C)[i*ty.k+j]? = some u) :
  ∃ d,(els ty l i)[j]? = some d∧d = .lit u:=by
 have hlen:∀ x,(ty.lits x).length = ty.k:=fun x=>by rw [Ty.lits,List.length_map,kc]
 have hds:l.toArray.size = l.length:=by simp
 have hl2:i*ty.k+j < l.length*ty.k:=by
  have:(i+1)*ty.k≤l.length*ty.k:=Nat.mul_le_mul_right _ hi
  rw [Nat.add_mul,Nat.one_mul] at this
  omega
 simp only [putCells,Array.getElem?_mapIdx] at hu
 rw [Array.getElem?_eq_getElem (show i*ty.k+j < C.size by omega),Option.map_some,if_pos ⟨Nat.zero_le _,by rw [size_flatK,hds];omega⟩] at hu
 have hu:=(Option.some.inj hu).symm
 have hu2:u = (ty.lits (l.getD i ty.z))[j]!:=by
  rw [hu]
  show (flatK ty.lits ty.k l.toArray)[i*ty.k+j - 0]! = _
  rw [Nat.sub_zero,get_flatK _ _ _ _ (by rw [hds];exact hl2),(sY hj).1,(sY hj).2,getElem!_pos _ i (by rw [hds];exact hi)]
  congr 2
  rw [List.getD_eq_getElem?_getD,List.getElem?_eq_getElem hi]
  simp
 refine ⟨_, ?_,rfl⟩
 rw [d7,henc,List.getElem?_map,List.getElem?_eq_getElem (by rw [hlen];exact hj),hu2,getElem!_pos _ _ (by rw [hlen];exact hj)]
 rfl
theorem Mt {ok:Nat→Prop} {w:World} {C:Array Value} {l:List ty.T} (henc:∀ x:ty.T,ty.enc x = (ty.lits x).map .lit) (hone:∀ x:ty.T, ∀ v∈ty.lits x,v.oneCell' = true) (hC:l.length*ty.k≤C.size) :
  (∀ i j u,i < l.length→j < ty.k→(putCells id 0 (flatK ty.lits ty.k l.toArray) C)[i*ty.k+j]? = some u→u.oneCell' = true) ∧
   ∀ i j d u,i < l.length→(els ty l i)[j]? = some d→(putCells id 0 (flatK ty.lits ty.k l.toArray) C)[i*ty.k+j]? = some u→aG ok w u d:=by
 refine ⟨fun i j u hi hj hu=>?_,fun i j d u hi hd hu=>?_⟩
 ·obtain ⟨d,h1,rfl⟩:=Cu (ok:=ok) (w:=w) henc hC hi hj hu
  rw [d7,henc,List.getElem?_map] at h1
  cases h2:(ty.lits (l.getD i ty.z))[j]? with
  | none=>rw [h2] at h1;cases h1
  | some v =>
   rw [h2] at h1
   cases h1
   exact hone _ _ (List.mem_of_getElem? h2)
 ·have hj:j < ty.k:=by rw [← dB ty l i];exact (List.getElem?_eq_some_iff.1 hd).1
  obtain ⟨d',h1,rfl⟩:=Cu (ok:=ok) (w:=w) henc hC hi hj hu
  rw [hd] at h1;cases h1
  exact .lit _
theorem y7 (hO:SWO lt) (hk0:0 < ty.k) (htlt:t < 1000000000) (hglt:Nat.blt g 1000000000 = true) (henc:∀ x:ty.T,ty.enc x = (ty.lits x).map .lit) (hone:∀ x:ty.T, ∀ v∈ty.lits x,v.oneCell' = true)
  {F:List ty.T→List ty.T} (hF:∀ l,F l = ii lt l) (hR:Bo P fS t g ty.k ty.lits lt):bq P fS (.mut (oY t g e ty F)):=by
 obtain rfl:F = ii lt:=funext hF
 intro E w H0 nid xs args r hH0 hfn hx hmc hp
 have hH:=mx hH0 (aO H0 args)
 have hres:∀ o ob,ab.get (bu (aO H0 args) H0) o = some ob→ab.get H0 o = some ob:=fun o ob h=>(nL h).1
 generalize bu (aO H0 args) H0 = H at hmc hH hres
 have hfn0:¬ E.live nid:=hfn 0 (by omega)
 unfold oY at hmc
 split at hmc
 ·next t_ o_ k_ g_ ob_ kb_ ib_ jb_ =>
  split at hmc
  ·next e_ ty' l0 o2_ k2_ hg hgb =>
   cases hb:(Nat.beq t_ (1000000000+t)&&(Nat.beq g_ g&&(Nat.beq e_ e&&(Nat.beq k_ ty.k&&(Nat.beq kb_ 1&&(Nat.beq ib_ 0&&(Nat.beq jb_ 0&&(Nat.beq o2_ o_&&Nat.beq k2_ ty.k)))))))) with
   | false=>rw [hb] at hmc;cases hmc
   | true =>
    rw [hb,cond_true] at hmc
    simp only [Bool.and_eq_true,Nat.beq_eq] at hb
    obtain ⟨rfl,rfl,rfl,rfl,rfl,rfl,rfl,rfl,rfl⟩:=hb
    split at hmc
    ·next l hl =>
     obtain ⟨rfl,hx1⟩:=jV hl
     obtain rfl:l = l0:=hx1
     cases hmc
     have hsm:l.length≤4611686018427387903:=hp _ (by simp)
     have hll:(ii lt l).length = l.length:=FH hO l
     obtain ⟨u0,u1,rfl⟩:∃ u0 u1,xs = [u0,u1]:=by
      match xs,hx.1 with
      | [u0,u1],_=>exact ⟨u0,u1,rfl⟩
     have h0:=hx.2 0 u0 _ rfl rfl
     have h1:=hx.2 1 u1 _ rfl rfl
     obtain ⟨v0,hv0,rfl⟩:∃ v0,af E w v0 (.row o2_ ty'.k)∧u0 = .iface t v0:=by
      generalize hfd:V.fn (1000000000+t) [.row o2_ ty'.k] = fd at h0
      cases h0 with
      | fn f vs ds hl h =>
       cases hfd
       match vs,hl with
       | [v0],_ =>
        refine ⟨v0,h 0 v0 _ rfl rfl, ?_⟩
        unfold lS
        have h5:Nat.blt (1000000000+t) 1000000000 = false:=by
         cases hbb:Nat.blt (1000000000+t) 1000000000 with
         | false=>rfl
         | true=>rw [Nat.blt_eq] at hbb;omega
        have h6:Nat.blt (1000000000+t) 2000000000 = true:=by rw [Nat.blt_eq];omega
        rw [h5,cond_false,h6,cond_true,Nat.add_sub_cancel_left]
        rfl
      | _=>cases hfd
     obtain ⟨v1,hv1,rfl⟩:∃ v1,af E w v1 (.ptr ob_ 1 0 0)∧u1 = .func (.func g_) #[] #[v1]:=by
      generalize hfd:V.fn g_ [.ptr ob_ 1 0 0] = fd at h1
      cases h1 with
      | fn f vs ds hl h =>
       cases hfd
       match vs,hl with
       | [v1],_=>exact ⟨v1,h 0 v1 _ rfl rfl,pW hglt _⟩
      | _=>cases hfd
     obtain ⟨hnb,hlenb,bb,Cb,tb,hcb,hhb,hrb⟩:=hH.at_ _ _ hgb
     obtain ⟨hnr,hlenr,hobr⟩:=hH.at_ _ _ hg
     obtain ⟨bb',rfl,_,hb'⟩:=sK hv1
     rw [hcb] at hb'; cases hb'
     rcases hobr with ⟨c1,c2⟩ | ⟨b,C,c1,c2,c3,c4,c5,c6,c7,c8⟩
     ·obtain ⟨a,n,c,rfl,_,hn,h⟩:=iN hv0
      have hv:Value.slice a n c = .slice none 0 0:=by
       rcases h with ⟨rfl,rfl,rfl,_⟩ | ⟨b,hb,_⟩
       ·rfl
       ·rw [c1] at hb;cases hb
      rw [hv]
      refine (hR.1 w _).mono fun v' w' hw=>?_
      obtain ⟨rfl,os,rfl⟩:=hw
      exact p8 hH0 hfn0 (hres _ _ hg) hll (II w os _) (fun b C hb=>by rw [c1] at hb;cases hb) rfl rfl (fun E'=>.tup [] [] rfl fun i v d h=>by simp at h)
     ·obtain ⟨a,n,c,rfl,_,hn,h⟩:=iN hv0
      rcases h with ⟨_,_,_,h⟩ | ⟨b',hb',rfl,rfl⟩
      ·rw [c1] at h;cases h
      rw [c1] at hb'; cases hb'
      have hn':n = l.length:=hn.trans hlenr
      subst hn'
      have hHold:=JE (e:=e_) hk0 henc c2 c3 c4 c8
      have hbne:bb≠b:=by
       intro e1
       subst e1
       have:=hH.inj _ _ _ hnb hnr hcb c1
       subst this
       rw [hg] at hgb
       cases hgb
      have hcell:w.cell? ⟨bb,0,none⟩ = some (.slice (some ⟨b,0,none⟩) l.length (E.cap o2_)):=by
       have h1:=hrb.1
       have h3:Cb.toList = [Cb.toList[0]'(by rw [h1];simp)]:=by
        match hcb2:Cb.toList,h1 with
        | [x],_=>rfl
       have hv2:=hrb.2 0 _ _ (by rw [h3];rfl) rfl
       obtain ⟨a2,n2,c2',e2,_,hn2,h2⟩:=iN hv2
       rw [cell_of_row w bb 0 Cb tb (0,0) hhb]
       have e3:Cb[0]? = some (Cb.toList[0]'(by rw [h1];simp)):=by
        rw [← Array.getElem?_toList,List.getElem?_eq_getElem]
       rw [e3,e2]
       rcases h2 with ⟨_,_,_,h2⟩ | ⟨b2,h2,rfl,rfl⟩
       ·rw [c1] at h2;cases h2
       ·rw [c1] at h2;cases h2
        rw [hn2.trans hlenr]
      have hd:=hR.2 w b _ bb l (by omega) hHold (dP c2) hcell (dP hhb) hbne
      have hpv:Value.pointer (some ⟨bb,0*1+0,none⟩) = .pointer (some ⟨bb,0,none⟩):=rfl
      refine hd.mono fun v' w' hw=>?_
      obtain ⟨rfl,nn,os,rfl⟩:=hw
      obtain ⟨hp1,hp2⟩:=El (encV:=ty'.lits) (k:=ty'.k) (n:=nn) (d:=(ii lt l).toArray) (os:=os) c2
      refine p8 hH0 hfn0 (hres _ _ hg) hll (by rw [c1];exact hp2) (fun b0 C0 hb0 hC0=>?_) rfl rfl (fun E'=>.tup [] [] rfl fun i v d h=>by simp at h)
      rw [c1] at hb0
      cases hb0
      rw [c2] at hC0
      cases hC0
      have hrg:=Mt (ok:=E.ok) (w:=w) (C:=C) (l:=ii lt l) henc hone (by rw [hll,c3];exact Nat.mul_le_mul_right _ c4)
      exact ⟨_,hp1,by simp [putCells],hrg.1,hrg.2⟩
    ·cases hmc
  ·cases hmc
 ·cases hmc
end
end Go.Ax
