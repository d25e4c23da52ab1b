import Derived.Test.YtgamnldjlncdlaaGreatZA6
import Derived.Shelf.SlSortFuncK.WholeK
import Derived.Shelf.GgSortFunc.Tiny
set_option linter.all false
/- sort.Slice at a row that the closure's box names. -/
namespace Go.Ax
open Go.RowKit Go.Sort
section
variable {P:Program} {E:br} {w w':World} {r:cM} {H:am} {nid:Nat}
theorem GP (hH:bG E w H) (hf:¬ E.live nid) {o':Nat} {e:TypeId} {k n:Nat} {el el':Nat→List D} (hg:am.get H o' = some (.row e k n el)) (hgr:w.grownBy w' (E.conc o'))
    (hrow:∀ b C,E.conc o' = some b→w.heap[b]? = some (.cells C e (0,0))→∃ C':Array Value,w'.heap[b]? = some (.cells C' e (0,0))∧C'.size = C.size∧(∀ i j u,i < n→j < k→C'[i*k+j]? = some u→u.oneCell' = true) ∧
      ∀ i j d u,i < n→(el' i)[j]? = some d→C'[i*k+j]? = some u→cx E.ok w u d)
    (h6:∀ i,i < n→(el' i).length = k) (he:r.eff = [(o',some (.row e k n el'))]) (hk:r.kill = []) {v':Value} (hv:∀ E',aK E' w' v' r.val):∃ E',gn E w H nid r E' w' v':=by
  obtain ⟨hn,hlen,hob⟩:=hH.at_ _ _ hg
  have hS:gz E w [] (E.next nid none 0 0 E.ok) w':=by
    refine ⟨hgr.os,hgr.tape,hgr.output,hgr.size,fun _ h=>.inr h,fun b' hlt hno=>hgr.block b' hlt (fun e1=>hno o' hn e1.symm),fun _ h=>h,fun _ h=>.inl h,fun q hq _=>iF hf hq,fun q b' hq h'=>?_⟩
    rcases iH hq h' with ⟨_,h1,h2⟩ | ⟨_,h2⟩
    · exact .inl ⟨_,h1,h2⟩
    · cases h2
  have hr:∀ v d,aK E w v d→aK (E.next nid none 0 0 E.ok) w' v d:=fun v d h=>kJ hH hS h
  have hd:∀ v d,cx E.ok w v d→cx (E.next nid none 0 0 E.ok).ok w' v d:=fun v d h=>rG hH hS h
  have hcase:∀ q b,(E.next nid none 0 0 E.ok).live q→(E.next nid none 0 0 E.ok).conc q = some b→E.live q∧E.conc q = some b:=by
    intro q b hq h
    rcases iH hq h with ⟨_,h1,h2⟩ | ⟨_,h2⟩
    · exact ⟨h1,h2⟩
    · cases h2
  refine ⟨_,by rw [hk]; exact hS, ?_,hv _,eM⟩
  rw [he,hk]
  refine ⟨fun q x hq=>?_,fun q q' b hq hq' h h'=>?_,fun q b hq h=>?_,fun q b' hq h=>?_,fun b' h=>by have:=hH.oklt b' h; have:=hgr.size; omega⟩
  · rw [List.cons_append,List.nil_append,am.get_cons] at hq
    split at hq
    · next e1 =>
      subst e1; cases hq
      obtain ⟨c1,c2,c3⟩:=iF (c:=none) (cap:=0) (len:=0) (ok':=E.ok) hf hn
      refine ⟨.inr hn,c3.trans hlen, ?_⟩
      rcases hob with ⟨g1,g2⟩ | ⟨b,C,g1,g2,g3,g4,g5,g6,g7,g8⟩
      · exact .inl ⟨c1.trans g1,g2⟩
      · obtain ⟨C',q1,q2,q3,q4⟩:=hrow b C g1 g2
        exact .inr ⟨b,C',c1.trans g1,q1,by rw [c2,q2]; exact g3,by rw [c2]; exact g4,by rw [c2]; exact g5,h6,q3,fun i j d u a b c=>hd _ _ (q4 i j d u a b c)⟩
    · next hne =>
      obtain ⟨h1,h2⟩:=hH.at_ q x hq
      refine ⟨.inr h1,rm h2 (iF hf h1) (fun b' hb'=>hgr.block b' (hH.lt q b' h1 hb') (fun e1=>?_)) hr hd⟩
      exact hne (hH.inj _ _ _ hn h1 e1.symm hb')
  · obtain ⟨a1,a2⟩:=hcase q b hq h
    obtain ⟨b1,b2⟩:=hcase q' b hq' h'
    exact hH.inj q q' b a1 b1 a2 b2
  · obtain ⟨a1,a2⟩:=hcase q b hq h
    exact hH.sep q b a1 a2
  · obtain ⟨a1,a2⟩:=hcase q b' hq h
    have:=hH.lt q b' a1 a2
    have:=hgr.size
    omega
end
section
variable {σ:St}
theorem dv.nilbox (bo i o e k:Nat) (el:Nat→List D) (cs:List V) (hn:σ.nx≤o) (hg:am.get σ.hp bo = some (.box cs)) (hi:cs[i]? = some (.c .nil)):dv σ { tm:=σ.tm,hp:=(bo,some (.box (cs.set i (.row o k 0 0)))) :: (o,some (.row e k 0 el)) :: σ.hp,nx:=o+1 }:=by
  refine ⟨fun N B E a w hs=>?_⟩
  have hf:¬ E.live o:=hs.live o hn
  have hS:gz E w [] (E.next o none 0 0 E.ok) w:=gL hf none 0 0 E.ok (.refl _ _) (by simp) (fun _ h=>h) (fun _ h=>.inl h)
  have hN:bG (E.next o none 0 0 E.ok) w σ.hp:=iJ hf hs.heap (.refl _ _) (by simp) (fun _ h=>h) (fun _ h=>.inl h) hs.heap.oklt
  have hown:∀ q b,(E.next o none 0 0 E.ok).live q→(E.next o none 0 0 E.ok).conc q = some b→B.W.heap.size≤b∨B.mb b:=by
    intro q b ho h
    rcases hS.concnew q b ho h with ⟨q,h1,h2⟩ | h
    · exact hs.own q b h1 h2
    · have:=hs.base.size; exact .inl (by omega)
  have hslot:∀ q s,bv σ.tm q = some s→(holds σ.tm s.ch = true→aK (E.next o none 0 0 E.ok) w (kT B a q) s.v):=fun q s hg' h=>kJ hs.heap hS ((hs.slots q s hg').1 h)
  refine ⟨_,hs.size,hs.small,hs.defers,fun q hq=>?_,⟨fun q ob ho=>?_,hN.inj,hN.sep,hN.lt,hN.oklt⟩,fun q s hq=>⟨hslot q s hq,(hs.slots q s hq).2⟩,hs.base,hown,hs.okold⟩
  · have hq':o+1≤q:=hq
    rintro (h | h)
    · omega
    · exact hs.live q (by omega) h
  · rw [am.get_cons] at ho
    split at ho
    · next e' =>
      subst e'; cases ho
      obtain ⟨h1,h2,b,C,t,h3,h4,h5⟩:=hN.at_ _ _ hg
      refine ⟨h1,h2,b,C,t,h3,h4,by rw [List.length_set]; exact h5.1,fun j x d hx hd=>?_⟩
      rw [List.getElem?_set] at hd
      split at hd
      · next e2 =>
        subst e2
        split at hd
        · cases hd
          have:x = .slice none 0 0:=(h5.2 _ _ _ hx hi).nil_inv
          rw [this]
          exact .row o k 0 0 none 0 (.inl rfl) (Nat.le_refl _) (by simp [maxLen]) (by simp [br.next]) (fun h=>by omega) (fun _=>.inl ⟨rfl,rfl,by simp [br.next]⟩)
        · cases hd
      · exact h5.2 _ _ _ hx hd
    · rw [am.get_cons] at ho
      split at ho
      · next e'=>subst e'; cases ho; exact ⟨.inl rfl,by simp [br.next], .inl ⟨by simp [br.next],rfl⟩⟩
      · exact hN.at_ q ob ho
end
section
variable {T:Type} [Inhabited T]
noncomputable def fP (lt:T→T→Bool) (l:List T):List T:=if l.length < 2 then l else (pdq lt l.toArray 0 l.toArray.size (Lib.bitLen l.toArray.size) true true).toList
theorem JE {lt:T→T→Bool} (hO:SWO lt) (l:List T):(fP lt l).Perm l∧(fP lt l).Pairwise fun a b=>lt b a = false:=by
  unfold fP
  split
  · next h =>
    refine ⟨.refl _, ?_⟩
    match l,h with
    | [],_=>exact .nil
    | [a],_=>exact List.pairwise_singleton _ _
    | _ :: _ :: _,h=>exact absurd h (by simp)
  · obtain ⟨⟨p1,p2,p3⟩,p4⟩:=pdq_sorts lt hO l.toArray 0 l.toArray.size (Lib.bitLen l.toArray.size) true true (Nat.zero_le _) (Nat.le_refl _) (Or.inl rfl)
    generalize pdq lt l.toArray 0 l.toArray.size (Lib.bitLen l.toArray.size) true true = d' at *
    have e1:d'.extract 0 l.toArray.size = d':=by rw [← p1]; exact Array.extract_size
    have e2:l.toArray.extract 0 l.toArray.size = l.toArray:=Array.extract_size
    rw [e1,e2] at p3
    refine ⟨by simpa using p3,List.pairwise_iff_getElem.2 fun i j hi hj hij=>?_⟩
    have hi':i < d'.size:=by simpa using hi
    have hj':j < d'.size:=by simpa using hj
    have:=p4 i j (Nat.zero_le _) hij (by rw [← p1]; exact hj')
    rw [getElem!_pos d' i hi',getElem!_pos d' j hj'] at this
    simpa using this
theorem GM {lt:T→T→Bool} (hO:SWO lt) (l:List T):(fP lt l).length = l.length:=(JE hO l).1.length_eq
def LM (P:Program) (fS t g k:Nat) (encV:T→List Value) (lt:T→T→Bool):Prop :=
  (∀ (w:World) (lb:Array Value),wx P fS #[.iface t (.slice none 0 0), .func (.func g) #[] lb] w fun v' w'=>v' = .tuple #[]∧∃ os,w' = Sort.grow w os) ∧
  ∀ (w:World) (blk c Bs:Nat) (l:List T),l.length < 4611686018427387904→HoldsK encV k w blk 0 l.toArray→blk < w.heap.size→w.cell? ⟨Bs,0,none⟩ = some (.slice (some ⟨blk,0,none⟩) l.length c)→Bs < w.heap.size→Bs≠blk →
    wx P fS #[.iface t (.slice (some ⟨blk,0,none⟩) l.length c), .func (.func g) #[] #[.pointer (some ⟨Bs,0,none⟩)]] w fun v' w'=>v' = .tuple #[]∧∃ n os,w' = Sort.grow (putRowK encV k (Sort.ahead w n) blk 0 (fP lt l).toArray) os
noncomputable def Sy (enc:T→List D) (dec:List D→T) (z:T) (t e k g:Nat) (F:List T→Option (List T)):am→Nat→List V→Option cM:=fun H nid args=>match args with
  | [.fn t_ [.row o_ k_ f_ n_], .fn g_ [.ptr ob_ kb_ ib_ jb_]]=>(match am.get H o_,am.get H ob_ with
    | some (.row e_ k2_ m_ el_),some (.box [.row o2_ k3_ f2_ n2_]) =>
      bif Nat.beq t_ (1000000000+t)&&Nat.beq g_ g&&Nat.beq e_ e&&Nat.beq k2_ k&&Nat.beq k_ k&&Nat.beq f_ 0&&Nat.beq kb_ 1&&Nat.beq ib_ 0&&Nat.beq jb_ 0&&Nat.beq o2_ o_&&Nat.beq k3_ k&&Nat.beq f2_ 0 then
        some { pre:=[n_ = m_,n2_ = m_,aJ enc dec k k m_ el_,(F (lst dec m_ el_)).isSome = true],val:=.tup [],eff:=[(o_,some (.row e k ((F (lst dec m_ el_)).getD []).length (aV enc z ((F (lst dec m_ el_)).getD [])))),(ob_,some (.box [.row o_ k 0 ((F (lst dec m_ el_)).getD []).length]))],kill:=[] } else none
    | _,_=>none)
  | _=>none
theorem RB {ob:Nat} {x y:Ob} {o' nid:Nat} {w0 w':World} {E0:br} {H0:am} {val:V} {v':Value} (h:∃ E',gn E0 w0 H0 nid { pre:=[],val:=val,eff:=[(o',some y)],kill:=[] } E' w' v') (hg:am.get H0 ob = some x) (hne:o'≠ob) {pre:List Prop} :
    ∃ E',gn E0 w0 H0 nid { pre:=pre,val:=val,eff:=[(o',some y),(ob,some x)],kill:=[] } E' w' v':=by
  obtain ⟨E',h1,h2,h3,h4⟩:=h
  refine ⟨E',h1,⟨fun q z hq=>h2.at_ q z ?_,h2.inj,h2.sep,h2.lt,h2.oklt⟩,h3,h4⟩
  simp only [List.cons_append,List.nil_append,gX,am.get_cons] at hq ⊢
  by_cases e1:o' = q
  · rw [if_pos e1] at hq ⊢; exact hq
  · rw [if_neg e1] at hq ⊢
    by_cases e2:ob = q
    · rw [if_pos e2] at hq; rw [← e2,hg]; exact hq
    · rw [if_neg e2] at hq; exact hq
theorem SM (w:World) (os:Array Obj) (row:Option Nat):w.grownBy (Sort.grow w os) row:=by
  refine ⟨rfl,rfl,rfl,by simp [Sort.grow],fun q hq _=>?_⟩
  show (w.heap++os)[q]? = _
  rw [Array.getElem?_append_left hq]
theorem Ov {encV:T→List Value} {k:Nat} {w:World} {n blk:Nat} {d:Array T} {os:Array Obj} {C:Array Value} {t:TypeId} (h:w.heap[blk]? = some (.cells C t (0,0))) :
    (Sort.grow (putRowK encV k (Sort.ahead w n) blk 0 d) os).heap[blk]? = some (.cells (putCells id 0 (flatK encV k d) C) t (0,0))∧w.grownBy (Sort.grow (putRowK encV k (Sort.ahead w n) blk 0 d) os) (some blk):=by
  have hlt:=lu h
  have hsz:(putRowK encV k (Sort.ahead w n) blk 0 d).heap.size = w.heap.size:=by simp [putRowK,putRow,mapBlock,Sort.ahead]
  constructor
  · show ((putRowK encV k (Sort.ahead w n) blk 0 d).heap++os)[blk]? = _
    rw [Array.getElem?_append_left (by omega)]
    show (w.heap.modify blk _)[blk]? = _
    rw [Array.getElem?_modify,if_pos rfl,h]
    rfl
  · refine ⟨rfl,rfl,rfl,by simp [Sort.grow]; omega,fun q hq hne=>?_⟩
    show ((putRowK encV k (Sort.ahead w n) blk 0 d).heap++os)[q]? = _
    rw [Array.getElem?_append_left (by omega)]
    show (w.heap.modify blk _)[q]? = _
    rw [Array.getElem?_modify,if_neg (fun e=>hne (by rw [e]))]
theorem Qz {enc:T→List D} {dec:List D→T} {z:T} {t e k g:Nat} {F:List T→Option (List T)} {P:Program} {fS:FuncId} {encV:T→List Value} {lt:T→T→Bool} (hO:SWO lt) (hk0:0 < k) (hglt:Nat.blt g 1000000000 = true)
    (hencV:∀ x,enc x = (encV x).map .lit) (hlen:∀ x,(encV x).length = k) (hone:∀ x, ∀ v∈encV x,v.oneCell' = true) (hF:∀ l x,F l = some x→l.length < 4611686018427387904∧x = fP lt l)
    (hR:LM P fS t g k encV lt):bR P fS (.mut (Sy enc dec z t e k g F)):=by
  intro E w H0 nid xs args r hH0 hfn hx hmc hp
  have hH:=GX hH0 (dE H0 args)
  have hres:∀ o ob,am.get (eH (dE H0 args) H0) o = some ob→am.get H0 o = some ob:=fun o ob h=>(rC h).1
  generalize eH (dE H0 args) H0 = H at hmc hH hres
  unfold Sy at hmc
  split at hmc
  · next t_ o_ k_ f_ n_ g_ ob_ kb_ ib_ jb_ =>
    split at hmc
    · next e_ k2_ m_ el_ o2_ k3_ f2_ n2_ hg hgb =>
      cases hb:(Nat.beq t_ (1000000000+t)&&Nat.beq g_ g&&Nat.beq e_ e&&Nat.beq k2_ k&&Nat.beq k_ k&&Nat.beq f_ 0&&Nat.beq kb_ 1&&Nat.beq ib_ 0&&Nat.beq jb_ 0&&Nat.beq o2_ o_&&Nat.beq k3_ k&&Nat.beq f2_ 0) with
      | false=>rw [hb] at hmc; cases hmc
      | true =>
        rw [hb] at hmc
        simp only [Bool.and_eq_true,Nat.beq_eq] at hb
        obtain ⟨⟨⟨⟨⟨⟨⟨⟨⟨⟨⟨rfl,rfl⟩,rfl⟩,rfl⟩,rfl⟩,rfl⟩,rfl⟩,rfl⟩,rfl⟩,rfl⟩,rfl⟩,rfl⟩:=hb
        cases hmc
        obtain ⟨rfl,hp⟩:=ce hp
        obtain ⟨rfl,hp⟩:=ce hp
        obtain ⟨g0,hp⟩:=ce hp
        obtain ⟨gs,hp⟩:=ce hp
        obtain ⟨x,hFx⟩:=Option.isSome_iff_exists.1 gs
        obtain ⟨hsm,rfl⟩:=hF _ _ hFx
        rw [hFx,Option.getD_some]
        have hll:(fP lt (lst dec n2_ el_)).length = n2_:=by rw [GM hO,dO]
        rw [dO] at hsm
        obtain ⟨u0,u1,rfl⟩:∃ u0 u1,xs = [u0,u1]:=by
          match xs,hx.1 with
          | [u0,u1],_=>exact ⟨u0,u1,rfl⟩
        have h0:=hx.2 0 u0 _ rfl rfl
        have h1:=hx.2 1 u1 _ rfl rfl
        obtain ⟨v0,hv0,rfl⟩:∃ v0,aK E w v0 (.row o2_ k3_ 0 n2_)∧u0 = .iface t v0:=by
          generalize hfd:V.fn (1000000000+t) [.row o2_ k3_ 0 n2_] = fd at h0
          cases h0 with
          | fn f vs ds hl h =>
            cases hfd
            match vs,hl with
            | [v0],_ =>
              refine ⟨v0,h 0 v0 _ rfl rfl, ?_⟩
              unfold qp
              have:Nat.blt (1000000000+t) 1000000000 = false:=by
                cases hbb:Nat.blt (1000000000+t) 1000000000 with
                | false=>rfl
                | true=>rw [Nat.blt_eq] at hbb; omega
              rw [this,cond_false,Nat.add_sub_cancel_left]
              rfl
          | _=>cases hfd
        obtain ⟨v1,hv1,rfl⟩:∃ v1,aK E w v1 (.ptr ob_ 1 0 0)∧u1 = .func (.func g_) #[] #[v1]:=by
          generalize hfd:V.fn g_ [.ptr ob_ 1 0 0] = fd at h1
          cases h1 with
          | fn f vs ds hl h =>
            cases hfd
            match vs,hl with
            | [v1],_=>exact ⟨v1,h 0 v1 _ rfl rfl,yA hglt _⟩
          | _=>cases hfd
        obtain ⟨hnb,hlenb,bb,Cb,tb,hcb,hhb,hrb⟩:=hH.at_ _ _ hgb
        obtain ⟨hnr,hlenr,hobr⟩:=hH.at_ _ _ hg
        have hpv:v1 = .pointer (some ⟨bb,0,none⟩):=by
          obtain ⟨b',hb',e1⟩:=hv1.ptr_inv
          rw [hcb] at hb'; cases hb'
          simpa using e1
        subst hpv
        have hrv:∀ E',aK E' w (.tuple #[]) (.tup []):=fun E'=>.tup [] [] rfl fun i v d h=>by simp at h
        rcases hobr with ⟨c1,c2⟩ | ⟨b,C,c1,c2,c3,c4,c5,c6,c7,c8⟩
        ·
          have hv:v0 = .slice none 0 0:=by
            obtain ⟨a,c,rfl,h⟩:=hv0.row_inv
            rcases h with ⟨rfl,rfl,_⟩ | ⟨b,hb,_⟩
            · rw [c2]
            · rw [c1] at hb; cases hb
          subst hv
          refine (hR.1 w _).mono fun v' w' hw=>?_
          obtain ⟨rfl,os,rfl⟩:=hw
          rw [hll]
          refine RB ?_ (hres _ _ hgb) (fun e1=>by rw [← e1,hg] at hgb; cases hgb)
          refine GP hH0 hfn (hres _ _ hg) (SM w os _) (fun b C hb=>by rw [c1] at hb; cases hb) (fun i hi=>by omega) rfl rfl (fun E'=>.tup [] [] rfl fun i v d h=>by simp at h)
        · have hv:∃ c,v0 = .slice (some ⟨b,0,none⟩) n2_ c:=by
            obtain ⟨a,c,rfl,h⟩:=hv0.row_inv
            rcases h with ⟨_,_,h⟩ | ⟨b',hb',rfl,_⟩
            · rw [h] at c1; cases c1
            · rw [c1] at hb'; cases hb'; exact ⟨c,rfl⟩
          obtain ⟨c,rfl⟩:=hv
          have hnk:n2_*k3_≤C.size:=by rw [c3]; exact Nat.mul_le_mul_right _ c4
          have hlt:∀ i j,i < n2_→j < k3_→i*k3_+j < n2_*k3_:=by
            intro i j hi hj
            have:(i+1)*k3_≤n2_*k3_:=Nat.mul_le_mul_right _ hi
            rw [Nat.add_mul,Nat.one_mul] at this
            omega
          have hel:∀ i j,i < n2_→j < k3_→C[i*k3_+j]? = some ((encV (dec (el_ i)))[j]!):=by
            intro i j hi hj
            have hX:el_ i = (encV (dec (el_ i))).map .lit:=by rw [← hencV]; exact aJ.eq g0 (fun x=>by rw [hencV]; simp [D.isLit]) i hi
            generalize dec (el_ i) = X at hX
            have hej:j < (encV X).length:=by rw [hlen]; exact hj
            have hd:(el_ i)[j]? = some (.lit (encV X)[j]):=by
              rw [hX,List.getElem?_map,List.getElem?_eq_getElem hej]; rfl
            have hl2:=hlt i j hi hj
            obtain ⟨cv,hC⟩:∃ cv,C[i*k3_+j]? = some cv:=⟨_,Array.getElem?_eq_getElem (show i*k3_+j < C.size by omega)⟩
            have h3:=c8 i j _ _ hi hd hC
            have h4:=(aK.c (E:=E) (w:=w) _ _ h3).lit_inv
            rw [hC,h4,getElem!_pos (encV X) j hej]
          have hds:(lst dec n2_ el_).toArray.size = n2_:=by simp [dO]
          have hdg:∀ i,i < n2_→(lst dec n2_ el_).toArray[i]! = dec (el_ i):=by
            intro i hi
            rw [getElem!_pos _ i (by rw [hds]; exact hi)]
            simp [lst]
          have hHold:HoldsK encV k3_ w b 0 (lst dec n2_ el_).toArray:=by
            intro q hq
            rw [size_flatK,hds] at hq
            have hqi:q / k3_ < n2_:=Nat.div_lt_of_lt_mul (by rw [Nat.mul_comm]; exact hq)
            have hqj:q % k3_ < k3_:=Nat.mod_lt _ hk0
            have h1:=hel (q / k3_) (q % k3_) hqi hqj
            rw [Nat.div_add_mod'] at h1
            refine ⟨?_,by simp [World.frozen?,c2]⟩
            rw [Nat.zero_add,cell_of_row w b q C e_ (0,0) c2,get_flatK _ _ _ _ (by rw [hds]; exact hq),hdg _ hqi]
            exact h1
          have hbne:bb≠b:=by
            intro e1
            subst e1
            have:=hH.inj _ _ _ hnb hnr hcb c1
            subst this
            rw [hg] at hgb
            cases hgb
          have hcell:w.cell? ⟨bb,0,none⟩ = some (.slice (some ⟨b,0,none⟩) n2_ c):=by
            have h1:=hrb.1
            have:Cb.toList = [Cb.toList[0]'(by rw [h1]; simp)]:=by
              match hcb2:Cb.toList,h1 with
              | [x],_=>rfl
            have hv2:=hrb.2 0 _ _ (by rw [this]; rfl) rfl
            obtain ⟨a2,c2',e2,h2⟩:=hv2.row_inv
            rw [cell_of_row w bb 0 Cb tb (0,0) hhb]
            have e3:Cb[0]? = some (Cb.toList[0]'(by rw [h1]; simp)):=by
              rw [← Array.getElem?_toList,List.getElem?_eq_getElem]
            rw [e3,e2]
            obtain ⟨a3,c3',e4,h3⟩:=hv0.row_inv
            cases e4
            rcases h2 with ⟨_,_,h2⟩ | ⟨b2,h2,rfl,rfl⟩
            · rw [c1] at h2; cases h2
            · rw [c1] at h2; cases h2
              rcases h3 with ⟨h3,_⟩ | ⟨b3,h3,h4,rfl⟩
              · cases h3
              · rfl
          have hd:=hR.2 w b c bb (lst dec n2_ el_) (by rw [dO]; exact hsm) hHold (lu c2) (by rw [dO]; exact hcell) (lu hhb) hbne
          rw [dO] at hd
          refine hd.mono fun v' w' hw=>?_
          obtain ⟨rfl,nn,os,rfl⟩:=hw
          obtain ⟨hp1,hp2⟩:=Ov (encV:=encV) (k:=k3_) (n:=nn) (d:=(fP lt (lst dec n2_ el_)).toArray) (os:=os) c2
          rw [hll]
          have hss:(fP lt (lst dec n2_ el_)).toArray.size = n2_:=by simpa using hll
          have hcells:∀ i j u,i < n2_→j < k3_→(putCells id 0 (flatK encV k3_ (fP lt (lst dec n2_ el_)).toArray) C)[i*k3_+j]? = some u→u = (encV ((fP lt (lst dec n2_ el_)).getD i z))[j]!:=by
            intro i j u hi hj hu
            have hl2:=hlt i j hi hj
            simp only [putCells,Array.getElem?_mapIdx] at hu
            rw [Array.getElem?_eq_getElem (show i*k3_+j < C.size by omega),Option.map_some,if_pos ⟨Nat.zero_le _,by rw [size_flatK,hss]; omega⟩] at hu
            have hu:=(Option.some.inj hu).symm
            rw [hu]
            show (flatK encV k3_ (fP lt (lst dec n2_ el_)).toArray)[i*k3_+j - 0]! = _
            rw [Nat.sub_zero,get_flatK _ _ _ _ (by rw [hss]; exact hl2),(De hj).1,(De hj).2,getElem!_pos _ i (by rw [hss]; exact hi)]
            congr 2
            rw [List.getD_eq_getElem?_getD,List.getElem?_eq_getElem (by rw [hll]; exact hi)]
            simp
          refine RB ?_ (hres _ _ hgb) (fun e1=>by rw [← e1,hg] at hgb; cases hgb)
          refine GP hH0 hfn (hres _ _ hg) (by rw [c1]; exact hp2) (fun b0 C0 hb0 hC0=>?_) (fun i hi=>by rw [aV,hencV,List.length_map,hlen]) rfl rfl (fun E'=>.tup [] [] rfl fun i v d h=>by simp at h)
          rw [c1] at hb0
          cases hb0
          rw [c2] at hC0
          cases hC0
          refine ⟨_,hp1,by simp [putCells],fun i j u hi hj hu=>?_,fun i j d u hi hd hu=>?_⟩
          · rw [hcells i j u hi hj hu,getElem!_pos _ j (by rw [hlen]; exact hj)]
            exact hone _ _ (List.getElem_mem _)
          · have hj:j < k3_:=by
              have:=(List.getElem?_eq_some_iff.1 hd).1
              rw [aV,hencV,List.length_map,hlen] at this; exact this
            rw [aV,hencV,List.getElem?_map,List.getElem?_eq_getElem (by rw [hlen]; exact hj)] at hd
            cases hd
            rw [hcells i j u hi hj hu,getElem!_pos _ j (by rw [hlen]; exact hj)]
            exact .lit _
    · cases hmc
  · cases hmc
end
end Go.Ax
