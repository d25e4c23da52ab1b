import Derived.Test.YtbjfcadcipfolaaGreatYB16
import Derived.Shelf.SlSortCmp.WholeK
import Derived.Shelf.SlSortCmp.NoneTotal
set_option linter.all false
/- slices.SortFunc at a row of structs. -/
namespace Go.Ax
open Go.RowKit Go.Sort Go.Proofs
section
variable {T:Type} [Inhabited T]
noncomputable def mK (lt:T→T→Bool) (l:List T):List T:=(pdq lt l.toArray 0 l.toArray.size (Lib.bitLen l.toArray.size) true true).toList
theorem Dc {lt:T→T→Bool} (hO:SWO lt) (l:List T):(mK lt l).Perm l∧(mK lt l).Pairwise fun a b=>lt b a = false:=by
 unfold mK
 obtain ⟨⟨p1,p2,p3⟩,p4⟩:=pdq_sorts lt hO l.toArray 0 l.toArray.size (Lib.bitLen l.toArray.size) true true (Nat.zero_le _) (Nat.le_refl _) (Or.inl rfl)
 generalize pdq lt l.toArray 0 l.toArray.size (Lib.bitLen l.toArray.size) true true = d' at *
 have e1:d'.extract 0 l.toArray.size = d':=by rw [← p1];exact Array.extract_size
 have e2:l.toArray.extract 0 l.toArray.size = l.toArray:=Array.extract_size
 rw [e1,e2] at p3
 refine ⟨by simpa using p3,List.pairwise_iff_getElem.2 fun i j hi hj hij=>?_⟩
 have hi':i < d'.size:=by simpa using hi
 have hj':j < d'.size:=by simpa using hj
 have:=p4 i j (Nat.zero_le _) hij (by rw [← p1];exact hj')
 rw [getElem!_pos d' i hi',getElem!_pos d' j hj'] at this
 simpa using this
theorem Jm {lt:T→T→Bool} (hO:SWO lt) (l:List T):(mK lt l).length = l.length:=(Dc hO l).1.length_eq
def zL (P:Program) (fS g k:Nat) (encV:T→List Value) (lt:T→T→Bool):Prop :=
 (∀ (w:World) (fv:Value),i7 P fS #[.slice none 0 0,fv] w fun v' w'=>v' = .tuple #[]∧w' = w) ∧
 ∀ (w:World) (blk c:Nat) (l:List T),l.length < 4611686018427387904→HoldsK encV k w blk 0 l.toArray→blk < w.heap.size →
  i7 P fS #[.slice (some ⟨blk,0,none⟩) l.length c, .func (.func g) #[] #[]] w fun v' w'=>v' = .tuple #[]∧∃ n os,w' = Sort.grow (putRowK encV k (Sort.ahead w n) blk 0 (mK lt l).toArray) os
end
def Am (g:Nat) (e:TypeId) (ty:Ty) (F:List ty.T→List ty.T) (H:ae) (_:Nat) (args:List V):Option aH :=
 match args with
 | [.c .nil, .fn ..]=>some { val:=.tup [] }
 | [.row o k, .fn g_ []]=>(match ae.get H o with
  | some (.row e' ty' l)=>bif Nat.beq g_ g&&(Nat.beq e' e&&Nat.beq k ty.k) then
    (match lu ty' ty l with
    | some l=>some { pre:=[l.length≤4611686018427387903],val:=.tup [],eff:=[(o,some (.row e ty (F l)))] }
    | none=>none) else none
  | _=>none)
 | _=>none
section
variable {P:Program} {ty:Ty} {e g:Nat} {fS:FuncId} {lt:ty.T→ty.T→Bool} [i:Inhabited ty.T]
theorem Jh (hO:SWO lt) (hk0:0 < ty.k) (hglt:Nat.blt g 1000000000 = true) (henc:∀ x:ty.T,ty.enc x = (ty.lits x).map .lit) (hone:∀ x:ty.T, ∀ v∈ty.lits x,v.oneCell' = true)
  {F:List ty.T→List ty.T} (hF:∀ l,F l = mK lt l) (hR:zL P fS g ty.k ty.lits lt):bz P fS (.mut (Am g e ty F)):=by
 obtain rfl:F = mK lt:=funext hF
 intro E w H0 nid xs args r hH0 hfn hx hmc hp
 have hH:=oE hH0 (aR H0 args)
 have hres:∀ o ob,ae.get (bB (aR H0 args) H0) o = some ob→ae.get H0 o = some ob:=fun o ob h=>(nr h).1
 generalize bB (aR H0 args) H0 = H at hmc hH hres
 have hfn0:¬ E.live nid:=hfn 0 (by omega)
 unfold Am at hmc
 split at hmc
 ·next g_ vs_ =>
  cases hmc
  obtain ⟨u0,u1,rfl⟩:∃ u0 u1,xs = [u0,u1]:=by
   match xs,hx.1 with
   | [u0,u1],_=>exact ⟨u0,u1,rfl⟩
  have e0:u0 = .slice none 0 0:=by
   have:=hx.2 0 u0 _ rfl rfl
   cases this with
   | c _ _ h=>cases h;rfl
  subst e0
  refine (hR.1 w u1).mono fun v' w' hw=>?_
  obtain ⟨rfl,rfl⟩:=hw
  have hS:dn E w' [] (E.next nid none 0 0 E.ok) w':=cH hfn0 none 0 0 E.ok (.refl _ _) (by simp) (fun _ h=>h) (fun _ h=>.inl h)
  exact ⟨_,hS,cY hfn0 hH0 (.refl _ _) (by simp) (fun _ h=>h) (fun _ h=>.inl h) hH0.oklt, .tup [] [] rfl (fun i v d h=>by simp at h),bG⟩
 ·next o_ k_ g_ =>
  split at hmc
  ·next e_ ty' l0 hg =>
   cases hb:(Nat.beq g_ g&&(Nat.beq e_ e&&Nat.beq k_ ty.k)) with
   | false=>rw [hb] at hmc;cases hmc
   | true =>
    rw [hb,cond_true] at hmc
    simp only [Bool.and_eq_true,Nat.beq_eq] at hb
    obtain ⟨rfl,rfl,rfl⟩:=hb
    split at hmc
    ·next l hl =>
     obtain ⟨rfl,hx1⟩:=jF hl
     obtain rfl:l = l0:=hx1
     cases hmc
     have hsm:l.length≤4611686018427387903:=hp _ (by simp)
     have hll:(mK lt l).length = l.length:=Jm hO l
     obtain ⟨u0,u1,rfl⟩:∃ u0 u1,xs = [u0,u1]:=by
      match xs,hx.1 with
      | [u0,u1],_=>exact ⟨u0,u1,rfl⟩
     have hv0:=hx.2 0 u0 _ rfl rfl
     have h1:=hx.2 1 u1 _ rfl rfl
     have e1:u1 = .func (.func g_) #[] #[]:=by
      generalize hfd:V.fn g_ [] = fd at h1
      cases h1 with
      | fn f vs ds hl h =>
       cases hfd
       match vs,hl with
       | [],_=>exact oX hglt _
      | _=>cases hfd
     subst e1
     obtain ⟨hnr,hlenr,hobr⟩:=hH.at_ _ _ hg
     obtain ⟨a,n,c,rfl,_,hn,h⟩:=je hv0
     rcases hobr with ⟨c1,c2⟩ | ⟨b,C,c1,c2,c3,c4,c5,c6,c7,c8⟩
     ·have hv:Value.slice a n c = .slice none 0 0:=by
       rcases h with ⟨rfl,rfl,rfl,_⟩ | ⟨b,hb,_⟩
       ·rfl
       ·rw [c1] at hb;cases hb
      rw [hv]
      have hl0:l = []:=List.length_eq_zero_iff.1 c2
      refine (hR.1 w _).mono fun v' w' hw=>?_
      obtain ⟨rfl,rfl⟩:=hw
      exact kY hH0 hfn0 (hres _ _ hg) hll ⟨rfl,rfl,rfl,Nat.le_refl _,fun _ _ _=>rfl⟩ (fun b C hb=>by rw [c1] at hb;cases hb) rfl rfl (fun E'=>.tup [] [] rfl fun i v d h=>by simp at h)
     ·rcases h with ⟨_,_,_,h⟩ | ⟨b',hb',rfl,rfl⟩
      ·rw [c1] at h;cases h
      rw [c1] at hb'; cases hb'
      have hn':n = l.length:=hn.trans hlenr
      subst hn'
      have hHold:=Gd (e:=e_) hk0 henc c2 c3 c4 c8
      refine (hR.2 w b _ l (by omega) hHold (fa c2)).mono fun v' w' hw=>?_
      obtain ⟨rfl,nn,os,rfl⟩:=hw
      obtain ⟨hp1,hp2⟩:=y0 (encV:=ty'.lits) (k:=ty'.k) (n:=nn) (d:=(mK lt l).toArray) (os:=os) c2
      refine kY hH0 hfn0 (hres _ _ hg) hll (by rw [c1];exact hp2) (fun b0 C0 hb0 hC0=>?_) rfl rfl (fun E'=>.tup [] [] rfl fun i v d h=>by simp at h)
      rw [c1] at hb0
      cases hb0
      rw [c2] at hC0
      cases hC0
      have hrg:=KU (ok:=E.ok) (w:=w) (C:=C) (l:=mK lt l) henc hone (by rw [hll,c3];exact Nat.mul_le_mul_right _ c4)
      exact ⟨_,hp1,by simp [putCells],hrg.1,hrg.2⟩
    ·cases hmc
  ·cases hmc
 ·cases hmc
end
theorem I9 {P:Program} {ρ:Go.Shelf.Ren} {T:Type} [Inhabited T] {enc:T→List Value} {k g:Nat} {cf:T→T→Int} (L:SlLaysF0.n6 P ρ) {f:Nat} (hf:f = ρ.f 6) (eS:∀ args w,(callFunc f args).run P w = .ok (.enter f args) w) (aE:∀ w,(isAgg (ρ.t 24)).run P w = .ok true w) (zE:∀ w,(Go.sizeOf (ρ.t 24)).run P w = .ok k w)
  (hk:∀ x,(enc x).length = k) (h1:∀ x, ∀ v∈enc x,v.oneCell' = true) (hO:SWO (ltOf cf)) (eg:∀ args w,(callFunc g args).run P w = .ok (.enter g args) w)
  (hcmp:∀ (W:World) (x y:T),Calls P g #[.agg (enc x).toArray, .agg (enc y).toArray] W fun e w'=>e = .returned (.int .i64 (cf x y))∧∃ q os',w' = Sort.grow (W.drewN q) os'):zL P f g k enc (ltOf cf):=by
 subst hf
 constructor
 ·intro w fv
  refine .inl ⟨eS _ _,(AnyF.slices_SortFunc_none L none 0 fv w).mono ?_⟩
  rintro e w' ⟨rfl,rfl⟩
  exact ⟨_,rfl,rfl,rfl⟩
 ·intro w blk c l hl hH hb
  refine .inl ⟨eS _ _, ?_⟩
  have:=AnyQ.slices_SortFunc_eq L k aE zE enc hk h1 cf hO g #[] blk 0 c l.toArray w eg (fun m os dk hs x y=>hcmp _ x y) hH hb (by simpa using hl)
  simp only [List.size_toArray] at this
  refine this.mono ?_
  rintro e w' ⟨rfl,n,os,rfl⟩
  exact ⟨_,rfl,rfl,n,os,by unfold mK;simp [Go.Proofs.sortWorldK]⟩
end Go.Ax
