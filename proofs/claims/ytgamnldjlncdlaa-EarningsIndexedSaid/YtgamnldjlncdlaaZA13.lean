import Derived.Test.YtgamnldjlncdlaaZA12
set_option linter.all false
/- Own rows that become data: in a state, and at a call. -/
namespace Go.Ax
open Go.RowKit
section
variable {P : Program} {σ : St} {E : bj} {w : World} {H : ay}
def NY (o : Nat) (el : Nat → List D) (k : Nat) : Option Ob → Option Ob
  | some (.box cs) => some (.box (V.fzs o el k cs))
  | b => b
def Fb (o : Nat) (el : Nat → List D) (k : Nat) : ay → ay
  | [] => []
  | x :: r => (x.1,NY o el k x.2) :: Fb o el k r
def Dt (o : Nat) (el : Nat → List D) (k : Nat) : List (Nat × bu) → List (Nat × bu)
  | [] => []
  | x :: r => (x.1,⟨x.2.ch,V.fz o el k x.2.v⟩) :: Dt o el k r
theorem Dn (o : Nat) (el : Nat → List D) (k : Nat) : ∀ (H : ay) (q : Nat),ay.get (Fb o el k H) q = NY o el k (ay.get H q)
  | [],q => rfl
  | (p,b) :: H,q => by
    have ih := Dn o el k H q
    rw [Fb,ay.get_cons,ay.get_cons]
    split
    · rfl
    · exact ih
theorem wW (o : Nat) (el : Nat → List D) (k : Nat) : ∀ (tm : List (Nat × bu)) (t : Nat),bq (Dt o el k tm) t = (bq tm t).map fun s => ⟨s.ch,V.fz o el k s.v⟩
  | [],t => rfl
  | (q,s) :: r,t => by
    rw [Dt,cI,cI]
    split
    · rfl
    · exact wW o el k r t
theorem Kk {o : Nat} {el : Nat → List D} {k : Nat} {v : V} {b : Bool} (h : V.fz o el k v = .c (.lit (.bool b))) : v = .c (.lit (.bool b)) := by
  cases v with
  | c d => exact h
  | agg vs => simp [V.fz] at h
  | tup vs => simp [V.fz] at h
  | ptr o' k' i j => rw [V.fz] at h; cases hb : Nat.beq o' o <;> rw [hb] at h <;> simp at h
  | row o' k' i j =>
    rw [V.fz] at h
    cases hb : Nat.beq o' o with
    | false => rw [hb] at h; simp at h
    | true =>
      rw [hb,cond_true] at h
      cases hk : Nat.beq k k' <;> rw [hk] at h <;> simp at h
  | dptr k' cs j => simp [V.fz] at h
  | fn f vs => simp [V.fz] at h
theorem Fs (o : Nat) (el : Nat → List D) (k : Nat) (s : Option bu) : cu (s.map fun s => ⟨s.ch,V.fz o el k s.v⟩) = cu s := by
  cases s with
  | none => rfl
  | some s =>
    obtain ⟨ch,v⟩ := s
    cases hb : cu (some ⟨ch,v⟩) with
    | some b =>
      obtain ⟨ch',e⟩ := kF hb
      cases e
      rfl
    | none =>
      cases hb2 : cu (Option.map (fun s : bu => (⟨s.ch,V.fz o el k s.v⟩ : bu)) (some ⟨ch,v⟩)) with
      | none => rfl
      | some b =>
        obtain ⟨ch',e⟩ := kF hb2
        simp only [Option.map_some,Option.some.injEq,bu.mk.injEq] at e
        have := Kk e.2
        subst this
        simp [cu] at hb
theorem HM {o : Nat} (hH : bv E w H) {e : TypeId} {k n : Nat} {el : Nat → List D} (hg : H.get o = some (.row e k n el)) : bv (E.fz o) w ((o,some (.row e k 0 el)) :: Fb o el k H) := by
  have h0 := y5 hH hg
  refine ⟨fun q ob hq => ?_,h0.inj,h0.sep,h0.lt,h0.oklt⟩
  rw [ay.get_cons] at hq
  split at hq
  · next e1 => subst e1; cases hq; exact h0.at_ _ _ (by rw [ay.get_cons,if_pos rfl])
  · next hne =>
    rw [Dn] at hq
    cases hy : ay.get H q with
    | none => rw [hy] at hq; cases hq
    | some y =>
      rw [hy] at hq
      cases y with
      | row t k' n' el' => cases hq; exact h0.at_ q _ (by rw [ay.get_cons,if_neg hne,fw,hy]; rfl)
      | raw x => cases hq; exact h0.at_ q _ (by rw [ay.get_cons,if_neg hne,fw,hy]; rfl)
      | box cs =>
        cases hq
        obtain ⟨h1,h2,b,C,t,h3,h4,h5⟩ := hH.at_ q _ hy
        obtain ⟨c1,c2,c3⟩ := vN (E := E) (fun e => hne e.symm : q ≠ o)
        refine ⟨h1,c3.trans h2,b,C,t,c1.trans h3,h4,by rw [iW]; exact h5.1,fun i v d hv hd => ?_⟩
        rw [mB] at hd
        cases hx : cs[i]? with
        | none => rw [hx] at hd; cases hd
        | some y => rw [hx] at hd; cases hd; exact xu hH hg (h5.2 i v y hv hx)
theorem dt.fz (o e k n : Nat) (el : Nat → List D) (hg : ay.get σ.hp o = some (.row e k n el)) : dt σ { tm := Dt o el k σ.tm,hp := (o,some (.row e k 0 el)) :: Fb o el k σ.hp,nx := σ.nx } := by
  refine ⟨fun N B E a w hs => ⟨E.fz o,hs.size,hs.small,hs.defers,hs.live,HM hs.heap hg,fun t s ht => ?_,hs.base,fun q b hq hb => hs.own q b hq (lC hb).2,fun b hb => ?_⟩⟩
  · have ht' : bq (Dt o el k σ.tm) t = some s := ht
    rw [wW] at ht'
    cases hx : bq σ.tm t with
    | none => rw [hx] at ht'; cases ht'
    | some s0 =>
      rw [hx] at ht'; cases ht'
      have h0 := hs.slots t s0 hx
      have h1 : kL σ.tm (E.fz o) w (ia B a t) ⟨s0.ch,V.fz o el k s0.v⟩ := ⟨fun hh => xu hs.heap hg (h0.1 hh),h0.2⟩
      exact gQ (tm := σ.tm) h1 fun x _ _ => by
        show cu (bq (Dt o el k σ.tm) x.1) = _
        rw [wW,Fs]
  · rcases hb with h | h
    · exact hs.okold b h
    · exact .inr (hs.own o b (hs.heap.at_ o _ hg).1 h)
mutual
theorem fz_refs (o : Nat) (el : Nat → List D) (k : Nat) : ∀ d : V, ∀ x ∈ (d.fz o el k).refs,x ∈ d.refs
  | .c _,x,h => by simp [V.fz,V.refs] at h
  | .agg vs,x,h => by rw [V.fz,V.refs] at h; rw [V.refs]; exact fzs_refs o el k vs x h
  | .tup vs,x,h => by rw [V.fz,V.refs] at h; rw [V.refs]; exact fzs_refs o el k vs x h
  | .ptr o' k' i j,x,h => by
    rw [V.fz] at h
    cases hb : Nat.beq o' o with
    | false => rw [hb,cond_false] at h; exact h
    | true => rw [hb,cond_true] at h; simp [V.refs] at h
  | .row o' k' i j,x,h => by
    rw [V.fz] at h
    cases hb : Nat.beq o' o with
    | false => rw [hb,cond_false] at h; exact h
    | true =>
      rw [hb,cond_true] at h
      cases hk : Nat.beq k k' <;> rw [hk] at h <;> simp [V.refs] at h
  | .dptr ..,x,h => by rw [V.fz] at h; exact h
  | .fn _ vs,x,h => by rw [V.fz,V.refs] at h; rw [V.refs]; exact fzs_refs o el k vs x h
theorem fzs_refs (o : Nat) (el : Nat → List D) (k : Nat) : ∀ vs : List V, ∀ x ∈ V.refss (V.fzs o el k vs),x ∈ V.refss vs
  | [],x,h => by simp [V.fzs,V.refss] at h
  | v :: r,x,h => by
    rw [V.fzs,V.refss,List.mem_append] at h
    rw [V.refss,List.mem_append]
    exact h.imp (fz_refs o el k v x) (fzs_refs o el k r x)
end
def uS : List Bool → List V → List Nat
  | _,[] => []
  | b :: fl,v :: r => (bif b then [] else v.refs) ++ uS fl r
  | [],v :: r => v.refs ++ uS [] r
theorem vC : ∀ (fl : List Bool) (vs : List V), ∀ x ∈ uS fl vs,x ∈ V.refss vs
  | _,[],x,h => by cases ‹List Bool› <;> simp [uS] at h
  | true :: fl,v :: r,x,h => by
    rw [uS,cond_true,List.nil_append] at h
    rw [V.refss,List.mem_append]
    exact .inr (vC fl r x h)
  | false :: fl,v :: r,x,h => by
    rw [uS,cond_false,List.mem_append] at h
    rw [V.refss,List.mem_append]
    exact h.imp id (vC fl r x)
  | [],v :: r,x,h => by
    rw [uS,List.mem_append] at h
    rw [V.refss,List.mem_append]
    exact h.imp id (vC [] r x)
def mF (m : ay → Nat → List V → Option cE) (nid : Nat) : List Nat → ay → List V → Option cE
  | [],H,vs => m (dL (dg H vs) H) nid vs
  | o :: fl,H,vs => match H.get o with
    | some (.row e k _ el) => (mF m nid fl ((o,some (.row e k 0 el)) :: fp [o] H) (V.fzs o el k vs)).map fun r => { r with eff := r.eff ++ [(o,some (.row e k 0 el))],kill := o :: r.kill }
    | _ => none
def Gs (fl : List Bool) (m : ay → Nat → List V → Option cE) : ay → Nat → List V → Option cE := fun H nid args => mF m nid (uS fl args) H args
theorem pl {H : ay} : ∀ {os : List Nat} {o : Nat},o ∈ os → ay.get (dL os H) o = ay.get H o
  | [],o,h => by simp at h
  | q :: r,o,h => by
    unfold dL
    by_cases e : q = o
    · subst e
      cases hq : ay.get H q with
      | some b => rw [ay.get_cons,if_pos rfl]
      | none =>
        by_cases hr : q ∈ r
        · exact (pl hr).trans hq
        · exact restr_none r hq
    · have hr : o ∈ r := (List.mem_cons.1 h).resolve_left fun e' => e e'.symm
      split
      · rw [ay.get_cons,if_neg e]; exact pl hr
      · exact pl hr
where restr_none {q : Nat} : ∀ (r : List Nat),ay.get H q = none → ay.get (dL r H) q = none
  | [],_ => rfl
  | p :: r,h => by
    unfold dL
    split
    · next b hb =>
      rw [ay.get_cons]
      split
      · next e => subst e; rw [h] at hb; cases hb
      · exact restr_none r h
    · exact restr_none r h
theorem xT {m : ay → Nat → List V → Option cE} {nid : Nat} : ∀ (fl : List Nat) (H H' : ay) (vs : List V),hY H H' (V.refss vs) → (∀ o ∈ fl,H.get o = H'.get o) → mF m nid fl H vs = mF m nid fl H' vs
  | [],H,H',vs,h,_ => by
    rw [mF,mF,kP h,rf _ fun o ho => zR h (by rw [kP h]; exact ho)]
  | q :: fl,H,H',vs,h,hf => by
    rw [mF,mF, ← hf q (by simp)]
    split
    · next e k n el hq =>
      have key : ∀ p,H.get p = H'.get p → ay.get ((q,some (.row e k 0 el)) :: fp [q] H) p = ay.get ((q,some (.row e k 0 el)) :: fp [q] H') p := fun p hp => by
        rw [ay.get_cons,ay.get_cons,fw,fw,hp]
      refine congrArg _ (xT fl _ _ _ ⟨fun p hp => key p (h.one p (fzs_refs _ _ _ _ p hp)),fun p hp cs hcs x hx => ?_⟩ fun p hp => key p (hf p (by simp [hp])))
      rw [ay.get_cons] at hcs
      split at hcs
      · cases hcs
      · rw [fw] at hcs
        obtain ⟨y,hy,hky⟩ := rd hcs
        cases y with
        | box cs0 =>
          cases hky
          exact key x (h.two p (fzs_refs _ _ _ _ p hp) cs0 hy x (kills_refs _ _ x hx).1)
        | row t k' n' el' => cases hky
        | raw z => cases hky
    · rfl
theorem Do {f : FuncId} {m : ay → Nat → List V → Option cE} (h : bR P f (.mut m)) {nid : Nat} {xs : List Value} : ∀ (fl : List Nat) (E : bj) (H : ay) (vs : List V) (r : cE),bv E w H → ¬ E.live nid → ca E w xs vs → mF m nid fl H vs = some r → (∀ p ∈ r.pre,p) →
    qW P f xs.toArray w fun v w' => ∃ E',fh E w H nid r E' w' v
  | [],E,H,vs,r,hH,hf,hv,hr,hp => h E w H nid xs vs r hH hf hv hr hp
  | q :: fl,E,H,vs,r,hH,hf,hv,hr,hp => by
    rw [mF] at hr
    split at hr
    · next e k n el hg =>
      have hq := (hH.at_ q _ hg).1
      cases hb : mF m nid fl ((q,some (.row e k 0 el)) :: fp [q] H) (V.fzs q el k vs) with
      | none => rw [hb] at hr; cases hr
      | some r0 =>
        rw [hb] at hr; cases hr
        refine qW.mono (Do h fl (E.fz q) _ _ r0 (y5 hH hg) hf ⟨by rw [iW]; exact hv.1,fun i v d hi hd => by
          rw [mB] at hd
          cases hx : vs[i]? with
          | none => rw [hx] at hd; cases hd
          | some x => rw [hx] at hd; cases hd; exact xu hH hg (hv.2 i v x hi hx)⟩ hb hp) fun v w' h2 => ?_
        obtain ⟨E',h2⟩ := h2
        refine ⟨E',(zF hq).trans1 h2.st (fun _ h => h) (fun _ _ h => (lC h).2), ?_,h2.val,h2.live⟩
        have h3 := h2.heap
        rw [rQ] at h3
        rw [List.append_assoc]
        exact h3
    · cases hr
theorem yx {f : FuncId} {m : ay → Nat → List V → Option cE} (fl : List Bool) (h : bR P f (.mut m)) : bR P f (.mut (Gs fl m)) := by
  intro E w H0 nid xs args r hH hf hx hm hp
  have hag : hY H0 (dL (dg H0 args) H0) (V.refss args) := rn fun o ho => (pl ho).symm
  have e : mF m nid (uS fl args) (dL (dg H0 args) H0) args = mF m nid (uS fl args) H0 args := (xT _ _ _ _ hag fun o ho => hag.one o (vC fl args o ho)).symm
  exact Do h (uS fl args) E H0 args r hH hf hx (e ▸ hm) hp
end
structure vq where
  pre : List Prop
  val : V
  obs : List Ob
  kls : List Bool
def qx : List V → List V
  | [] => []
  | .c .nil :: r => .c (.sl 0 0 fun _ => []) :: qx r
  | v :: r => v :: qx r
def nP : Ob → Ob
  | .box cs => .box (qx cs)
  | b => b
def Fg : List Bool → List V → List Nat
  | b :: fl,v :: r => (bif b then v.refs else []) ++ Fg fl r
  | _,_ => []
def jW (fl : List Bool) (H : ay) (args : List V) : List Nat := AK H (EG [] (Fg fl args))
def jv (H : ay) (os : List Nat) : List Nat → List Ob
  | [] => []
  | o :: r => match ay.get H o with | some b => nP (b.ren os) :: jv H os r | none => jv H os r
def qy : Nat → List Ob → ay
  | _,[] => []
  | i,b :: r => (i,some b) :: qy (i + 1) r
def mj (f : Nat → Nat) : List Nat → List Ob → ay
  | o :: r,b :: s => (o,some (b.mp f)) :: mj f r s
  | _,_ => []
def iz : List Nat → List Bool → List Nat
  | o :: r,k :: s => bif k then o :: iz r s else iz r s
  | _,_ => []
def Bw : List Nat → Nat → Nat
  | [],_ => 0
  | o :: _,0 => o
  | _ :: r,i + 1 => Bw r i
def ip (nr : Bool) (fl : List Bool) (mc : List V → List Ob → Option vq) : ay → Nat → List V → Option cE := fun H _ args =>
  bif fC (jW fl H args) && yc (jW fl H args) H && md (jW fl H args) H nr fl args then
    match mc (kR (jW fl H args) H fl args) (jv H (jW fl H args) (jW fl H args)) with
    | some g => bif Nat.beq g.obs.length (jW fl H args).length && Nat.beq g.kls.length (jW fl H args).length then some { pre := g.pre,val := g.val,eff := mj (Bw (jW fl H args)) (jW fl H args) g.obs,kill := iz (jW fl H args) g.kls } else none
    | none => none
  else none
def fP (nr : Bool) (qs : List Nat) (σ : St) : Nat → List Ob → List Nat → List Ob → List Bool → Prop
  | _,[],[],[],[] => True
  | i,ob0 :: r0,q :: rq,ob' :: r',k :: rk => (∃ ob,ay.get σ.hp q = some ob ∧ ko (ob.mp (ny qs)) ob' ∧ ((pG ob).all fun p => gq p qs) = true ∧ ((pp ob).all fun p => o4 (ay.get σ.hp p)) = true ∧ (nr = true ∨ DY ob) ∧
      (k = true ∨ ry ob0 ob ∧ bq σ.tm (1000000 + i) = some ⟨[],cH q ob0⟩)) ∧ fP nr qs σ (i + 1) r0 rq r' rk
  | _,_,_,_,_ => False
structure kT (nr : Bool) (obs0 : List Ob) (g : vq) (qs : List Nat) (σ : St) (v : V) : Prop where
  nd : fC qs = true
  refs : v.refs = []
  val : VLe v g.val
  sc : nr = true ∨ v.sclr = true
  go : fP nr qs σ 0 obs0 qs g.obs g.kls
theorem VLe.split {x y : V} (h : VLe x y) : x = y ∨ y = .c .unk ∨ (∃ d d',x = .c d ∧ y = .c d' ∧ je d d') ∨ (∃ xs ys,x = .agg xs ∧ y = .agg ys ∧ VLes xs ys) ∨ (∃ xs ys,x = .tup xs ∧ y = .tup ys ∧ VLes xs ys) ∨
    ∃ k cs j k' cs' j',x = .dptr k cs j ∧ y = .dptr k' cs' j' ∧ VLe x y := by
  have h0 := h
  rw [VLe.eq_def] at h
  split at h
  · exact .inr (.inr (.inl ⟨_,_,rfl,rfl,h⟩))
  · exact .inr (.inr (.inr (.inl ⟨_,_,rfl,rfl,h⟩)))
  · exact .inr (.inr (.inr (.inr (.inl ⟨_,_,rfl,rfl,h⟩))))
  · exact .inr (.inr (.inr (.inr (.inr ⟨_,_,_,_,_,_,rfl,rfl,h0⟩))))
  · exact .inr (.inl rfl)
  · exact .inl h
theorem VLe.unk' (x : V) : VLe x (.c .unk) := by
  cases x <;> rw [VLe.eq_def] <;> first | exact je.unk _ | trivial
mutual
theorem VLe.mp (f : Nat → Nat) (x y : V) (h : VLe x y) : VLe (x.mp f) (y.mp f) := by
  rcases VLe.split h with rfl | rfl | ⟨d,d',rfl,rfl,h1⟩ | ⟨xs,ys,rfl,rfl,h1⟩ | ⟨xs,ys,rfl,rfl,h1⟩ | ⟨k,cs,j,k',cs',j',rfl,rfl,h1⟩
  · exact VLe.rfl' _
  · exact VLe.unk' _
  · exact h
  · rw [V.mp,V.mp,VLe]; exact VLes.mp f xs ys h1
  · rw [V.mp,V.mp,VLe]; exact VLes.mp f xs ys h1
  · exact h
termination_by SizeOf.sizeOf x
theorem VLes.mp (f : Nat → Nat) (xs ys : List V) (h : VLes xs ys) : VLes (V.mps f xs) (V.mps f ys) := by
  match xs,ys,h with
  | [],[],h => exact h
  | x :: xs,y :: ys,h => rw [VLes] at h; rw [V.mps,V.mps,VLes]; exact ⟨VLe.mp f x y h.1,VLes.mp f xs ys h.2⟩
  | [],_ :: _,h => simp [VLes] at h
  | _ :: _,[],h => simp [VLes] at h
termination_by SizeOf.sizeOf xs
end
theorem ko.mp (f : Nat → Nat) {x y : Ob} (h : ko x y) : ko (x.mp f) (y.mp f) := by
  cases x with
  | box cs => cases y with
    | box cs' => exact VLes.mp f cs cs' h
    | _ => exact h
  | row t k n el => cases y <;> exact h
  | raw x => cases y <;> exact h
mutual
theorem mp_mp (f g j : Nat → Nat) : ∀ v : V,(∀ q ∈ v.refs,g (f q) = j q) → (v.mp f).mp g = v.mp j
  | .c _,_ => rfl
  | .agg vs,h => by rw [V.mp,V.mp,V.mp,mps_mps f g j vs (by rw [V.refs] at h; exact h)]
  | .tup vs,h => by rw [V.mp,V.mp,V.mp,mps_mps f g j vs (by rw [V.refs] at h; exact h)]
  | .ptr o k i n,h => by rw [V.mp,V.mp,V.mp,h o (by simp [V.refs])]
  | .row o k i n,h => by rw [V.mp,V.mp,V.mp,h o (by simp [V.refs])]
  | .dptr ..,_ => rfl
  | .fn _ vs,h => by rw [V.mp,V.mp,V.mp,mps_mps f g j vs (by rw [V.refs] at h; exact h)]
theorem mps_mps (f g j : Nat → Nat) : ∀ vs : List V,(∀ q ∈ V.refss vs,g (f q) = j q) → V.mps g (V.mps f vs) = V.mps j vs
  | [],_ => rfl
  | v :: r,h => by
    rw [V.mps,V.mps,V.mps,mp_mp f g j v fun q hq => h q (by simp [V.refss,hq]),mps_mps f g j r fun q hq => h q (by simp [V.refss,hq])]
end
theorem HV (f g j : Nat → Nat) (b : Ob) (h : ∀ q ∈ pG b,g (f q) = j q) : (b.mp f).mp g = b.mp j := by
  cases b with
  | box cs => rw [Ob.mp,Ob.mp,Ob.mp,mps_mps f g j cs h]
  | row t k n el => rfl
  | raw x => rfl
theorem DA : ∀ (qs os : List Nat) (q : Nat),q ∈ qs → qs.length = os.length → Bw os (ny qs q) = j9 (qs.zip os) q
  | [],_,q,h,_ => by simp at h
  | p :: qs,[],q,_,hl => by simp at hl
  | p :: qs,o :: os,q,h,hl => by
    rw [List.zip_cons_cons,j9,ny]
    cases hb : Nat.beq p q with
    | true => rfl
    | false =>
      rw [cond_false,cond_false]
      refine DA qs os q ((List.mem_cons.1 h).resolve_left fun e => ?_) (by simpa using hl)
      subst e; simp at hb
theorem FQ {o : Nat} {r : List Nat} (h : fC (o :: r) = true) : o ∉ r ∧ fC r = true := by
  rw [fC,Bool.and_eq_true] at h
  refine ⟨fun hm => ?_,h.2⟩
  have := show gq o r = true from List.any_eq_true.2 ⟨o,hm,by simp⟩
  rw [this] at h
  simp at h
theorem pq : ∀ {qs os : List Nat} {q o : Nat},(q,o) ∈ qs.zip os → q ∈ qs ∧ o ∈ os
  | [],os,q,o,h => by simp at h
  | _ :: _,[],q,o,h => by simp at h
  | p :: qs,x :: os,q,o,h => by
    rw [List.zip_cons_cons,List.mem_cons] at h
    rcases h with h | h
    · cases h; simp
    · have := pq h; simp [this]
theorem Dp : ∀ {qs os : List Nat} {q q' o : Nat},fC os = true → (q,o) ∈ qs.zip os → (q',o) ∈ qs.zip os → q = q'
  | [],os,q,q',o,_,h,_ => by simp at h
  | _ :: _,[],q,q',o,_,h,_ => by simp at h
  | p :: qs,x :: os,q,q',o,hn,h,h' => by
    obtain ⟨h1,h2⟩ := FQ hn
    rw [List.zip_cons_cons,List.mem_cons] at h h'
    rcases h with h | h <;> rcases h' with h' | h'
    · cases h; cases h'; rfl
    · cases h; exact (h1 (pq h').2).elim
    · cases h'; exact (h1 (pq h).2).elim
    · exact Dp h2 h h'
theorem GF : ∀ {qs os : List Nat} {q o o' : Nat},fC qs = true → (q,o) ∈ qs.zip os → (q,o') ∈ qs.zip os → o = o'
  | [],os,q,o,o',_,h,_ => by simp at h
  | _ :: _,[],q,o,o',_,h,_ => by simp at h
  | p :: qs,x :: os,q,o,o',hn,h,h' => by
    obtain ⟨h1,h2⟩ := FQ hn
    rw [List.zip_cons_cons,List.mem_cons] at h h'
    rcases h with h | h <;> rcases h' with h' | h'
    · cases h; cases h'; rfl
    · cases h; exact (h1 (pq h').1).elim
    · cases h'; exact (h1 (pq h).1).elim
    · exact GF h2 h h'
theorem yf (f : Nat → Nat) : ∀ {os : List Nat} {obs : List Ob} {o : Nat} {b' : Ob},ay.get (mj f os obs) o = some b' → ∃ (j : Nat) (b : Ob),os[j]? = some o ∧ obs[j]? = some b ∧ b' = b.mp f
  | [],_,_,_,h => by simp [mj,ay.get] at h
  | _ :: _,[],_,_,h => by simp [mj,ay.get] at h
  | p :: os,b :: obs,o,b',h => by
    rw [mj,ay.get_cons] at h
    split at h
    · next e => cases h; subst e; exact ⟨0,b,rfl,rfl,rfl⟩
    · obtain ⟨j,c,h1,h2,h3⟩ := yf f h
      exact ⟨j + 1,c,by simpa using h1,by simpa using h2,h3⟩
theorem wg (f : Nat → Nat) : ∀ {os : List Nat} {obs : List Ob},os.length = obs.length → ∀ o ∈ os,o ∈ fR (mj f os obs)
  | [],_,_,o,h => by simp at h
  | _ :: _,[],h,_,_ => by simp at h
  | p :: os,b :: obs,hl,o,h => by
    rw [mj]
    simp only [fR,List.map_cons,List.mem_cons]
    rcases List.mem_cons.1 h with h | h
    · exact .inl h
    · exact .inr (wg f (by simpa using hl) o h)
theorem qT : ∀ {os : List Nat} {ks : List Bool} {o : Nat},o ∈ iz os ks → o ∈ os
  | [],_,_,h => by simp [iz] at h
  | _ :: _,[],_,h => by simp [iz] at h
  | p :: os,k :: ks,o,h => by
    rw [iz] at h
    cases k with
    | true =>
      rw [cond_true,List.mem_cons] at h
      rcases h with h | h
      · simp [h]
      · exact List.mem_cons_of_mem _ (qT h)
    | false => exact List.mem_cons_of_mem _ (qT h)
theorem wu : ∀ {os : List Nat} {ks : List Bool} {i o : Nat},os[i]? = some o → ks[i]? = some true → o ∈ iz os ks
  | [],_,i,_,h,_ => by simp at h
  | _ :: _,[],i,_,_,h => by simp at h
  | p :: os,k :: ks,0,o,h,h' => by
    simp at h h'; subst h h'; simp [iz]
  | p :: os,k :: ks,i + 1,o,h,h' => by
    have := wu (os := os) (ks := ks) (i := i) (by simpa using h) (by simpa using h')
    rw [iz]
    cases k with
    | true => rw [cond_true]; exact List.mem_cons_of_mem _ this
    | false => exact this
theorem zJ : ∀ {qs os : List Nat} {j q o : Nat},qs[j]? = some q → os[j]? = some o → (q,o) ∈ qs.zip os
  | [],_,j,_,_,h,_ => by simp at h
  | _ :: _,[],j,_,_,_,h => by simp at h
  | p :: qs,x :: os,0,q,o,h,h' => by simp at h h'; subst h h'; simp
  | p :: qs,x :: os,j + 1,q,o,h,h' => by
    rw [List.zip_cons_cons]; exact List.mem_cons_of_mem _ (zJ (by simpa using h) (by simpa using h'))
theorem x8 {nr : Bool} {qs : List Nat} {σ : St} : ∀ {i : Nat} {obs0 : List Ob} {rq : List Nat} {obs' : List Ob} {ks : List Bool},fP nr qs σ i obs0 rq obs' ks → obs0.length = rq.length ∧ obs'.length = rq.length ∧ ks.length = rq.length
  | _,[],[],[],[],_ => ⟨rfl,rfl,rfl⟩
  | i,_ :: _,_ :: _,_ :: _,_ :: _,h => by
    obtain ⟨a,b,c⟩ := x8 h.2
    simp [a,b,c]
  | _,[],_ :: _,_,_,h => by simp [fP] at h
  | _,_ :: _,[],_,_,h => by simp [fP] at h
  | _,[],[],_ :: _,_,h => by simp [fP] at h
  | _,_ :: _,_ :: _,[],_,h => by simp [fP] at h
  | _,[],[],[],_ :: _,h => by simp [fP] at h
  | _,_ :: _,_ :: _,_ :: _,[],h => by simp [fP] at h
theorem pj {nr : Bool} {qs : List Nat} {σ : St} : ∀ {i : Nat} {obs0 : List Ob} {rq : List Nat} {obs' : List Ob} {ks : List Bool},fP nr qs σ i obs0 rq obs' ks → ∀ j q,rq[j]? = some q →
    ∃ ob0 ob' k ob,obs0[j]? = some ob0 ∧ obs'[j]? = some ob' ∧ ks[j]? = some k ∧ ay.get σ.hp q = some ob ∧ ko (ob.mp (ny qs)) ob' ∧ ((pG ob).all fun p => gq p qs) = true ∧ ((pp ob).all fun p => o4 (ay.get σ.hp p)) = true ∧ (nr = true ∨ DY ob) ∧
      (k = true ∨ ry ob0 ob ∧ bq σ.tm (1000000 + (i + j)) = some ⟨[],cH q ob0⟩)
  | _,[],[],[],[],_,j,q,hq => by simp at hq
  | i,a :: _,b :: _,c :: _,d :: _,h,0,q,hq => by
    simp at hq; subst hq
    obtain ⟨ob,h1,h2,h3,h4,h5,h6⟩ := h.1
    exact ⟨a,c,d,ob,rfl,rfl,rfl,h1,h2,h3,h4,h5,h6⟩
  | i,a :: _,b :: _,c :: _,d :: _,h,j + 1,q,hq => by
    obtain ⟨x,y,z,ob,h1,h2,h3,h4,h5,h6,h7,h8,h9⟩ := pj h.2 j q (by simpa using hq)
    exact ⟨x,y,z,ob,by simpa using h1,by simpa using h2,by simpa using h3,h4,h5,h6,h7,h8,by rw [show i + (j + 1) = i + 1 + j by omega]; exact h9⟩
  | _,[],_ :: _,_,_,h,_,_,_ => by simp [fP] at h
  | _,_ :: _,[],_,_,h,_,_,_ => by simp [fP] at h
  | _,[],[],_ :: _,_,h,_,_,_ => by simp [fP] at h
  | _,_ :: _,_ :: _,[],_,h,_,_,_ => by simp [fP] at h
  | _,[],[],[],_ :: _,h,_,_,_ => by simp [fP] at h
  | _,_ :: _,_ :: _,_ :: _,[],h,_,_,_ => by simp [fP] at h
theorem ux : ∀ cs : List V,(qx cs).length = cs.length
  | [] => rfl
  | v :: r => by
    have := ux r
    unfold qx
    split <;> simp_all
theorem Be : ∀ cs : List V,VLes cs (qx cs)
  | [] => VLes.nil
  | v :: r => by
    have := Be r
    rw [qx.eq_def]
    split
    · next h => cases h
    · next h => cases h; exact VLes.cons (by rw [VLe]; exact .nilsl _ _) this
    · next h => cases h; exact VLes.cons (VLe.rfl' _) this
theorem Gw (b : Ob) : ko b (nP b) := by
  cases b with
  | box cs => exact Be cs
  | row t k n el => exact ⟨rfl,rfl,rfl,fun _ _ => .refl _⟩
  | raw x => exact rfl
theorem zO (os : List Nat) (b ob : Ob) (q : Nat) : (ry (nP (b.ren os)) ob → ry b ob) ∧ cH q (nP (b.ren os)) = cH q b := by
  cases b with
  | box cs =>
    refine ⟨fun h => ?_, ?_⟩
    · cases ob <;> first | trivial | exact h
    · show V.ptr q (qx (V.rens os cs)).length 0 0 = V.ptr q cs.length 0 0
      rw [ux,fZ]
  | row t k n el => exact ⟨fun h => h,rfl⟩
  | raw x => exact ⟨fun h => h,rfl⟩
theorem Ab {H : ay} {os : List Nat} : ∀ {r : List Nat},(∀ o ∈ r, ∃ b,ay.get H o = some b) → ∀ (i o : Nat),r[i]? = some o → ∃ b,ay.get H o = some b ∧ (jv H os r)[i]? = some (nP (b.ren os))
  | [],_,i,o,h => by simp at h
  | p :: r,ha,0,o,h => by
    simp at h; subst h
    obtain ⟨b,hb⟩ := ha p (by simp)
    exact ⟨b,hb,by rw [jv,hb]; rfl⟩
  | p :: r,ha,i + 1,o,h => by
    obtain ⟨b,hb⟩ := ha p (by simp)
    obtain ⟨c,h1,h2⟩ := Ab (os := os) (r := r) (fun o ho => ha o (by simp [ho])) i o (by simpa using h)
    exact ⟨c,h1,by rw [jv,hb]; simpa using h2⟩
theorem u7 {H : ay} {os : List Nat} : ∀ {r : List Nat},(∀ o ∈ r, ∃ b,ay.get H o = some b) → (jv H os r).length = r.length
  | [],_ => rfl
  | p :: r,ha => by
    obtain ⟨b,hb⟩ := ha p (by simp)
    rw [jv,hb]
    have := u7 (os := os) (r := r) fun o ho => ha o (by simp [ho])
    simp [this]
theorem Ac {H : ay} {os : List Nat} : ∀ {r : List Nat} (i : Nat) (R : ay),(∀ o ∈ r, ∃ b,ay.get H o = some b) → (∀ j b,ay.get (gX H os i r) j = some b → ay.get R j = some b) → cG R (qy i (jv H os r))
  | [],i,R,_,_ => cG.nil
  | p :: r,i,R,ha,hR => by
    obtain ⟨b,hb⟩ := ha p (by simp)
    rw [jv,hb]
    show cG R ((i,some (nP (b.ren os))) :: qy (i + 1) (jv H os r))
    have e : gX H os i (p :: r) = (i,some (b.ren os)) :: gX H os (i + 1) r := by rw [gX,hb]
    have h1 : ay.get R i = some (b.ren os) := hR i _ (by rw [e,ay.get_cons,if_pos rfl])
    rw [cG,h1]
    refine ⟨Gw _,Ac (i + 1) R (fun o ho => ha o (by simp [ho])) fun j c hc => hR j c ?_⟩
    rw [e,ay.get_cons,if_neg (fun e' => ?_)]
    · exact hc
    · have := renH_ge r (i + 1) j c hc
      omega
where renH_ge : ∀ (r : List Nat) (i j : Nat) (c : Ob),ay.get (gX H os i r) j = some c → i ≤ j
  | [],i,j,c,h => by simp [gX,ay.get] at h
  | p :: r,i,j,c,h => by
    rw [gX] at h
    split at h
    · rw [ay.get_cons] at h
      split at h
      · omega
      · have := renH_ge r (i + 1) j c h; omega
    · have := renH_ge r (i + 1) j c h; omega
theorem xB {H : ay} {os : List Nat} : ∀ {r : List Nat} (i : Nat),(∀ o ∈ r, ∃ b,ay.get H o = some b) → kG (gX H os i r) = kG (qy i (jv H os r))
  | [],_,_ => rfl
  | p :: r,i,ha => by
    obtain ⟨b,hb⟩ := ha p (by simp)
    have ih := xB (os := os) (r := r) (i + 1) fun o ho => ha o (by simp [ho])
    rw [jv,hb]
    rw [show gX H os i (p :: r) = (i,some (b.ren os)) :: gX H os (i + 1) r by rw [gX,hb]]
    unfold kG at ih ⊢
    rw [List.map_cons,ih]
    show _ = (1000000 + i,(⟨[],cH i (nP (b.ren os))⟩ : bu)) :: _
    have e1 : cH i (b.ren os) = cH i (nP (b.ren os)) := by
      rw [(zO os b b i).2]
      cases b with
      | box cs => show V.ptr i (V.rens os cs).length 0 0 = _; rw [fZ]; rfl
      | row t k n el => rfl
      | raw x => rfl
    rw [← e1]
section
variable {P : Program} {σ : St} {H : ay} {nid : Nat} {nr : Bool}
theorem kT.left {os qs : List Nat} {g : vq} {v : V} (hn : fC os = true) (hget : ∀ o ∈ os, ∃ b,ay.get H o = some b) (hl : kT nr (jv H os os) g qs σ v) :
    Left os nid H nr { pre := g.pre,val := g.val,eff := mj (Bw os) os g.obs,kill := iz os g.kls } (qs.zip os) σ v := by
  obtain ⟨l1,l2,l3⟩ := x8 hl.go
  have l0 : qs.length = os.length := by rw [← l1,u7 hget]
  have atq : ∀ q o,(q,o) ∈ qs.zip os → ∃ j : Nat,qs[j]? = some q ∧ os[j]? = some o := by
    intro q o h
    obtain ⟨j,hj⟩ := List.getElem?_of_mem h
    rw [List.getElem?_zip_eq_some] at hj
    exact ⟨j,hj.1,hj.2⟩
  have qos : ∀ (j o : Nat),os[j]? = some o → ∃ q,qs[j]? = some q := fun j o h => by
    have : j < qs.length := by rw [l0]; exact (List.getElem?_eq_some_iff.1 h).1
    exact ⟨_,List.getElem?_eq_getElem this⟩
  refine ⟨fun a b c h1 h2 => Dp hn h1 h2,fun a b c h1 h2 => GF hl.nd h1 h2,fun a b h => .inl (pq h).2,by rw [mp_norefs _ v hl.refs]; exact hl.val,fun a h => by rw [hl.refs] at h; simp at h,by rw [EW hl.refs]; rfl,hl.sc,fun q o h => ?_,fun o ob' h => ?_,fun o h => ?_,fun o h => qT h,fun i o h => ?_⟩
  · obtain ⟨j,h1,h2⟩ := atq q o h
    obtain ⟨_,_,_,ob,_,_,_,h4,_⟩ := pj hl.go j q h1
    exact ⟨ob,h4⟩
  · obtain ⟨j,b,h1,h2,rfl⟩ := yf _ h
    obtain ⟨q,hq⟩ := qos j o h1
    obtain ⟨ob0,ob',k,ob,_,g2,_,g4,g5,g6,g7,g8,_⟩ := pj hl.go j q hq
    rw [h2] at g2; cases g2
    have hsub : ∀ p ∈ pG ob,p ∈ qs := fun p hp => i5 (List.all_eq_true.1 g6 p hp)
    refine ⟨q,ob,zJ hq h1,g4, ?_,fun p hp => ?_,g7,g8⟩
    · rw [← HV (ny qs) (Bw os) (j9 (qs.zip os)) ob fun p hp => DA qs os p (hsub p hp) l0]
      exact ko.mp _ g5
    · rw [List.map_fst_zip (by omega)]
      exact hsub p hp
  · exact wg _ (by omega) o h
  · obtain ⟨q,hq⟩ := qos i o h
    obtain ⟨ob0,ob',k,ob,g1,_,g3,g4,_,_,_,_,g9⟩ := pj hl.go i q hq
    rcases g9 with rfl | ⟨h1,h2⟩
    · exact .inl (wu h g3)
    · obtain ⟨b,hb,hb2⟩ := Ab hget i o h
      rw [hb2] at g1; cases g1
      obtain ⟨n1,n2⟩ := zO os b ob q
      rw [n2,Nat.zero_add] at h2
      exact .inr ⟨q,b,ob,zJ hq h,hb,g4,n1 h1,h2⟩
theorem G3 {rs : List ResultVar} {Q Q' : St → V → Prop} (h : ∀ σ v,Q σ v → Q' σ v) : ∀ e σ,hG P rs Q e σ → hG P rs Q' e σ := by
  intro e σ hk
  have key : (match hU P σ rs with | some v => Q σ v | none => False) → (match hU P σ rs with | some v => Q' σ v | none => False) := by
    intro hk
    split at hk
    · next v hv => exact h σ v hk
    · exact hk.elim
  cases e with
  | normal => exact key hk
  | ret => exact key hk
  | exit id => exact hk
  | goto l => exact hk
  | panic ch => exact hk
  | outgrown => exact hk
theorem Mb {f : FuncId} {fn : Func} {c : Code} (hf : P.funcs[f]? = some fn) (hb : fn.body = some c) (hn : (fn.name == "runtime.NumGoroutine") = false) {fl : List Bool} {mc : List V → List Ob → Option vq} {rs : List ResultVar} (hr : fn.results.toList = rs) {nt : Nat} (ht : fn.ntmps = nt)
    (h : ∀ vs obs0 g,mc vs obs0 = some g → (∀ p ∈ g.pre,p) → ∃ vs',VLes vs vs' ∧ (Nat.ble vs'.length nt && Nat.ble nt 1000000) = true ∧
      au P nt (be c) (hG P rs fun σ v => ∃ qs,kT nr obs0 g qs σ v) { tm := fL vs' 0 ++ kG (qy 0 obs0),hp := qy 0 obs0,nx := obs0.length }) : bR P f (.mut (ip nr fl mc)) := by
  refine EP hf hb hn hr ht fun H nid args r h1 h2 => ?_
  unfold ip at h1
  generalize hos : jW fl H args = os at h1
  cases hg : (fC os && yc os H && md os H nr fl args) with
  | false => rw [hg] at h1; cases h1
  | true =>
    rw [hg,cond_true] at h1
    rw [Bool.and_eq_true,Bool.and_eq_true] at hg
    split at h1
    · next g hm =>
      cases hg2 : (Nat.beq g.obs.length os.length && Nat.beq g.kls.length os.length) with
      | false => rw [hg2] at h1; cases h1
      | true =>
        rw [hg2,cond_true] at h1
        cases h1
        obtain ⟨vs',k1,k2,k3⟩ := h _ _ g hm h2
        have hget : ∀ o ∈ os, ∃ b,ay.get H o = some b := fun o ho => by
          have := List.all_eq_true.1 hg.1.2 o ho
          cases hx : ay.get H o with
          | none => rw [hx] at this; cases this
          | some b => exact ⟨b,rfl⟩
        refine ⟨nr,os,fl,vs',hg.1.1,hg.1.2,hg.2,k1,k2, ?_⟩
        rw [u7 hget] at k3
        rw [xB 0 hget]
        exact au.mono (G3 fun σ v ⟨qs,hq⟩ => ⟨_,kT.left hg.1.1 hget hq⟩) (au.ent (dt.hp (Ac 0 _ hget fun _ _ h => h)) k3)
    · cases h1
end
end Go.Ax
