import Derived.Test.YtkijjjdaijjpaaaGreatZA3
import Derived.Lib.Bytealg
set_option linter.all false
/- States in a canonical form; programs as functions with an option. -/
namespace Go.Ax
open Go.RowKit
def FR : List Nat → Nat → Nat
  | [],_ => 0
  | q :: r,o => bif Nat.beq q o then 0 else FR r o + 1
mutual
def V.ren (os : List Nat) : V → V
  | .c d => .c d
  | .agg vs => .agg (V.rens os vs)
  | .tup vs => .tup (V.rens os vs)
  | .ptr o k i j => .ptr (FR os o) k i j
  | .row o k off n => .row (FR os o) k off n
  | .dptr k cs j => .dptr k cs j
  | .fn f caps => .fn f (V.rens os caps)
def V.rens (os : List Nat) : List V → List V
  | [] => []
  | v :: r => V.ren os v :: V.rens os r
end
def Ob.ren (os : List Nat) : Ob → Ob
  | .box cs => .box (V.rens os cs)
  | .row t k n el => .row t k n el
  | .raw x => .raw x
def akV (l : List Nat) (x : Nat) : List Nat := bif mG x l then l else l ++ [x]
def WU (l xs : List Nat) : List Nat := xs.foldl akV l
def ai3 (H : az) (o : Nat) : List Nat := match az.get H o with | some (.box cs) => V.refss cs | _ => []
def Q3 (H : az) (os : List Nat) : List Nat := WU os (os.flatMap (ai3 H))
def aj5 (tm : List (Nat × bB)) : List Nat := tm.flatMap fun x => V.refs x.2.v
def CI (tm : List (Nat × bB)) (H : az) : List Nat := Q3 H (Q3 H (Q3 H (WU [] (aj5 tm))))
def RD (os : List Nat) (tm : List (Nat × bB)) : List (Nat × bB) := tm.map fun x => (x.1,⟨[],x.2.v.ren os⟩)
def wi (H : az) : List Nat → Nat → List Nat → az
  | _,_,[] => []
  | os,i,o :: r => match az.get H o with | some b => (i,some (b.ren os)) :: wi H os (i + 1) r | none => wi H os (i + 1) r
def canonN (ts : List Nat) (σ : St) : St :=
  { tm := RD (CI (jF ts σ.tm) σ.hp) (jF ts σ.tm),hp := wi σ.hp (CI (jF ts σ.tm) σ.hp) 0 (CI (jF ts σ.tm) σ.hp),nx := (CI (jF ts σ.tm) σ.hp).length }
def x9 : List Nat → Bool
  | [] => true
  | o :: r => !(mG o r) && x9 r
def uE (ts : List Nat) (σ : St) : Bool :=
  x9 (CI (jF ts σ.tm) σ.hp) && (jF ts σ.tm).all (fun x => IR (CI (jF ts σ.tm) σ.hp) x.2) &&
  (CI (jF ts σ.tm) σ.hp).all (fun o => match az.get σ.hp o with | some b => Kl (CI (jF ts σ.tm) σ.hp) b | none => true)
section
variable {P : Program} {N : Nat} {B : lg} {σ σ' : St} {E : bm} {a : Act} {w : World}
theorem Fx : ∀ {os : List Nat} {o : Nat},o ∈ os → os[FR os o]? = some o
  | [],o,h => by simp at h
  | q :: r,o,h => by
    unfold FR
    cases hb : Nat.beq q o with
    | true =>
      have := Nat.eq_of_beq_eq_true hb
      subst this; rfl
    | false =>
      have hne : q ≠ o := fun e => by subst e; simp at hb
      rcases List.mem_cons.1 h with h | h
      · exact (hne h.symm).elim
      · simpa using Fx h
theorem Cu : ∀ {os : List Nat},x9 os = true → ∀ i j o : Nat,os[i]? = some o → os[j]? = some o → i = j
  | [],_,i,j,o,h,_ => by simp at h
  | q :: r,hn,i,j,o,hi,hj => by
    unfold x9 at hn
    simp only [Bool.and_eq_true,Bool.not_eq_true'] at hn
    have hq : ∀ o,o ∈ r → q ≠ o := by
      intro o ho e
      subst e
      have : mG q r = true := List.any_eq_true.2 ⟨q,ho,by simp⟩
      rw [this] at hn
      exact absurd hn.1 (by simp)
    match i,j with
    | 0,0 => rfl
    | 0,j + 1 =>
      simp at hi hj
      subst hi
      exact (hq _ (List.mem_of_getElem? hj) rfl).elim
    | i + 1,0 =>
      simp at hi hj
      subst hj
      exact (hq _ (List.mem_of_getElem? hi) rfl).elim
    | i + 1,j + 1 =>
      simp at hi hj
      have := Cu hn.2 i j o hi hj
      omega
def bm.ren (E : bm) (os : List Nat) : bm where
  conc q := match os[q]? with | some o => E.conc o | none => none
  cap q := match os[q]? with | some o => E.cap o | none => 0
  len q := match os[q]? with | some o => E.len o | none => 0
  live q := ∃ o,os[q]? = some o ∧ E.live o
  ok := E.ok
theorem oc (os : List Nat) : ∀ vs : List V,(V.rens os vs).length = vs.length
  | [] => rfl
  | _ :: r => by simp [V.rens,oc os r]
theorem yu (os : List Nat) : ∀ (vs : List V) (i : Nat),(V.rens os vs)[i]? = (vs[i]?).map (V.ren os)
  | [],i => by simp [V.rens]
  | v :: r,0 => by simp [V.rens]
  | v :: r,i + 1 => by simp [V.rens,yu os r i]
theorem aJ.ren {os : List Nat} {v : Value} {d : V} (h : aJ E w v d) : (∀ o ∈ V.refs d,o ∈ os) → aJ (E.ren os) w v (d.ren os) := by
  induction h with
  | c v d h => exact fun _ => .c v d h
  | agg vs ds hl h ih =>
    intro hr
    rw [V.ren]
    refine .agg vs _ (by rw [oc,hl]) fun i v d hv hd => ?_
    rw [yu] at hd
    cases hx : ds[i]? with
    | none => rw [hx] at hd; cases hd
    | some x => rw [hx] at hd; cases hd; exact ih i v x hv hx fun o ho => hr o (dY hx ho)
  | tup vs ds hl h ih =>
    intro hr
    rw [V.ren]
    refine .tup vs _ (by rw [oc,hl]) fun i v d hv hd => ?_
    rw [yu] at hd
    cases hx : ds[i]? with
    | none => rw [hx] at hd; cases hd
    | some x => rw [hx] at hd; cases hd; exact ih i v x hv hx fun o ho => hr o (dY hx ho)
  | ptr o k i j b h1 h2 h3 =>
    intro hr
    have ho := Fx (hr o (by simp [V.refs]))
    rw [V.ren]
    exact .ptr _ k i j b ⟨o,ho,h1⟩ (by simp only [bm.ren,ho]; exact h2) (by simp only [bm.ren,ho]; exact h3)
  | row o k off n a c hn hc hm hl ha h0 =>
    intro hr
    have ho := Fx (hr o (by simp [V.refs]))
    rw [V.ren]
    exact .row _ k off n a c ⟨o,ho,hn⟩ hc hm (by simp only [bm.ren,ho]; exact hl) (by simp only [bm.ren,ho]; exact ha) (by simp only [bm.ren,ho]; exact h0)
  | dptr k cs j ad u h1 h2 h3 h4 => exact fun _ => .dptr k cs j ad u h1 h2 h3 h4
  | fn f vs ds hl h ih =>
    intro hr
    rw [V.ren]
    refine .fn f vs _ (by rw [oc,hl]) fun i v d hv hd => ?_
    rw [yu] at hd
    cases hx : ds[i]? with
    | none => rw [hx] at hd; cases hd
    | some x => rw [hx] at hd; cases hd; exact ih i v x hv hx fun o ho => hr o (dY hx ho)
theorem my.ren {os : List Nat} {q o : Nat} {b : Ob} (ho : os[q]? = some o) (h : my E w o b) (hr : Kl os b = true) : my (E.ren os) w q (b.ren os) := by
  cases b with
  | box cs =>
    obtain ⟨e1,b,C,t,e2,e3,e4,e5⟩ := h
    refine ⟨by simp only [bm.ren,ho]; exact e1,b,C,t,by simp only [bm.ren,ho]; exact e2,e3, ?_,fun i v d hv hd => ?_⟩
    · rw [oc]; exact e4
    · rw [yu] at hd
      cases hx : cs[i]? with
      | none => rw [hx] at hd; cases hd
      | some x =>
        rw [hx] at hd; cases hd
        exact (e5 i v x hv hx).ren fun p hp => oS (List.all_eq_true.1 hr p (dY hx hp))
  | raw x =>
    obtain ⟨h1,b,h2,h3⟩ := h
    exact ⟨by simp only [bm.ren,ho]; exact h1,b,by simp only [bm.ren,ho]; exact h2,h3⟩
  | row t k n el =>
    obtain ⟨h1,h2⟩ := h
    refine ⟨by simp only [bm.ren,ho]; exact h1, ?_⟩
    rcases h2 with ⟨h2,h3⟩ | ⟨b,C,g1,g2,g3,g4,g5,g6,g7,g8⟩
    · exact .inl ⟨by simp only [bm.ren,ho]; exact h2,h3⟩
    · refine .inr ⟨b,C,by simp only [bm.ren,ho]; exact g1,g2,by simp only [bm.ren,ho]; exact g3,by simp only [bm.ren,ho]; exact g4,by simp only [bm.ren,ho]; exact g5,g6,g7,g8⟩
theorem Lp (os : List Nat) : ∀ (tm : List (Nat × bB)) (t : Nat),bt (RD os tm) t = (bt tm t).map fun s => ⟨[],s.v.ren os⟩
  | [],t => by simp [RD,bt]
  | (q,s) :: r,t => by
    have ih := Lp os r t
    unfold RD at ih ⊢
    rw [List.map_cons,dM,dM]
    split
    · rfl
    · exact ih
theorem xY (H : az) (os : List Nat) : ∀ (l : List Nat) (i q : Nat) (b : Ob),az.get (wi H os i l) q = some b → ∃ o b',l[q - i]? = some o ∧ i ≤ q ∧ az.get H o = some b' ∧ b = b'.ren os
  | [],i,q,b,h => by simp [wi,az.get] at h
  | o :: r,i,q,b,h => by
    unfold wi at h
    split at h
    · next b' hb' =>
      rw [az.get_cons] at h
      split at h
      · next e => subst e; cases h; exact ⟨o,b',by simp,Nat.le_refl _,hb',rfl⟩
      · obtain ⟨o',b2,h1,h2,h3,h4⟩ := xY H os r (i + 1) q b h
        refine ⟨o',b2, ?_,by omega,h3,h4⟩
        have : q - i = (q - (i + 1)) + 1 := by omega
        rw [this]; simpa using h1
    · obtain ⟨o',b2,h1,h2,h3,h4⟩ := xY H os r (i + 1) q b h
      refine ⟨o',b2, ?_,by omega,h3,h4⟩
      have : q - i = (q - (i + 1)) + 1 := by omega
      rw [this]; simpa using h1
theorem em.canonN (ts : List Nat) (h : uE ts σ = true) : em σ (canonN ts σ) := by
  unfold uE at h
  simp only [Bool.and_eq_true] at h
  obtain ⟨⟨h1,h2⟩,h3⟩ := h
  unfold Go.Ax.canonN
  generalize CI (jF ts σ.tm) σ.hp = os at h1 h2 h3 ⊢
  refine ⟨fun N B E a w hs => ⟨E.ren os,hs.size,hs.small,hs.defers,fun q hq hl => ?_,⟨fun q ob ho => ?_,fun q q' b hq hq' hb hb' => ?_,fun q b hq hb => ?_,fun q b hq hb => ?_,hs.heap.oklt⟩,fun t s hg => ?_,hs.base,fun q b hq hb => ?_,hs.okold⟩⟩
  · obtain ⟨o,ho,_⟩ := hl
    have hlt := (List.getElem?_eq_some_iff.1 ho).1
    have hq' : os.length ≤ q := hq
    omega
  · obtain ⟨o,b',g1,g2,g3,rfl⟩ := xY σ.hp os os 0 q ob ho
    have g1' : os[q]? = some o := by simpa using g1
    obtain ⟨l1,l2⟩ := hs.heap.at_ o b' g3
    have hok := List.all_eq_true.1 h3 o (List.mem_of_getElem? g1')
    rw [g3] at hok
    exact ⟨⟨o,g1',l1⟩,l2.ren g1' hok⟩
  · obtain ⟨o,ho,l⟩ := hq
    obtain ⟨o',ho',l'⟩ := hq'
    simp only [bm.ren,ho] at hb
    simp only [bm.ren,ho'] at hb'
    have := hs.heap.inj o o' b l l' hb hb'
    subst this
    exact Cu h1 q q' o ho ho'
  · obtain ⟨o,ho,l⟩ := hq
    simp only [bm.ren,ho] at hb
    exact hs.heap.sep o b l hb
  · obtain ⟨o,ho,l⟩ := hq
    simp only [bm.ren,ho] at hb
    exact hs.heap.lt o b l hb
  · rw [Lp] at hg
    cases hk : bt (jF ts σ.tm) t with
    | none => rw [hk] at hg; cases hg
    | some s0 =>
      rw [hk] at hg
      cases hg
      obtain ⟨g1,g2⟩ := zr ts σ.tm t s0 hk
      have hok := List.all_eq_true.1 h2 _ g2
      unfold IR at hok
      simp only [Bool.and_eq_true,List.isEmpty_iff] at hok
      have hh := hs.slots t s0 g1
      refine ⟨fun _ => (hh.1 (by rw [hok.1]; rfl)).ren fun q hq => oS (List.all_eq_true.1 hok.2 q hq),fun _ h => ?_⟩
      simp [holds] at h
  · obtain ⟨o,ho,l⟩ := hq
    simp only [bm.ren,ho] at hb
    exact hs.own o b l hb
end
def cN (ts : List Nat) (K : Exit → St → Prop) (e : Exit) (σ : St) : Prop := bif uE ts σ then wK K e (canonN ts σ) else False
def aD : Code → List Code
  | .seq x y => aD x ++ aD y
  | .skip => []
  | c => [c]
def ofItems : List Code → Code
  | [] => .skip
  | c :: r => .seq c (ofItems r)
def aQ (l : List Code) (n : Nat) : Code := l.getD n .skip
def ah (P : Program) (N : Nat) : List Code → (Exit → St → Prop) → St → Prop
  | [],K,σ => wK K .normal σ
  | c :: r,K,σ => aE P N c (aM (ah P N r K) K) σ
section
variable {P : Program} {C : FuncId → Option CC} {N : Nat} {c x y : Code} {K K' : Exit → St → Prop} {σ σ' : St}
theorem YX (h : ∀ e σ,K e σ → K' e σ) {e : Exit} (hk : wK K e σ) : wK K' e σ := ⟨hk.choose,hk.choose_spec.1,h _ _ hk.choose_spec.2⟩
theorem acI {e : Exit} (h : K e σ) : wK K e σ := ⟨σ, .refl σ,h⟩
theorem ah.ent : ∀ {l : List Code} {K : Exit → St → Prop},em σ σ' → ah P N l K σ' → ah P N l K σ
  | [],_,he,⟨σ2,h1,h2⟩ => ⟨σ2,he.trans h1,h2⟩
  | _ :: _,_,he,h => aE.ent he h
theorem CR {J J' : St → Prop} (hJ : ∀ σ,J σ → J' σ) (hk : ∀ e σ,K e σ → K' e σ) : ∀ e σ,aM J K e σ → aM J' K' e σ := by
  intro e σ h
  cases e with
  | normal => exact hJ σ h
  | exit id => exact hk _ _ h
  | goto l => exact hk _ _ h
  | ret => exact hk _ _ h
  | panic ch => exact hk _ _ h
  | outgrown => exact hk _ _ h
theorem ah.mono : ∀ {l : List Code} {K K' : Exit → St → Prop} {σ : St},(∀ e σ,K e σ → K' e σ) → ah P N l K σ → ah P N l K' σ
  | [],_,_,_,hk,h => YX hk h
  | _ :: _,_,_,_,hk,h => aE.mono h (CR (fun _ h => ah.mono hk h) hk)
theorem ah.app : ∀ {l l' : List Code} {K : Exit → St → Prop} {σ : St},ah P N l (aM (ah P N l' K) K) σ → ah P N (l ++ l') K σ
  | [],_,_,_,⟨_,h1,h2⟩ => ah.ent h1 h2
  | _ :: _,_,_,_,h => aE.mono h (CR (fun _ h => ah.app h) fun e σ h => by
      cases e with
      | normal => exact h
      | exit id => exact h
      | goto l => exact h
      | ret => exact h
      | panic ch => exact h
      | outgrown => exact h) |>.mono (fun e σ h => by
      cases e with
      | normal => exact h
      | exit id => exact h
      | goto l => exact h
      | ret => exact h
      | panic ch => exact h
      | outgrown => exact h)
theorem ah.app_inv : ∀ {l l' : List Code} {K : Exit → St → Prop} {σ : St},ah P N (l ++ l') K σ → ah P N l (aM (ah P N l' K) K) σ
  | [],_,_,σ,h => ⟨σ, .refl σ,h⟩
  | _ :: _,_,_,_,h => aE.mono h fun e σ h => by
      cases e with
      | normal => exact ah.app_inv h
      | exit id => exact h
      | goto l => exact h
      | ret => exact h
      | panic ch => exact h
      | outgrown => exact h
theorem aE.of_weakN (h : aE P N c (aM (fun σ => wK K .normal σ) K) σ) : aE P N c K σ :=
  .weak (h.mono fun e σ h => by
    cases e with
    | normal => exact h
    | exit id => exact ⟨σ, .refl σ,h⟩
    | goto l => exact ⟨σ, .refl σ,h⟩
    | ret => exact ⟨σ, .refl σ,h⟩
    | panic ch => exact ⟨σ, .refl σ,h⟩
    | outgrown => exact ⟨σ, .refl σ,h⟩)
theorem aE.ofItems : ∀ (c : Code) {K : Exit → St → Prop} {σ : St},ah P N (aD c) K σ → aE P N c K σ := by
  intro c
  induction c with
  | skip => exact fun h => .ent h.choose_spec.1 (.skip h.choose_spec.2)
  | seq x y ihx ihy =>
    intro K σ h
    exact .seq ((ihx (ah.app_inv h)).mono (CR (fun _ h => ihy h) fun _ _ h => h))
  | label l => exact fun h => .of_weakN h
  | region id ops dr => exact fun h => .of_weakN h
  | cond c x y _ _ => exact fun h => .of_weakN h
  | block id x _ => exact fun h => .of_weakN h
  | exit id => exact fun h => .of_weakN h
  | ret => exact fun h => .of_weakN h
  | loop x _ => exact fun h => .of_weakN h
  | rangeFunc f params assign body => exact fun h => .of_weakN h
  | scope body => exact fun h => .of_weakN h
  | goto l => exact fun h => .of_weakN h
  | refuse why => exact fun h => .of_weakN h
theorem F4 {ts : List Nat} {e : Exit} (h : cN ts K e σ) : wK K e σ := by
  unfold cN at h
  cases hc : uE ts σ with
  | false => rw [hc] at h; exact h.elim
  | true =>
    rw [hc,cond_true] at h
    obtain ⟨σ2,h1,h2⟩ := h
    exact ⟨σ2,(em.canonN ts hc).trans h1,h2⟩
theorem ah.piece (hm : P.follows .mixedOrders = true) (hC : ∀ f con,C f = some con → dl P f con) (ts : List Nat) : ∀ (l l' : List Code) {K : Exit → St → Prop} {σ : St},
    ev P C N (Go.Ax.ofItems l) (cN ts (aM (ah P N l' K) K)) σ → ah P N (l ++ l') K σ
  | [],l',K,σ,h => by
    obtain ⟨σ',h1,h2⟩ := F4 h
    exact ah.ent h1 h2
  | c :: l,l',K,σ,h => by
    have h' : ev P C N c (aM (ev P C N (Go.Ax.ofItems l) (cN ts (aM (ah P N l' K) K))) (cN ts (aM (ah P N l' K) K))) σ := h
    refine .weak (.of_ev hm hC (Bg c ?_ h'))
    intro e σ' hk
    cases e with
    | normal => exact ⟨σ', .refl σ',ah.piece hm hC ts l l' hk⟩
    | exit id => exact F4 hk
    | goto l => exact F4 hk
    | ret => exact F4 hk
    | panic ch => exact F4 hk
    | outgrown => exact F4 hk
theorem ah.cons_block {id : Nat} {r : List Code} (h : ah P N (aD x) (bg id (aM (ah P N r K) K)) σ) : ah P N (.block id x :: r) K σ := aE.block (.ofItems x h)
def W {α : Type} (o : Option α) (Q : α → Prop) : Prop := match o with | some a => Q a | none => False
noncomputable def gd {α : Type} (p : Prop) (o : Option α) : Option α := open Classical in if p then o else none
theorem an {α : Type} {p : Prop} {o : Option α} (h : p) : gd p o = o := by unfold gd; exact if_pos h
theorem TE {α : Type} {p : Prop} {o : Option α} (h : ¬ p) : gd p o = none := by unfold gd; exact if_neg h
theorem KH {α : Type} {p : Prop} {o : Option α} {a : α} : gd p o = some a ↔ p ∧ o = some a := by
  by_cases h : p
  · rw [an h]; simp [h]
  · rw [TE h]; simp [h]
theorem al {α : Type} {b : Bool} {o o' : Option α} {Q : α → Prop} {X Y : Prop} (h : W (bif b then o else o') Q) (h1 : b = true → W o Q → X) (h2 : b = false → W o' Q → Y) : bif b then X else Y := by
  cases b with
  | true => exact h1 rfl h
  | false => exact h2 rfl h
theorem bF {α : Type} {p : Prop} {o : Option α} {Q : α → Prop} {X : Prop} (h : W (gd p o) Q) (h1 : p → W o Q → X) : p ∧ X := by
  by_cases hp : p
  · rw [an hp] at h; exact ⟨hp,h1 hp h⟩
  · rw [TE hp] at h; exact h.elim
theorem aq {α β : Type} {o : Option β} {f : β → Option α} {Q : α → Prop} {X : Prop} (d : β) (h : W (o.bind f) Q) (h1 : o.isSome = true → W (f (o.getD d)) Q → X) : o.isSome = true ∧ X := by
  cases o with
  | none => exact h.elim
  | some b => exact ⟨rfl,h1 rfl h⟩
theorem abX {α β : Type} {o : Option β} {f : β → Option α} {Q : α → Prop} (h : W (o.bind f) Q) : W o fun b => W (f b) Q := by
  cases o with
  | none => exact h
  | some b => exact h
theorem aie {α : Type} {o : Option α} {Q Q' : α → Prop} (h : W o Q) (hq : ∀ a,Q a → Q' a) : W o Q' := by
  cases o with
  | none => exact h
  | some a => exact hq a h
theorem bi {α : Type} {o : Option α} {Q : α → Prop} : W o Q ↔ ∃ a,o = some a ∧ Q a := by
  cases o with
  | none => exact ⟨fun h => h.elim,fun ⟨_,h,_⟩ => by cases h⟩
  | some a => exact ⟨fun h => ⟨a,rfl,h⟩,fun ⟨_,h,hq⟩ => by cases h; exact hq⟩
def nv {σ ρ : Type} (f : σ → Option (σ ⊕ ρ)) : Nat → σ → Option ρ
  | 0,_ => none
  | n + 1,s => match f s with
    | some (.inl s') => nv f n s'
    | some (.inr r) => some r
    | none => none
theorem BZ {σ ρ : Type} {f : σ → Option (σ ⊕ ρ)} : ∀ {n m : Nat} {s : σ} {r : ρ},n ≤ m → nv f n s = some r → nv f m s = some r
  | 0,_,_,_,_,h => by cases h
  | n + 1,0,_,_,hm,_ => by omega
  | n + 1,m + 1,s,r,hm,h => by
    unfold nv at h ⊢
    split
    · next s' hs => rw [hs] at h; exact BZ (by omega) h
    · next r' hs => rw [hs] at h; exact h
    · next hs => rw [hs] at h; cases h
open Classical in
noncomputable def aN {σ ρ : Type} (f : σ → Option (σ ⊕ ρ)) (s : σ) : Option ρ := if h : ∃ n,(nv f n s).isSome = true then nv f h.choose s else none
theorem FM {σ ρ : Type} {f : σ → Option (σ ⊕ ρ)} {n : Nat} {s : σ} {r : ρ} (h : nv f n s = some r) : aN f s = some r := by
  have he : ∃ n,(nv f n s).isSome = true := ⟨n,by rw [h]; rfl⟩
  unfold aN
  rw [dif_pos he]
  have h2 := he.choose_spec
  obtain ⟨r',hr'⟩ := Option.isSome_iff_exists.1 h2
  rw [hr']
  have a := BZ (Nat.le_max_left n he.choose) h
  have b := BZ (Nat.le_max_right n he.choose) hr'
  rw [a] at b
  exact b.symm
theorem zp {σ ρ : Type} {f : σ → Option (σ ⊕ ρ)} {s : σ} {r : ρ} : aN f s = some r ↔ ∃ n,nv f n s = some r := by
  constructor
  · intro h
    unfold aN at h
    split at h
    · next he => exact ⟨_,h⟩
    · cases h
  · rintro ⟨n,h⟩
    exact FM h
theorem aV {σ ρ : Type} (f : σ → Option (σ ⊕ ρ)) (s : σ) : aN f s = (f s).bind fun x => match x with | .inl s' => aN f s' | .inr r => some r := by
  cases hf : f s with
  | none =>
    cases h : aN f s with
    | none => rfl
    | some r =>
      obtain ⟨n,hn⟩ := zp.1 h
      cases n with
      | zero => cases hn
      | succ n => unfold nv at hn; rw [hf] at hn; cases hn
  | some x =>
    cases x with
    | inl s' =>
      show aN f s = aN f s'
      cases h' : aN f s' with
      | some r =>
        obtain ⟨n,hn⟩ := zp.1 h'
        exact FM (n := n + 1) (by unfold nv; rw [hf]; exact hn)
      | none =>
        cases h : aN f s with
        | none => rfl
        | some r =>
          obtain ⟨n,hn⟩ := zp.1 h
          cases n with
          | zero => cases hn
          | succ n =>
            unfold nv at hn
            rw [hf] at hn
            have := FM hn
            rw [h'] at this
            cases this
    | inr r => exact FM (n := 1) (by unfold nv; rw [hf])
def Pp {X : Type} (P : Program) (N : Nat) (l : List Code) (σ : St) (o : Option X) (E : X → (Exit → St → Prop) → Prop) : Prop :=
  ∀ K : Exit → St → Prop,W o (fun x => E x K) → ah P N l K σ
def cq {S R : Type} (emb : S → St) (E : R → (Exit → St → Prop) → Prop) : S ⊕ R → (Exit → St → Prop) → Prop
  | .inl s,K => K .normal (emb s)
  | .inr r,K => E r K
theorem aE.loopF {S R : Type} {f : S → Option (S ⊕ R)} {emb : S → St} {E : R → (Exit → St → Prop) → Prop} (hb : ∀ s,Pp P N (aD x) (emb s) (f s) (cq emb E))
    (hE : ∀ r J K,E r K → E r (aM J K)) {s : S} (h : W (aN f s) fun r => E r K) : aE P N (.loop x) K (emb s) := by
  obtain ⟨r,hr,hq⟩ := bi.1 h
  obtain ⟨n,hn⟩ := zp.1 hr
  refine aE.loop (fun m σ => ∃ s,σ = emb s ∧ nv f m s = some r) n (emb s) (.refl _) ⟨s,rfl,hn⟩ ?_
  rintro m σ ⟨s,rfl,hm⟩
  refine .ofItems x (hb s _ ?_)
  cases m with
  | zero => cases hm
  | succ m =>
    unfold nv at hm
    split at hm
    · next s' hs => rw [hs]; exact ⟨m,emb s',Nat.lt_succ_self m, .refl _,s',rfl,hm⟩
    · next r' hs => rw [hs]; cases hm; exact hE r _ _ hq
    · cases hm
end
end Go.Ax
namespace Go.Ax
open Go.RowKit
def bf {T : Type} (enc : T → List D) (z : T) (l : List T) (i : Nat) : List D := enc (l.getD i z)
def bk {T : Type} (enc : T → List D) (dec : List D → T) (k0 k n : Nat) (el : Nat → List D) : Prop := (0 < n → k = k0) ∧ ∀ i,i < n → el i = enc (dec (el i))
def jD {T : Type} (z : T) (l : List T) (off n : Nat) : List T := (List.range n).map fun i => l.getD (off + i) z
structure ai {T : Type} (enc : T → List D) (z : T) (n : Nat) (el : Nat → List D) (l : List T) : Prop where
  len : n = l.length
  els : ∀ i,i < n → el i = enc (l.getD i z)
section
variable {T : Type} {enc : T → List D} {dec : List D → T} {z : T} {n m k k0 off : Nat} {el el' : Nat → List D} {l l' : List T}
theorem d9 : (lst dec n el).length = n := by simp [lst]
theorem uw {i : Nat} (h : i < n) : (lst dec n el).getD i z = dec (el i) := by
  unfold lst
  rw [List.getD_eq_getElem?_getD,List.getElem?_map,List.getElem?_range h]
  rfl
theorem ai.of_ok (h : bk enc dec k0 k n el) : ai enc z n el (lst dec n el) :=
  ⟨d9.symm,fun i hi => by rw [uw hi]; exact h.2 i hi⟩
theorem ai.lst (hd : ∀ x,dec (enc x) = x) (h : ai enc z n el l) : Go.Ax.lst dec n el = l := by
  refine List.ext_getElem (by rw [d9,h.len]) fun i h1 h2 => ?_
  have hi : i < n := by rw [d9] at h1; exact h1
  have := uw (dec := dec) (el := el) (z := z) hi
  rw [List.getD_eq_getElem?_getD,List.getElem?_eq_getElem h1] at this
  have e : (Go.Ax.lst dec n el)[i] = dec (el i) := this
  rw [e,h.els i hi,hd,List.getD_eq_getElem?_getD,List.getElem?_eq_getElem h2]
  rfl
theorem ai.ok (hd : ∀ x,dec (enc x) = x) (h : ai enc z n el l) : bk enc dec k k n el := ⟨fun _ => rfl,fun i hi => by rw [h.els i hi,hd]⟩
theorem ai.okN (hd : ∀ x,dec (enc x) = x) (h : ai enc z 0 el l) : bk enc dec k0 k 0 el := ⟨fun h => by omega,fun i hi => by omega⟩
theorem ai.ls (enc : T → List D) (z : T) (l : List T) : ai enc z l.length (bf enc z l) l := ⟨rfl,fun _ _ => rfl⟩
theorem ai.ls0 (enc : T → List D) (z : T) (l : List T) : ai enc z l.length (fun i => bf enc z l (0 + i)) l := ⟨rfl,fun i _ => by simp [bf]⟩
theorem ai.zero (h : ai enc z n el l) : ai enc z n (fun i => el (0 + i)) l := ⟨h.len,fun i hi => by rw [Nat.zero_add]; exact h.els i hi⟩
theorem ai.nil (enc : T → List D) (z : T) (el : Nat → List D) : ai enc z 0 el [] := ⟨rfl,fun i hi => by omega⟩
theorem ai.app (h : ai enc z n el l) (h' : ai enc z m el' l') : ai enc z (n + m) (fun i => bif Nat.blt i n then el i else el' (i - n)) (l ++ l') := by
  refine ⟨by rw [List.length_append,h.len,h'.len],fun i hi => ?_⟩
  by_cases hlt : i < n
  · have : Nat.blt i n = true := by simpa using hlt
    rw [this,cond_true,h.els i hlt,List.getD_eq_getElem?_getD,List.getD_eq_getElem?_getD,List.getElem?_append_left (by rw [← h.len]; exact hlt)]
  · have : Nat.blt i n = false := by
      cases hb : Nat.blt i n with
      | false => rfl
      | true => rw [Nat.blt_eq] at hb; exact (hlt hb).elim
    rw [this,cond_false,h'.els (i - n) (by omega),List.getD_eq_getElem?_getD,List.getD_eq_getElem?_getD,List.getElem?_append_right (by rw [← h.len]; omega),h.len]
theorem ai.set (h : ai enc z n el l) (j : Nat) (x : T) {cs : List D} (hc : cs = enc x) : ai enc z n (fun q => bif Nat.beq q j then cs else el q) (l.set j x) := by
  refine ⟨by rw [List.length_set]; exact h.len,fun i hi => ?_⟩
  by_cases hj : i = j
  · subst hj
    rw [show Nat.beq i i = true by simp,cond_true,hc,List.getD_eq_getElem?_getD,List.getElem?_set_self (by rw [← h.len]; exact hi)]
    rfl
  · rw [Eo hj,cond_false,h.els i hi,List.getD_eq_getElem?_getD,List.getD_eq_getElem?_getD,List.getElem?_set_ne (fun e => hj e.symm)]
theorem Lb {i : Nat} (hi : i < n) : (jD z l off n).getD i z = l.getD (off + i) z := by
  unfold jD
  rw [List.getD_eq_getElem?_getD,List.getElem?_map,List.getElem?_range hi]
  rfl
theorem ai.sub (enc : T → List D) (z : T) (l : List T) (off n : Nat) : ai enc z n (fun i => bf enc z l (off + i)) (jD z l off n) :=
  ⟨by simp [jD],fun i hi => by rw [Lb hi]; rfl⟩
theorem ai.rep (x : T) {cs : List D} (hc : cs = enc x) (n : Nat) : ai enc z n (fun _ => cs) (List.replicate n x) :=
  ⟨by simp,fun i hi => by rw [hc,List.getD_eq_getElem?_getD,List.getElem?_replicate,if_pos hi]; rfl⟩
def Ii (z : T) (l : List T) (off n : Nat) : List T := (List.range l.length).map fun q => bif Nat.ble off q && Nat.blt q (off + n) then z else l.getD q z
theorem ai.clear (h : ai enc z n el l) {cs : List D} (hc : cs = enc z) (off m : Nat) : ai enc z n (fun q => bif Nat.ble off q && Nat.blt q (off + m) then cs else el q) (Ii z l off m) := by
  refine ⟨by simp [Ii,h.len],fun i hi => ?_⟩
  have hl : i < l.length := by rw [← h.len]; exact hi
  have : (Ii z l off m).getD i z = bif Nat.ble off i && Nat.blt i (off + m) then z else l.getD i z := by
    unfold Ii
    rw [List.getD_eq_getElem?_getD,List.getElem?_map,List.getElem?_range hl]
    rfl
  rw [this]
  cases hb : (Nat.ble off i && Nat.blt i (off + m)) with
  | true => exact hc
  | false => exact h.els i hi
theorem ce (h : n = l.length) (h' : m = l'.length) : n + m = (l ++ l').length := by rw [List.length_append,h,h']
theorem uA {j : Nat} {x : T} (h : n = l.length) : n = (l.set j x).length := by rw [List.length_set,h]
theorem ut : n = (jD z l off n).length := by simp [jD]
theorem Pw {x : T} : n = (List.replicate n x).length := by simp
theorem ai.lit (l : List T) (h : ∀ i,i < l.length → el i = enc (l.getD i z)) : ai enc z l.length el l := ⟨rfl,h⟩
theorem ai.congr (h : ai enc z n el l) (hn : m = n) (he : ∀ i,i < n → el' i = el i) : ai enc z m el' l := ⟨hn.trans h.len,fun i hi => by rw [he i (hn ▸ hi)]; exact h.els i (hn ▸ hi)⟩
theorem rM (h : off + n ≤ l.length) : jD z l off n = (l.drop off).take n := by
  refine List.ext_getElem (by simp [jD]; omega) fun i h1 h2 => ?_
  have hi : i < n := by simpa [jD] using h1
  have := Lb (z := z) (l := l) (off := off) hi
  rw [List.getD_eq_getElem?_getD,List.getElem?_eq_getElem h1,List.getD_eq_getElem?_getD,List.getElem?_eq_getElem (show off + i < l.length by omega)] at this
  have e : (jD z l off n)[i] = l[off + i]'(by omega) := this
  rw [e,List.getElem_take,List.getElem_drop]
end
section
variable {T : Type} {enc : T → List D} {z : T} {n k : Nat} {el : Nat → List D} {l : List T} {tm r : List (Nat × bB)} {H R : az} {t o : Nat}
theorem VLe.sl (h : ai enc z n el l) : VLe (.c (.sl k n el)) (.c (.sl k l.length (bf enc z l))) := by
  rw [VLe]
  exact ⟨h.len,fun _ => rfl,h.els⟩
theorem VLe.slk {k' : Nat} (hk : 0 < n → k = k') (h : ai enc z n el l) : VLe (.c (.sl k n el)) (.c (.sl k' l.length (bf enc z l))) := by
  rw [VLe]
  exact ⟨h.len,hk,h.els⟩
theorem VLe.rown {k off n n' : Nat} (h : n = n') : VLe (.row o k off n) (.row o k off n') := by subst h; exact VLe.rfl' _
theorem VLe.agg {xs ys : List V} (h : VLes xs ys) : VLe (.agg xs) (.agg ys) := by rw [VLe]; exact h
theorem VLe.tup {xs ys : List V} (h : VLes xs ys) : VLe (.tup xs) (.tup ys) := by rw [VLe]; exact h
theorem VLes.cons {x y : V} {xs ys : List V} (h : VLe x y) (hs : VLes xs ys) : VLes (x :: xs) (y :: ys) := by rw [VLes]; exact ⟨h,hs⟩
theorem VLes.nil : VLes [] [] := by rw [VLes]; trivial
theorem dg.cons {v v' : V} (h : bt tm t = some ⟨[],v⟩) (hv : VLe v v') (hr : dg tm r) : dg tm ((t,⟨[],v'⟩) :: r) := by
  rw [dg,h]; exact ⟨⟨rfl,rfl,hv⟩,hr⟩
theorem dg.nil : dg tm [] := by rw [dg]; trivial
theorem eN.row {ty n' : Nat} (h : az.get H o = some (.row ty k n el)) (hr : ai enc z n el l) (hs : eN H R) (hn : n' = l.length) : eN H ((o,some (.row ty k n' (bf enc z l))) :: R) := by
  subst hn
  rw [eN,h]; exact ⟨⟨rfl,rfl,hr.len,hr.els⟩,hs⟩
theorem eN.box {cs cs' : List V} (h : az.get H o = some (.box cs)) (hv : VLes cs cs') (hs : eN H R) : eN H ((o,some (.box cs')) :: R) := by
  rw [eN,h]; exact ⟨hv,hs⟩
theorem eN.same {b : Ob} (h : az.get H o = some b) (hs : eN H R) : eN H ((o,some b) :: R) := by
  rw [eN,h]
  refine ⟨?_,hs⟩
  cases b with
  | box cs => exact VLes.rfl' cs
  | raw x => exact rfl
  | row t k n el => exact ⟨rfl,rfl,rfl,fun _ _ => rfl⟩
theorem eN.nil : eN H [] := by rw [eN]; trivial
theorem em.of {σ σ' : St} (h1 : dg σ.tm σ'.tm) (h2 : eN σ.hp σ'.hp) (h3 : Nat.ble σ.nx σ'.nx = true) : em σ σ' := .le ⟨h1,h2,Nat.ble_eq.mp h3⟩
end
section
variable {P : Program} {N : Nat} {σ σ' : St}
theorem dX.intro {rs : List ResultVar} {out : bS} {v : V} (hv : oy P σ rs = some v) (h : du out σ.hp v) : dX P rs (du out) .ret σ := by
  show (match oy P σ rs with | some v => du out σ.hp v | none => False)
  rw [hv]; exact h
theorem jA {f : FuncId} {fn : Func} {c : Code} (hf : P.funcs[f]? = some fn) (hb : fn.body = some c) (hn : (fn.name == "runtime.NumGoroutine") = false) {con : bW} {rs : List ResultVar} (hr : fn.results.toList = rs) {nt : Nat} (ht : fn.ntmps = nt)
    (h : ∀ vs p out,con vs = some (p,out) → (∀ q ∈ p,q) → ∃ vs',VLes vs vs' ∧ (Nat.ble vs'.length nt && Nat.ble nt 1000000) = true ∧ ah P nt (aD c) (dX P rs (du out)) { tm := ko vs' 0,hp := [],nx := 0 }) : Meets P f con := by
  subst hr ht
  refine Oe hf hb hn fun vs p out h1 h2 => ?_
  obtain ⟨vs',h3,h4,h5⟩ := h vs p out h1 h2
  rw [Bool.and_eq_true] at h4
  exact ⟨vs',h3,⟨Nat.ble_eq.mp h4.1,Nat.ble_eq.mp h4.2⟩, .ofItems c h5⟩
end
def Mv {T : Type} (enc : T → List D) (el : Nat → List D) : Nat → List T → Prop
  | _,[] => True
  | i,x :: r => el i = enc x ∧ Mv enc el (i + 1) r
theorem K4 {T : Type} {enc : T → List D} {z : T} {el : Nat → List D} : ∀ {l : List T} {i : Nat},Mv enc el i l → ∀ j,j < l.length → el (i + j) = enc (l.getD j z)
  | [],_,_,j,h => by simp at h
  | x :: r,i,ha,0,_ => ha.1
  | x :: r,i,ha,j + 1,h => by
    have := K4 (z := z) ha.2 j (by simpa using h)
    rw [show i + (j + 1) = i + 1 + j by omega]
    simpa using this
theorem ai.lits {T : Type} {enc : T → List D} {z : T} {el : Nat → List D} {l : List T} (h : Mv enc el 0 l) : ai enc z l.length el l :=
  ⟨rfl,fun i hi => by have := K4 (z := z) h i hi; rwa [Nat.zero_add] at this⟩
theorem aT {α : Type} {p q : Prop} {o : Option α} {Q : α → Prop} {X : Prop} (h : W (gd (p ∧ q) o) Q) (h1 : p ∧ q → W o Q → X) : p ∧ q ∧ X := by
  obtain ⟨⟨a,b⟩,c⟩ := bF h h1
  exact ⟨a,b,c⟩
theorem pl {α : Type} {p q r : Prop} {o : Option α} {Q : α → Prop} {X : Prop} (h : W (gd (p ∧ q ∧ r) o) Q) (h1 : p ∧ q ∧ r → W o Q → X) : p ∧ q ∧ r ∧ X := by
  obtain ⟨⟨a,b,c⟩,d⟩ := bF h h1
  exact ⟨a,b,c,d⟩
def cL (n b : Nat) : Prop := n * b ≤ 140737488355328 ∧ n ≤ 140737488355328
theorem dP {a : Prop} {l : List Prop} (h : ∀ q ∈ a :: l,q) : a ∧ ∀ q ∈ l,q := ⟨h a (by simp),fun q hq => h q (by simp [hq])⟩
section
variable {P : Program} {C : FuncId → Option CC} {N : Nat} {x y c : Code} {K : Exit → St → Prop} {σ : St}
structure Lh (P : Program) (C : FuncId → Option CC) (N : Nat) (c : Code) (K : Exit → St → Prop) (σ : St) : Prop where
  h : ev P C N c K σ
theorem Lh.of {X : Prop} (h : ev P C N c K σ = X) (x : X) : Lh P C N c K σ := ⟨h.mpr x⟩
theorem ah.pieceD (hm : P.follows .mixedOrders = true) (hC : ∀ f con,C f = some con → dl P f con) (ts : List Nat) (a m b : Nat) {l : List Code} (e : a + m = b)
    (h : Lh P C N (ofItems ((l.drop a).take m)) (cN ts (aM (ah P N (l.drop b) K) K)) σ) : ah P N (l.drop a) K σ := by
  obtain ⟨h⟩ := h
  subst e
  have := ah.piece hm hC ts ((l.drop a).take m) ((l.drop a).drop m) (K := K) (σ := σ) (by rw [List.drop_drop]; exact h)
  rwa [List.take_append_drop] at this
theorem ah.pieceE (hm : P.follows .mixedOrders = true) (hC : ∀ f con,C f = some con → dl P f con) (ts : List Nat) (a m : Nat) {l : List Code} (e : l.drop (a + m) = [])
    (h : Lh P C N (ofItems ((l.drop a).take m)) (cN ts K) σ) : ah P N (l.drop a) K σ := by
  obtain ⟨h⟩ := h
  have hl : (l.drop a).take m = l.drop a := List.take_of_length_le (by
    have := List.drop_eq_nil_iff.1 e
    rw [List.length_drop]; omega)
  rw [hl] at h
  have hq := ah.piece (l' := []) hm hC ts (l.drop a) (K := K) (σ := σ) (Bg _ (fun e σ hk => ?_) h)
  · rwa [List.append_nil] at hq
  · unfold cN at hk ⊢
    cases hc : uE ts σ with
    | false => rw [hc] at hk; exact hk.elim
    | true =>
      rw [hc,cond_true] at hk
      rw [cond_true]
      obtain ⟨σ',h1,h2⟩ := hk
      cases e with
      | normal => exact ⟨σ',h1,σ', .refl _,h2⟩
      | exit id => exact ⟨σ',h1,h2⟩
      | goto l => exact ⟨σ',h1,h2⟩
      | ret => exact ⟨σ',h1,h2⟩
      | panic ch => exact ⟨σ',h1,h2⟩
      | outgrown => exact ⟨σ',h1,h2⟩
theorem ah.at_ {l l' : List Code} (e : l = l') (h : ah P N l' K σ) : ah P N l K σ := e ▸ h
theorem ah.end_ {l : List Code} (e : l = []) (h : K .normal σ) : ah P N l K σ := by subst e; exact acI h
theorem ah.cons_loop {r : List Code} {id : Nat} (h : aE P N (.loop x) (bg id (aM (ah P N r K) K)) σ) : ah P N (.block id (.loop x) :: r) K σ := aE.block h
end
theorem bT {S R α : Type} {f : S → Option (S ⊕ R)} {s : S} {g : R → Option α} {Q : α → Prop} {Q' : R → Prop} (h : W ((aN f s).bind g) Q) (hq : ∀ r,W (g r) Q → Q' r) : W (aN f s) Q' := aie (abX h) hq
def WV (c c' : bW) : bW := fun vs => match c vs with | some r => some r | none => c' vs
theorem Meets.or {P : Program} {f : FuncId} {c c' : bW} (h : Meets P f c) (h' : Meets P f c') : Meets P f (WV c c') := by
  intro ok w xs vs p out h1 h2 h3 h4
  unfold WV at h3
  split at h3
  · next r hr => cases h3; exact h ok w xs vs p out h1 h2 hr h4
  · exact h' ok w xs vs p out h1 h2 h3 h4
end Go.Ax
namespace Go.Ax
open Go.RowKit
mutual
def V.mp (f : Nat → Nat) : V → V
  | .c d => .c d
  | .agg vs => .agg (V.mps f vs)
  | .tup vs => .tup (V.mps f vs)
  | .ptr o k i j => .ptr (f o) k i j
  | .row o k off n => .row (f o) k off n
  | .dptr k cs j => .dptr k cs j
  | .fn g caps => .fn g (V.mps f caps)
def V.mps (f : Nat → Nat) : List V → List V
  | [] => []
  | v :: r => V.mp f v :: V.mps f r
end
def Ob.mp (f : Nat → Nat) : Ob → Ob
  | .box cs => .box (V.mps f cs)
  | .row t k n el => .row t k n el
  | .raw x => .raw x
mutual
def V.sclr : V → Bool
  | .c d => d.scal
  | .agg vs => V.sclrs vs
  | .tup vs => V.sclrs vs
  | .ptr .. => true
  | .row .. => true
  | .dptr .. => false
  | .fn _ vs => V.sclrs vs
def V.sclrs : List V → Bool
  | [] => true
  | v :: r => V.sclr v && V.sclrs r
end
def aiK : Ob → Prop
  | .box cs => V.sclrs cs = true
  | .row _ _ n el => ∀ i,i < n → ∀ d ∈ el i,d.scal = true
  | .raw _ => True
def Ep : Ob → List Nat
  | .box cs => V.refss cs
  | .row .. => []
  | .raw _ => []
mutual
def V.rrefs : V → List Nat
  | .agg vs => V.rrefss vs
  | .tup vs => V.rrefss vs
  | .row o _ _ _ => [o]
  | .fn _ caps => V.rrefss caps
  | _ => []
def V.rrefss : List V → List Nat
  | [] => []
  | v :: r => V.rrefs v ++ V.rrefss r
end
def FO : Ob → List Nat
  | .box cs => V.rrefss cs
  | .row .. => []
  | .raw _ => []
def lA (q : Nat) : Ob → V
  | .box cs => .ptr q cs.length 0 0
  | .row _ k n _ => .row q k 0 n
  | .raw _ => .ptr q 1 0 0
def aeu : Ob → Ob → Prop
  | .box _, .box _ => True
  | .row _ _ n _, .row _ _ n' _ => n = n'
  | .raw _, .raw _ => True
  | _,_ => False
def Ee (H : az) : List (Nat × bB) := H.map fun x => (1000000 + x.1,match x.2 with | some b => ⟨[],lA x.1 b⟩ | none => ⟨[], .c .unk⟩)
def nz (os : List Nat) (H : az) : List Bool → List V → List V
  | _,[] => []
  | b :: fl,v :: r => (bif b then v.ren os else v.view H) :: nz os H fl r
  | [],v :: r => v.view H :: nz os H [] r
def Fi (os : List Nat) (H : az) (nr : Bool) (v : V) : Bool := bif nr then v.refs.isEmpty else Q1 H [v] && v.refs.all fun o => !(mG o os)
def ea (os : List Nat) (H : az) (nr : Bool) : List Bool → List V → Bool
  | _,[] => true
  | b :: fl,v :: r => (bif b then v.refs.all (fun o => mG o os) else Fi os H nr v) && ea os H nr fl r
  | [],v :: r => Fi os H nr v && ea os H nr [] r
def QO (os : List Nat) (H : az) : Bool := os.all fun o => match az.get H o with | some b => Kl os b | none => false
def qU : List (Nat × Nat) → Nat → Nat
  | [],_ => 0
  | (q',o) :: r,q => bif Nat.beq q' q then o else qU r q
def rx : List (Nat × Nat) → Nat → Option Nat
  | [],_ => none
  | (q,o') :: r,o => bif Nat.beq o' o then some q else rx r o
structure Left (os : List Nat) (nid : Nat) (H : az) (sc : Bool) (r : dE) (m : List (Nat × Nat)) (σ : St) (v : V) : Prop where
  inj : ∀ q q' o,(q,o) ∈ m → (q',o) ∈ m → q = q'
  fn : ∀ q o o',(q,o) ∈ m → (q,o') ∈ m → o = o'
  to : ∀ q o,(q,o) ∈ m → o ∈ os ∨ o = nid
  val : VLe (v.mp (qU m)) r.val
  vrefs : ∀ q ∈ v.refs,q ∈ m.map (·.1)
  vrows : v.rrefs.all (fun q => sV (az.get σ.hp q)) = true
  vsc : sc = true ∨ v.sclr = true
  has : ∀ q o,(q,o) ∈ m → ∃ ob,az.get σ.hp q = some ob
  obs : ∀ o ob',az.get r.eff o = some ob' → ∃ q ob,(q,o) ∈ m ∧ az.get σ.hp q = some ob ∧ QR (ob.mp (qU m)) ob' ∧ (∀ p ∈ Ep ob,p ∈ m.map (·.1)) ∧ (FO ob).all (fun q => sV (az.get σ.hp q)) = true ∧ (sc = true ∨ aiK ob)
  all : ∀ o ∈ os,o ∈ kP r.eff
  kill : ∀ o ∈ r.kill,o ∈ os
  keep : ∀ i o,os[i]? = some o → o ∈ r.kill ∨ ∃ q ob ob',(q,o) ∈ m ∧ az.get H o = some ob ∧ az.get σ.hp q = some ob' ∧ aeu ob ob' ∧ bt σ.tm (1000000 + i) = some ⟨[],lA q ob⟩
def lK (P : Program) (rs : List ResultVar) (Q : St → V → Prop) : Exit → St → Prop
  | .ret,σ => (match oy P σ rs with | some v => Q σ v | none => False)
  | .normal,σ => (match oy P σ rs with | some v => Q σ v | none => False)
  | _,_ => False
section
variable {P : Program} {N : Nat} {B : lg} {σ σ' : St} {E E' : bm} {a : Act} {w w' : World} {H : az}
theorem sB (f : Nat → Nat) : ∀ vs : List V,(V.mps f vs).length = vs.length
  | [] => rfl
  | _ :: r => by simp [V.mps,sB f r]
theorem Bl (f : Nat → Nat) : ∀ (vs : List V) (i : Nat),(V.mps f vs)[i]? = (vs[i]?).map (V.mp f)
  | [],i => by simp [V.mps]
  | v :: r,0 => by simp [V.mps]
  | v :: r,i + 1 => by simp [V.mps,Bl f r i]
theorem vP : ∀ {vs : List V} {i : Nat} {v : V},V.sclrs vs = true → vs[i]? = some v → v.sclr = true
  | [],i,v,_,h => by simp at h
  | x :: r,0,v,hs,h => by
    simp only [V.sclrs,Bool.and_eq_true] at hs
    simp at h; subst h; exact hs.1
  | x :: r,i + 1,v,hs,h => by
    simp only [V.sclrs,Bool.and_eq_true] at hs
    exact vP hs.2 (by simpa using h)
theorem tw {o : Nat} : ∀ {vs : List V} {i : Nat} {v : V},vs[i]? = some v → o ∈ v.rrefs → o ∈ V.rrefss vs
  | [],i,v,h,_ => by simp at h
  | x :: r,0,v,h,ho => by simp at h; subst h; simp [V.rrefss,ho]
  | x :: r,i + 1,v,h,ho => by
    simp only [V.rrefss,List.mem_append]
    exact .inr (tw (by simpa using h) ho)
mutual
theorem rrefs_refs : ∀ (v : V), ∀ q ∈ v.rrefs,q ∈ v.refs
  | .c _ => by simp [V.rrefs]
  | .agg vs => by simp only [V.rrefs,V.refs]; exact rrefss_refs vs
  | .tup vs => by simp only [V.rrefs,V.refs]; exact rrefss_refs vs
  | .ptr .. => by simp [V.rrefs]
  | .row .. => by simp [V.rrefs,V.refs]
  | .dptr .. => by simp [V.rrefs]
  | .fn _ vs => by simp only [V.rrefs,V.refs]; exact rrefss_refs vs
theorem rrefss_refs : ∀ (vs : List V), ∀ q ∈ V.rrefss vs,q ∈ V.refss vs
  | [] => by simp [V.rrefss]
  | v :: r => by
    intro q hq
    simp only [V.rrefss,V.refss,List.mem_append] at hq ⊢
    exact hq.imp (rrefs_refs v q) (rrefss_refs r q)
end
theorem aJ.ptr_inv {v : Value} {o k i j : Nat} (h : aJ E w v (.ptr o k i j)) : ∃ b,E.conc o = some b ∧ v = .pointer (some ⟨b,i * k + j,none⟩) := by
  generalize hd : V.ptr o k i j = d at h
  cases h with
  | ptr o' k' i' j' b h1 h2 h3 => cases hd; exact ⟨b,h2,rfl⟩
  | _ => cases hd
theorem aJ.row_inv {v : Value} {o k n : Nat} (h : aJ E w v (.row o k 0 n)) : ∃ (a : Option Addr) (c : Nat),v = .slice a n c ∧ ((a = none ∧ c = 0 ∧ E.conc o = none) ∨ ∃ b,E.conc o = some b ∧ a = some ⟨b,0,none⟩ ∧ c = E.cap o) := by
  generalize hd : V.row o k 0 n = d at h
  cases h with
  | row o' k' off' n' a c hn hc hm hl ha h0 => cases hd; exact ⟨a,c,rfl,h0 rfl⟩
  | _ => cases hd
def Oa (E E' : bm) (f : Nat → Nat) (q : Nat) : Prop :=
  E'.live (f q) ∧ E'.conc (f q) = E.conc q ∧ E'.len (f q) = E.len q
def Ar (E E' : bm) (f : Nat → Nat) (q : Nat) : Prop := E.conc q = none ∨ E'.cap (f q) = E.cap q
theorem aJ.mp {f : Nat → Nat} {v : Value} {d : V} (h : aJ E w v d) : (∀ q ∈ V.refs d,E.live q → Oa E E' f q) → (∀ q ∈ V.rrefs d,E.live q → Ar E E' f q) → ((∀ b,E.ok b → E'.ok b) ∨ d.sclr = true) → aJ E' w v (d.mp f) := by
  induction h with
  | c v d h =>
    intro _ _ hs
    rcases hs with hs | hs
    · exact .c v d (h.mono hs fun _ _ => rfl)
    · exact .c v d (vR h hs)
  | agg vs ds hl h ih =>
    intro hr hr2 hs
    rw [V.mp]
    refine .agg vs _ (by rw [sB,hl]) fun i v d hv hd => ?_
    rw [Bl] at hd
    cases hx : ds[i]? with
    | none => rw [hx] at hd; cases hd
    | some x => rw [hx] at hd; cases hd; exact ih i v x hv hx (fun o ho => hr o (dY hx ho)) (fun o ho => hr2 o (tw hx ho)) (hs.imp id fun hs => vP hs hx)
  | tup vs ds hl h ih =>
    intro hr hr2 hs
    rw [V.mp]
    refine .tup vs _ (by rw [sB,hl]) fun i v d hv hd => ?_
    rw [Bl] at hd
    cases hx : ds[i]? with
    | none => rw [hx] at hd; cases hd
    | some x => rw [hx] at hd; cases hd; exact ih i v x hv hx (fun o ho => hr o (dY hx ho)) (fun o ho => hr2 o (tw hx ho)) (hs.imp id fun hs => vP hs hx)
  | ptr o k i j b h1 h2 h3 =>
    intro hr _ _
    obtain ⟨g1,g2,g3⟩ := hr o (by simp [V.refs]) h1
    rw [V.mp]
    exact .ptr _ k i j b g1 (g2.trans h2) (by rw [g3]; exact h3)
  | row o k off n a c hn hc hm hl ha h0 =>
    intro hr hr2 _
    obtain ⟨g1,g2,g3⟩ := hr o (by simp [V.refs]) hn
    have g4 := hr2 o (by simp [V.rrefs]) hn
    rw [V.mp]
    refine .row _ k off n a c g1 hc hm (by rw [g3]; exact hl) (by rw [g2]; exact ha) fun h => ?_
    rcases h0 h with h | ⟨b,h1,h2,h3⟩
    · exact .inl (by rw [g2]; exact h)
    · refine .inr ⟨b,by rw [g2]; exact h1,h2, ?_⟩
      rcases g4 with g4 | g4
      · rw [g4] at h1; cases h1
      · rw [g4]; exact h3
  | dptr k cs j ad u h1 h2 h3 h4 =>
    intro _ _ hs
    rcases hs with hs | hs
    · exact .dptr k cs j ad u (hs _ h1) h2 h3 fun i d hd => (h4 i d hd).mono hs fun _ _ => rfl
    · simp [V.sclr] at hs
  | fn g vs ds hl h ih =>
    intro hr hr2 hs
    rw [V.mp]
    refine .fn g vs _ (by rw [sB,hl]) fun i v d hv hd => ?_
    rw [Bl] at hd
    cases hx : ds[i]? with
    | none => rw [hx] at hd; cases hd
    | some x => rw [hx] at hd; cases hd; exact ih i v x hv hx (fun o ho => hr o (dY hx ho)) (fun o ho => hr2 o (tw hx ho)) (hs.imp id fun hs => vP hs hx)
theorem my.mp {f : Nat → Nat} {q : Nat} {ob : Ob} (h : my E w q ob) (hq : Oa E E' f q) (hqc : sV (some ob) = true → Ar E E' f q) (hr : ∀ p ∈ Ep ob,E.live p → Oa E E' f p) (hr2 : ∀ p ∈ FO ob,E.live p → Ar E E' f p) (hs : (∀ b,E.ok b → E'.ok b) ∨ aiK ob) : my E' w (f q) (ob.mp f) := by
  obtain ⟨g1,g2,g3⟩ := hq
  cases ob with
  | box cs =>
    obtain ⟨e1,b,C,t,e2,e3,e4,e5⟩ := h
    refine ⟨g3.trans e1,b,C,t,g2.trans e2,e3, ?_,fun i v d hv hd => ?_⟩
    · rw [sB]; exact e4
    · rw [Bl] at hd
      cases hx : cs[i]? with
      | none => rw [hx] at hd; cases hd
      | some x =>
        rw [hx] at hd; cases hd
        exact (e5 i v x hv hx).mp (fun p hp => hr p (dY hx hp)) (fun p hp => hr2 p (tw hx hp)) (hs.imp id fun hs => vP hs hx)
  | raw x =>
    obtain ⟨h1,b,h2,h3⟩ := h
    exact ⟨g3.trans h1,b,g2.trans h2,h3⟩
  | row t k n el =>
    obtain ⟨h1,h2⟩ := h
    refine ⟨g3.trans h1, ?_⟩
    rcases h2 with ⟨h2,h3⟩ | ⟨b,C,a1,a2,a3,a4,a5,a6,a7,a8⟩
    · exact .inl ⟨g2.trans h2,h3⟩
    · have hcap : E'.cap (f q) = E.cap q := by
        rcases hqc rfl with g4 | g4
        · rw [g4] at a1; cases a1
        · exact g4
      refine .inr ⟨b,C,g2.trans a1,a2,by rw [hcap]; exact a3,by rw [hcap]; exact a4,by rw [hcap]; exact a5,a6,a7,fun i j d u hi hd hu => ?_⟩
      have := a8 i j d u hi hd hu
      rcases hs with hs | hs
      · exact this.mono hs fun _ _ => rfl
      · exact vR this (hs i hi d (List.mem_of_getElem? hd))
theorem TA {kl : List Nat} {q : Nat} {ob ob' : Ob} (h : my E w q ob) (hk : iw kl (some ob) = some ob') (hc : E'.conc q = E.conc q ∧ E'.cap q = E.cap q ∧ E'.len q = E.len q) (hb : ∀ b,E.conc q = some b → w'.heap[b]? = w.heap[b]?)
    (hr : ∀ v d,aJ E w v d → aJ E' w' v (d.killAll kl)) (hd : ∀ v d,cl E.ok w v d → cl E'.ok w' v d) : my E' w' q ob' := by
  obtain ⟨c1,c2,c3⟩ := hc
  cases ob with
  | box cs =>
    rw [zS] at hk
    cases hk
    obtain ⟨hl,b,C,t,h1,h2,h3,h4⟩ := h
    refine ⟨c3.trans hl,b,C,t,c1.trans h1,(hb b h1).trans h2,by rw [List.length_map]; exact h3,fun i v d hv hx => ?_⟩
    rw [List.getElem?_map] at hx
    cases hy : cs[i]? with
    | none => rw [hy] at hx; cases hx
    | some y => rw [hy] at hx; cases hx; exact hr _ _ (h4 i v y hv hy)
  | raw x =>
    rw [zG] at hk
    cases hk
    obtain ⟨hl,b,h1,h2⟩ := h
    exact ⟨c3.trans hl,b,c1.trans h1,(hb b h1).trans h2⟩
  | row t k n el =>
    rw [zD] at hk
    cases hk
    obtain ⟨hl,h⟩ := h
    refine ⟨c3.trans hl, ?_⟩
    rcases h with ⟨h1,h2⟩ | ⟨b,C,h1,h2,h3,h4,h5,h6,h7,h8⟩
    · exact .inl ⟨c1.trans h1,h2⟩
    · exact .inr ⟨b,C,c1.trans h1,(hb b h1).trans h2,by rw [c2]; exact h3,by rw [c2]; exact h4,by rw [c2]; exact h5,h6,h7,fun i j d u a b c => hd _ _ (h8 i j d u a b c)⟩
theorem oT : ∀ {os : List Nat} {H : az} {o : Nat} {b : Ob},az.get (iK os H) o = some b → az.get H o = some b ∧ o ∈ os
  | [],H,o,b,h => by simp [iK,az.get] at h
  | p :: r,H,o,b,h => by
    unfold iK at h
    split at h
    · next b' hb' =>
      rw [az.get_cons] at h
      split at h
      · next e => subst e; cases h; exact ⟨hb',by simp⟩
      · have := oT h; exact ⟨this.1,List.mem_cons_of_mem _ this.2⟩
    · have := oT h; exact ⟨this.1,List.mem_cons_of_mem _ this.2⟩
theorem Ez : ∀ {os : List Nat} {H : az} {o : Nat},o ∈ os → az.get (iK os H) o = az.get H o
  | [],H,o,h => by simp at h
  | p :: r,H,o,h => by
    unfold iK
    by_cases e : p = o
    · subst e
      cases hb : az.get H p with
      | some b => simp only; rw [az.get_cons,if_pos rfl]
      | none =>
        simp only
        cases hg : az.get (iK r H) p with
        | none => rfl
        | some b => rw [(oT hg).1] at hb; cases hb
    · have ho : o ∈ r := by
        rcases List.mem_cons.1 h with h | h
        · exact (e h.symm).elim
        · exact h
      split
      · rw [az.get_cons,if_neg e]; exact Ez ho
      · exact Ez ho
theorem xT (hH : bC E w H) (os : List Nat) : bC E w (iK os H) :=
  ⟨fun o ob h => hH.at_ o ob (oT h).1,hH.inj,hH.sep,hH.lt,hH.oklt⟩
theorem CF {o : Nat} {l : List Nat} : mG o l = true ↔ o ∈ l := ⟨oS,fun h => List.any_eq_true.2 ⟨o,h,by simp⟩⟩
theorem Q7 {os : List Nat} {ok' : Nat → Prop} (hH : bC E w H) (h1 : ∀ b,E.ok b → ok' b) (h2 : ∀ o b,o ∉ os → E.live o → E.conc o = some b → ok' b) {v : Value} {d : V} (h : aJ E w v d)
    (hr : Q1 H [d] = true) (ho : d.refs.all (fun o => !(mG o os)) = true) : aJ (ot ok') w v (d.view H) := by
  have hin : ∀ o ∈ d.refs,o ∉ os := by
    intro o hd hc
    have := List.all_eq_true.1 ho o hd
    rw [CF.2 hc] at this; cases this
  have hrefs : V.refss [d] = d.refs := by simp [V.refss]
  have hrow : ∀ o ∈ d.refs,sV (H.get o) = true := by
    intro o hd
    unfold Q1 at hr
    rw [hrefs] at hr
    exact List.all_eq_true.1 hr o hd
  have hag : oC H (iK d.refs H) d.refs := by
    refine ⟨fun o ho => (Ez ho).symm,fun o ho cs hb q hq => ?_⟩
    have := hrow o ho
    rw [hb] at this; cases this
  rw [view_agree d hag]
  have hv := h.only (os := d.refs) fun o h => h
  have hH1 : bC { E with live := fun o => E.live o ∧ o ∈ d.refs } w (iK d.refs H) := by
    refine ⟨fun o ob hg => ?_,fun o o' b a b' => hH.inj o o' b a.1 b'.1,fun o b a => hH.sep o b a.1,fun o b a => hH.lt o b a.1,hH.oklt⟩
    obtain ⟨g1,g2⟩ := oT hg
    obtain ⟨l1,l2⟩ := hH.at_ o ob g1
    refine ⟨⟨l1,g2⟩, ?_⟩
    have := hrow o g2
    rw [g1] at this
    cases ob with
    | box cs => cases this
    | raw x => cases this
    | row t k n el => exact l2
  exact xE hH1 (ok' := ok') h1 hv (.inl fun q b hq hb => h2 q b (hin q hq.2) hq.1 hb)
def bm.hand (E : bm) (os : List Nat) (nr : Bool) : bm := { E.ren os with ok := fun b => E.ok b ∨ (nr = false ∧ ∃ o,o ∉ os ∧ E.live o ∧ E.conc o = some b) }
theorem aJ.hand {os : List Nat} {nr : Bool} {v : Value} {d : V} (h : aJ (E.ren os) w v d) : aJ (E.hand os nr) w v d :=
  h.mono (E := E.ren os) (E' := E.hand os nr) (kl := []) (fun _ (h : E.ok _) => Or.inl h) (fun _ _ => rfl) (fun _ h => h) (fun _ _ _ => ⟨rfl,rfl,rfl⟩) (Ln d)
theorem N3 {os : List Nat} {nr : Bool} (hH : bC E w H) {x : Value} {v : V} (h : aJ E w x v) (hk : Fi os H nr v = true) : aJ (E.hand os nr) w x (v.view H) := by
  unfold Fi at hk
  cases nr with
  | true =>
    simp only [cond_true,List.isEmpty_iff] at hk
    exact zA (E' := E.hand os true) (fun b (h : E.ok b) => Or.inl h) (xE hH (ok' := E.ok) (fun b h => h) h (.inr hk))
  | false =>
    simp only [cond_false,Bool.and_eq_true] at hk
    have := Q7 (os := os) (ok' := (E.hand os false).ok) hH (fun b h => .inl h) (fun o b h1 h2 h3 => .inr ⟨rfl,o,h1,h2,h3⟩) h hk.1 hk.2
    exact zA (E' := E.hand os false) (fun b h => h) this
theorem HB {os : List Nat} {nr : Bool} (hH : bC E w H) : ∀ (fl : List Bool) (xs : List Value) (args : List V),cD E w xs args → ea os H nr fl args = true → cD (E.hand os nr) w xs (nz os H fl args)
  | fl,xs,[],hx,_ => by
    have : nz os H fl [] = [] := by cases fl <;> rfl
    rw [this]
    exact ⟨hx.1,fun i v d _ hd => by simp at hd⟩
  | b :: fl,[],v :: r,hx,_ => by have := hx.1; simp at this
  | b :: fl,x :: xs,v :: r,hx,hk => by
    simp only [ea,Bool.and_eq_true] at hk
    have ih := HB hH fl xs r ⟨by simpa using hx.1,fun i v d hv hd => hx.2 (i + 1) v d (by simpa using hv) (by simpa using hd)⟩ hk.2
    refine ⟨by simpa [nz] using ih.1,fun i v' d hv hd => ?_⟩
    match i with
    | 0 =>
      simp [nz] at hv hd
      subst hv hd
      have h0 := hx.2 0 x v rfl rfl
      cases b with
      | true =>
        simp only [cond_true] at hk ⊢
        exact (h0.ren fun o ho => oS (List.all_eq_true.1 hk.1 o ho)).hand
      | false =>
        simp only [cond_false] at hk ⊢
        exact N3 hH h0 hk.1
    | i + 1 => exact ih.2 i v' d (by simpa using hv) (by simpa [nz] using hd)
  | [],[],v :: r,hx,_ => by have := hx.1; simp at this
  | [],x :: xs,v :: r,hx,hk => by
    simp only [ea,Bool.and_eq_true] at hk
    have ih := HB hH [] xs r ⟨by simpa using hx.1,fun i v d hv hd => hx.2 (i + 1) v d (by simpa using hv) (by simpa using hd)⟩ hk.2
    refine ⟨by simpa [nz] using ih.1,fun i v' d hv hd => ?_⟩
    match i with
    | 0 =>
      simp [nz] at hv hd
      subst hv hd
      exact N3 hH (hx.2 0 x v rfl rfl) hk.1
    | i + 1 => exact ih.2 i v' d (by simpa using hv) (by simpa [nz] using hd)
end
end Go.Ax
namespace Go.Ax
open Go.RowKit
section
variable {P : Program} {N : Nat} {B : lg} {σ σ' : St} {E E' Ec : bm} {a : Act} {w w' : World} {H : az} {os : List Nat} {nr : Bool}
theorem Gv : ∀ (A B : List (Nat × bB)) (t : Nat),bt (A ++ B) t = match bt A t with | some s => some s | none => bt B t
  | [],B,t => rfl
  | (q,x) :: A,B,t => by
    rw [List.cons_append,dM,dM]
    split
    · rfl
    · exact Gv A B t
theorem G0 : ∀ (H : az) (t : Nat) (s : bB),bt (Ee H) t = some s → ∃ q,t = 1000000 + q ∧ ((∃ ob,az.get H q = some ob ∧ s = ⟨[],lA q ob⟩) ∨ s = ⟨[], .c .unk⟩)
  | [],t,s,h => by simp [Ee,bt] at h
  | (p,b) :: H,t,s,h => by
    unfold Ee at h
    rw [List.map_cons,dM] at h
    split at h
    · next e =>
      cases h
      refine ⟨p,e.symm, ?_⟩
      cases b with
      | none => exact .inr rfl
      | some b => exact .inl ⟨b,by rw [az.get_cons,if_pos rfl],rfl⟩
    · next e =>
      obtain ⟨q,h1,h2⟩ := G0 H t s h
      refine ⟨q,h1,h2.imp (fun ⟨ob,g1,g2⟩ => ⟨ob, ?_,g2⟩) id⟩
      rw [az.get_cons,if_neg (fun e' => e (by rw [e',h1]))]
      exact g1
theorem RJ (q : Nat) (ob : Ob) : lA q (ob.ren os) = lA q ob := by
  cases ob with
  | box cs => simp [lA,Ob.ren,oc]
  | row t k n el => rfl
  | raw x => rfl
theorem TB {i o : Nat} {ob : Ob} (hi : os[i]? = some o) (hl : E.live o) (h : my E w o ob) : ∃ u,aJ (E.hand os nr) w u (lA i ob) := by
  have hlive : (E.hand os nr).live i := ⟨o,hi,hl⟩
  have hconc : (E.hand os nr).conc i = E.conc o := by simp [bm.hand,bm.ren,hi]
  have hcap : (E.hand os nr).cap i = E.cap o := by simp [bm.hand,bm.ren,hi]
  have hlen : (E.hand os nr).len i = E.len o := by simp [bm.hand,bm.ren,hi]
  cases ob with
  | box cs =>
    obtain ⟨h1,b,C,t,h2,h3,h4⟩ := h
    exact ⟨_, .ptr i cs.length 0 0 b hlive (hconc.trans h2) (by rw [hlen,h1]; exact Nat.zero_lt_one)⟩
  | raw x =>
    obtain ⟨h1,b,h2,h3⟩ := h
    exact ⟨_, .ptr i 1 0 0 b hlive (hconc.trans h2) (by rw [hlen,h1]; exact Nat.zero_lt_one)⟩
  | row t k n el =>
    obtain ⟨h1,h2⟩ := h
    rcases h2 with ⟨h2,h3⟩ | ⟨b,C,g1,g2,g3,g4,g5,_⟩
    · subst h3
      exact ⟨.slice none 0 0, .row i k 0 0 none 0 hlive (Nat.le_refl _) (by simp [maxLen]) (by rw [hlen,h1]; omega) (fun h => by omega) fun _ => .inl ⟨rfl,rfl,hconc.trans h2⟩⟩
    · exact ⟨.slice (some ⟨b,0,none⟩) n (E.cap o), .row i k 0 n _ _ hlive g4 g5 (by rw [hlen,h1]; omega) (fun _ => ⟨b,hconc.trans g1,by simp⟩) fun _ => .inr ⟨b,hconc.trans g1,rfl,hcap.symm⟩⟩
theorem VO (hH : bC E w H) (hn : x9 os = true) (hb : QO os H = true) {xs : List Value} {vs : List V} (hx : cD (E.hand os nr) w xs vs) (hN : vs.length ≤ N) (hsm : N ≤ 1000000) :
    ∃ gh : Nat → Value,(∀ i o ob,os[i]? = some o → az.get H o = some ob → aJ (E.hand os nr) w (gh (1000000 + i)) (lA i ob)) ∧
      eA N ⟨w,(E.hand os nr).ok,fun b => ∃ o ∈ os,E.conc o = some b,gh⟩ { tm := ko vs 0 ++ Ee (wi H os 0 os),hp := wi H os 0 os,nx := os.length } (E.hand os nr) { tmps := xs.toArray ++ Array.replicate (N - xs.toArray.size) undef,defers := [] } w := by
  have hob : ∀ o ∈ os, ∃ b,az.get H o = some b ∧ Kl os b = true := by
    intro o ho
    have := List.all_eq_true.1 hb o ho
    cases hg : az.get H o with
    | none => rw [hg] at this; cases this
    | some b => rw [hg] at this; exact ⟨b,rfl,this⟩
  have hex : ∀ t, ∃ u, ∀ i o ob,t = 1000000 + i → os[i]? = some o → az.get H o = some ob → aJ (E.hand os nr) w u (lA i ob) := by
    intro t
    cases ho : os[t - 1000000]? with
    | none => exact ⟨undef,fun i o ob e h _ => by subst e; rw [Nat.add_sub_cancel_left] at ho; rw [ho] at h; cases h⟩
    | some o =>
      obtain ⟨b,hg,_⟩ := hob o (List.mem_of_getElem? ho)
      obtain ⟨l1,l2⟩ := hH.at_ o b hg
      obtain ⟨u,hu⟩ := TB (nr := nr) ho l1 l2
      refine ⟨u,fun i o' ob e h1 h2 => ?_⟩
      subst e
      rw [Nat.add_sub_cancel_left] at ho hu
      rw [ho] at h1; cases h1
      rw [hg] at h2; cases h2
      exact hu
  have hgh : ∀ i o ob,os[i]? = some o → az.get H o = some ob → aJ (E.hand os nr) w (Classical.choose (hex (1000000 + i))) (lA i ob) := fun i o ob h1 h2 => Classical.choose_spec (hex (1000000 + i)) i o ob rfl h1 h2
  refine ⟨fun t => Classical.choose (hex t),hgh, ?_⟩
  have hl := hx.1
  have hE : ∀ q o,os[q]? = some o → (E.hand os nr).conc q = E.conc o := fun q o hq => by simp [bm.hand,bm.ren,hq]
  refine ⟨?_,hsm,rfl,fun q hq h => ?_,⟨fun q ob ho => ?_,fun q q' b hq hq' hb hb' => ?_,fun q b hq hb => ?_,fun q b hq hb => ?_,fun b h => ?_⟩,fun t s hg => ?_, .refl _ _ _,fun q b hq hb => ?_,fun b h => .inl h⟩
  · simp; omega
  · obtain ⟨o,ho,_⟩ := h
    have := (List.getElem?_eq_some_iff.1 ho).1
    have hq' : os.length ≤ q := hq
    omega
  · obtain ⟨o,b',g1,g2,g3,rfl⟩ := xY H os os 0 q ob ho
    have g1' : os[q]? = some o := by simpa using g1
    obtain ⟨l1,l2⟩ := hH.at_ o b' g3
    obtain ⟨b2,k1,k2⟩ := hob o (List.mem_of_getElem? g1')
    rw [g3] at k1; cases k1
    refine ⟨⟨o,g1',l1⟩, ?_⟩
    have := l2.ren (os := os) g1' k2
    exact rW (E' := E.hand os nr) this ⟨rfl,rfl,rfl⟩ (fun _ _ => rfl) (fun v d h => h.hand) (fun v d h => h.mono (fun b (h : E.ok b) => Or.inl h) fun _ _ => rfl)
  · obtain ⟨o,ho,l⟩ := hq
    obtain ⟨o',ho',l'⟩ := hq'
    rw [hE q o ho] at hb
    rw [hE q' o' ho'] at hb'
    have := hH.inj o o' b l l' hb hb'
    subst this
    exact Cu hn q q' o ho ho'
  · obtain ⟨o,ho,l⟩ := hq
    rw [hE q o ho] at hb
    rintro (h | ⟨_,o',h1,h2,h3⟩)
    · exact hH.sep o b l hb h
    · have := hH.inj o o' b l h2 hb h3
      subst this
      exact h1 (List.mem_of_getElem? ho)
  · obtain ⟨o,ho,l⟩ := hq
    rw [hE q o ho] at hb
    exact hH.lt o b l hb
  · rcases h with h | ⟨_,o,_,h2,h3⟩
    · exact hH.oklt b h
    · exact hH.lt o b h2 h3
  · rw [Gv] at hg
    cases hi : bt (ko vs 0) t with
    | some s' =>
      rw [hi] at hg
      cases hg
      obtain ⟨v,_,h2,rfl⟩ := CU vs 0 t s hi
      rw [Nat.sub_zero] at h2
      have hlt : t < xs.length := by rw [hl]; exact (List.getElem?_eq_some_iff.1 h2).1
      have hget : (xs.toArray ++ Array.replicate (N - xs.toArray.size) undef).getD t undef = xs[t] := by
        rw [Array.getD_eq_getD_getElem?,Array.getElem?_append_left (by simpa using hlt)]
        simp [hlt]
      refine ⟨fun _ => ?_,fun _ h => by simp [holds] at h⟩
      rw [zh (by omega)]
      simp only
      rw [hget]
      exact hx.2 t _ v (List.getElem?_eq_getElem hlt) h2
    | none =>
      rw [hi] at hg
      obtain ⟨q,rfl,hs⟩ := G0 _ t s hg
      rcases hs with ⟨ob,g1,rfl⟩ | rfl
      · obtain ⟨o,b',k1,k2,k3,rfl⟩ := xY H os os 0 q ob g1
        refine ⟨fun _ => ?_,fun _ h => by simp [holds] at h⟩
        have : lW (⟨w,(E.hand os nr).ok,fun b => ∃ o ∈ os,E.conc o = some b,fun t => Classical.choose (hex t)⟩ : lg) { tmps := xs.toArray ++ Array.replicate (N - xs.toArray.size) undef,defers := [] } (1000000 + q) = Classical.choose (hex (1000000 + q)) := if_neg (by omega)
        rw [this,RJ]
        exact hgh q o b' (by simpa using k1) k3
      · exact ⟨fun _ => .c _ _ (.unk _),fun _ h => by simp [holds] at h⟩
  · obtain ⟨o,ho,l⟩ := hq
    rw [hE q o ho] at hb
    exact .inr ⟨o,List.mem_of_getElem? ho,hb⟩
theorem KW : ∀ {m : List (Nat × Nat)} {q : Nat},q ∈ m.map (·.1) → (q,qU m q) ∈ m
  | [],q,h => by simp at h
  | (p,o) :: m,q,h => by
    unfold qU
    cases hb : Nat.beq p q with
    | true => rw [Nat.eq_of_beq_eq_true hb]; simp
    | false =>
      have hne : p ≠ q := fun e => by subst e; simp at hb
      rw [cond_false]
      rw [List.map_cons,List.mem_cons] at h
      rcases h with h | h
      · exact (hne h.symm).elim
      · exact List.mem_cons_of_mem _ (KW h)
theorem xy : ∀ {m : List (Nat × Nat)} {q o : Nat},rx m o = some q → (q,o) ∈ m
  | [],q,o,h => by simp [rx] at h
  | (p,o') :: m,q,o,h => by
    unfold rx at h
    cases hb : Nat.beq o' o with
    | true => rw [hb,cond_true] at h; cases h; rw [Nat.eq_of_beq_eq_true hb]; simp
    | false => rw [hb,cond_false] at h; exact List.mem_cons_of_mem _ (xy h)
theorem yG : ∀ {m : List (Nat × Nat)} {q o : Nat},rx m o = none → (q,o) ∉ m
  | [],q,o,_ => by simp
  | (p,o') :: m,q,o,h => by
    unfold rx at h
    cases hb : Nat.beq o' o with
    | true => rw [hb,cond_true] at h; cases h
    | false =>
      rw [hb,cond_false] at h
      intro hm
      rcases List.mem_cons.1 hm with hm | hm
      · cases hm; simp at hb
      · exact yG h hm
noncomputable def bm.back (E Ec : bm) (w : World) (os : List Nat) (nid : Nat) (kl : List Nat) (m : List (Nat × Nat)) : bm where
  conc o := match rx m o with | some q => Ec.conc q | none => bif mG o os then none else E.conc o
  cap o := match rx m o with | some q => (bif mG o os && !(mG o kl) then E.cap o else Ec.cap q) | none => E.cap o
  len o := match rx m o with | some q => Ec.len q | none => E.len o
  live o := E.live o ∨ (o = nid ∧ ∃ q,(q,nid) ∈ m)
  ok b := E.ok b ∨ (w.heap.size ≤ b ∧ Ec.ok b)
theorem CD {o : Nat} {l : List Nat} (h : o ∉ l) : mG o l = false := by
  cases hb : mG o l with
  | false => rfl
  | true => exact (h (oS hb)).elim
theorem Tw {H0 : az} (hH0 : bC E w H0) {gh : Nat → Value} {r : dE} {nid : Nat} {m : List (Nat × Nat)} {v : V} {u : Value} (hH : bC E w H) (hf : ¬ E.live nid) (hn : x9 os = true) (hos : ∀ o ∈ os, ∃ b,az.get H o = some b)
    (hgh : ∀ i o ob,os[i]? = some o → az.get H o = some ob → aJ (E.hand os nr) w (gh (1000000 + i)) (lA i ob))
    (hs : eA N ⟨w,(E.hand os nr).ok,fun b => ∃ o ∈ os,E.conc o = some b,gh⟩ σ Ec a w') (hu : aJ Ec w' u v) (hl : Left os nid H nr r m σ v) :
    iB E w H0 nid r (E.back Ec w os nid r.kill m) w' u := by
  have hlive : ∀ o ∈ os,E.live o := fun o ho => by
    obtain ⟨b,hb⟩ := hos o ho
    exact (hH.at_ o b hb).1
  have hnid : nid ∉ os := fun h => hf (hlive nid h)
  have inv : ∀ q o,(q,o) ∈ m → rx m o = some q := by
    intro q o h
    cases hi : rx m o with
    | none => exact (yG hi h).elim
    | some q' => rw [hl.inj q q' o h (xy hi)]
  have look : ∀ q o,(q,o) ∈ m → qU m q = o := fun q o h => hl.fn q _ o (KW (List.mem_map.2 ⟨_,h,rfl⟩)) h
  have clive : ∀ q o,(q,o) ∈ m → Ec.live q := fun q o h => by
    obtain ⟨ob,hob⟩ := hl.has q o h
    exact (hs.heap.at_ q ob hob).1
  have out : ∀ o,E.live o → o ∉ os → rx m o = none := by
    intro o h1 h2
    cases hi : rx m o with
    | none => rfl
    | some q =>
      rcases hl.to q o (xy hi) with h | h
      · exact (h2 h).elim
      · exact (hf (h ▸ h1)).elim
  have kept : ∀ o ∈ os,o ∉ r.kill → ∃ q,(q,o) ∈ m ∧ Ec.conc q = E.conc o ∧ (sV (az.get σ.hp q) = true → E.conc o = none ∨ Ec.cap q = E.cap o) ∧ Ec.len q = E.len o := by
    intro o ho hk
    obtain ⟨i,hi⟩ := List.getElem?_of_mem ho
    rcases hl.keep i o hi with h | ⟨q,ob,ob',h1,h2,h3,h4,h5⟩
    · exact (hk h).elim
    refine ⟨q,h1, ?_⟩
    have g0 := hgh i o ob hi h2
    have g1 := (hs.slots _ _ h5).1 rfl
    have hv : lW (⟨w,(E.hand os nr).ok,fun b => ∃ o ∈ os,E.conc o = some b,gh⟩ : lg) a (1000000 + i) = gh (1000000 + i) := if_neg (by omega)
    rw [hv] at g1
    have hconc : (E.hand os nr).conc i = E.conc o := by simp [bm.hand,bm.ren,hi]
    have hcap : (E.hand os nr).cap i = E.cap o := by simp [bm.hand,bm.ren,hi]
    have l0 := (hH.at_ o ob h2).2
    have l1 := (hs.heap.at_ q ob' h3).2
    cases ob with
    | box cs =>
      cases ob' with
      | row t k n el => exact h4.elim
      | raw x => exact h4.elim
      | box cs' =>
        simp only [lA] at g0 g1
        obtain ⟨b,a2,e0⟩ := g0.ptr_inv
        obtain ⟨b',b2,e1⟩ := g1.ptr_inv
        rw [e0] at e1
        have eb : b = b' := by
          have := congrArg (fun v : Value => match v with | .pointer (some a) => a.block | _ => 0) e1
          exact this
        subst eb
        refine ⟨?_, ?_, ?_⟩
        · rw [b2, ← hconc,a2]
        · rw [h3]; intro h; cases h
        · rw [l0.1,l1.1]
    | raw x =>
      cases ob' with
      | row t k n el => exact h4.elim
      | box cs' => exact h4.elim
      | raw y =>
        simp only [lA] at g0 g1
        obtain ⟨b,a2,e0⟩ := g0.ptr_inv
        obtain ⟨b',b2,e1⟩ := g1.ptr_inv
        rw [e0] at e1
        have eb : b = b' := by
          have := congrArg (fun v : Value => match v with | .pointer (some a) => a.block | _ => 0) e1
          exact this
        subst eb
        refine ⟨?_, ?_, ?_⟩
        · rw [b2, ← hconc,a2]
        · rw [h3]; intro h; cases h
        · rw [l0.1,l1.1]
    | row t k n el =>
      cases ob' with
      | raw x => exact h4.elim
      | box cs' => exact h4.elim
      | row t' k' n' el' =>
        have hnn : n = n' := h4
        subst hnn
        simp only [lA] at g0 g1
        obtain ⟨x,c,e0,h0⟩ := g0.row_inv
        obtain ⟨x',c',e1,h0'⟩ := g1.row_inv
        rw [e0] at e1
        cases e1
        refine ⟨?_,fun _ => ?_,by rw [l0.1,l1.1]⟩
        · rcases h0 with ⟨p1,p2,p3⟩ | ⟨b,p1,p2,p3⟩ <;> rcases h0' with ⟨q1,q2,q3⟩ | ⟨b',q1,q2,q3⟩
          · rw [q3, ← hconc,p3]
          · rw [p1] at q2; cases q2
          · rw [q1] at p2; cases p2
          · rw [p2] at q2; cases q2
            rw [q1, ← hconc,p1]
        · rcases h0 with ⟨p1,p2,p3⟩ | ⟨b,p1,p2,p3⟩ <;> rcases h0' with ⟨q1,q2,q3⟩ | ⟨b',q1,q2,q3⟩
          · left; rw [← hconc,p3]
          · rw [p1] at q2; cases q2
          · rw [q1] at p2; cases p2
          · right; rw [← q3,p3,hcap]
  have same : ∀ q o,(q,o) ∈ m → Oa Ec (E.back Ec w os nid r.kill m) (qU m) q := by
    intro q o h
    unfold Oa
    rw [look q o h]
    refine ⟨?_,by simp [bm.back,inv q o h],by simp [bm.back,inv q o h]⟩
    rcases hl.to q o h with h1 | h1
    · exact .inl (hlive o h1)
    · subst h1; exact .inr ⟨rfl,q,h⟩
  have samecap : ∀ q o,(q,o) ∈ m → sV (az.get σ.hp q) = true → Ar Ec (E.back Ec w os nid r.kill m) (qU m) q := by
    intro q o h hr
    unfold Ar
    rw [look q o h]
    simp only [bm.back,inv q o h]
    cases hb : mG o os && !(mG o r.kill) with
    | false => right; rfl
    | true =>
      rw [Bool.and_eq_true] at hb
      have h1 := oS hb.1
      have h2 : o ∉ r.kill := fun hk => by rw [CF.2 hk] at hb; simp at hb
      obtain ⟨q',a1,a2,a3,a4⟩ := kept o h1 h2
      have := hl.inj q q' o h a1
      subst this
      rcases a3 hr with a3 | a3
      · left; rw [a2,a3]
      · right; rw [cond_true,a3]
  have mem1 : ∀ q,q ∈ m.map (·.1) → ∃ o,(q,o) ∈ m := by
    intro q h
    obtain ⟨⟨q',o⟩,h1,h2⟩ := List.mem_map.1 h
    subst h2
    exact ⟨o,h1⟩
  have hok2 : nr = true → ∀ b,Ec.ok b → (E.back Ec w os nid r.kill m).ok b := by
    intro h b hb
    subst h
    rcases hs.okold b hb with (h1 | ⟨h1,_⟩) | h1
    · exact .inl h1
    · cases h1
    · exact .inr ⟨h1,hb⟩
  have rrow : ∀ l : List Nat,l.all (fun q => sV (az.get σ.hp q)) = true → ∀ q ∈ l,sV (az.get σ.hp q) = true := fun l h => List.all_eq_true.1 h
  have rsub : ∀ v : V, ∀ q ∈ v.rrefs,q ∈ v.refs := rrefs_refs
  have hst : jz E w r.kill (E.back Ec w os nid r.kill m) w' := by
    refine ⟨hs.base.os,hs.base.tape,hs.base.output,hs.base.size,fun o h => .inl h,fun b hb hno => ?_,fun b h => .inl h,fun b h => h.imp id (·.1),fun o hlo hk => ?_,fun o b hlo hc => ?_⟩
    · exact hs.base.block b hb fun ⟨o,ho,h⟩ => hno o (hlive o ho) h
    · by_cases ho : o ∈ os
      · obtain ⟨q,h1,h2,h3,h4⟩ := kept o ho hk
        simp only [bm.back,inv q o h1,CF.2 ho,CD hk,Bool.not_false,Bool.and_true,cond_true]
        exact ⟨h2,trivial,h4⟩
      · simp only [bm.back,out o hlo ho,CD ho,cond_false]
        exact ⟨trivial,trivial,trivial⟩
    · cases hi : rx m o with
      | some q =>
        have hm := xy hi
        simp only [bm.back,hi] at hc
        rcases hs.own q b (clive q o hm) hc with h | ⟨o',h1,h2⟩
        · exact .inr h
        · exact .inl ⟨o',hlive o' h1,h2⟩
      | none =>
        simp only [bm.back,hi] at hc
        cases hb : mG o os with
        | true => rw [hb] at hc; cases hc
        | false =>
          rw [hb,cond_false] at hc
          rcases hlo with h | ⟨h0,q,h⟩
          · exact .inl ⟨o,h,hc⟩
          · subst h0; exact (yG hi h).elim
  have hrep : ∀ v d,aJ E w v d → aJ (E.back Ec w os nid r.kill m) w' v (d.killAll r.kill) := fun v d h => h.step hst hH.sep hH.oklt
  have hrepD : ∀ v d,cl E.ok w v d → cl (E.back Ec w os nid r.kill m).ok w' v d := fun v d h => h.mono hst.ok fun b hb => hst.blk b (hH.oklt b hb) fun o ho hc => hH.sep o b ho hc hb
  have wher : ∀ o b,(E.back Ec w os nid r.kill m).live o → (E.back Ec w os nid r.kill m).conc o = some b → (∃ q,(q,o) ∈ m ∧ Ec.conc q = some b) ∨ (o ∉ os ∧ E.live o ∧ E.conc o = some b) := by
    intro o b hlo hc
    cases hi : rx m o with
    | some q => simp only [bm.back,hi] at hc; exact .inl ⟨q,xy hi,hc⟩
    | none =>
      simp only [bm.back,hi] at hc
      cases hb : mG o os with
      | true => rw [hb] at hc; cases hc
      | false =>
        rw [hb,cond_false] at hc
        have hno : o ∉ os := fun h => by rw [CF.2 h] at hb; cases hb
        rcases hlo with h | ⟨h0,q,h⟩
        · exact .inr ⟨hno,h,hc⟩
        · subst h0; exact (yG hi h).elim
  have apart : ∀ q o o' b,(q,o) ∈ m → Ec.conc q = some b → o' ∉ os → E.live o' → E.conc o' = some b → False := by
    intro q o o' b h1 h2 h3 h4 h5
    rcases hs.own q b (clive q o h1) h2 with h | ⟨o2,g1,g2⟩
    · have := hH.lt o' b h4 h5
      have h : w.heap.size ≤ b := h
      omega
    · have := hH.inj o' o2 b h4 (hlive o2 g1) h5 g2
      subst this
      exact h3 g1
  refine ⟨hst,⟨fun o ob ho => ?_,fun o o' b h1 h2 h3 h4 => ?_,fun o b h1 h2 => ?_,fun o b h1 h2 => ?_,fun b hb => ?_⟩, ?_,fun q h => h.imp id (·.1)⟩
  · rw [Cq] at ho
    split at ho
    · obtain ⟨q,ob0,h1,h2,h3,h4,h5,h6⟩ := hl.obs o ob ho
      have hsm := same q o h1
      refine ⟨by have := hsm.1; rwa [look q o h1] at this, ?_⟩
      have h7 := (hs.heap.at_ q ob0 h2).2.mp (E' := E.back Ec w os nid r.kill m) (f := qU m) hsm (fun hr => samecap q o h1 (by rw [h2]; exact hr)) (fun p hp _ => by
        obtain ⟨o',ho'⟩ := mem1 p (h4 p hp); exact same p o' ho') (fun p hp _ => by
        have hp' : p ∈ Ep ob0 := by
          cases ob0 with
          | box cs => exact rrefss_refs cs p hp
          | row => exact absurd hp (by simp [FO])
          | raw => exact absurd hp (by simp [FO])
        obtain ⟨o',ho'⟩ := mem1 p (h4 p hp')
        exact samecap p o' ho' (rrow _ h5 p hp)) (h6.imp hok2 id)
      rw [look q o h1] at h7
      exact h7.le h3
    · next hk =>
      have hno : o ∉ os := fun h => hk (hl.all o h)
      rw [Fy] at ho
      cases hy : az.get H0 o with
      | none => rw [hy,xK] at ho; cases ho
      | some y =>
        rw [hy] at ho
        obtain ⟨l1,l2⟩ := hH0.at_ o y hy
        refine ⟨.inl l1,TA l2 ho ?_ (fun b hb => ?_) hrep hrepD⟩
        · simp only [bm.back,out o l1 hno,CD hno,cond_false]
          exact ⟨trivial,trivial,trivial⟩
        · refine hs.base.block b (hH.lt o b l1 hb) ?_
          rintro ⟨o',h1,h2⟩
          have := hH.inj o o' b l1 (hlive o' h1) hb h2
          subst this
          exact hno h1
  · rcases wher o b h1 h3 with ⟨q,a1,a2⟩ | ⟨a1,a2,a3⟩ <;> rcases wher o' b h2 h4 with ⟨q',b1,b2⟩ | ⟨b1,b2,b3⟩
    · have := hs.heap.inj q q' b (clive q o a1) (clive q' o' b1) a2 b2
      subst this
      exact hl.fn q o o' a1 b1
    · exact (apart q o o' b a1 a2 b1 b2 b3).elim
    · exact (apart q' o' o b b1 b2 a1 a2 a3).elim
    · exact hH.inj o o' b a2 b2 a3 b3
  · rcases wher o b h1 h2 with ⟨q,a1,a2⟩ | ⟨a1,a2,a3⟩
    · rintro (h | ⟨_,h⟩)
      · rcases hs.own q b (clive q o a1) a2 with g | ⟨o2,g1,g2⟩
        · have := hH.oklt b h
          have g : w.heap.size ≤ b := g
          omega
        · exact hH.sep o2 b (hlive o2 g1) g2 h
      · exact hs.heap.sep q b (clive q o a1) a2 h
    · rintro (h | ⟨h,_⟩)
      · exact hH.sep o b a2 a3 h
      · have := hH.lt o b a2 a3; omega
  · rcases wher o b h1 h2 with ⟨q,a1,a2⟩ | ⟨a1,a2,a3⟩
    · exact hs.heap.lt q b (clive q o a1) a2
    · have := hH.lt o b a2 a3; have := hs.base.size
      have h : w.heap.size ≤ w'.heap.size := this
      omega
  · rcases hb with h | ⟨_,h⟩
    · have := hH.oklt b h; have := hs.base.size
      have h : w.heap.size ≤ w'.heap.size := this
      omega
    · exact hs.heap.oklt b h
  · refine (hu.mp (E' := E.back Ec w os nid r.kill m) (f := qU m) (fun p hp _ => ?_) (fun p hp _ => ?_) (hl.vsc.imp hok2 id)).le hl.val
    · obtain ⟨o',ho'⟩ := mem1 p (hl.vrefs p hp); exact same p o' ho'
    · obtain ⟨o',ho'⟩ := mem1 p (hl.vrefs p (rsub v p hp))
      exact samecap p o' ho' (rrow _ hl.vrows p hp)
theorem S4 {f : FuncId} {fn : Func} {c : Code} (hf : P.funcs[f]? = some fn) (hb : fn.body = some c) (hn : (fn.name == "runtime.NumGoroutine") = false) {mc : az → Nat → List V → Option dE} {rs : List ResultVar} (hr : fn.results.toList = rs) {nt : Nat} (ht : fn.ntmps = nt)
    (h : ∀ H nid args r,mc H nid args = some r → (∀ p ∈ r.pre,p) → ∃ (nr : Bool) (os : List Nat) (fl : List Bool) (vs' : List V),x9 os = true ∧ QO os H = true ∧ ea os H nr fl args = true ∧ VLes (nz os H fl args) vs' ∧
      (Nat.ble vs'.length nt && Nat.ble nt 1000000) = true ∧ ah P nt (aD c) (lK P rs fun σ v => ∃ m,Left os nid H nr r m σ v) { tm := ko vs' 0 ++ Ee (wi H os 0 os),hp := wi H os 0 os,nx := os.length }) : dl P f (.mut mc) := by
  subst hr ht
  intro E w H0 nid xs args r hH0 hfn hx hmc hp
  have hH := xT hH0 (dV H0 args)
  generalize hHe : iK (dV H0 args) H0 = H at hmc hH
  obtain ⟨nr,os,fl,vs',h1,h2,h3,h4,h5,h6⟩ := h H nid args r hmc hp
  rw [Bool.and_eq_true] at h5
  have hos : ∀ o ∈ os, ∃ b,az.get H o = some b := by
    intro o ho
    have := List.all_eq_true.1 h2 o ho
    cases hg : az.get H o with
    | none => rw [hg] at this; cases this
    | some b => exact ⟨b,rfl⟩
  have hx' := (HB (os := os) (nr := nr) hH fl xs args hx h3).le h4
  obtain ⟨gh,hgh,hsim⟩ := VO (N := fn.ntmps) hH h1 h2 hx' (Nat.ble_eq.mp h5.1) (Nat.ble_eq.mp h5.2)
  refine .inl ⟨rH hf hb hn _ _, ?_⟩
  refine calls_of_wp hf hb (wp_mono ((aE.ofItems c h6).ok _ _ _ _ hsim) ?_)
  rintro e a' w' ⟨σ',E',hk,hs'⟩
  have key : (match oy P σ' fn.results.toList with | some v => ∃ m,Left os nid H nr r m σ' v | none => False) → a'.defers = [] ∧ ∃ v,(results fn a'.tmps).run P w' = .ok v w' ∧ ∃ v',Ending.returned v = .returned v' ∧ ∃ E'',iB E w H0 nid r E'' w' v' := by
    intro hk
    split at hk
    · next v hv =>
      obtain ⟨m,hl⟩ := hk
      obtain ⟨u,g1,g2⟩ := G8 hs' hv
      exact ⟨hs'.defers,u,g1,u,rfl,_,Tw hH0 hH hfn h1 hos hgh hs' g2 hl⟩
    · exact hk.elim
  cases e with
  | normal => exact key hk
  | ret => exact key hk
  | exit id => exact hk.elim
  | goto l => exact hk.elim
  | panic ch => exact hk.elim
  | outgrown => exact hk.elim
end
end Go.Ax
namespace Go.Ax
open Go.RowKit
def ki (H : az) : List Bool → List V → List V
  | _,[] => []
  | b :: fl,v :: r => (bif b then v else v.view H) :: ki H fl r
  | [],v :: r => v.view H :: ki H [] r
def p9 (os : List Nat) : List Bool → List V → List V
  | _,[] => []
  | b :: fl,v :: r => (bif b then v.ren os else v) :: p9 os fl r
  | [],v :: r => v :: p9 os [] r
theorem xC (os : List Nat) (H : az) : ∀ (fl : List Bool) (vs : List V),nz os H fl vs = p9 os fl (ki H fl vs)
  | [],[] => rfl
  | _ :: _,[] => rfl
  | true :: fl,v :: r => by simp [nz,ki,p9,xC os H fl r]
  | false :: fl,v :: r => by simp [nz,ki,p9,xC os H fl r]
  | [],v :: r => by simp [nz,ki,p9,xC os H [] r]
theorem CS (o k i n : Nat) : V.ren [o] (.row o k i n) = .row 0 k i n := by
  rw [V.ren]
  simp [FR]
def orM (m m' : az → Nat → List V → Option dE) : az → Nat → List V → Option dE := fun H nid args => match m H nid args with | some r => some r | none => m' H nid args
theorem dl.or {P : Program} {f : FuncId} {m m' : az → Nat → List V → Option dE} (h : dl P f (.mut m)) (h' : dl P f (.mut m')) : dl P f (.mut (orM m m')) := by
  intro E w H nid xs args r h1 h2 h3 h4 h5
  unfold orM at h4
  split at h4
  · next r' hr => cases h4; exact h E w H nid xs args _ h1 h2 h3 hr h5
  · exact h' E w H nid xs args r h1 h2 h3 h4 h5
section
variable {P : Program} {σ : St} {H : az} {nid : Nat} {nr : Bool}
theorem em.hp {tm : List (Nat × bB)} {H H' : az} {nx : Nat} (h : eN H H') : em { tm := tm,hp := H,nx := nx } { tm := tm,hp := H',nx := nx } := by
  refine ⟨fun N B E a w hs => ⟨E,hs.size,hs.small,hs.defers,hs.live,⟨fun o ob ho => ?_,hs.heap.inj,hs.heap.sep,hs.heap.lt,hs.heap.oklt⟩,hs.slots,hs.base,hs.own,hs.okold⟩⟩
  obtain ⟨b,g1,g2⟩ := Ha h o ob ho
  obtain ⟨l1,l2⟩ := hs.heap.at_ o b g1
  exact ⟨l1,l2.le g2⟩
theorem Cg {o q k n t : Nat} {el el' : Nat → List D} {p : List Prop} (hg : az.get σ.hp q = some (.row t k n el)) (he : ∀ i,i < n → el i = el' i) (hs : nr = true ∨ ∀ i,i < n → ∀ d ∈ el i,d.scal = true) :
    Left [o] nid H nr { pre := p,val := .row o k 0 n,eff := [(o,some (.row t k n el'))],kill := [o] } [(q,o)] σ (.row q k 0 n) where
  inj := fun a b c h1 h2 => by simp at h1 h2; omega
  fn := fun a b c h1 h2 => by simp at h1 h2; omega
  to := fun a b h => by simp at h; simp [h.2]
  val := by
    rw [V.mp]
    simp [qU]
    exact VLe.rfl' _
  vrefs := fun a h => by simp [V.refs] at h; simp [h]
  vrows := by simp [V.rrefs,hg,sV]
  vsc := .inr rfl
  has := fun a b h => by simp at h; obtain ⟨rfl,rfl⟩ := h; exact ⟨_,hg⟩
  obs := fun a b h => by
    rw [az.get_cons] at h
    split at h
    · next e =>
      subst e; cases h
      exact ⟨q,_,by simp,hg,⟨rfl,rfl,rfl,he⟩,fun p hp => absurd hp (by simp [Ep]),rfl,hs⟩
    · simp [az.get] at h
  all := fun a h => by simp at h; simp [h,kP]
  kill := fun a h => h
  keep := fun i a h => by
    have := List.mem_of_getElem? h
    exact .inl this
theorem C6 {q k n t : Nat} {el el' : Nat → List D} {p : List Prop} (hg : az.get σ.hp q = some (.row t k n el)) (he : ∀ i,i < n → el i = el' i) (hs : nr = true ∨ ∀ i,i < n → ∀ d ∈ el i,d.scal = true) :
    Left [] nid H nr { pre := p,val := .row nid k 0 n,eff := [(nid,some (.row t k n el'))],kill := [] } [(q,nid)] σ (.row q k 0 n) where
  inj := fun a b c h1 h2 => by simp at h1 h2; omega
  fn := fun a b c h1 h2 => by simp at h1 h2; omega
  to := fun a b h => by simp at h; simp [h.2]
  val := by
    rw [V.mp]
    simp [qU]
    exact VLe.rfl' _
  vrefs := fun a h => by simp [V.refs] at h; simp [h]
  vrows := by simp [V.rrefs,hg,sV]
  vsc := .inr rfl
  has := fun a b h => by simp at h; obtain ⟨rfl,rfl⟩ := h; exact ⟨_,hg⟩
  obs := fun a b h => by
    rw [az.get_cons] at h
    split at h
    · next e =>
      subst e; cases h
      exact ⟨q,_,by simp,hg,⟨rfl,rfl,rfl,he⟩,fun p hp => absurd hp (by simp [Ep]),rfl,hs⟩
    · simp [az.get] at h
  all := fun a h => by simp at h
  kill := fun a h => by simp at h
  keep := fun i a h => by simp at h
mutual
theorem mp_norefs (f : Nat → Nat) : ∀ v : V,v.refs = [] → v.mp f = v
  | .c _,_ => rfl
  | .agg vs,h => by rw [V.mp,mps_norefs f vs (by rw [V.refs] at h; exact h)]
  | .tup vs,h => by rw [V.mp,mps_norefs f vs (by rw [V.refs] at h; exact h)]
  | .ptr ..,h => by simp [V.refs] at h
  | .row ..,h => by simp [V.refs] at h
  | .dptr ..,_ => rfl
  | .fn _ vs,h => by rw [V.mp,mps_norefs f vs (by rw [V.refs] at h; exact h)]
theorem mps_norefs (f : Nat → Nat) : ∀ vs : List V,V.refss vs = [] → V.mps f vs = vs
  | [],_ => rfl
  | v :: r,h => by
    rw [V.refss,List.append_eq_nil_iff] at h
    rw [V.mps,mp_norefs f v h.1,mps_norefs f r h.2]
end
mutual
theorem ren_norefs (os : List Nat) : ∀ v : V,v.refs = [] → v.ren os = v
  | .c _,_ => rfl
  | .agg vs,h => by rw [V.ren,rens_norefs os vs (by rw [V.refs] at h; exact h)]
  | .tup vs,h => by rw [V.ren,rens_norefs os vs (by rw [V.refs] at h; exact h)]
  | .ptr ..,h => by simp [V.refs] at h
  | .row ..,h => by simp [V.refs] at h
  | .dptr ..,_ => rfl
  | .fn _ vs,h => by rw [V.ren,rens_norefs os vs (by rw [V.refs] at h; exact h)]
theorem rens_norefs (os : List Nat) : ∀ vs : List V,V.refss vs = [] → V.rens os vs = vs
  | [],_ => rfl
  | v :: r,h => by
    rw [V.refss,List.append_eq_nil_iff] at h
    rw [V.rens,ren_norefs os v h.1,rens_norefs os r h.2]
end
theorem ajx {o : Nat} {b : Ob} (h : az.get H o = some b) : wi H [o] 0 [o] = [(0,some (b.ren [o]))] := by
  simp [wi,h]
theorem zc {f : FuncId} {fn : Func} {c : Code} (hf : P.funcs[f]? = some fn) (hb : fn.body = some c) (hn : (fn.name == "runtime.NumGoroutine") = false) {mc : az → Nat → List V → Option dE} {rs : List ResultVar} (hr : fn.results.toList = rs) {nt : Nat} (ht : fn.ntmps = nt)
    (h : ∀ H nid args r,mc H nid args = some r → (∀ p ∈ r.pre,p) →
      (∃ (nr : Bool) (fl : List Bool) (o t k n : Nat) (el : Nat → List D) (vs' : List V),az.get H o = some (.row t k n el) ∧ ea [o] H nr fl args = true ∧ VLes (p9 [o] fl (ki H fl args)) vs' ∧ (Nat.ble vs'.length nt && Nat.ble nt 1000000) = true ∧
        ah P nt (aD c) (lK P rs fun σ v => ∃ m,Left [o] nid H nr r m σ v) { tm := ko vs' 0 ++ [(1000000,⟨[], .row 0 k 0 n⟩)],hp := [(0,some (.row t k n el))],nx := 1 }) ∨
      (∃ (nr : Bool) (fl : List Bool) (vs' : List V),ea [] H nr fl args = true ∧ VLes (p9 [] fl (ki H fl args)) vs' ∧ (Nat.ble vs'.length nt && Nat.ble nt 1000000) = true ∧
        ah P nt (aD c) (lK P rs fun σ v => ∃ m,Left [] nid H nr r m σ v) { tm := ko vs' 0 ++ [],hp := [],nx := 0 })) : dl P f (.mut mc) := by
  refine S4 hf hb hn hr ht fun H nid args r h1 h2 => ?_
  rcases h H nid args r h1 h2 with ⟨nr,fl,o,t,k,n,el,vs',g1,g2,g3,g4,g5⟩ | ⟨nr,fl,vs',g2,g3,g4,g5⟩
  · refine ⟨nr,[o],fl,vs',rfl,by simp [QO,g1,Kl],g2,by rw [xC]; exact g3,g4, ?_⟩
    rw [ajx g1]
    exact g5
  · exact ⟨nr,[],fl,vs',rfl,rfl,g2,by rw [xC]; exact g3,g4,g5⟩
theorem lK.intro {rs : List ResultVar} {Q : St → V → Prop} {v : V} (hv : oy P σ rs = some v) (h : Q σ v) : lK P rs Q .ret σ := by
  show (match oy P σ rs with | some v => Q σ v | none => False)
  rw [hv]; exact h
end
end Go.Ax
namespace Go.Ax
open Go.RowKit
section
variable {P : Program} {w : World} {ok : Nat → Prop}
theorem DT : ∀ (ns : List Int) (a : Addr) (acc : ByteArray),(∀ j n,ns[j]? = some n → w.cell? (a.add j) = some (.int .u8 n)) →
    (Extern.Bytes.loadBytes a ns.length acc).run P w = .ok ⟨acc.data ++ (ns.map fun x => UInt8.ofNat x.toNat).toArray⟩ w
  | [],a,acc,h => by simp [Extern.Bytes.loadBytes]
  | n :: ns,a,acc,h => by
    have h0 := h 0 n rfl
    have h0' : w.cell? a = some (.int .u8 n) := by simpa [Addr.add] using h0
    have ih := DT ns (a.add 1) (acc.push n.toNat.toUInt8) (fun j m hj => by
      rw [sg,Nat.add_comm]
      exact h (j + 1) m (by simpa using hj))
    simp only [List.length_cons,Extern.Bytes.loadBytes,Sem.run_bind]
    rw [show (load a).run P w = .ok (.int .u8 n) w by simp [run_load,h0']]
    simp only [Result.andThen_ok,ih]
    congr 2
    simp [ByteArray.push]
theorem GA {v : Value} {k n : Nat} {el : Nat → List D} (h : cl ok w v (.sl k n el)) (h1 : 0 < n → k = 1) (h2 : ∀ i,i < n → el i = fX (cQ (el i))) :
    (Extern.Bytes.bytesOf v).run P w = .ok (nH (lst cQ n el)) w := by
  cases h with
  | sl a _ c _ _ u hc hm ha ho hl hu =>
    cases n with
    | zero =>
      cases a with
      | none => rfl
      | some a => rfl
    | succ n =>
      obtain ⟨ad,rfl,_,hcell⟩ := ha (by omega)
      have hk := h1 (by omega)
      subst hk
      have hu' : ∀ i,i < n + 1 → u i 0 = .int .u8 (cQ (el i)) := by
        intro i hi
        have := hu i 0 (.lit (.int .u8 (cQ (el i)))) hi (by rw [h2 i hi]; rfl)
        generalize u i 0 = x at this
        cases this with
        | lit => rfl
      have hlen : (lst cQ (n + 1) el).length = n + 1 := by simp [lst]
      have := DT (P := P) (w := w) (lst cQ (n + 1) el) ad .empty (fun j m hj => by
        have hj' : j < n + 1 := by
          have := (List.getElem?_eq_some_iff.1 hj).1
          omega
        have e := hcell j 0 hj' (by omega)
        rw [Nat.mul_one,Nat.add_zero] at e
        rw [e,hu' j hj']
        unfold lst at hj
        rw [List.getElem?_map,List.getElem?_range hj'] at hj
        simp only [Option.map_some,Option.some.injEq] at hj
        rw [hj])
      rw [hlen] at this
      simp only [Extern.Bytes.bytesOf,this]
      simp [nH]
end
def m8 (a b : List Int) : Int := Lib.compareBytes (a.map fun x => UInt8.ofNat x.toNat) (b.map fun x => UInt8.ofNat x.toNat)
def ly (a b : List Int) : Option Int := some (m8 a b)
def l5 : bW
  | [.c (.sl k n e), .c (.sl k' n' e')] => some ([bk fX cQ 1 k n e,bk fX cQ 1 k' n' e',(ly (lst cQ n e) (lst cQ n' e')).isSome = true], .data (i64 ((ly (lst cQ n e) (lst cQ n' e')).getD (0 : Int))))
  | _ => none
theorem Ac {P : Program} {f : FuncId} {fn : Func} (hf : P.funcs[f]? = some fn) (hname : (fn.name == "runtime.NumGoroutine") = false) (hb : fn.body.isNone = true) (hn : Extern.findNext fn = none) (he : Extern.find fn = some Extern.BytealgCompare.compare) :
    Meets P f l5 := by
  intro ok w xs vs p out hx hok hcon hp
  unfold l5 at hcon
  split at hcon
  · next k n e k' n' e' =>
    cases hcon
    obtain ⟨x,y,rfl⟩ : ∃ x y,xs = [x,y] := by
      have := hx.1
      match xs,this with
      | [x,y],_ => exact ⟨x,y,rfl⟩
    have e1 := hx.2 0 x _ rfl rfl
    have e2 := hx.2 1 y _ rfl rfl
    cases e1 with
    | c _ _ e1 =>
    cases e2 with
    | c _ _ e2 =>
    have g1 : bk fX cQ 1 k n e := hp _ (by simp)
    have g2 : bk fX cQ 1 k' n' e' := hp _ (by simp)
    have r1 := GA (P := P) e1 g1.1 g1.2
    have r2 := GA (P := P) e2 g2.1 g2.2
    refine .inr ⟨.int .i64 (m8 (lst cQ n e) (lst cQ n' e')),w, ?_, .refl _ _, .lit _⟩
    rw [run_callFunc_extern hf hname hb hn he]
    have : (Extern.BytealgCompare.compare #[x,y]).run P w = .ok (.int .i64 (m8 (lst cQ n e) (lst cQ n' e'))) w := by
      change Sem.run P (do pure (goInt (Extern.BytealgCompare.cmp (← Extern.Bytes.bytesOf x) (← Extern.Bytes.bytesOf y)))) w = _
      simp only [Sem.run_bind,r1,r2,Result.andThen_ok,Sem.run_pure,Lib.cmp_eq]
      rfl
    rw [show [x,y].toArray = #[x,y] from rfl,this]
    rfl
  · cases hcon
end Go.Ax
namespace Go.Ax
open Go.RowKit
abbrev KT := Exit → St → Prop
abbrev rE {α : Type} (R : α → St) (K : KT) : α → Prop := fun x => K .ret (R x)
abbrev nE {S R : Type} (emb : S → St) (E : R → KT → Prop) (K : KT) : S ⊕ R → Prop := fun x => cq emb E x K
def V.ag (l : List D) : V := .agg (l.map .c)
def dw (k : Nat) (l : List D) : Nat → List D := fun i => List.take k (List.drop (i * k) l)
theorem VLe.r {v : V} : VLe v v := .rfl' v
theorem lf {K : KT} {e : Exit} {σ σ' : St} (hc : K e σ') (he : em σ σ') : wK K e σ := ⟨σ',he,hc⟩
theorem l0 {K : KT} {e : Exit} {σ : St} (hc : K e σ) : wK K e σ := ⟨σ, .refl σ,hc⟩
section
variable {T : Type} {enc : T → List D} {z : T} {n k : Nat} {el : Nat → List D} {l : List T} {tm r : List (Nat × bB)} {H R : az} {t o : Nat} {σ σ' : St}
theorem dg.q {v : V} (h : bt tm t = some ⟨[],v⟩) (hr : dg tm r) : dg tm ((t,⟨[],v⟩) :: r) := .cons h (.rfl' v) hr
theorem dg.qsO {tm : List (Nat × bB)} : ∀ {l r : List (Nat × bB)},(∀ x ∈ l,bt tm x.1 = some x.2) → (∀ x ∈ l,x.2.ch = []) → dg tm r → dg tm (l ++ r)
  | [],_,_,_,hr => hr
  | (t,⟨ch,v⟩) :: l,r,h,h',hr => by
    have e : ch = [] := h' _ (List.mem_cons_self ..)
    subst e
    exact dg.q (h _ (List.mem_cons_self ..)) (dg.qsO (fun x hx => h x (List.mem_cons_of_mem _ hx)) (fun x hx => h' x (List.mem_cons_of_mem _ hx)) hr)
def Mx (tm : List (Nat × bB)) : List (Nat × bB) → List (Option bB)
  | [] => []
  | x :: r => bt tm x.1 :: Mx tm r
def Mg : List (Nat × bB) → List (Option bB)
  | [] => []
  | x :: r => some x.2 :: Mg r
def PP : List (Nat × bB) → Bool
  | [] => true
  | x :: r => x.2.ch.isEmpty && PP r
theorem Ol {tm : List (Nat × bB)} : ∀ {l : List (Nat × bB)},Mx tm l = Mg l → ∀ x ∈ l,bt tm x.1 = some x.2
  | y :: l,h,x,hx => by
    unfold Mx Mg at h
    obtain ⟨h1,h2⟩ := List.cons.inj h
    rcases List.mem_cons.1 hx with rfl | hx
    · exact h1
    · exact Ol h2 x hx
theorem Px : ∀ {l : List (Nat × bB)},PP l = true → ∀ x ∈ l,x.2.ch = []
  | y :: l,h,x,hx => by
    unfold PP at h
    rw [Bool.and_eq_true] at h
    rcases List.mem_cons.1 hx with rfl | hx
    · exact List.isEmpty_iff.1 h.1
    · exact Px h.2 x hx
theorem dg.qs (n : Nat) {tm l : List (Nat × bB)} (hr : dg tm (l.drop n)) (h : Mx tm (l.take n) = Mg (l.take n) := by kernel_rfl) (h' : PP (l.take n) = true := by kernel_rfl) : dg tm l := by
  rw [← List.take_append_drop n l]
  exact dg.qsO (Ol h) (Px h') hr
theorem em.cn (ts : List Nat) (h : uE ts σ = true := by kernel_rfl) (e : Go.Ax.canonN ts σ = σ' := by kernel_rfl) : em σ σ' := e ▸ em.canonN ts h
theorem ai.b : ai enc z l.length (bf enc z l) l := .ls enc z l
theorem ai.l1 (k : Nat) (x : T) (h : dw k (enc x) 0 = enc x) : ai enc z 1 (dw k (enc x)) [x] := .lits (l := [x]) (show Mv enc (dw k (enc x)) 0 [x] from ⟨h,trivial⟩)
end
section
variable {P : Program} {C : FuncId → Option CC} {N : Nat} {c : Code} {K : KT} {σ : St}
theorem ah.en {l : List Code} {σ' : St} (h : ah P N l K σ') (he : em σ σ') : ah P N l K σ := .ent he h
end
structure AC (T : Type) where
  dec : V → Option (List Prop × T)
  can : T → V
  ok : ∀ v p x,dec v = some (p,x) → (∀ q ∈ p,q) → VLe v (can x)
def aI (k : IntKind) : AC Int where
  dec | .c (.lit (.int k' n)) => if k' = k then some ([],n) else none
      | _ => none
  can n := .c (.lit (.int k n))
  ok v p x h _ := by
    split at h
    · next k' n =>
      split at h
      · next e => cases h; subst e; exact .r
      · cases h
    · cases h
def aB : AC Bool where
  dec | .c (.lit (.bool b)) => some ([],b)
      | _ => none
  can b := bl b
  ok v p x h _ := by
    split at h
    · cases h; exact .r
    · cases h
def aS : AC ByteArray where
  dec | .c (.lit (.string b)) => some ([],b)
      | _ => none
  can b := dh b
  ok v p x h _ := by
    split at h
    · cases h; exact .r
    · cases h
def aL {T : Type} (enc : T → List D) (dec : List D → T) (z : T) (k : Nat) : AC (List T) where
  dec | .c (.sl k' n el) => some ([bk enc dec k k' n el],lst dec n el)
      | _ => none
  can l := .c (.sl k l.length (bf enc z l))
  ok v p x h hp := by
    split at h
    · next k' n el =>
      cases h
      have g := hp _ (List.mem_singleton.2 rfl)
      exact VLe.slk g.1 (ai.of_ok g)
    · cases h
def QY : List V → Option (List D)
  | [] => some []
  | .c d :: r => match QY r with | some ds => some (d :: ds) | none => none
  | _ :: _ => none
theorem O1 : ∀ {cs : List V} {ds : List D},QY cs = some ds → cs = ds.map .c
  | [],ds,h => by cases h; rfl
  | .c d :: r,ds,h => by
    unfold QY at h
    split at h
    · next ds' h' => cases h; rw [O1 h']; rfl
    · cases h
  | .agg _ :: _,_,h => by cases h
  | .tup _ :: _,_,h => by cases h
  | .ptr .. :: _,_,h => by cases h
  | .row .. :: _,_,h => by cases h
  | .dptr .. :: _,_,h => by cases h
  | .fn .. :: _,_,h => by cases h
def aG {T : Type} (okT : List D → Bool) (enc : T → List D) (dec : List D → T) (h : ∀ ds,okT ds = true → enc (dec ds) = ds) : AC T where
  dec | .agg cs => (match QY cs with | some ds => bif okT ds then some ([],dec ds) else none | none => none)
      | _ => none
  can x := V.ag (enc x)
  ok v p x hd _ := by
    split at hd
    · next cs =>
      split at hd
      · next ds hds =>
        cases hk : okT ds with
        | false => rw [hk] at hd; cases hd
        | true =>
          rw [hk] at hd
          cases hd
          rw [O1 hds]
          show VLe _ (.agg ((enc (dec ds)).map .c))
          rw [h ds hk]
          exact .r
      · cases hd
    · cases hd
def aP {T : Type} (k : Nat) (okT : List D → Bool) (enc : T → List D) (dec : List D → T) (h : ∀ ds,okT ds = true → enc (dec ds) = ds) : AC T where
  dec | .dptr k' ds 0 => bif Nat.beq k' k && okT ds then some ([],dec ds) else none
      | _ => none
  can x := .dptr k (enc x) 0
  ok v p x hd _ := by
    split at hd
    · next k' ds =>
      cases hk : (Nat.beq k' k && okT ds) with
      | false => rw [hk] at hd; cases hd
      | true =>
        rw [hk] at hd
        cases hd
        rw [Bool.and_eq_true] at hk
        have e : k' = k := Nat.eq_of_beq_eq_true hk.1
        rw [e,h ds hk.2]
        exact .r
    · cases hd
structure alt (P : Program) (f : FuncId) (fn : Func) (c : Code) (rs : List ResultVar) (nt : Nat) : Prop where
  hf : P.funcs[f]? = some fn
  hb : fn.body = some c
  hn : (fn.name == "runtime.NumGoroutine") = false
  hr : fn.results.toList = rs
  ht : fn.ntmps = nt
section
variable {P : Program} {f : FuncId} {R : Type}
theorem ji {p q : List Prop} (h : ∀ x ∈ p ++ q,x) : (∀ x ∈ p,x) ∧ ∀ x ∈ q,x := ⟨fun x hx => h x (List.mem_append.2 (.inl hx)),fun x hx => h x (List.mem_append.2 (.inr hx))⟩
theorem Ay {n : Nat} (fn : Func) (c : Code) (rs : List ResultVar) (nt : Nat) {con : bW} (h : ∀ vs p out,con vs = some (p,out) → (∀ q ∈ p,q) → ∃ vs',vs'.length = n ∧ VLes vs vs' ∧ ah P nt (aD c) (dX P rs (du out)) { tm := ko vs' 0,hp := [],nx := 0 })
    (hf : P.funcs[f]? = some fn) (hb : fn.body = some c) (hn : (fn.name == "runtime.NumGoroutine") = false) (hr : fn.results.toList = rs) (ht : fn.ntmps = nt) (hl : (Nat.ble n nt && Nat.ble nt 1000000) = true) : Meets P f con :=
  jA hf hb hn hr ht fun vs p out h1 h2 => by
    obtain ⟨vs',h3,h4,h5⟩ := h vs p out h1 h2
    exact ⟨vs',h4,by rw [h3]; exact hl,h5⟩
def VY (f0 : Option R) (z : R) (out : R → bS) : bW
  | [] => some ([f0.isSome = true],out (f0.getD z))
  | _ => none
theorem afV {f0 : Option R} {z : R} {out : R → bS} (fn : Func) (c : Code) (rs : List ResultVar) (nt : Nat) (run : ∀ y,f0 = some y → ah P nt (aD c) (dX P rs (du (out y))) { tm := [],hp := [],nx := 0 })
    (hf : P.funcs[f]? = some fn := by kernel_rfl) (hb : fn.body = some c := by kernel_rfl) (hn : (fn.name == "runtime.NumGoroutine") = false := by kernel_rfl) (hr : fn.results.toList = rs := by kernel_rfl) (ht : fn.ntmps = nt := by kernel_rfl) (hl : (Nat.ble 0 nt && Nat.ble nt 1000000) = true := by kernel_rfl) : Meets P f (VY f0 z out) :=
  Ay fn c rs nt (fun vs p o h hp => by
    unfold VY at h
    split at h
    · cases h
      obtain ⟨y,hy⟩ := Option.isSome_iff_exists.1 (hp _ (List.mem_singleton.2 rfl))
      rw [hy]
      exact ⟨[],rfl,VLes.nil,run y hy⟩
    · cases h) hf hb hn hr ht hl
def fO {A0 : Type} (a0 : AC A0) (f0 : A0 → Option R) (z : R) (out : R → bS) : bW
  | [x0] => (match a0.dec x0 with
    | some (p0,u0) => some (p0 ++ [(f0 u0).isSome = true],out ((f0 u0).getD z))
    | _ => none)
  | _ => none
theorem dq {A0 : Type} {a0 : AC A0} {f0 : A0 → Option R} {z : R} {out : R → bS} (fn : Func) (c : Code) (rs : List ResultVar) (nt : Nat) (run : ∀ u0 y,f0 u0 = some y → ah P nt (aD c) (dX P rs (du (out y))) { tm := ko [a0.can u0] 0,hp := [],nx := 0 })
    (hf : P.funcs[f]? = some fn := by kernel_rfl) (hb : fn.body = some c := by kernel_rfl) (hn : (fn.name == "runtime.NumGoroutine") = false := by kernel_rfl) (hr : fn.results.toList = rs := by kernel_rfl) (ht : fn.ntmps = nt := by kernel_rfl) (hl : (Nat.ble 1 nt && Nat.ble nt 1000000) = true := by kernel_rfl) : Meets P f (fO a0 f0 z out) :=
  Ay fn c rs nt (fun vs p o h hp => by
    unfold fO at h
    split at h
    · split at h
      · next p0 u0 e0 =>
        cases h
        obtain ⟨h0,hp⟩ := ji hp
        obtain ⟨y,hy⟩ := Option.isSome_iff_exists.1 (hp _ (List.mem_singleton.2 rfl))
        rw [hy]
        exact ⟨[a0.can u0],rfl,(VLes.cons (a0.ok _ _ _ e0 h0) VLes.nil),run u0 y hy⟩
      · cases h
    · cases h) hf hb hn hr ht hl
def fK {A0 A1 : Type} (a0 : AC A0) (a1 : AC A1) (f0 : A0 → A1 → Option R) (z : R) (out : R → bS) : bW
  | [x0,x1] => (match a0.dec x0,a1.dec x1 with
    | some (p0,u0),some (p1,u1) => some (p0 ++ (p1 ++ [(f0 u0 u1).isSome = true]),out ((f0 u0 u1).getD z))
    | _,_ => none)
  | _ => none
theorem dp {A0 A1 : Type} {a0 : AC A0} {a1 : AC A1} {f0 : A0 → A1 → Option R} {z : R} {out : R → bS} (fn : Func) (c : Code) (rs : List ResultVar) (nt : Nat) (run : ∀ u0 u1 y,f0 u0 u1 = some y → ah P nt (aD c) (dX P rs (du (out y))) { tm := ko [a0.can u0,a1.can u1] 0,hp := [],nx := 0 })
    (hf : P.funcs[f]? = some fn := by kernel_rfl) (hb : fn.body = some c := by kernel_rfl) (hn : (fn.name == "runtime.NumGoroutine") = false := by kernel_rfl) (hr : fn.results.toList = rs := by kernel_rfl) (ht : fn.ntmps = nt := by kernel_rfl) (hl : (Nat.ble 2 nt && Nat.ble nt 1000000) = true := by kernel_rfl) : Meets P f (fK a0 a1 f0 z out) :=
  Ay fn c rs nt (fun vs p o h hp => by
    unfold fK at h
    split at h
    · split at h
      · next p0 u0 p1 u1 e0 e1 =>
        cases h
        obtain ⟨h0,hp⟩ := ji hp
        obtain ⟨h1,hp⟩ := ji hp
        obtain ⟨y,hy⟩ := Option.isSome_iff_exists.1 (hp _ (List.mem_singleton.2 rfl))
        rw [hy]
        exact ⟨[a0.can u0,a1.can u1],rfl,(VLes.cons (a0.ok _ _ _ e0 h0) (VLes.cons (a1.ok _ _ _ e1 h1) VLes.nil)),run u0 u1 y hy⟩
      · cases h
    · cases h) hf hb hn hr ht hl
def xt {A0 A1 A2 : Type} (a0 : AC A0) (a1 : AC A1) (a2 : AC A2) (f0 : A0 → A1 → A2 → Option R) (z : R) (out : R → bS) : bW
  | [x0,x1,x2] => (match a0.dec x0,a1.dec x1,a2.dec x2 with
    | some (p0,u0),some (p1,u1),some (p2,u2) => some (p0 ++ (p1 ++ (p2 ++ [(f0 u0 u1 u2).isSome = true])),out ((f0 u0 u1 u2).getD z))
    | _,_,_ => none)
  | _ => none
theorem sG {A0 A1 A2 : Type} {a0 : AC A0} {a1 : AC A1} {a2 : AC A2} {f0 : A0 → A1 → A2 → Option R} {z : R} {out : R → bS} (fn : Func) (c : Code) (rs : List ResultVar) (nt : Nat) (run : ∀ u0 u1 u2 y,f0 u0 u1 u2 = some y → ah P nt (aD c) (dX P rs (du (out y))) { tm := ko [a0.can u0,a1.can u1,a2.can u2] 0,hp := [],nx := 0 })
    (hf : P.funcs[f]? = some fn := by kernel_rfl) (hb : fn.body = some c := by kernel_rfl) (hn : (fn.name == "runtime.NumGoroutine") = false := by kernel_rfl) (hr : fn.results.toList = rs := by kernel_rfl) (ht : fn.ntmps = nt := by kernel_rfl) (hl : (Nat.ble 3 nt && Nat.ble nt 1000000) = true := by kernel_rfl) : Meets P f (xt a0 a1 a2 f0 z out) :=
  Ay fn c rs nt (fun vs p o h hp => by
    unfold xt at h
    split at h
    · split at h
      · next p0 u0 p1 u1 p2 u2 e0 e1 e2 =>
        cases h
        obtain ⟨h0,hp⟩ := ji hp
        obtain ⟨h1,hp⟩ := ji hp
        obtain ⟨h2,hp⟩ := ji hp
        obtain ⟨y,hy⟩ := Option.isSome_iff_exists.1 (hp _ (List.mem_singleton.2 rfl))
        rw [hy]
        exact ⟨[a0.can u0,a1.can u1,a2.can u2],rfl,(VLes.cons (a0.ok _ _ _ e0 h0) (VLes.cons (a1.ok _ _ _ e1 h1) (VLes.cons (a2.ok _ _ _ e2 h2) VLes.nil))),run u0 u1 u2 y hy⟩
      · cases h
    · cases h) hf hb hn hr ht hl
def Kk {A0 A1 A2 A3 : Type} (a0 : AC A0) (a1 : AC A1) (a2 : AC A2) (a3 : AC A3) (f0 : A0 → A1 → A2 → A3 → Option R) (z : R) (out : R → bS) : bW
  | [x0,x1,x2,x3] => (match a0.dec x0,a1.dec x1,a2.dec x2,a3.dec x3 with
    | some (p0,u0),some (p1,u1),some (p2,u2),some (p3,u3) => some (p0 ++ (p1 ++ (p2 ++ (p3 ++ [(f0 u0 u1 u2 u3).isSome = true]))),out ((f0 u0 u1 u2 u3).getD z))
    | _,_,_,_ => none)
  | _ => none
theorem Ib {A0 A1 A2 A3 : Type} {a0 : AC A0} {a1 : AC A1} {a2 : AC A2} {a3 : AC A3} {f0 : A0 → A1 → A2 → A3 → Option R} {z : R} {out : R → bS} (fn : Func) (c : Code) (rs : List ResultVar) (nt : Nat) (run : ∀ u0 u1 u2 u3 y,f0 u0 u1 u2 u3 = some y → ah P nt (aD c) (dX P rs (du (out y))) { tm := ko [a0.can u0,a1.can u1,a2.can u2,a3.can u3] 0,hp := [],nx := 0 })
    (hf : P.funcs[f]? = some fn := by kernel_rfl) (hb : fn.body = some c := by kernel_rfl) (hn : (fn.name == "runtime.NumGoroutine") = false := by kernel_rfl) (hr : fn.results.toList = rs := by kernel_rfl) (ht : fn.ntmps = nt := by kernel_rfl) (hl : (Nat.ble 4 nt && Nat.ble nt 1000000) = true := by kernel_rfl) : Meets P f (Kk a0 a1 a2 a3 f0 z out) :=
  Ay fn c rs nt (fun vs p o h hp => by
    unfold Kk at h
    split at h
    · split at h
      · next p0 u0 p1 u1 p2 u2 p3 u3 e0 e1 e2 e3 =>
        cases h
        obtain ⟨h0,hp⟩ := ji hp
        obtain ⟨h1,hp⟩ := ji hp
        obtain ⟨h2,hp⟩ := ji hp
        obtain ⟨h3,hp⟩ := ji hp
        obtain ⟨y,hy⟩ := Option.isSome_iff_exists.1 (hp _ (List.mem_singleton.2 rfl))
        rw [hy]
        exact ⟨[a0.can u0,a1.can u1,a2.can u2,a3.can u3],rfl,(VLes.cons (a0.ok _ _ _ e0 h0) (VLes.cons (a1.ok _ _ _ e1 h1) (VLes.cons (a2.ok _ _ _ e2 h2) (VLes.cons (a3.ok _ _ _ e3 h3) VLes.nil)))),run u0 u1 u2 u3 y hy⟩
      · cases h
    · cases h) hf hb hn hr ht hl
def Vp {A0 A1 A2 A3 A4 : Type} (a0 : AC A0) (a1 : AC A1) (a2 : AC A2) (a3 : AC A3) (a4 : AC A4) (f0 : A0 → A1 → A2 → A3 → A4 → Option R) (z : R) (out : R → bS) : bW
  | [x0,x1,x2,x3,x4] => (match a0.dec x0,a1.dec x1,a2.dec x2,a3.dec x3,a4.dec x4 with
    | some (p0,u0),some (p1,u1),some (p2,u2),some (p3,u3),some (p4,u4) => some (p0 ++ (p1 ++ (p2 ++ (p3 ++ (p4 ++ [(f0 u0 u1 u2 u3 u4).isSome = true])))),out ((f0 u0 u1 u2 u3 u4).getD z))
    | _,_,_,_,_ => none)
  | _ => none
theorem ajg {A0 A1 A2 A3 A4 : Type} {a0 : AC A0} {a1 : AC A1} {a2 : AC A2} {a3 : AC A3} {a4 : AC A4} {f0 : A0 → A1 → A2 → A3 → A4 → Option R} {z : R} {out : R → bS} (fn : Func) (c : Code) (rs : List ResultVar) (nt : Nat) (run : ∀ u0 u1 u2 u3 u4 y,f0 u0 u1 u2 u3 u4 = some y → ah P nt (aD c) (dX P rs (du (out y))) { tm := ko [a0.can u0,a1.can u1,a2.can u2,a3.can u3,a4.can u4] 0,hp := [],nx := 0 })
    (hf : P.funcs[f]? = some fn := by kernel_rfl) (hb : fn.body = some c := by kernel_rfl) (hn : (fn.name == "runtime.NumGoroutine") = false := by kernel_rfl) (hr : fn.results.toList = rs := by kernel_rfl) (ht : fn.ntmps = nt := by kernel_rfl) (hl : (Nat.ble 5 nt && Nat.ble nt 1000000) = true := by kernel_rfl) : Meets P f (Vp a0 a1 a2 a3 a4 f0 z out) :=
  Ay fn c rs nt (fun vs p o h hp => by
    unfold Vp at h
    split at h
    · split at h
      · next p0 u0 p1 u1 p2 u2 p3 u3 p4 u4 e0 e1 e2 e3 e4 =>
        cases h
        obtain ⟨h0,hp⟩ := ji hp
        obtain ⟨h1,hp⟩ := ji hp
        obtain ⟨h2,hp⟩ := ji hp
        obtain ⟨h3,hp⟩ := ji hp
        obtain ⟨h4,hp⟩ := ji hp
        obtain ⟨y,hy⟩ := Option.isSome_iff_exists.1 (hp _ (List.mem_singleton.2 rfl))
        rw [hy]
        exact ⟨[a0.can u0,a1.can u1,a2.can u2,a3.can u3,a4.can u4],rfl,(VLes.cons (a0.ok _ _ _ e0 h0) (VLes.cons (a1.ok _ _ _ e1 h1) (VLes.cons (a2.ok _ _ _ e2 h2) (VLes.cons (a3.ok _ _ _ e3 h3) (VLes.cons (a4.ok _ _ _ e4 h4) VLes.nil))))),run u0 u1 u2 u3 u4 y hy⟩
      · cases h
    · cases h) hf hb hn hr ht hl
end
structure FE (P : Program) where
  f : FuncId
  c : CC
  ok : dl P f c
def cy {P : Program} : List (FE P) → FuncId → Option CC
  | [],_ => none
  | e :: r,f => bif Nat.beq e.f f then some e.c else cy r f
theorem HJ {P : Program} : ∀ (l : List (FE P)) (f : FuncId) (con : CC),cy l f = some con → dl P f con
  | [],_,_,h => by cases h
  | e :: r,f,con,h => by
    unfold cy at h
    cases hb : Nat.beq e.f f with
    | true =>
      rw [hb] at h
      cases h
      rw [← Nat.eq_of_beq_eq_true hb]
      exact e.ok
    | false =>
      rw [hb] at h
      exact HJ r f con h
abbrev Ob.bx (l : List D) : Ob := .box (l.map .c)
theorem cH {P : Program} {rs : List ResultVar} {σ : St} {out : bS} (v : V) (h : du out σ.hp v) (hv : oy P σ rs = some v := by kernel_rfl) : dX P rs (du out) .ret σ := dX.intro hv h
abbrev un (t : Nat) : Nat × bB := sv t (.c .unk)
section
variable {P : Program} {N : Nat} {c : Code} {K : KT} {σ : St}
theorem Lh.nx {C : FuncId → Option CC} {ts : List Nat} (X : KT → Prop) (x : X K) (h : ∀ K,ev P C N c (cN ts K) σ = X K := by intro K; kernel_rfl) : Lh P C N c (cN ts K) σ := .of (h K) x
theorem ah.qD (hm : P.follows .mixedOrders = true) (fs : List (FE P)) (ts : List Nat) (a m b : Nat) {l : List Code}
    (h : Lh P (cy fs) N (ofItems ((l.drop a).take m)) (cN ts (aM (ah P N (l.drop b) K) K)) σ) (e : a + m = b := by rfl) : ah P N (l.drop a) K σ := .pieceD hm (HJ fs) ts a m b e h
theorem ah.qE (hm : P.follows .mixedOrders = true) (fs : List (FE P)) (ts : List Nat) (a m : Nat) {l : List Code}
    (h : Lh P (cy fs) N (ofItems ((l.drop a).take m)) (cN ts K) σ) (e : l.drop (a + m) = [] := by kernel_rfl) : ah P N (l.drop a) K σ := .pieceE hm (HJ fs) ts a m e h
end
section
variable {T : Type} {enc : T → List D} {dec : List D → T} {z : T} {n k k0 : Nat} {el : Nat → List D} {l : List T}
theorem lr (hd : ∀ x,dec (enc x) = x) (h : ai enc z n el l) : lst dec n el = l := h.lst hd
theorem lb (hd : ∀ x,dec (enc x) = x) : lst dec l.length (bf enc z l) = l := ai.lst hd (.ls enc z l)
theorem kb (hd : ∀ x,dec (enc x) = x) : bk enc dec k k l.length (bf enc z l) := ai.ok hd (.ls enc z l)
end
end Go.Ax
