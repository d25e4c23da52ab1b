import Derived.Test.YtgamnldjlncdlaaZA3
import Derived.Lib.Bytealg
set_option linter.all false
/- States in a canonical form; programs as functions with an option. -/
namespace Go.Ax
open Go.RowKit
def ny : List Nat → Nat → Nat
  | [],_ => 0
  | q :: r,o => bif Nat.beq q o then 0 else ny r o + 1
mutual
def V.ren (os : List Nat) : V → V
  | .c d => .c d
  | .agg vs => .agg (V.rens os vs)
  | .tup vs => .tup (V.rens os vs)
  | .ptr o k i j => .ptr (ny os o) k i j
  | .row o k off n => .row (ny os o) k off n
  | .dptr k cs j => .dptr k cs j
  | .fn f caps => .fn f (V.rens os caps)
def V.rens (os : List Nat) : List V → List V
  | [] => []
  | v :: r => V.ren os v :: V.rens os r
end
def Ob.ren (os : List Nat) : Ob → Ob
  | .box cs => .box (V.rens os cs)
  | .row t k n el => .row t k n el
  | .raw x => .raw x
def Qq (l : List Nat) (x : Nat) : List Nat := bif gq x l then l else l ++ [x]
def EG (l xs : List Nat) : List Nat := xs.foldl Qq l
def Mf (H : ay) (o : Nat) : List Nat := match ay.get H o with | some (.box cs) => V.refss cs | _ => []
def AK (H : ay) (os : List Nat) : List Nat := EG os (os.flatMap (Mf H))
def Pq (tm : List (Nat × bu)) : List Nat := tm.flatMap fun x => V.refs x.2.v
def sI (tm : List (Nat × bu)) (H : ay) : List Nat := AK H (AK H (AK H (EG [] (Pq tm))))
def D8 (os : List Nat) (tm : List (Nat × bu)) : List (Nat × bu) := tm.map fun x => (x.1,⟨[],x.2.v.ren os⟩)
def gX (H : ay) : List Nat → Nat → List Nat → ay
  | _,_,[] => []
  | os,i,o :: r => match ay.get H o with | some b => (i,some (b.ren os)) :: gX H os (i + 1) r | none => gX H os (i + 1) r
def canonN (ts : List Nat) (σ : St) : St :=
  { tm := D8 (sI (fH ts σ.tm) σ.hp) (fH ts σ.tm),hp := gX σ.hp (sI (fH ts σ.tm) σ.hp) 0 (sI (fH ts σ.tm) σ.hp),nx := (sI (fH ts σ.tm) σ.hp).length }
def fC : List Nat → Bool
  | [] => true
  | o :: r => !(gq o r) && fC r
def mK (ts : List Nat) (σ : St) : Bool :=
  fC (sI (fH ts σ.tm) σ.hp) && (fH ts σ.tm).all (fun x => yH (sI (fH ts σ.tm) σ.hp) x.2) &&
  (sI (fH ts σ.tm) σ.hp).all (fun o => match ay.get σ.hp o with | some b => Cv (sI (fH ts σ.tm) σ.hp) b | none => true)
section
variable {P : Program} {N : Nat} {B : gz} {σ σ' : St} {E : bj} {a : Act} {w : World}
theorem uW : ∀ {os : List Nat} {o : Nat},o ∈ os → os[ny os o]? = some o
  | [],o,h => by simp at h
  | q :: r,o,h => by
    unfold ny
    cases hb : Nat.beq q o with
    | true =>
      have := Nat.eq_of_beq_eq_true hb
      subst this; rfl
    | false =>
      have hne : q ≠ o := fun e => by subst e; simp at hb
      rcases List.mem_cons.1 h with h | h
      · exact (hne h.symm).elim
      · simpa using uW h
theorem sF : ∀ {os : List Nat},fC os = true → ∀ i j o : Nat,os[i]? = some o → os[j]? = some o → i = j
  | [],_,i,j,o,h,_ => by simp at h
  | q :: r,hn,i,j,o,hi,hj => by
    unfold fC at hn
    simp only [Bool.and_eq_true,Bool.not_eq_true'] at hn
    have hq : ∀ o,o ∈ r → q ≠ o := by
      intro o ho e
      subst e
      have : gq q r = true := List.any_eq_true.2 ⟨q,ho,by simp⟩
      rw [this] at hn
      exact absurd hn.1 (by simp)
    match i,j with
    | 0,0 => rfl
    | 0,j + 1 =>
      simp at hi hj
      subst hi
      exact (hq _ (List.mem_of_getElem? hj) rfl).elim
    | i + 1,0 =>
      simp at hi hj
      subst hj
      exact (hq _ (List.mem_of_getElem? hi) rfl).elim
    | i + 1,j + 1 =>
      simp at hi hj
      have := sF hn.2 i j o hi hj
      omega
def bj.ren (E : bj) (os : List Nat) : bj where
  conc q := match os[q]? with | some o => E.conc o | none => none
  cap q := match os[q]? with | some o => E.cap o | none => 0
  len q := match os[q]? with | some o => E.len o | none => 0
  live q := ∃ o,os[q]? = some o ∧ E.live o
  ok := E.ok
theorem fZ (os : List Nat) : ∀ vs : List V,(V.rens os vs).length = vs.length
  | [] => rfl
  | _ :: r => by simp [V.rens,fZ os r]
theorem pZ (os : List Nat) : ∀ (vs : List V) (i : Nat),(V.rens os vs)[i]? = (vs[i]?).map (V.ren os)
  | [],i => by simp [V.rens]
  | v :: r,0 => by simp [V.rens]
  | v :: r,i + 1 => by simp [V.rens,pZ os r i]
theorem aK.ren {os : List Nat} {v : Value} {d : V} (h : aK E w v d) : (∀ o ∈ V.refs d,o ∈ os) → aK (E.ren os) w v (d.ren os) := by
  induction h with
  | c v d h => exact fun _ => .c v d h
  | agg vs ds hl h ih =>
    intro hr
    rw [V.ren]
    refine .agg vs _ (by rw [fZ,hl]) fun i v d hv hd => ?_
    rw [pZ] at hd
    cases hx : ds[i]? with
    | none => rw [hx] at hd; cases hd
    | some x => rw [hx] at hd; cases hd; exact ih i v x hv hx fun o ho => hr o (cL hx ho)
  | tup vs ds hl h ih =>
    intro hr
    rw [V.ren]
    refine .tup vs _ (by rw [fZ,hl]) fun i v d hv hd => ?_
    rw [pZ] at hd
    cases hx : ds[i]? with
    | none => rw [hx] at hd; cases hd
    | some x => rw [hx] at hd; cases hd; exact ih i v x hv hx fun o ho => hr o (cL hx ho)
  | ptr o k i j b h1 h2 h3 =>
    intro hr
    have ho := uW (hr o (by simp [V.refs]))
    rw [V.ren]
    exact .ptr _ k i j b ⟨o,ho,h1⟩ (by simp only [bj.ren,ho]; exact h2) (by simp only [bj.ren,ho]; exact h3)
  | row o k off n a c hn hc hm hl ha h0 =>
    intro hr
    have ho := uW (hr o (by simp [V.refs]))
    rw [V.ren]
    exact .row _ k off n a c ⟨o,ho,hn⟩ hc hm (by simp only [bj.ren,ho]; exact hl) (by simp only [bj.ren,ho]; exact ha) (by simp only [bj.ren,ho]; exact h0)
  | dptr k cs j ad u h1 h2 h3 h4 => exact fun _ => .dptr k cs j ad u h1 h2 h3 h4
  | fn f vs ds hl h ih =>
    intro hr
    rw [V.ren]
    refine .fn f vs _ (by rw [fZ,hl]) fun i v d hv hd => ?_
    rw [pZ] at hd
    cases hx : ds[i]? with
    | none => rw [hx] at hd; cases hd
    | some x => rw [hx] at hd; cases hd; exact ih i v x hv hx fun o ho => hr o (cL hx ho)
theorem iq.ren {os : List Nat} {q o : Nat} {b : Ob} (ho : os[q]? = some o) (h : iq E w o b) (hr : Cv os b = true) : iq (E.ren os) w q (b.ren os) := by
  cases b with
  | box cs =>
    obtain ⟨e1,b,C,t,e2,e3,e4,e5⟩ := h
    refine ⟨by simp only [bj.ren,ho]; exact e1,b,C,t,by simp only [bj.ren,ho]; exact e2,e3, ?_,fun i v d hv hd => ?_⟩
    · rw [fZ]; exact e4
    · rw [pZ] at hd
      cases hx : cs[i]? with
      | none => rw [hx] at hd; cases hd
      | some x =>
        rw [hx] at hd; cases hd
        exact (e5 i v x hv hx).ren fun p hp => i5 (List.all_eq_true.1 hr p (cL hx hp))
  | raw x =>
    obtain ⟨h1,b,h2,h3⟩ := h
    exact ⟨by simp only [bj.ren,ho]; exact h1,b,by simp only [bj.ren,ho]; exact h2,h3⟩
  | row t k n el =>
    obtain ⟨h1,h2⟩ := h
    refine ⟨by simp only [bj.ren,ho]; exact h1, ?_⟩
    rcases h2 with ⟨h2,h3⟩ | ⟨b,C,g1,g2,g3,g4,g5,g6,g7,g8⟩
    · exact .inl ⟨by simp only [bj.ren,ho]; exact h2,h3⟩
    · refine .inr ⟨b,C,by simp only [bj.ren,ho]; exact g1,g2,by simp only [bj.ren,ho]; exact g3,by simp only [bj.ren,ho]; exact g4,by simp only [bj.ren,ho]; exact g5,g6,g7,g8⟩
theorem zV (os : List Nat) : ∀ (tm : List (Nat × bu)) (t : Nat),bq (D8 os tm) t = (bq tm t).map fun s => ⟨[],s.v.ren os⟩
  | [],t => by simp [D8,bq]
  | (q,s) :: r,t => by
    have ih := zV os r t
    unfold D8 at ih ⊢
    rw [List.map_cons,cI,cI]
    split
    · rfl
    · exact ih
theorem pI (H : ay) (os : List Nat) : ∀ (l : List Nat) (i q : Nat) (b : Ob),ay.get (gX H os i l) q = some b → ∃ o b',l[q - i]? = some o ∧ i ≤ q ∧ ay.get H o = some b' ∧ b = b'.ren os
  | [],i,q,b,h => by simp [gX,ay.get] at h
  | o :: r,i,q,b,h => by
    unfold gX at h
    split at h
    · next b' hb' =>
      rw [ay.get_cons] at h
      split at h
      · next e => subst e; cases h; exact ⟨o,b',by simp,Nat.le_refl _,hb',rfl⟩
      · obtain ⟨o',b2,h1,h2,h3,h4⟩ := pI H os r (i + 1) q b h
        refine ⟨o',b2, ?_,by omega,h3,h4⟩
        have : q - i = (q - (i + 1)) + 1 := by omega
        rw [this]; simpa using h1
    · obtain ⟨o',b2,h1,h2,h3,h4⟩ := pI H os r (i + 1) q b h
      refine ⟨o',b2, ?_,by omega,h3,h4⟩
      have : q - i = (q - (i + 1)) + 1 := by omega
      rw [this]; simpa using h1
theorem dt.canonN (ts : List Nat) (h : mK ts σ = true) : dt σ (canonN ts σ) := by
  unfold mK at h
  simp only [Bool.and_eq_true] at h
  obtain ⟨⟨h1,h2⟩,h3⟩ := h
  unfold Go.Ax.canonN
  generalize sI (fH ts σ.tm) σ.hp = os at h1 h2 h3 ⊢
  refine ⟨fun N B E a w hs => ⟨E.ren os,hs.size,hs.small,hs.defers,fun q hq hl => ?_,⟨fun q ob ho => ?_,fun q q' b hq hq' hb hb' => ?_,fun q b hq hb => ?_,fun q b hq hb => ?_,hs.heap.oklt⟩,fun t s hg => ?_,hs.base,fun q b hq hb => ?_,hs.okold⟩⟩
  · obtain ⟨o,ho,_⟩ := hl
    have hlt := (List.getElem?_eq_some_iff.1 ho).1
    have hq' : os.length ≤ q := hq
    omega
  · obtain ⟨o,b',g1,g2,g3,rfl⟩ := pI σ.hp os os 0 q ob ho
    have g1' : os[q]? = some o := by simpa using g1
    obtain ⟨l1,l2⟩ := hs.heap.at_ o b' g3
    have hok := List.all_eq_true.1 h3 o (List.mem_of_getElem? g1')
    rw [g3] at hok
    exact ⟨⟨o,g1',l1⟩,l2.ren g1' hok⟩
  · obtain ⟨o,ho,l⟩ := hq
    obtain ⟨o',ho',l'⟩ := hq'
    simp only [bj.ren,ho] at hb
    simp only [bj.ren,ho'] at hb'
    have := hs.heap.inj o o' b l l' hb hb'
    subst this
    exact sF h1 q q' o ho ho'
  · obtain ⟨o,ho,l⟩ := hq
    simp only [bj.ren,ho] at hb
    exact hs.heap.sep o b l hb
  · obtain ⟨o,ho,l⟩ := hq
    simp only [bj.ren,ho] at hb
    exact hs.heap.lt o b l hb
  · rw [zV] at hg
    cases hk : bq (fH ts σ.tm) t with
    | none => rw [hk] at hg; cases hg
    | some s0 =>
      rw [hk] at hg
      cases hg
      obtain ⟨g1,g2⟩ := qB ts σ.tm t s0 hk
      have hok := List.all_eq_true.1 h2 _ g2
      unfold yH at hok
      simp only [Bool.and_eq_true,List.isEmpty_iff] at hok
      have hh := hs.slots t s0 g1
      refine ⟨fun _ => (hh.1 (by rw [hok.1]; rfl)).ren fun q hq => i5 (List.all_eq_true.1 hok.2 q hq),fun _ h => ?_⟩
      simp [holds] at h
  · obtain ⟨o,ho,l⟩ := hq
    simp only [bj.ren,ho] at hb
    exact hs.own o b l hb
end
def cN (ts : List Nat) (K : Exit → St → Prop) (e : Exit) (σ : St) : Prop := bif mK ts σ then wK K e (canonN ts σ) else False
def be : Code → List Code
  | .seq x y => be x ++ be y
  | .skip => []
  | c => [c]
def ofItems : List Code → Code
  | [] => .skip
  | c :: r => .seq c (ofItems r)
def bS (l : List Code) (n : Nat) : Code := l.getD n .skip
def au (P : Program) (N : Nat) : List Code → (Exit → St → Prop) → St → Prop
  | [],K,σ => wK K .normal σ
  | c :: r,K,σ => bg P N c (bB (au P N r K) K) σ
section
variable {P : Program} {C : FuncId → Option CC} {N : Nat} {c x y : Code} {K K' : Exit → St → Prop} {σ σ' : St}
theorem I8 (h : ∀ e σ,K e σ → K' e σ) {e : Exit} (hk : wK K e σ) : wK K' e σ := ⟨hk.choose,hk.choose_spec.1,h _ _ hk.choose_spec.2⟩
theorem Lx {e : Exit} (h : K e σ) : wK K e σ := ⟨σ, .refl σ,h⟩
theorem au.ent : ∀ {l : List Code} {K : Exit → St → Prop},dt σ σ' → au P N l K σ' → au P N l K σ
  | [],_,he,⟨σ2,h1,h2⟩ => ⟨σ2,he.trans h1,h2⟩
  | _ :: _,_,he,h => bg.ent he h
theorem tw {J J' : St → Prop} (hJ : ∀ σ,J σ → J' σ) (hk : ∀ e σ,K e σ → K' e σ) : ∀ e σ,bB J K e σ → bB J' K' e σ := by
  intro e σ h
  cases e with
  | normal => exact hJ σ h
  | exit id => exact hk _ _ h
  | goto l => exact hk _ _ h
  | ret => exact hk _ _ h
  | panic ch => exact hk _ _ h
  | outgrown => exact hk _ _ h
theorem au.mono : ∀ {l : List Code} {K K' : Exit → St → Prop} {σ : St},(∀ e σ,K e σ → K' e σ) → au P N l K σ → au P N l K' σ
  | [],_,_,_,hk,h => I8 hk h
  | _ :: _,_,_,_,hk,h => bg.mono h (tw (fun _ h => au.mono hk h) hk)
theorem au.app : ∀ {l l' : List Code} {K : Exit → St → Prop} {σ : St},au P N l (bB (au P N l' K) K) σ → au P N (l ++ l') K σ
  | [],_,_,_,⟨_,h1,h2⟩ => au.ent h1 h2
  | _ :: _,_,_,_,h => bg.mono h (tw (fun _ h => au.app h) fun e σ h => by
      cases e with
      | normal => exact h
      | exit id => exact h
      | goto l => exact h
      | ret => exact h
      | panic ch => exact h
      | outgrown => exact h) |>.mono (fun e σ h => by
      cases e with
      | normal => exact h
      | exit id => exact h
      | goto l => exact h
      | ret => exact h
      | panic ch => exact h
      | outgrown => exact h)
theorem au.app_inv : ∀ {l l' : List Code} {K : Exit → St → Prop} {σ : St},au P N (l ++ l') K σ → au P N l (bB (au P N l' K) K) σ
  | [],_,_,σ,h => ⟨σ, .refl σ,h⟩
  | _ :: _,_,_,_,h => bg.mono h fun e σ h => by
      cases e with
      | normal => exact au.app_inv h
      | exit id => exact h
      | goto l => exact h
      | ret => exact h
      | panic ch => exact h
      | outgrown => exact h
theorem bg.of_weakN (h : bg P N c (bB (fun σ => wK K .normal σ) K) σ) : bg P N c K σ :=
  .weak (h.mono fun e σ h => by
    cases e with
    | normal => exact h
    | exit id => exact ⟨σ, .refl σ,h⟩
    | goto l => exact ⟨σ, .refl σ,h⟩
    | ret => exact ⟨σ, .refl σ,h⟩
    | panic ch => exact ⟨σ, .refl σ,h⟩
    | outgrown => exact ⟨σ, .refl σ,h⟩)
theorem bg.ofItems : ∀ (c : Code) {K : Exit → St → Prop} {σ : St},au P N (be c) K σ → bg P N c K σ := by
  intro c
  induction c with
  | skip => exact fun h => .ent h.choose_spec.1 (.skip h.choose_spec.2)
  | seq x y ihx ihy =>
    intro K σ h
    exact .seq ((ihx (au.app_inv h)).mono (tw (fun _ h => ihy h) fun _ _ h => h))
  | label l => exact fun h => .of_weakN h
  | region id ops dr => exact fun h => .of_weakN h
  | cond c x y _ _ => exact fun h => .of_weakN h
  | block id x _ => exact fun h => .of_weakN h
  | exit id => exact fun h => .of_weakN h
  | ret => exact fun h => .of_weakN h
  | loop x _ => exact fun h => .of_weakN h
  | rangeFunc f params assign body => exact fun h => .of_weakN h
  | scope body => exact fun h => .of_weakN h
  | goto l => exact fun h => .of_weakN h
  | refuse why => exact fun h => .of_weakN h
theorem vA {ts : List Nat} {e : Exit} (h : cN ts K e σ) : wK K e σ := by
  unfold cN at h
  cases hc : mK ts σ with
  | false => rw [hc] at h; exact h.elim
  | true =>
    rw [hc,cond_true] at h
    obtain ⟨σ2,h1,h2⟩ := h
    exact ⟨σ2,(dt.canonN ts hc).trans h1,h2⟩
theorem au.piece (hm : P.follows .mixedOrders = true) (hC : ∀ f con,C f = some con → bR P f con) (ts : List Nat) : ∀ (l l' : List Code) {K : Exit → St → Prop} {σ : St},
    ev P C N (Go.Ax.ofItems l) (cN ts (bB (au P N l' K) K)) σ → au P N (l ++ l') K σ
  | [],l',K,σ,h => by
    obtain ⟨σ',h1,h2⟩ := vA h
    exact au.ent h1 h2
  | c :: l,l',K,σ,h => by
    have h' : ev P C N c (bB (ev P C N (Go.Ax.ofItems l) (cN ts (bB (au P N l' K) K))) (cN ts (bB (au P N l' K) K))) σ := h
    refine .weak (.of_ev hm hC (rK c ?_ h'))
    intro e σ' hk
    cases e with
    | normal => exact ⟨σ', .refl σ',au.piece hm hC ts l l' hk⟩
    | exit id => exact vA hk
    | goto l => exact vA hk
    | ret => exact vA hk
    | panic ch => exact vA hk
    | outgrown => exact vA hk
def W {α : Type} (o : Option α) (Q : α → Prop) : Prop := match o with | some a => Q a | none => False
def gd {α : Type} (p : Prop) [Decidable p] (o : Option α) : Option α := if p then o else none
theorem cV {α : Type} {p : Prop} [Decidable p] {o : Option α} (h : p) : gd p o = o := by unfold gd; exact if_pos h
theorem ym {α : Type} {p : Prop} [Decidable p] {o : Option α} (h : ¬ p) : gd p o = none := by unfold gd; exact if_neg h
theorem JL {α : Type} {p : Prop} [Decidable p] {o : Option α} {a : α} : gd p o = some a ↔ p ∧ o = some a := by
  by_cases h : p
  · rw [cV h]; simp [h]
  · rw [ym h]; simp [h]
theorem an {α : Type} {b : Bool} {o o' : Option α} {Q : α → Prop} {X Y : Prop} (h : W (bif b then o else o') Q) (h1 : b = true → W o Q → X) (h2 : b = false → W o' Q → Y) : bif b then X else Y := by
  cases b with
  | true => exact h1 rfl h
  | false => exact h2 rfl h
theorem bX {α : Type} {p : Prop} [Decidable p] {o : Option α} {Q : α → Prop} {X : Prop} (h : W (gd p o) Q) (h1 : p → W o Q → X) : p ∧ X := by
  by_cases hp : p
  · rw [cV hp] at h; exact ⟨hp,h1 hp h⟩
  · rw [ym hp] at h; exact h.elim
theorem az {α β : Type} {o : Option β} {f : β → Option α} {Q : α → Prop} {X : Prop} (d : β) (h : W (o.bind f) Q) (h1 : o.isSome = true → W (f (o.getD d)) Q → X) : o.isSome = true ∧ X := by
  cases o with
  | none => exact h.elim
  | some b => exact ⟨rfl,h1 rfl h⟩
theorem J7 {α β : Type} {o : Option β} {f : β → Option α} {Q : α → Prop} (h : W (o.bind f) Q) : W o fun b => W (f b) Q := by
  cases o with
  | none => exact h
  | some b => exact h
theorem OC {α : Type} {o : Option α} {Q Q' : α → Prop} (h : W o Q) (hq : ∀ a,Q a → Q' a) : W o Q' := by
  cases o with
  | none => exact h
  | some a => exact hq a h
theorem bF {α : Type} {o : Option α} {Q : α → Prop} : W o Q ↔ ∃ a,o = some a ∧ Q a := by
  cases o with
  | none => exact ⟨fun h => h.elim,fun ⟨_,h,_⟩ => by cases h⟩
  | some a => exact ⟨fun h => ⟨a,rfl,h⟩,fun ⟨_,h,hq⟩ => by cases h; exact hq⟩
def gL {σ ρ : Type} (f : σ → Option (σ ⊕ ρ)) : Nat → σ → Option ρ
  | 0,_ => none
  | n + 1,s => match f s with
    | some (.inl s') => gL f n s'
    | some (.inr r) => some r
    | none => none
theorem tp {σ ρ : Type} {f : σ → Option (σ ⊕ ρ)} : ∀ {n m : Nat} {s : σ} {r : ρ},n ≤ m → gL f n s = some r → gL f m s = some r
  | 0,_,_,_,_,h => by cases h
  | n + 1,0,_,_,hm,_ => by omega
  | n + 1,m + 1,s,r,hm,h => by
    unfold gL at h ⊢
    split
    · next s' hs => rw [hs] at h; exact tp (by omega) h
    · next r' hs => rw [hs] at h; exact h
    · next hs => rw [hs] at h; cases h
open Classical in
noncomputable def fixL {σ ρ : Type} (f : σ → Option (σ ⊕ ρ)) (s : σ) : Option ρ := match gL f 1000000 s with | some r => some r | none => if h : ∃ n,(gL f n s).isSome = true then gL f h.choose s else none
theorem vI {σ ρ : Type} {f : σ → Option (σ ⊕ ρ)} {n : Nat} {s : σ} {r : ρ} (h : gL f n s = some r) : fixL f s = some r := by
  have he : ∃ n,(gL f n s).isSome = true := ⟨n,by rw [h]; rfl⟩
  have key : ∀ m r',gL f m s = some r' → r' = r := fun m r' hr' => by
    have a := tp (Nat.le_max_left n m) h
    have b := tp (Nat.le_max_right n m) hr'
    rw [a] at b
    exact (Option.some.inj b).symm
  unfold fixL
  split
  · next r' hr' => rw [key _ r' hr']
  · rw [dif_pos he]
    have h2 := he.choose_spec
    obtain ⟨r',hr'⟩ := Option.isSome_iff_exists.1 h2
    rw [hr',key _ r' hr']
theorem qL {σ ρ : Type} {f : σ → Option (σ ⊕ ρ)} {s : σ} {r : ρ} : fixL f s = some r ↔ ∃ n,gL f n s = some r := by
  constructor
  · intro h
    unfold fixL at h
    split at h
    · next r' hr' => cases h; exact ⟨_,hr'⟩
    · split at h
      · next he => exact ⟨_,h⟩
      · cases h
  · rintro ⟨n,h⟩
    exact vI h
theorem rD {σ ρ : Type} (f : σ → Option (σ ⊕ ρ)) (s : σ) : fixL f s = (f s).bind fun x => match x with | .inl s' => fixL f s' | .inr r => some r := by
  cases hf : f s with
  | none =>
    cases h : fixL f s with
    | none => rfl
    | some r =>
      obtain ⟨n,hn⟩ := qL.1 h
      cases n with
      | zero => cases hn
      | succ n => unfold gL at hn; rw [hf] at hn; cases hn
  | some x =>
    cases x with
    | inl s' =>
      show fixL f s = fixL f s'
      cases h' : fixL f s' with
      | some r =>
        obtain ⟨n,hn⟩ := qL.1 h'
        exact vI (n := n + 1) (by unfold gL; rw [hf]; exact hn)
      | none =>
        cases h : fixL f s with
        | none => rfl
        | some r =>
          obtain ⟨n,hn⟩ := qL.1 h
          cases n with
          | zero => cases hn
          | succ n =>
            unfold gL at hn
            rw [hf] at hn
            have := vI hn
            rw [h'] at this
            cases this
    | inr r => exact vI (n := 1) (by unfold gL; rw [hf])
def Pp {X : Type} (P : Program) (N : Nat) (l : List Code) (σ : St) (o : Option X) (E : X → (Exit → St → Prop) → Prop) : Prop :=
  ∀ K : Exit → St → Prop,W o (fun x => E x K) → au P N l K σ
def dK {S R : Type} (emb : S → St) (E : R → (Exit → St → Prop) → Prop) : S ⊕ R → (Exit → St → Prop) → Prop
  | .inl s,K => K .normal (emb s)
  | .inr r,K => E r K
theorem bg.loopF {S R : Type} {f : S → Option (S ⊕ R)} {emb : S → St} {E : R → (Exit → St → Prop) → Prop} (hb : ∀ s,Pp P N (be x) (emb s) (f s) (dK emb E))
    (hE : ∀ r J K,E r K → E r (bB J K)) {s : S} (h : W (fixL f s) fun r => E r K) : bg P N (.loop x) K (emb s) := by
  obtain ⟨r,hr,hq⟩ := bF.1 h
  obtain ⟨n,hn⟩ := qL.1 hr
  refine bg.loop (fun m σ => ∃ s,σ = emb s ∧ gL f m s = some r) n (emb s) (.refl _) ⟨s,rfl,hn⟩ ?_
  rintro m σ ⟨s,rfl,hm⟩
  refine .ofItems x (hb s _ ?_)
  cases m with
  | zero => cases hm
  | succ m =>
    unfold gL at hm
    split at hm
    · next s' hs => rw [hs]; exact ⟨m,emb s',Nat.lt_succ_self m, .refl _,s',rfl,hm⟩
    · next r' hs => rw [hs]; cases hm; exact hE r _ _ hq
    · cases hm
end
end Go.Ax
namespace Go.Ax
open Go.RowKit
def bP {T : Type} (enc : T → List D) (z : T) (l : List T) (i : Nat) : List D := enc (l.getD i z)
def aT {T : Type} (enc : T → List D) (dec : List D → T) (k0 k n : Nat) (el : Nat → List D) : Prop := (0 < n → k = k0) ∧ ∀ i,i < n → bn (el i) (enc (dec (el i)))
def eA {T : Type} (enc : T → List D) (dec : List D → T) : Prop := ∀ x ds,bn ds (enc x) → dec ds = x
theorem eA.eq {T : Type} {enc : T → List D} {dec : List D → T} (h : eA enc dec) (x : T) : dec (enc x) = x := h x _ (.refl _)
def D.isLit : D → Bool
  | .lit _ => true
  | _ => false
theorem je.lit_inv {d d' : D} (h : je d d') (hl : d'.isLit = true) : d = d' := by
  cases h with
  | refl => rfl
  | unk => cases hl
  | any => cases hl
  | nilsl => cases hl
  | sl => cases hl
theorem bn.flat {ds ds' : List D} (h : bn ds ds') (hf : ds'.all D.isLit = true) : ds = ds' :=
  List.ext_getElem h.1 fun i h1 h2 => (h.2 i _ _ (List.getElem?_eq_getElem h1) (List.getElem?_eq_getElem h2)).lit_inv (List.all_eq_true.1 hf _ (List.getElem_mem h2))
theorem eA.flat {T : Type} {enc : T → List D} {dec : List D → T} (hd : ∀ x,dec (enc x) = x) (hf : ∀ x,(enc x).all D.isLit = true) : eA enc dec := fun x ds h => by rw [h.flat (hf x)]; exact hd x
theorem aT.eq {T : Type} {enc : T → List D} {dec : List D → T} {k0 k n : Nat} {el : Nat → List D} (h : aT enc dec k0 k n el) (hf : ∀ x,(enc x).all D.isLit = true) : ∀ i,i < n → el i = enc (dec (el i)) := fun i hi => (h.2 i hi).flat (hf _)
def EJ {T : Type} (z : T) (l : List T) (off n : Nat) : List T := (List.range n).map fun i => l.getD (off + i) z
structure aj {T : Type} (enc : T → List D) (z : T) (n : Nat) (el : Nat → List D) (l : List T) : Prop where
  len : n = l.length
  els : ∀ i,i < n → bn (el i) (enc (l.getD i z))
section
variable {T : Type} {enc : T → List D} {dec : List D → T} {z : T} {n m k k0 off : Nat} {el el' : Nat → List D} {l l' : List T}
theorem fj : (lst dec n el).length = n := by simp [lst]
theorem lj {i : Nat} (h : i < n) : (lst dec n el).getD i z = dec (el i) := by
  unfold lst
  rw [List.getD_eq_getElem?_getD,List.getElem?_map,List.getElem?_range h]
  rfl
theorem aj.of_ok (h : aT enc dec k0 k n el) : aj enc z n el (lst dec n el) :=
  ⟨fj.symm,fun i hi => by rw [lj hi]; exact h.2 i hi⟩
theorem aj.lst (hd : eA enc dec) (h : aj enc z n el l) : Go.Ax.lst dec n el = l := by
  refine List.ext_getElem (by rw [fj,h.len]) fun i h1 h2 => ?_
  have hi : i < n := by rw [fj] at h1; exact h1
  have := lj (dec := dec) (el := el) (z := z) hi
  rw [List.getD_eq_getElem?_getD,List.getElem?_eq_getElem h1] at this
  have e : (Go.Ax.lst dec n el)[i] = dec (el i) := this
  rw [e,hd _ _ (h.els i hi),List.getD_eq_getElem?_getD,List.getElem?_eq_getElem h2]
  rfl
theorem aj.ok (hd : eA enc dec) (h : aj enc z n el l) : aT enc dec k k n el := ⟨fun _ => rfl,fun i hi => by rw [hd _ _ (h.els i hi)]; exact h.els i hi⟩
theorem aj.okN (hd : eA enc dec) (h : aj enc z 0 el l) : aT enc dec k0 k 0 el := ⟨fun h => by omega,fun i hi => by omega⟩
theorem aj.ls (enc : T → List D) (z : T) (l : List T) : aj enc z l.length (bP enc z l) l := ⟨rfl,fun _ _ => .refl _⟩
theorem aj.ls0 (enc : T → List D) (z : T) (l : List T) : aj enc z l.length (fun i => bP enc z l (0 + i)) l := ⟨rfl,fun i _ => .of_eq (by simp [bP])⟩
theorem aj.zero (h : aj enc z n el l) : aj enc z n (fun i => el (0 + i)) l := ⟨h.len,fun i hi => by rw [Nat.zero_add]; exact h.els i hi⟩
theorem aj.nil (enc : T → List D) (z : T) (el : Nat → List D) : aj enc z 0 el [] := ⟨rfl,fun i hi => by omega⟩
theorem aj.app (h : aj enc z n el l) (h' : aj enc z m el' l') : aj enc z (n + m) (fun i => bif Nat.blt i n then el i else el' (i - n)) (l ++ l') := by
  refine ⟨by rw [List.length_append,h.len,h'.len],fun i hi => ?_⟩
  by_cases hlt : i < n
  · have : Nat.blt i n = true := by simpa using hlt
    rw [this,cond_true,show (l ++ l').getD i z = l.getD i z by rw [List.getD_eq_getElem?_getD,List.getD_eq_getElem?_getD,List.getElem?_append_left (by rw [← h.len]; exact hlt)]]
    exact h.els i hlt
  · have : Nat.blt i n = false := by
      cases hb : Nat.blt i n with
      | false => rfl
      | true => rw [Nat.blt_eq] at hb; exact (hlt hb).elim
    rw [this,cond_false,show (l ++ l').getD i z = l'.getD (i - n) z by rw [List.getD_eq_getElem?_getD,List.getD_eq_getElem?_getD,List.getElem?_append_right (by rw [← h.len]; omega),h.len]]
    exact h'.els (i - n) (by omega)
theorem aj.set (h : aj enc z n el l) (j : Nat) (x : T) {cs : List D} (hc : cs = enc x) : aj enc z n (fun q => bif Nat.beq q j then cs else el q) (l.set j x) := by
  refine ⟨by rw [List.length_set]; exact h.len,fun i hi => ?_⟩
  by_cases hj : i = j
  · subst hj
    rw [show Nat.beq i i = true by simp,cond_true,hc,List.getD_eq_getElem?_getD,List.getElem?_set_self (by rw [← h.len]; exact hi)]
    exact .refl _
  · rw [se hj,cond_false,show (l.set j x).getD i z = l.getD i z by rw [List.getD_eq_getElem?_getD,List.getD_eq_getElem?_getD,List.getElem?_set_ne (fun e => hj e.symm)]]
    exact h.els i hi
theorem aj.setw (h : aj enc z n el l) (j : Nat) (x : T) {cs : List D} (hc : bn cs (enc x)) : aj enc z n (fun q => bif Nat.beq q j then cs else el q) (l.set j x) := by
  refine ⟨by rw [List.length_set]; exact h.len,fun i hi => ?_⟩
  by_cases hj : i = j
  · subst hj
    rw [show Nat.beq i i = true by simp,cond_true,List.getD_eq_getElem?_getD,List.getElem?_set_self (by rw [← h.len]; exact hi)]
    exact hc
  · rw [se hj,cond_false,show (l.set j x).getD i z = l.getD i z by rw [List.getD_eq_getElem?_getD,List.getD_eq_getElem?_getD,List.getElem?_set_ne (fun e => hj e.symm)]]
    exact h.els i hi
theorem G0 {i : Nat} (hi : i < n) : (EJ z l off n).getD i z = l.getD (off + i) z := by
  unfold EJ
  rw [List.getD_eq_getElem?_getD,List.getElem?_map,List.getElem?_range hi]
  rfl
theorem aj.sub (enc : T → List D) (z : T) (l : List T) (off n : Nat) : aj enc z n (fun i => bP enc z l (off + i)) (EJ z l off n) :=
  ⟨by simp [EJ],fun i hi => by rw [G0 hi]; exact .refl _⟩
theorem aj.rep (x : T) {cs : List D} (hc : cs = enc x) (n : Nat) : aj enc z n (fun _ => cs) (List.replicate n x) :=
  ⟨by simp,fun i hi => by rw [hc,List.getD_eq_getElem?_getD,List.getElem?_replicate,if_pos hi]; exact .refl _⟩
def yJ (z : T) (l : List T) (off n : Nat) : List T := (List.range l.length).map fun q => bif Nat.ble off q && Nat.blt q (off + n) then z else l.getD q z
theorem aj.clear (h : aj enc z n el l) {cs : List D} (hc : cs = enc z) (off m : Nat) : aj enc z n (fun q => bif Nat.ble off q && Nat.blt q (off + m) then cs else el q) (yJ z l off m) := by
  refine ⟨by simp [yJ,h.len],fun i hi => ?_⟩
  have hl : i < l.length := by rw [← h.len]; exact hi
  have : (yJ z l off m).getD i z = bif Nat.ble off i && Nat.blt i (off + m) then z else l.getD i z := by
    unfold yJ
    rw [List.getD_eq_getElem?_getD,List.getElem?_map,List.getElem?_range hl]
    rfl
  rw [this]
  cases hb : (Nat.ble off i && Nat.blt i (off + m)) with
  | true => exact .of_eq hc
  | false => exact h.els i hi
theorem fg (h : n = l.length) (h' : m = l'.length) : n + m = (l ++ l').length := by rw [List.length_append,h,h']
theorem m7 {j : Nat} {x : T} (h : n = l.length) : n = (l.set j x).length := by rw [List.length_set,h]
theorem aj.lit (l : List T) (h : ∀ i,i < l.length → bn (el i) (enc (l.getD i z))) : aj enc z l.length el l := ⟨rfl,h⟩
theorem aj.congr (h : aj enc z n el l) (hn : m = n) (he : ∀ i,i < n → el' i = el i) : aj enc z m el' l := ⟨hn.trans h.len,fun i hi => by rw [he i (hn ▸ hi)]; exact h.els i (hn ▸ hi)⟩
end
section
variable {T : Type} {enc : T → List D} {z : T} {n k : Nat} {el : Nat → List D} {l : List T} {tm r : List (Nat × bu)} {H R : ay} {t o : Nat}
theorem VLe.sl (h : aj enc z n el l) : VLe (.c (.sl k n el)) (.c (.sl k l.length (bP enc z l))) := by
  rw [VLe]
  exact .row h.len (fun _ => rfl) h.els
theorem VLe.slk {k' : Nat} (hk : 0 < n → k = k') (h : aj enc z n el l) : VLe (.c (.sl k n el)) (.c (.sl k' l.length (bP enc z l))) := by
  rw [VLe]
  exact .row h.len hk h.els
theorem VLe.nilsl (enc : T → List D) (z : T) (k : Nat) : VLe (.c .nil) (.c (.sl k 0 (bP enc z []))) := by
  rw [VLe]; exact .nilsl _ _
theorem VLe.any {d : D} (h : d.isOne = true) : VLe (.c d) (.c .any) := by rw [VLe]; exact .any _ h
theorem VLe.dptr {cs cs' : List D} {j : Nat} (h : bn cs cs') : VLe (.dptr k cs j) (.dptr k cs' j) := by rw [VLe]; exact ⟨rfl,rfl,h⟩
theorem VLe.rown {k off n n' : Nat} (h : n = n') : VLe (.row o k off n) (.row o k off n') := by subst h; exact VLe.rfl' _
theorem VLe.agg {xs ys : List V} (h : VLes xs ys) : VLe (.agg xs) (.agg ys) := by rw [VLe]; exact h
theorem VLe.tup {xs ys : List V} (h : VLes xs ys) : VLe (.tup xs) (.tup ys) := by rw [VLe]; exact h
theorem VLes.cons {x y : V} {xs ys : List V} (h : VLe x y) (hs : VLes xs ys) : VLes (x :: xs) (y :: ys) := by rw [VLes]; exact ⟨h,hs⟩
theorem VLes.nil : VLes [] [] := by rw [VLes]; trivial
theorem VLe.of_eq {x y : V} (h : x = y) : VLe x y := h ▸ VLe.rfl' x
theorem co.cons {v v' : V} (h : bq tm t = some ⟨[],v⟩) (hv : VLe v v') (hr : co tm r) : co tm ((t,⟨[],v'⟩) :: r) := by
  rw [co,h]; exact ⟨⟨rfl,rfl,hv⟩,hr⟩
theorem co.nil : co tm [] := by rw [co]; trivial
theorem cG.row {ty n' : Nat} (h : ay.get H o = some (.row ty k n el)) (hr : aj enc z n el l) (hs : cG H R) (hn : n' = l.length) : cG H ((o,some (.row ty k n' (bP enc z l))) :: R) := by
  subst hn
  rw [cG,h]; exact ⟨⟨rfl,rfl,hr.len,hr.els⟩,hs⟩
theorem je.ls {k' : Nat} (hk : 0 < n → k = k') (h : aj enc z n el l) : je (.sl k n el) (.sl k' l.length (bP enc z l)) := .row h.len hk h.els
theorem je.nil_or {d : D} {k n : Nat} {el : Nat → List D} (h : je d (.sl k n el)) : (d = .nil ∧ n = 0) ∨ ∃ k' el',d = .sl k' n el' ∧ ∀ i,i < n → bn (el' i) (el i) := by
  cases h with
  | refl => exact .inr ⟨_,_,rfl,fun _ _ => .refl _⟩
  | nilsl => exact .inl ⟨rfl,rfl⟩
  | sl k0 k n el0 el hk hl hc => exact .inr ⟨_,_,rfl,fun i hi => ⟨hl i hi,fun j d d' => hc i j d d' hi⟩⟩
theorem cG.box {cs cs' : List V} (h : ay.get H o = some (.box cs)) (hv : VLes cs cs') (hs : cG H R) : cG H ((o,some (.box cs')) :: R) := by
  rw [cG,h]; exact ⟨hv,hs⟩
theorem cG.same {b : Ob} (h : ay.get H o = some b) (hs : cG H R) : cG H ((o,some b) :: R) := by
  rw [cG,h]
  refine ⟨?_,hs⟩
  cases b with
  | box cs => exact VLes.rfl' cs
  | raw x => exact rfl
  | row t k n el => exact ⟨rfl,rfl,rfl,fun _ _ => .refl _⟩
theorem cG.nil : cG H [] := by rw [cG]; trivial
theorem dt.of {σ σ' : St} (h1 : co σ.tm σ'.tm) (h2 : cG σ.hp σ'.hp) (h3 : Nat.ble σ.nx σ'.nx = true) : dt σ σ' := .le ⟨h1,h2,Nat.ble_eq.mp h3⟩
end
section
variable {P : Program} {N : Nat} {σ σ' : St}
theorem cD.intro {rs : List ResultVar} {out : cm} {v : V} (hv : hU P σ rs = some v) (h : cw out σ.hp v) : cD P rs (cw out) .ret σ := by
  show (match hU P σ rs with | some v => cw out σ.hp v | none => False)
  rw [hv]; exact h
theorem eL {f : FuncId} {fn : Func} {c : Code} (hf : P.funcs[f]? = some fn) (hb : fn.body = some c) (hn : (fn.name == "runtime.NumGoroutine") = false) {con : ct} {rs : List ResultVar} (hr : fn.results.toList = rs) {nt : Nat} (ht : fn.ntmps = nt)
    (h : ∀ vs p out,con vs = some (p,out) → (∀ q ∈ p,q) → ∃ vs',VLes vs vs' ∧ (Nat.ble vs'.length nt && Nat.ble nt 1000000) = true ∧ au P nt (be c) (cD P rs (cw out)) { tm := fL vs' 0,hp := [],nx := 0 }) : br P f con := by
  subst hr ht
  refine BS hf hb hn fun vs p out h1 h2 => ?_
  obtain ⟨vs',h3,h4,h5⟩ := h vs p out h1 h2
  rw [Bool.and_eq_true] at h4
  exact ⟨vs',h3,⟨Nat.ble_eq.mp h4.1,Nat.ble_eq.mp h4.2⟩, .ofItems c h5⟩
end
def AM {T : Type} (enc : T → List D) (el : Nat → List D) : Nat → List T → Prop
  | _,[] => True
  | i,x :: r => bn (el i) (enc x) ∧ AM enc el (i + 1) r
theorem Ag {T : Type} {enc : T → List D} {z : T} {el : Nat → List D} : ∀ {l : List T} {i : Nat},AM enc el i l → ∀ j,j < l.length → bn (el (i + j)) (enc (l.getD j z))
  | [],_,_,j,h => by simp at h
  | x :: r,i,ha,0,_ => ha.1
  | x :: r,i,ha,j + 1,h => by
    have := Ag (z := z) ha.2 j (by simpa using h)
    rw [show i + (j + 1) = i + 1 + j by omega]
    simpa using this
theorem aj.lits {T : Type} {enc : T → List D} {z : T} {el : Nat → List D} {l : List T} (h : AM enc el 0 l) : aj enc z l.length el l :=
  ⟨rfl,fun i hi => by have := Ag (z := z) h i hi; rwa [Nat.zero_add] at this⟩
theorem bD {α : Type} {p q : Prop} [Decidable p] [Decidable q] {o : Option α} {Q : α → Prop} {X : Prop} (h : W (gd (p ∧ q) o) Q) (h1 : p ∧ q → W o Q → X) : p ∧ q ∧ X := by
  obtain ⟨⟨a,b⟩,c⟩ := bX h h1
  exact ⟨a,b,c⟩
theorem Iz {α : Type} {p q r : Prop} [Decidable p] [Decidable q] [Decidable r] {o : Option α} {Q : α → Prop} {X : Prop} (h : W (gd (p ∧ q ∧ r) o) Q) (h1 : p ∧ q ∧ r → W o Q → X) : p ∧ q ∧ r ∧ X := by
  obtain ⟨⟨a,b,c⟩,d⟩ := bX h h1
  exact ⟨a,b,c,d⟩
def jF (n b : Nat) : Prop := n * b ≤ 140737488355328 ∧ n ≤ 140737488355328
instance (n b : Nat) : Decidable (jF n b) := inferInstanceAs (Decidable (_ ∧ _))
theorem bE {a : Prop} {l : List Prop} (h : ∀ q ∈ a :: l,q) : a ∧ ∀ q ∈ l,q := ⟨h a (by simp),fun q hq => h q (by simp [hq])⟩
section
variable {P : Program} {C : FuncId → Option CC} {N : Nat} {x y c : Code} {K : Exit → St → Prop} {σ : St}
structure Aa (P : Program) (C : FuncId → Option CC) (N : Nat) (c : Code) (K : Exit → St → Prop) (σ : St) : Prop where
  h : ev P C N c K σ
theorem Aa.of {X : Prop} (h : ev P C N c K σ = X) (x : X) : Aa P C N c K σ := ⟨h.mpr x⟩
theorem au.pieceD (hm : P.follows .mixedOrders = true) (hC : ∀ f con,C f = some con → bR P f con) (ts : List Nat) (a m b : Nat) {l : List Code} (e : a + m = b)
    (h : Aa P C N (ofItems ((l.drop a).take m)) (cN ts (bB (au P N (l.drop b) K) K)) σ) : au P N (l.drop a) K σ := by
  obtain ⟨h⟩ := h
  subst e
  have := au.piece hm hC ts ((l.drop a).take m) ((l.drop a).drop m) (K := K) (σ := σ) (by rw [List.drop_drop]; exact h)
  rwa [List.take_append_drop] at this
theorem au.pieceE (hm : P.follows .mixedOrders = true) (hC : ∀ f con,C f = some con → bR P f con) (ts : List Nat) (a m : Nat) {l : List Code} (e : l.drop (a + m) = [])
    (h : Aa P C N (ofItems ((l.drop a).take m)) (cN ts K) σ) : au P N (l.drop a) K σ := by
  obtain ⟨h⟩ := h
  have hl : (l.drop a).take m = l.drop a := List.take_of_length_le (by
    have := List.drop_eq_nil_iff.1 e
    rw [List.length_drop]; omega)
  rw [hl] at h
  have hq := au.piece (l' := []) hm hC ts (l.drop a) (K := K) (σ := σ) (rK _ (fun e σ hk => ?_) h)
  · rwa [List.append_nil] at hq
  · unfold cN at hk ⊢
    cases hc : mK ts σ with
    | false => rw [hc] at hk; exact hk.elim
    | true =>
      rw [hc,cond_true] at hk
      rw [cond_true]
      obtain ⟨σ',h1,h2⟩ := hk
      cases e with
      | normal => exact ⟨σ',h1,σ', .refl _,h2⟩
      | exit id => exact ⟨σ',h1,h2⟩
      | goto l => exact ⟨σ',h1,h2⟩
      | ret => exact ⟨σ',h1,h2⟩
      | panic ch => exact ⟨σ',h1,h2⟩
      | outgrown => exact ⟨σ',h1,h2⟩
theorem au.at_ {l l' : List Code} (e : l = l') (h : au P N l' K σ) : au P N l K σ := e ▸ h
theorem au.end_ {l : List Code} (e : l = []) (h : K .normal σ) : au P N l K σ := by subst e; exact Lx h
theorem au.cons_loop {r : List Code} {id : Nat} (h : bg P N (.loop x) (cO id (bB (au P N r K) K)) σ) : au P N (.block id (.loop x) :: r) K σ := bg.block h
end
theorem dq {S R α : Type} {f : S → Option (S ⊕ R)} {s : S} {g : R → Option α} {Q : α → Prop} {Q' : R → Prop} (h : W ((fixL f s).bind g) Q) (hq : ∀ r,W (g r) Q → Q' r) : W (fixL f s) Q' := OC (J7 h) hq
def Qi (c c' : ct) : ct := fun vs => match c vs with | some r => some r | none => c' vs
theorem br.or {P : Program} {f : FuncId} {c c' : ct} (h : br P f c) (h' : br P f c') : br P f (Qi c c') := by
  intro ok w xs vs p out h1 h2 h3 h4
  unfold Qi at h3
  split at h3
  · next r hr => cases h3; exact h ok w xs vs p out h1 h2 hr h4
  · exact h' ok w xs vs p out h1 h2 h3 h4
end Go.Ax
namespace Go.Ax
open Go.RowKit
mutual
def V.mp (f : Nat → Nat) : V → V
  | .c d => .c d
  | .agg vs => .agg (V.mps f vs)
  | .tup vs => .tup (V.mps f vs)
  | .ptr o k i j => .ptr (f o) k i j
  | .row o k off n => .row (f o) k off n
  | .dptr k cs j => .dptr k cs j
  | .fn g caps => .fn g (V.mps f caps)
def V.mps (f : Nat → Nat) : List V → List V
  | [] => []
  | v :: r => V.mp f v :: V.mps f r
end
def Ob.mp (f : Nat → Nat) : Ob → Ob
  | .box cs => .box (V.mps f cs)
  | .row t k n el => .row t k n el
  | .raw x => .raw x
mutual
def V.sclr : V → Bool
  | .c d => d.scal
  | .agg vs => V.sclrs vs
  | .tup vs => V.sclrs vs
  | .ptr .. => true
  | .row .. => true
  | .dptr .. => false
  | .fn _ vs => V.sclrs vs
def V.sclrs : List V → Bool
  | [] => true
  | v :: r => V.sclr v && V.sclrs r
end
def DY : Ob → Prop
  | .box cs => V.sclrs cs = true
  | .row _ _ n el => ∀ i,i < n → ∀ d ∈ el i,d.scal = true
  | .raw _ => True
def pG : Ob → List Nat
  | .box cs => V.refss cs
  | .row .. => []
  | .raw _ => []
mutual
def V.rrefs : V → List Nat
  | .agg vs => V.rrefss vs
  | .tup vs => V.rrefss vs
  | .row o _ _ _ => [o]
  | .fn _ caps => V.rrefss caps
  | _ => []
def V.rrefss : List V → List Nat
  | [] => []
  | v :: r => V.rrefs v ++ V.rrefss r
end
def pp : Ob → List Nat
  | .box cs => V.rrefss cs
  | .row .. => []
  | .raw _ => []
def cH (q : Nat) : Ob → V
  | .box cs => .ptr q cs.length 0 0
  | .row _ k n _ => .row q k 0 n
  | .raw _ => .ptr q 1 0 0
def ry : Ob → Ob → Prop
  | .box _, .box _ => True
  | .row _ _ n _, .row _ _ n' _ => n = n'
  | .raw _, .raw _ => True
  | _,_ => False
def kG (H : ay) : List (Nat × bu) := H.map fun x => (1000000 + x.1,match x.2 with | some b => ⟨[],cH x.1 b⟩ | none => ⟨[], .c .unk⟩)
def kR (os : List Nat) (H : ay) : List Bool → List V → List V
  | _,[] => []
  | b :: fl,v :: r => (bif b then v.ren os else v.view H) :: kR os H fl r
  | [],v :: r => v.view H :: kR os H [] r
def xR : Option Ob → Bool
  | some (.row ..) => true
  | some (.box cs) => (V.refss cs).isEmpty
  | _ => false
def DS (H : ay) (vs : List V) : Bool := (V.refss vs).all fun o => xR (H.get o)
def xQ (os : List Nat) (H : ay) (nr : Bool) (v : V) : Bool := bif nr then v.refs.isEmpty else DS H [v] && v.refs.all fun o => !(gq o os)
def md (os : List Nat) (H : ay) (nr : Bool) : List Bool → List V → Bool
  | _,[] => true
  | b :: fl,v :: r => (bif b then v.refs.all (fun o => gq o os) else xQ os H nr v) && md os H nr fl r
  | [],v :: r => xQ os H nr v && md os H nr [] r
def yc (os : List Nat) (H : ay) : Bool := os.all fun o => match ay.get H o with | some b => Cv os b | none => false
def j9 : List (Nat × Nat) → Nat → Nat
  | [],_ => 0
  | (q',o) :: r,q => bif Nat.beq q' q then o else j9 r q
def k9 : List (Nat × Nat) → Nat → Option Nat
  | [],_ => none
  | (q,o') :: r,o => bif Nat.beq o' o then some q else k9 r o
structure Left (os : List Nat) (nid : Nat) (H : ay) (sc : Bool) (r : cE) (m : List (Nat × Nat)) (σ : St) (v : V) : Prop where
  inj : ∀ q q' o,(q,o) ∈ m → (q',o) ∈ m → q = q'
  fn : ∀ q o o',(q,o) ∈ m → (q,o') ∈ m → o = o'
  to : ∀ q o,(q,o) ∈ m → o ∈ os ∨ o = nid
  val : VLe (v.mp (j9 m)) r.val
  vrefs : ∀ q ∈ v.refs,q ∈ m.map (·.1)
  vrows : v.rrefs.all (fun q => o4 (ay.get σ.hp q)) = true
  vsc : sc = true ∨ v.sclr = true
  has : ∀ q o,(q,o) ∈ m → ∃ ob,ay.get σ.hp q = some ob
  obs : ∀ o ob',ay.get r.eff o = some ob' → ∃ q ob,(q,o) ∈ m ∧ ay.get σ.hp q = some ob ∧ ko (ob.mp (j9 m)) ob' ∧ (∀ p ∈ pG ob,p ∈ m.map (·.1)) ∧ (pp ob).all (fun q => o4 (ay.get σ.hp q)) = true ∧ (sc = true ∨ DY ob)
  all : ∀ o ∈ os,o ∈ fR r.eff
  kill : ∀ o ∈ r.kill,o ∈ os
  keep : ∀ i o,os[i]? = some o → o ∈ r.kill ∨ ∃ q ob ob',(q,o) ∈ m ∧ ay.get H o = some ob ∧ ay.get σ.hp q = some ob' ∧ ry ob ob' ∧ bq σ.tm (1000000 + i) = some ⟨[],cH q ob⟩
def hG (P : Program) (rs : List ResultVar) (Q : St → V → Prop) : Exit → St → Prop
  | .ret,σ => (match hU P σ rs with | some v => Q σ v | none => False)
  | .normal,σ => (match hU P σ rs with | some v => Q σ v | none => False)
  | _,_ => False
section
variable {P : Program} {N : Nat} {B : gz} {σ σ' : St} {E E' : bj} {a : Act} {w w' : World} {H : ay}
theorem lQ (f : Nat → Nat) : ∀ vs : List V,(V.mps f vs).length = vs.length
  | [] => rfl
  | _ :: r => by simp [V.mps,lQ f r]
theorem rI (f : Nat → Nat) : ∀ (vs : List V) (i : Nat),(V.mps f vs)[i]? = (vs[i]?).map (V.mp f)
  | [],i => by simp [V.mps]
  | v :: r,0 => by simp [V.mps]
  | v :: r,i + 1 => by simp [V.mps,rI f r i]
theorem nO : ∀ {vs : List V} {i : Nat} {v : V},V.sclrs vs = true → vs[i]? = some v → v.sclr = true
  | [],i,v,_,h => by simp at h
  | x :: r,0,v,hs,h => by
    simp only [V.sclrs,Bool.and_eq_true] at hs
    simp at h; subst h; exact hs.1
  | x :: r,i + 1,v,hs,h => by
    simp only [V.sclrs,Bool.and_eq_true] at hs
    exact nO hs.2 (by simpa using h)
theorem mo {o : Nat} : ∀ {vs : List V} {i : Nat} {v : V},vs[i]? = some v → o ∈ v.rrefs → o ∈ V.rrefss vs
  | [],i,v,h,_ => by simp at h
  | x :: r,0,v,h,ho => by simp at h; subst h; simp [V.rrefss,ho]
  | x :: r,i + 1,v,h,ho => by
    simp only [V.rrefss,List.mem_append]
    exact .inr (mo (by simpa using h) ho)
mutual
theorem rrefs_refs : ∀ (v : V), ∀ q ∈ v.rrefs,q ∈ v.refs
  | .c _ => by simp [V.rrefs]
  | .agg vs => by simp only [V.rrefs,V.refs]; exact rrefss_refs vs
  | .tup vs => by simp only [V.rrefs,V.refs]; exact rrefss_refs vs
  | .ptr .. => by simp [V.rrefs]
  | .row .. => by simp [V.rrefs,V.refs]
  | .dptr .. => by simp [V.rrefs]
  | .fn _ vs => by simp only [V.rrefs,V.refs]; exact rrefss_refs vs
theorem rrefss_refs : ∀ (vs : List V), ∀ q ∈ V.rrefss vs,q ∈ V.refss vs
  | [] => by simp [V.rrefss]
  | v :: r => by
    intro q hq
    simp only [V.rrefss,V.refss,List.mem_append] at hq ⊢
    exact hq.imp (rrefs_refs v q) (rrefss_refs r q)
end
theorem aK.ptr_inv {v : Value} {o k i j : Nat} (h : aK E w v (.ptr o k i j)) : ∃ b,E.conc o = some b ∧ v = .pointer (some ⟨b,i * k + j,none⟩) := by
  generalize hd : V.ptr o k i j = d at h
  cases h with
  | ptr o' k' i' j' b h1 h2 h3 => cases hd; exact ⟨b,h2,rfl⟩
  | _ => cases hd
theorem aK.row_inv {v : Value} {o k n : Nat} (h : aK E w v (.row o k 0 n)) : ∃ (a : Option Addr) (c : Nat),v = .slice a n c ∧ ((a = none ∧ c = 0 ∧ E.conc o = none) ∨ ∃ b,E.conc o = some b ∧ a = some ⟨b,0,none⟩ ∧ c = E.cap o) := by
  generalize hd : V.row o k 0 n = d at h
  cases h with
  | row o' k' off' n' a c hn hc hm hl ha h0 => cases hd; exact ⟨a,c,rfl,h0 rfl⟩
  | _ => cases hd
def Cl (E E' : bj) (f : Nat → Nat) (q : Nat) : Prop :=
  E'.live (f q) ∧ E'.conc (f q) = E.conc q ∧ E'.len (f q) = E.len q
def rX (E E' : bj) (f : Nat → Nat) (q : Nat) : Prop := E.conc q = none ∨ E'.cap (f q) = E.cap q
theorem aK.mp {f : Nat → Nat} {v : Value} {d : V} (h : aK E w v d) : (∀ q ∈ V.refs d,E.live q → Cl E E' f q) → (∀ q ∈ V.rrefs d,E.live q → rX E E' f q) → ((∀ b,E.ok b → E'.ok b) ∨ d.sclr = true) → aK E' w v (d.mp f) := by
  induction h with
  | c v d h =>
    intro _ _ hs
    rcases hs with hs | hs
    · exact .c v d (h.mono hs fun _ _ => rfl)
    · exact .c v d (nI h hs)
  | agg vs ds hl h ih =>
    intro hr hr2 hs
    rw [V.mp]
    refine .agg vs _ (by rw [lQ,hl]) fun i v d hv hd => ?_
    rw [rI] at hd
    cases hx : ds[i]? with
    | none => rw [hx] at hd; cases hd
    | some x => rw [hx] at hd; cases hd; exact ih i v x hv hx (fun o ho => hr o (cL hx ho)) (fun o ho => hr2 o (mo hx ho)) (hs.imp id fun hs => nO hs hx)
  | tup vs ds hl h ih =>
    intro hr hr2 hs
    rw [V.mp]
    refine .tup vs _ (by rw [lQ,hl]) fun i v d hv hd => ?_
    rw [rI] at hd
    cases hx : ds[i]? with
    | none => rw [hx] at hd; cases hd
    | some x => rw [hx] at hd; cases hd; exact ih i v x hv hx (fun o ho => hr o (cL hx ho)) (fun o ho => hr2 o (mo hx ho)) (hs.imp id fun hs => nO hs hx)
  | ptr o k i j b h1 h2 h3 =>
    intro hr _ _
    obtain ⟨g1,g2,g3⟩ := hr o (by simp [V.refs]) h1
    rw [V.mp]
    exact .ptr _ k i j b g1 (g2.trans h2) (by rw [g3]; exact h3)
  | row o k off n a c hn hc hm hl ha h0 =>
    intro hr hr2 _
    obtain ⟨g1,g2,g3⟩ := hr o (by simp [V.refs]) hn
    have g4 := hr2 o (by simp [V.rrefs]) hn
    rw [V.mp]
    refine .row _ k off n a c g1 hc hm (by rw [g3]; exact hl) (by rw [g2]; exact ha) fun h => ?_
    rcases h0 h with h | ⟨b,h1,h2,h3⟩
    · exact .inl (by rw [g2]; exact h)
    · refine .inr ⟨b,by rw [g2]; exact h1,h2, ?_⟩
      rcases g4 with g4 | g4
      · rw [g4] at h1; cases h1
      · rw [g4]; exact h3
  | dptr k cs j ad u h1 h2 h3 h4 =>
    intro _ _ hs
    rcases hs with hs | hs
    · exact .dptr k cs j ad u (hs _ h1) h2 h3 fun i d hd => (h4 i d hd).mono hs fun _ _ => rfl
    · simp [V.sclr] at hs
  | fn g vs ds hl h ih =>
    intro hr hr2 hs
    rw [V.mp]
    refine .fn g vs _ (by rw [lQ,hl]) fun i v d hv hd => ?_
    rw [rI] at hd
    cases hx : ds[i]? with
    | none => rw [hx] at hd; cases hd
    | some x => rw [hx] at hd; cases hd; exact ih i v x hv hx (fun o ho => hr o (cL hx ho)) (fun o ho => hr2 o (mo hx ho)) (hs.imp id fun hs => nO hs hx)
theorem iq.mp {f : Nat → Nat} {q : Nat} {ob : Ob} (h : iq E w q ob) (hq : Cl E E' f q) (hqc : o4 (some ob) = true → rX E E' f q) (hr : ∀ p ∈ pG ob,E.live p → Cl E E' f p) (hr2 : ∀ p ∈ pp ob,E.live p → rX E E' f p) (hs : (∀ b,E.ok b → E'.ok b) ∨ DY ob) : iq E' w (f q) (ob.mp f) := by
  obtain ⟨g1,g2,g3⟩ := hq
  cases ob with
  | box cs =>
    obtain ⟨e1,b,C,t,e2,e3,e4,e5⟩ := h
    refine ⟨g3.trans e1,b,C,t,g2.trans e2,e3, ?_,fun i v d hv hd => ?_⟩
    · rw [lQ]; exact e4
    · rw [rI] at hd
      cases hx : cs[i]? with
      | none => rw [hx] at hd; cases hd
      | some x =>
        rw [hx] at hd; cases hd
        exact (e5 i v x hv hx).mp (fun p hp => hr p (cL hx hp)) (fun p hp => hr2 p (mo hx hp)) (hs.imp id fun hs => nO hs hx)
  | raw x =>
    obtain ⟨h1,b,h2,h3⟩ := h
    exact ⟨g3.trans h1,b,g2.trans h2,h3⟩
  | row t k n el =>
    obtain ⟨h1,h2⟩ := h
    refine ⟨g3.trans h1, ?_⟩
    rcases h2 with ⟨h2,h3⟩ | ⟨b,C,a1,a2,a3,a4,a5,a6,a7,a8⟩
    · exact .inl ⟨g2.trans h2,h3⟩
    · have hcap : E'.cap (f q) = E.cap q := by
        rcases hqc rfl with g4 | g4
        · rw [g4] at a1; cases a1
        · exact g4
      refine .inr ⟨b,C,g2.trans a1,a2,by rw [hcap]; exact a3,by rw [hcap]; exact a4,by rw [hcap]; exact a5,a6,a7,fun i j d u hi hd hu => ?_⟩
      have := a8 i j d u hi hd hu
      rcases hs with hs | hs
      · exact this.mono hs fun _ _ => rfl
      · exact nI this (hs i hi d (List.mem_of_getElem? hd))
theorem F0 {kl : List Nat} {q : Nat} {ob ob' : Ob} (h : iq E w q ob) (hk : ej kl (some ob) = some ob') (hc : E'.conc q = E.conc q ∧ E'.cap q = E.cap q ∧ E'.len q = E.len q) (hb : ∀ b,E.conc q = some b → w'.heap[b]? = w.heap[b]?)
    (hr : ∀ v d,aK E w v d → aK E' w' v (d.killAll kl)) (hd : ∀ v d,ci E.ok w v d → ci E'.ok w' v d) : iq E' w' q ob' := by
  obtain ⟨c1,c2,c3⟩ := hc
  cases ob with
  | box cs =>
    rw [qR] at hk
    cases hk
    obtain ⟨hl,b,C,t,h1,h2,h3,h4⟩ := h
    refine ⟨c3.trans hl,b,C,t,c1.trans h1,(hb b h1).trans h2,by rw [List.length_map]; exact h3,fun i v d hv hx => ?_⟩
    rw [List.getElem?_map] at hx
    cases hy : cs[i]? with
    | none => rw [hy] at hx; cases hx
    | some y => rw [hy] at hx; cases hx; exact hr _ _ (h4 i v y hv hy)
  | raw x =>
    rw [rb] at hk
    cases hk
    obtain ⟨hl,b,h1,h2⟩ := h
    exact ⟨c3.trans hl,b,c1.trans h1,(hb b h1).trans h2⟩
  | row t k n el =>
    rw [q8] at hk
    cases hk
    obtain ⟨hl,h⟩ := h
    refine ⟨c3.trans hl, ?_⟩
    rcases h with ⟨h1,h2⟩ | ⟨b,C,h1,h2,h3,h4,h5,h6,h7,h8⟩
    · exact .inl ⟨c1.trans h1,h2⟩
    · exact .inr ⟨b,C,c1.trans h1,(hb b h1).trans h2,by rw [c2]; exact h3,by rw [c2]; exact h4,by rw [c2]; exact h5,h6,h7,fun i j d u a b c => hd _ _ (h8 i j d u a b c)⟩
theorem oc : ∀ {os : List Nat} {H : ay} {o : Nat} {b : Ob},ay.get (dL os H) o = some b → ay.get H o = some b ∧ o ∈ os
  | [],H,o,b,h => by simp [dL,ay.get] at h
  | p :: r,H,o,b,h => by
    unfold dL at h
    split at h
    · next b' hb' =>
      rw [ay.get_cons] at h
      split at h
      · next e => subst e; cases h; exact ⟨hb',by simp⟩
      · have := oc h; exact ⟨this.1,List.mem_cons_of_mem _ this.2⟩
    · have := oc h; exact ⟨this.1,List.mem_cons_of_mem _ this.2⟩
theorem uq : ∀ {os : List Nat} {H : ay} {o : Nat},o ∈ os → ay.get (dL os H) o = ay.get H o
  | [],H,o,h => by simp at h
  | p :: r,H,o,h => by
    unfold dL
    by_cases e : p = o
    · subst e
      cases hb : ay.get H p with
      | some b => simp only; rw [ay.get_cons,if_pos rfl]
      | none =>
        simp only
        cases hg : ay.get (dL r H) p with
        | none => rfl
        | some b => rw [(oc hg).1] at hb; cases hb
    · have ho : o ∈ r := by
        rcases List.mem_cons.1 h with h | h
        · exact (e h.symm).elim
        · exact h
      split
      · rw [ay.get_cons,if_neg e]; exact uq ho
      · exact uq ho
theorem Bs (hH : bv E w H) (os : List Nat) : bv E w (dL os H) :=
  ⟨fun o ob h => hH.at_ o ob (oc h).1,hH.inj,hH.sep,hH.lt,hH.oklt⟩
theorem s7 {o : Nat} {l : List Nat} : gq o l = true ↔ o ∈ l := ⟨i5,fun h => List.any_eq_true.2 ⟨o,h,by simp⟩⟩
theorem DN {os : List Nat} {ok' : Nat → Prop} (hH : bv E w H) (h1 : ∀ b,E.ok b → ok' b) (h2 : ∀ o b,o ∉ os → E.live o → E.conc o = some b → ok' b) {v : Value} {d : V} (h : aK E w v d)
    (hr : DS H [d] = true) (ho : d.refs.all (fun o => !(gq o os)) = true) : aK (jo ok') w v (d.view H) := by
  have hin : ∀ o ∈ d.refs,o ∉ os := by
    intro o hd hc
    have := List.all_eq_true.1 ho o hd
    rw [s7.2 hc] at this; cases this
  have hrefs : V.refss [d] = d.refs := by simp [V.refss]
  have hrow : ∀ o ∈ d.refs,xR (H.get o) = true := by
    intro o hd
    unfold DS at hr
    rw [hrefs] at hr
    exact List.all_eq_true.1 hr o hd
  have hag : hY H (dL d.refs H) d.refs := by
    refine ⟨fun o ho => (uq ho).symm,fun o ho cs hb q hq => ?_⟩
    have := hrow o ho
    rw [hb] at this
    simp only [xR,List.isEmpty_iff] at this
    rw [this] at hq; cases hq
  rw [view_agree d hag]
  have hv := h.only (os := d.refs) fun o h => h
  have hH1 : bv { E with live := fun o => E.live o ∧ o ∈ d.refs } w (dL d.refs H) := by
    refine ⟨fun o ob hg => ?_,fun o o' b a b' => hH.inj o o' b a.1 b'.1,fun o b a => hH.sep o b a.1,fun o b a => hH.lt o b a.1,hH.oklt⟩
    obtain ⟨g1,g2⟩ := oc hg
    obtain ⟨l1,l2⟩ := hH.at_ o ob g1
    refine ⟨⟨l1,g2⟩, ?_⟩
    have := hrow o g2
    rw [g1] at this
    cases ob with
    | box cs =>
      simp only [xR,List.isEmpty_iff] at this
      obtain ⟨k1,b,C,t,k2,k3,k4⟩ := l2
      exact ⟨k1,b,C,t,k2,k3,k4.1,fun i v' d' hv' hd' => (k4.2 i v' d' hv' hd').only (os := d.refs) fun o ho => by
        have := cL hd' ho
        rw [‹V.refss cs = []›] at this; cases this⟩
    | raw x => cases this
    | row t k n el => exact l2
  exact pN hH1 (ok' := ok') h1 hv (.inl fun q b hq hb => h2 q b (hin q hq.2) hq.1 hb)
def bj.hand (E : bj) (os : List Nat) (nr : Bool) : bj := { E.ren os with ok := fun b => E.ok b ∨ (nr = false ∧ ∃ o,o ∉ os ∧ E.live o ∧ E.conc o = some b) }
theorem aK.hand {os : List Nat} {nr : Bool} {v : Value} {d : V} (h : aK (E.ren os) w v d) : aK (E.hand os nr) w v d :=
  h.mono (E := E.ren os) (E' := E.hand os nr) (kl := []) (fun _ (h : E.ok _) => Or.inl h) (fun _ _ => rfl) (fun _ h => h) (fun _ _ _ => ⟨rfl,rfl,rfl⟩) (z7 d)
theorem Bn {os : List Nat} {nr : Bool} (hH : bv E w H) {x : Value} {v : V} (h : aK E w x v) (hk : xQ os H nr v = true) : aK (E.hand os nr) w x (v.view H) := by
  unfold xQ at hk
  cases nr with
  | true =>
    simp only [cond_true,List.isEmpty_iff] at hk
    exact qK (E' := E.hand os true) (fun b (h : E.ok b) => Or.inl h) (pN hH (ok' := E.ok) (fun b h => h) h (.inr hk))
  | false =>
    simp only [cond_false,Bool.and_eq_true] at hk
    have := DN (os := os) (ok' := (E.hand os false).ok) hH (fun b h => .inl h) (fun o b h1 h2 h3 => .inr ⟨rfl,o,h1,h2,h3⟩) h hk.1 hk.2
    exact qK (E' := E.hand os false) (fun b h => h) this
theorem xc {os : List Nat} {nr : Bool} (hH : bv E w H) : ∀ (fl : List Bool) (xs : List Value) (args : List V),ca E w xs args → md os H nr fl args = true → ca (E.hand os nr) w xs (kR os H fl args)
  | fl,xs,[],hx,_ => by
    have : kR os H fl [] = [] := by cases fl <;> rfl
    rw [this]
    exact ⟨hx.1,fun i v d _ hd => by simp at hd⟩
  | b :: fl,[],v :: r,hx,_ => by have := hx.1; simp at this
  | b :: fl,x :: xs,v :: r,hx,hk => by
    simp only [md,Bool.and_eq_true] at hk
    have ih := xc hH fl xs r ⟨by simpa using hx.1,fun i v d hv hd => hx.2 (i + 1) v d (by simpa using hv) (by simpa using hd)⟩ hk.2
    refine ⟨by simpa [kR] using ih.1,fun i v' d hv hd => ?_⟩
    match i with
    | 0 =>
      simp [kR] at hv hd
      subst hv hd
      have h0 := hx.2 0 x v rfl rfl
      cases b with
      | true =>
        simp only [cond_true] at hk ⊢
        exact (h0.ren fun o ho => i5 (List.all_eq_true.1 hk.1 o ho)).hand
      | false =>
        simp only [cond_false] at hk ⊢
        exact Bn hH h0 hk.1
    | i + 1 => exact ih.2 i v' d (by simpa using hv) (by simpa [kR] using hd)
  | [],[],v :: r,hx,_ => by have := hx.1; simp at this
  | [],x :: xs,v :: r,hx,hk => by
    simp only [md,Bool.and_eq_true] at hk
    have ih := xc hH [] xs r ⟨by simpa using hx.1,fun i v d hv hd => hx.2 (i + 1) v d (by simpa using hv) (by simpa using hd)⟩ hk.2
    refine ⟨by simpa [kR] using ih.1,fun i v' d hv hd => ?_⟩
    match i with
    | 0 =>
      simp [kR] at hv hd
      subst hv hd
      exact Bn hH (hx.2 0 x v rfl rfl) hk.1
    | i + 1 => exact ih.2 i v' d (by simpa using hv) (by simpa [kR] using hd)
end
end Go.Ax
namespace Go.Ax
open Go.RowKit
section
variable {P : Program} {N : Nat} {B : gz} {σ σ' : St} {E E' Ec : bj} {a : Act} {w w' : World} {H : ay} {os : List Nat} {nr : Bool}
theorem wP : ∀ (A B : List (Nat × bu)) (t : Nat),bq (A ++ B) t = match bq A t with | some s => some s | none => bq B t
  | [],B,t => rfl
  | (q,x) :: A,B,t => by
    rw [List.cons_append,cI,cI]
    split
    · rfl
    · exact wP A B t
theorem wj : ∀ (H : ay) (t : Nat) (s : bu),bq (kG H) t = some s → ∃ q,t = 1000000 + q ∧ ((∃ ob,ay.get H q = some ob ∧ s = ⟨[],cH q ob⟩) ∨ s = ⟨[], .c .unk⟩)
  | [],t,s,h => by simp [kG,bq] at h
  | (p,b) :: H,t,s,h => by
    unfold kG at h
    rw [List.map_cons,cI] at h
    split at h
    · next e =>
      cases h
      refine ⟨p,e.symm, ?_⟩
      cases b with
      | none => exact .inr rfl
      | some b => exact .inl ⟨b,by rw [ay.get_cons,if_pos rfl],rfl⟩
    · next e =>
      obtain ⟨q,h1,h2⟩ := wj H t s h
      refine ⟨q,h1,h2.imp (fun ⟨ob,g1,g2⟩ => ⟨ob, ?_,g2⟩) id⟩
      rw [ay.get_cons,if_neg (fun e' => e (by rw [e',h1]))]
      exact g1
theorem Em (q : Nat) (ob : Ob) : cH q (ob.ren os) = cH q ob := by
  cases ob with
  | box cs => simp [cH,Ob.ren,fZ]
  | row t k n el => rfl
  | raw x => rfl
theorem F4 {i o : Nat} {ob : Ob} (hi : os[i]? = some o) (hl : E.live o) (h : iq E w o ob) : ∃ u,aK (E.hand os nr) w u (cH i ob) := by
  have hlive : (E.hand os nr).live i := ⟨o,hi,hl⟩
  have hconc : (E.hand os nr).conc i = E.conc o := by simp [bj.hand,bj.ren,hi]
  have hcap : (E.hand os nr).cap i = E.cap o := by simp [bj.hand,bj.ren,hi]
  have hlen : (E.hand os nr).len i = E.len o := by simp [bj.hand,bj.ren,hi]
  cases ob with
  | box cs =>
    obtain ⟨h1,b,C,t,h2,h3,h4⟩ := h
    exact ⟨_, .ptr i cs.length 0 0 b hlive (hconc.trans h2) (by rw [hlen,h1]; exact Nat.zero_lt_one)⟩
  | raw x =>
    obtain ⟨h1,b,h2,h3⟩ := h
    exact ⟨_, .ptr i 1 0 0 b hlive (hconc.trans h2) (by rw [hlen,h1]; exact Nat.zero_lt_one)⟩
  | row t k n el =>
    obtain ⟨h1,h2⟩ := h
    rcases h2 with ⟨h2,h3⟩ | ⟨b,C,g1,g2,g3,g4,g5,_⟩
    · subst h3
      exact ⟨.slice none 0 0, .row i k 0 0 none 0 hlive (Nat.le_refl _) (by simp [maxLen]) (by rw [hlen,h1]; omega) (fun h => by omega) fun _ => .inl ⟨rfl,rfl,hconc.trans h2⟩⟩
    · exact ⟨.slice (some ⟨b,0,none⟩) n (E.cap o), .row i k 0 n _ _ hlive g4 g5 (by rw [hlen,h1]; omega) (fun _ => ⟨b,hconc.trans g1,by simp⟩) fun _ => .inr ⟨b,hconc.trans g1,rfl,hcap.symm⟩⟩
theorem Hl (hH : bv E w H) (hn : fC os = true) (hb : yc os H = true) {xs : List Value} {vs : List V} (hx : ca (E.hand os nr) w xs vs) (hN : vs.length ≤ N) (hsm : N ≤ 1000000) :
    ∃ gh : Nat → Value,(∀ i o ob,os[i]? = some o → ay.get H o = some ob → aK (E.hand os nr) w (gh (1000000 + i)) (cH i ob)) ∧
      cY N ⟨w,(E.hand os nr).ok,fun b => ∃ o ∈ os,E.conc o = some b,gh⟩ { tm := fL vs 0 ++ kG (gX H os 0 os),hp := gX H os 0 os,nx := os.length } (E.hand os nr) { tmps := xs.toArray ++ Array.replicate (N - xs.toArray.size) undef,defers := [] } w := by
  have hob : ∀ o ∈ os, ∃ b,ay.get H o = some b ∧ Cv os b = true := by
    intro o ho
    have := List.all_eq_true.1 hb o ho
    cases hg : ay.get H o with
    | none => rw [hg] at this; cases this
    | some b => rw [hg] at this; exact ⟨b,rfl,this⟩
  have hex : ∀ t, ∃ u, ∀ i o ob,t = 1000000 + i → os[i]? = some o → ay.get H o = some ob → aK (E.hand os nr) w u (cH i ob) := by
    intro t
    cases ho : os[t - 1000000]? with
    | none => exact ⟨undef,fun i o ob e h _ => by subst e; rw [Nat.add_sub_cancel_left] at ho; rw [ho] at h; cases h⟩
    | some o =>
      obtain ⟨b,hg,_⟩ := hob o (List.mem_of_getElem? ho)
      obtain ⟨l1,l2⟩ := hH.at_ o b hg
      obtain ⟨u,hu⟩ := F4 (nr := nr) ho l1 l2
      refine ⟨u,fun i o' ob e h1 h2 => ?_⟩
      subst e
      rw [Nat.add_sub_cancel_left] at ho hu
      rw [ho] at h1; cases h1
      rw [hg] at h2; cases h2
      exact hu
  have hgh : ∀ i o ob,os[i]? = some o → ay.get H o = some ob → aK (E.hand os nr) w (Classical.choose (hex (1000000 + i))) (cH i ob) := fun i o ob h1 h2 => Classical.choose_spec (hex (1000000 + i)) i o ob rfl h1 h2
  refine ⟨fun t => Classical.choose (hex t),hgh, ?_⟩
  have hl := hx.1
  have hE : ∀ q o,os[q]? = some o → (E.hand os nr).conc q = E.conc o := fun q o hq => by simp [bj.hand,bj.ren,hq]
  refine ⟨?_,hsm,rfl,fun q hq h => ?_,⟨fun q ob ho => ?_,fun q q' b hq hq' hb hb' => ?_,fun q b hq hb => ?_,fun q b hq hb => ?_,fun b h => ?_⟩,fun t s hg => ?_, .refl _ _ _,fun q b hq hb => ?_,fun b h => .inl h⟩
  · simp; omega
  · obtain ⟨o,ho,_⟩ := h
    have := (List.getElem?_eq_some_iff.1 ho).1
    have hq' : os.length ≤ q := hq
    omega
  · obtain ⟨o,b',g1,g2,g3,rfl⟩ := pI H os os 0 q ob ho
    have g1' : os[q]? = some o := by simpa using g1
    obtain ⟨l1,l2⟩ := hH.at_ o b' g3
    obtain ⟨b2,k1,k2⟩ := hob o (List.mem_of_getElem? g1')
    rw [g3] at k1; cases k1
    refine ⟨⟨o,g1',l1⟩, ?_⟩
    have := l2.ren (os := os) g1' k2
    exact og (E' := E.hand os nr) this ⟨rfl,rfl,rfl⟩ (fun _ _ => rfl) (fun v d h => h.hand) (fun v d h => h.mono (fun b (h : E.ok b) => Or.inl h) fun _ _ => rfl)
  · obtain ⟨o,ho,l⟩ := hq
    obtain ⟨o',ho',l'⟩ := hq'
    rw [hE q o ho] at hb
    rw [hE q' o' ho'] at hb'
    have := hH.inj o o' b l l' hb hb'
    subst this
    exact sF hn q q' o ho ho'
  · obtain ⟨o,ho,l⟩ := hq
    rw [hE q o ho] at hb
    rintro (h | ⟨_,o',h1,h2,h3⟩)
    · exact hH.sep o b l hb h
    · have := hH.inj o o' b l h2 hb h3
      subst this
      exact h1 (List.mem_of_getElem? ho)
  · obtain ⟨o,ho,l⟩ := hq
    rw [hE q o ho] at hb
    exact hH.lt o b l hb
  · rcases h with h | ⟨_,o,_,h2,h3⟩
    · exact hH.oklt b h
    · exact hH.lt o b h2 h3
  · rw [wP] at hg
    cases hi : bq (fL vs 0) t with
    | some s' =>
      rw [hi] at hg
      cases hg
      obtain ⟨v,_,h2,rfl⟩ := sW vs 0 t s hi
      rw [Nat.sub_zero] at h2
      have hlt : t < xs.length := by rw [hl]; exact (List.getElem?_eq_some_iff.1 h2).1
      have hget : (xs.toArray ++ Array.replicate (N - xs.toArray.size) undef).getD t undef = xs[t] := by
        rw [Array.getD_eq_getD_getElem?,Array.getElem?_append_left (by simpa using hlt)]
        simp [hlt]
      refine ⟨fun _ => ?_,fun _ h => by simp [holds] at h⟩
      rw [qm (by omega)]
      simp only
      rw [hget]
      exact hx.2 t _ v (List.getElem?_eq_getElem hlt) h2
    | none =>
      rw [hi] at hg
      obtain ⟨q,rfl,hs⟩ := wj _ t s hg
      rcases hs with ⟨ob,g1,rfl⟩ | rfl
      · obtain ⟨o,b',k1,k2,k3,rfl⟩ := pI H os os 0 q ob g1
        refine ⟨fun _ => ?_,fun _ h => by simp [holds] at h⟩
        have : ia (⟨w,(E.hand os nr).ok,fun b => ∃ o ∈ os,E.conc o = some b,fun t => Classical.choose (hex t)⟩ : gz) { tmps := xs.toArray ++ Array.replicate (N - xs.toArray.size) undef,defers := [] } (1000000 + q) = Classical.choose (hex (1000000 + q)) := if_neg (by omega)
        rw [this,Em]
        exact hgh q o b' (by simpa using k1) k3
      · exact ⟨fun _ => .c _ _ (.unk _),fun _ h => by simp [holds] at h⟩
  · obtain ⟨o,ho,l⟩ := hq
    rw [hE q o ho] at hb
    exact .inr ⟨o,List.mem_of_getElem? ho,hb⟩
theorem zX : ∀ {m : List (Nat × Nat)} {q : Nat},q ∈ m.map (·.1) → (q,j9 m q) ∈ m
  | [],q,h => by simp at h
  | (p,o) :: m,q,h => by
    unfold j9
    cases hb : Nat.beq p q with
    | true => rw [Nat.eq_of_beq_eq_true hb]; simp
    | false =>
      have hne : p ≠ q := fun e => by subst e; simp at hb
      rw [cond_false]
      rw [List.map_cons,List.mem_cons] at h
      rcases h with h | h
      · exact (hne h.symm).elim
      · exact List.mem_cons_of_mem _ (zX h)
theorem pS : ∀ {m : List (Nat × Nat)} {q o : Nat},k9 m o = some q → (q,o) ∈ m
  | [],q,o,h => by simp [k9] at h
  | (p,o') :: m,q,o,h => by
    unfold k9 at h
    cases hb : Nat.beq o' o with
    | true => rw [hb,cond_true] at h; cases h; rw [Nat.eq_of_beq_eq_true hb]; simp
    | false => rw [hb,cond_false] at h; exact List.mem_cons_of_mem _ (pS h)
theorem qz : ∀ {m : List (Nat × Nat)} {q o : Nat},k9 m o = none → (q,o) ∉ m
  | [],q,o,_ => by simp
  | (p,o') :: m,q,o,h => by
    unfold k9 at h
    cases hb : Nat.beq o' o with
    | true => rw [hb,cond_true] at h; cases h
    | false =>
      rw [hb,cond_false] at h
      intro hm
      rcases List.mem_cons.1 hm with hm | hm
      · cases hm; simp at hb
      · exact qz h hm
noncomputable def bj.back (E Ec : bj) (w : World) (os : List Nat) (nid : Nat) (kl : List Nat) (m : List (Nat × Nat)) : bj where
  conc o := match k9 m o with | some q => Ec.conc q | none => bif gq o os then none else E.conc o
  cap o := match k9 m o with | some q => (bif gq o os && !(gq o kl) then E.cap o else Ec.cap q) | none => E.cap o
  len o := match k9 m o with | some q => Ec.len q | none => E.len o
  live o := E.live o ∨ (o = nid ∧ ∃ q,(q,nid) ∈ m)
  ok b := E.ok b ∨ ((w.heap.size ≤ b ∨ ∃ o ∈ os,E.conc o = some b) ∧ Ec.ok b)
theorem sD {o : Nat} {l : List Nat} (h : o ∉ l) : gq o l = false := by
  cases hb : gq o l with
  | false => rfl
  | true => exact (h (i5 hb)).elim
theorem F6 {H0 : ay} (hH0 : bv E w H0) {gh : Nat → Value} {r : cE} {nid : Nat} {m : List (Nat × Nat)} {v : V} {u : Value} (hH : bv E w H) (hf : ¬ E.live nid) (hn : fC os = true) (hos : ∀ o ∈ os, ∃ b,ay.get H o = some b)
    (hgh : ∀ i o ob,os[i]? = some o → ay.get H o = some ob → aK (E.hand os nr) w (gh (1000000 + i)) (cH i ob))
    (hs : cY N ⟨w,(E.hand os nr).ok,fun b => ∃ o ∈ os,E.conc o = some b,gh⟩ σ Ec a w') (hu : aK Ec w' u v) (hl : Left os nid H nr r m σ v) :
    fh E w H0 nid r (E.back Ec w os nid r.kill m) w' u := by
  have hlive : ∀ o ∈ os,E.live o := fun o ho => by
    obtain ⟨b,hb⟩ := hos o ho
    exact (hH.at_ o b hb).1
  have hnid : nid ∉ os := fun h => hf (hlive nid h)
  have inv : ∀ q o,(q,o) ∈ m → k9 m o = some q := by
    intro q o h
    cases hi : k9 m o with
    | none => exact (qz hi h).elim
    | some q' => rw [hl.inj q q' o h (pS hi)]
  have look : ∀ q o,(q,o) ∈ m → j9 m q = o := fun q o h => hl.fn q _ o (zX (List.mem_map.2 ⟨_,h,rfl⟩)) h
  have clive : ∀ q o,(q,o) ∈ m → Ec.live q := fun q o h => by
    obtain ⟨ob,hob⟩ := hl.has q o h
    exact (hs.heap.at_ q ob hob).1
  have out : ∀ o,E.live o → o ∉ os → k9 m o = none := by
    intro o h1 h2
    cases hi : k9 m o with
    | none => rfl
    | some q =>
      rcases hl.to q o (pS hi) with h | h
      · exact (h2 h).elim
      · exact (hf (h ▸ h1)).elim
  have kept : ∀ o ∈ os,o ∉ r.kill → ∃ q,(q,o) ∈ m ∧ Ec.conc q = E.conc o ∧ (o4 (ay.get σ.hp q) = true → E.conc o = none ∨ Ec.cap q = E.cap o) ∧ Ec.len q = E.len o := by
    intro o ho hk
    obtain ⟨i,hi⟩ := List.getElem?_of_mem ho
    rcases hl.keep i o hi with h | ⟨q,ob,ob',h1,h2,h3,h4,h5⟩
    · exact (hk h).elim
    refine ⟨q,h1, ?_⟩
    have g0 := hgh i o ob hi h2
    have g1 := (hs.slots _ _ h5).1 rfl
    have hv : ia (⟨w,(E.hand os nr).ok,fun b => ∃ o ∈ os,E.conc o = some b,gh⟩ : gz) a (1000000 + i) = gh (1000000 + i) := if_neg (by omega)
    rw [hv] at g1
    have hconc : (E.hand os nr).conc i = E.conc o := by simp [bj.hand,bj.ren,hi]
    have hcap : (E.hand os nr).cap i = E.cap o := by simp [bj.hand,bj.ren,hi]
    have l0 := (hH.at_ o ob h2).2
    have l1 := (hs.heap.at_ q ob' h3).2
    cases ob with
    | box cs =>
      cases ob' with
      | row t k n el => exact h4.elim
      | raw x => exact h4.elim
      | box cs' =>
        simp only [cH] at g0 g1
        obtain ⟨b,a2,e0⟩ := g0.ptr_inv
        obtain ⟨b',b2,e1⟩ := g1.ptr_inv
        rw [e0] at e1
        have eb : b = b' := by
          have := congrArg (fun v : Value => match v with | .pointer (some a) => a.block | _ => 0) e1
          exact this
        subst eb
        refine ⟨?_, ?_, ?_⟩
        · rw [b2, ← hconc,a2]
        · rw [h3]; intro h; cases h
        · rw [l0.1,l1.1]
    | raw x =>
      cases ob' with
      | row t k n el => exact h4.elim
      | box cs' => exact h4.elim
      | raw y =>
        simp only [cH] at g0 g1
        obtain ⟨b,a2,e0⟩ := g0.ptr_inv
        obtain ⟨b',b2,e1⟩ := g1.ptr_inv
        rw [e0] at e1
        have eb : b = b' := by
          have := congrArg (fun v : Value => match v with | .pointer (some a) => a.block | _ => 0) e1
          exact this
        subst eb
        refine ⟨?_, ?_, ?_⟩
        · rw [b2, ← hconc,a2]
        · rw [h3]; intro h; cases h
        · rw [l0.1,l1.1]
    | row t k n el =>
      cases ob' with
      | raw x => exact h4.elim
      | box cs' => exact h4.elim
      | row t' k' n' el' =>
        have hnn : n = n' := h4
        subst hnn
        simp only [cH] at g0 g1
        obtain ⟨x,c,e0,h0⟩ := g0.row_inv
        obtain ⟨x',c',e1,h0'⟩ := g1.row_inv
        rw [e0] at e1
        cases e1
        refine ⟨?_,fun _ => ?_,by rw [l0.1,l1.1]⟩
        · rcases h0 with ⟨p1,p2,p3⟩ | ⟨b,p1,p2,p3⟩ <;> rcases h0' with ⟨q1,q2,q3⟩ | ⟨b',q1,q2,q3⟩
          · rw [q3, ← hconc,p3]
          · rw [p1] at q2; cases q2
          · rw [q1] at p2; cases p2
          · rw [p2] at q2; cases q2
            rw [q1, ← hconc,p1]
        · rcases h0 with ⟨p1,p2,p3⟩ | ⟨b,p1,p2,p3⟩ <;> rcases h0' with ⟨q1,q2,q3⟩ | ⟨b',q1,q2,q3⟩
          · left; rw [← hconc,p3]
          · rw [p1] at q2; cases q2
          · rw [q1] at p2; cases p2
          · right; rw [← q3,p3,hcap]
  have same : ∀ q o,(q,o) ∈ m → Cl Ec (E.back Ec w os nid r.kill m) (j9 m) q := by
    intro q o h
    unfold Cl
    rw [look q o h]
    refine ⟨?_,by simp [bj.back,inv q o h],by simp [bj.back,inv q o h]⟩
    rcases hl.to q o h with h1 | h1
    · exact .inl (hlive o h1)
    · subst h1; exact .inr ⟨rfl,q,h⟩
  have samecap : ∀ q o,(q,o) ∈ m → o4 (ay.get σ.hp q) = true → rX Ec (E.back Ec w os nid r.kill m) (j9 m) q := by
    intro q o h hr
    unfold rX
    rw [look q o h]
    simp only [bj.back,inv q o h]
    cases hb : gq o os && !(gq o r.kill) with
    | false => right; rfl
    | true =>
      rw [Bool.and_eq_true] at hb
      have h1 := i5 hb.1
      have h2 : o ∉ r.kill := fun hk => by rw [s7.2 hk] at hb; simp at hb
      obtain ⟨q',a1,a2,a3,a4⟩ := kept o h1 h2
      have := hl.inj q q' o h a1
      subst this
      rcases a3 hr with a3 | a3
      · left; rw [a2,a3]
      · right; rw [cond_true,a3]
  have mem1 : ∀ q,q ∈ m.map (·.1) → ∃ o,(q,o) ∈ m := by
    intro q h
    obtain ⟨⟨q',o⟩,h1,h2⟩ := List.mem_map.1 h
    subst h2
    exact ⟨o,h1⟩
  have hok2 : nr = true → ∀ b,Ec.ok b → (E.back Ec w os nid r.kill m).ok b := by
    intro h b hb
    subst h
    rcases hs.okold b hb with (h1 | ⟨h1,_⟩) | h1
    · exact .inl h1
    · cases h1
    · exact .inr ⟨h1,hb⟩
  have rrow : ∀ l : List Nat,l.all (fun q => o4 (ay.get σ.hp q)) = true → ∀ q ∈ l,o4 (ay.get σ.hp q) = true := fun l h => List.all_eq_true.1 h
  have rsub : ∀ v : V, ∀ q ∈ v.rrefs,q ∈ v.refs := rrefs_refs
  have hst : eO E w r.kill (E.back Ec w os nid r.kill m) w' := by
    refine ⟨hs.base.os,hs.base.tape,hs.base.output,hs.base.size,fun o h => .inl h,fun b hb hno => ?_,fun b h => .inl h,fun b h => h.imp id fun h => h.1.imp id fun ⟨o,h1,h2⟩ => ⟨o,hlive o h1,h2⟩,fun o hlo hk => ?_,fun o b hlo hc => ?_⟩
    · exact hs.base.block b hb fun ⟨o,ho,h⟩ => hno o (hlive o ho) h
    · by_cases ho : o ∈ os
      · obtain ⟨q,h1,h2,h3,h4⟩ := kept o ho hk
        simp only [bj.back,inv q o h1,s7.2 ho,sD hk,Bool.not_false,Bool.and_true,cond_true]
        exact ⟨h2,trivial,h4⟩
      · simp only [bj.back,out o hlo ho,sD ho,cond_false]
        exact ⟨trivial,trivial,trivial⟩
    · cases hi : k9 m o with
      | some q =>
        have hm := pS hi
        simp only [bj.back,hi] at hc
        rcases hs.own q b (clive q o hm) hc with h | ⟨o',h1,h2⟩
        · exact .inr h
        · exact .inl ⟨o',hlive o' h1,h2⟩
      | none =>
        simp only [bj.back,hi] at hc
        cases hb : gq o os with
        | true => rw [hb] at hc; cases hc
        | false =>
          rw [hb,cond_false] at hc
          rcases hlo with h | ⟨h0,q,h⟩
          · exact .inl ⟨o,h,hc⟩
          · subst h0; exact (qz hi h).elim
  have hrep : ∀ v d,aK E w v d → aK (E.back Ec w os nid r.kill m) w' v (d.killAll r.kill) := fun v d h => h.step hst hH.sep hH.oklt
  have hrepD : ∀ v d,ci E.ok w v d → ci (E.back Ec w os nid r.kill m).ok w' v d := fun v d h => h.mono hst.ok fun b hb => hst.blk b (hH.oklt b hb) fun o ho hc => hH.sep o b ho hc hb
  have wher : ∀ o b,(E.back Ec w os nid r.kill m).live o → (E.back Ec w os nid r.kill m).conc o = some b → (∃ q,(q,o) ∈ m ∧ Ec.conc q = some b) ∨ (o ∉ os ∧ E.live o ∧ E.conc o = some b) := by
    intro o b hlo hc
    cases hi : k9 m o with
    | some q => simp only [bj.back,hi] at hc; exact .inl ⟨q,pS hi,hc⟩
    | none =>
      simp only [bj.back,hi] at hc
      cases hb : gq o os with
      | true => rw [hb] at hc; cases hc
      | false =>
        rw [hb,cond_false] at hc
        have hno : o ∉ os := fun h => by rw [s7.2 h] at hb; cases hb
        rcases hlo with h | ⟨h0,q,h⟩
        · exact .inr ⟨hno,h,hc⟩
        · subst h0; exact (qz hi h).elim
  have apart : ∀ q o o' b,(q,o) ∈ m → Ec.conc q = some b → o' ∉ os → E.live o' → E.conc o' = some b → False := by
    intro q o o' b h1 h2 h3 h4 h5
    rcases hs.own q b (clive q o h1) h2 with h | ⟨o2,g1,g2⟩
    · have := hH.lt o' b h4 h5
      have h : w.heap.size ≤ b := h
      omega
    · have := hH.inj o' o2 b h4 (hlive o2 g1) h5 g2
      subst this
      exact h3 g1
  refine ⟨hst,⟨fun o ob ho => ?_,fun o o' b h1 h2 h3 h4 => ?_,fun o b h1 h2 => ?_,fun o b h1 h2 => ?_,fun b hb => ?_⟩, ?_,fun q h => h.imp id (·.1)⟩
  · rw [sB] at ho
    split at ho
    · obtain ⟨q,ob0,h1,h2,h3,h4,h5,h6⟩ := hl.obs o ob ho
      have hsm := same q o h1
      refine ⟨by have := hsm.1; rwa [look q o h1] at this, ?_⟩
      have h7 := (hs.heap.at_ q ob0 h2).2.mp (E' := E.back Ec w os nid r.kill m) (f := j9 m) hsm (fun hr => samecap q o h1 (by rw [h2]; exact hr)) (fun p hp _ => by
        obtain ⟨o',ho'⟩ := mem1 p (h4 p hp); exact same p o' ho') (fun p hp _ => by
        have hp' : p ∈ pG ob0 := by
          cases ob0 with
          | box cs => exact rrefss_refs cs p hp
          | row => exact absurd hp (by simp [pp])
          | raw => exact absurd hp (by simp [pp])
        obtain ⟨o',ho'⟩ := mem1 p (h4 p hp')
        exact samecap p o' ho' (rrow _ h5 p hp)) (h6.imp hok2 id)
      rw [look q o h1] at h7
      exact h7.le h3
    · next hk =>
      have hno : o ∉ os := fun h => hk (hl.all o h)
      rw [vz] at ho
      cases hy : ay.get H0 o with
      | none => rw [hy,pD] at ho; cases ho
      | some y =>
        rw [hy] at ho
        obtain ⟨l1,l2⟩ := hH0.at_ o y hy
        refine ⟨.inl l1,F0 l2 ho ?_ (fun b hb => ?_) hrep hrepD⟩
        · simp only [bj.back,out o l1 hno,sD hno,cond_false]
          exact ⟨trivial,trivial,trivial⟩
        · refine hs.base.block b (hH.lt o b l1 hb) ?_
          rintro ⟨o',h1,h2⟩
          have := hH.inj o o' b l1 (hlive o' h1) hb h2
          subst this
          exact hno h1
  · rcases wher o b h1 h3 with ⟨q,a1,a2⟩ | ⟨a1,a2,a3⟩ <;> rcases wher o' b h2 h4 with ⟨q',b1,b2⟩ | ⟨b1,b2,b3⟩
    · have := hs.heap.inj q q' b (clive q o a1) (clive q' o' b1) a2 b2
      subst this
      exact hl.fn q o o' a1 b1
    · exact (apart q o o' b a1 a2 b1 b2 b3).elim
    · exact (apart q' o' o b b1 b2 a1 a2 a3).elim
    · exact hH.inj o o' b a2 b2 a3 b3
  · rcases wher o b h1 h2 with ⟨q,a1,a2⟩ | ⟨a1,a2,a3⟩
    · rintro (h | ⟨_,h⟩)
      · rcases hs.own q b (clive q o a1) a2 with g | ⟨o2,g1,g2⟩
        · have := hH.oklt b h
          have g : w.heap.size ≤ b := g
          omega
        · exact hH.sep o2 b (hlive o2 g1) g2 h
      · exact hs.heap.sep q b (clive q o a1) a2 h
    · rintro (h | ⟨h | ⟨o2,h3,h4⟩,_⟩)
      · exact hH.sep o b a2 a3 h
      · have := hH.lt o b a2 a3; omega
      · have := hH.inj o o2 b a2 (hlive o2 h3) a3 h4
        subst this
        exact a1 h3
  · rcases wher o b h1 h2 with ⟨q,a1,a2⟩ | ⟨a1,a2,a3⟩
    · exact hs.heap.lt q b (clive q o a1) a2
    · have := hH.lt o b a2 a3; have := hs.base.size
      have h : w.heap.size ≤ w'.heap.size := this
      omega
  · rcases hb with h | ⟨_,h⟩
    · have := hH.oklt b h; have := hs.base.size
      have h : w.heap.size ≤ w'.heap.size := this
      omega
    · exact hs.heap.oklt b h
  · refine (hu.mp (E' := E.back Ec w os nid r.kill m) (f := j9 m) (fun p hp _ => ?_) (fun p hp _ => ?_) (hl.vsc.imp hok2 id)).le hl.val
    · obtain ⟨o',ho'⟩ := mem1 p (hl.vrefs p hp); exact same p o' ho'
    · obtain ⟨o',ho'⟩ := mem1 p (hl.vrefs p (rsub v p hp))
      exact samecap p o' ho' (rrow _ hl.vrows p hp)
theorem EP {f : FuncId} {fn : Func} {c : Code} (hf : P.funcs[f]? = some fn) (hb : fn.body = some c) (hn : (fn.name == "runtime.NumGoroutine") = false) {mc : ay → Nat → List V → Option cE} {rs : List ResultVar} (hr : fn.results.toList = rs) {nt : Nat} (ht : fn.ntmps = nt)
    (h : ∀ H nid args r,mc H nid args = some r → (∀ p ∈ r.pre,p) → ∃ (nr : Bool) (os : List Nat) (fl : List Bool) (vs' : List V),fC os = true ∧ yc os H = true ∧ md os H nr fl args = true ∧ VLes (kR os H fl args) vs' ∧
      (Nat.ble vs'.length nt && Nat.ble nt 1000000) = true ∧ au P nt (be c) (hG P rs fun σ v => ∃ m,Left os nid H nr r m σ v) { tm := fL vs' 0 ++ kG (gX H os 0 os),hp := gX H os 0 os,nx := os.length }) : bR P f (.mut mc) := by
  subst hr ht
  intro E w H0 nid xs args r hH0 hfn hx hmc hp
  have hH := Bs hH0 (dg H0 args)
  generalize hHe : dL (dg H0 args) H0 = H at hmc hH
  obtain ⟨nr,os,fl,vs',h1,h2,h3,h4,h5,h6⟩ := h H nid args r hmc hp
  rw [Bool.and_eq_true] at h5
  have hos : ∀ o ∈ os, ∃ b,ay.get H o = some b := by
    intro o ho
    have := List.all_eq_true.1 h2 o ho
    cases hg : ay.get H o with
    | none => rw [hg] at this; cases this
    | some b => exact ⟨b,rfl⟩
  have hx' := (xc (os := os) (nr := nr) hH fl xs args hx h3).le h4
  obtain ⟨gh,hgh,hsim⟩ := Hl (N := fn.ntmps) hH h1 h2 hx' (Nat.ble_eq.mp h5.1) (Nat.ble_eq.mp h5.2)
  refine .inl ⟨uT hf hb hn _ _, ?_⟩
  refine calls_of_wp hf hb (wp_mono ((bg.ofItems c h6).ok _ _ _ _ hsim) ?_)
  rintro e a' w' ⟨σ',E',hk,hs'⟩
  have key : (match hU P σ' fn.results.toList with | some v => ∃ m,Left os nid H nr r m σ' v | none => False) → a'.defers = [] ∧ ∃ v,(results fn a'.tmps).run P w' = .ok v w' ∧ ∃ v',Ending.returned v = .returned v' ∧ ∃ E'',fh E w H0 nid r E'' w' v' := by
    intro hk
    split at hk
    · next v hv =>
      obtain ⟨m,hl⟩ := hk
      obtain ⟨u,g1,g2⟩ := wG hs' hv
      exact ⟨hs'.defers,u,g1,u,rfl,_,F6 hH0 hH hfn h1 hos hgh hs' g2 hl⟩
    · exact hk.elim
  cases e with
  | normal => exact key hk
  | ret => exact key hk
  | exit id => exact hk.elim
  | goto l => exact hk.elim
  | panic ch => exact hk.elim
  | outgrown => exact hk.elim
end
end Go.Ax
namespace Go.Ax
open Go.RowKit
def Qb (m m' : ay → Nat → List V → Option cE) : ay → Nat → List V → Option cE := fun H nid args => match m H nid args with | some r => some r | none => m' H nid args
theorem bR.or {P : Program} {f : FuncId} {m m' : ay → Nat → List V → Option cE} (h : bR P f (.mut m)) (h' : bR P f (.mut m')) : bR P f (.mut (Qb m m')) := by
  intro E w H nid xs args r h1 h2 h3 h4 h5
  unfold Qb at h4
  split at h4
  · next r' hr => cases h4; exact h E w H nid xs args _ h1 h2 h3 hr h5
  · exact h' E w H nid xs args r h1 h2 h3 h4 h5
section
variable {P : Program} {σ : St} {H : ay} {nid : Nat} {nr : Bool}
theorem dt.hp {tm : List (Nat × bu)} {H H' : ay} {nx : Nat} (h : cG H H') : dt { tm := tm,hp := H,nx := nx } { tm := tm,hp := H',nx := nx } := by
  refine ⟨fun N B E a w hs => ⟨E,hs.size,hs.small,hs.defers,hs.live,⟨fun o ob ho => ?_,hs.heap.inj,hs.heap.sep,hs.heap.lt,hs.heap.oklt⟩,hs.slots,hs.base,hs.own,hs.okold⟩⟩
  obtain ⟨b,g1,g2⟩ := wZ h o ob ho
  obtain ⟨l1,l2⟩ := hs.heap.at_ o b g1
  exact ⟨l1,l2.le g2⟩
mutual
theorem mp_norefs (f : Nat → Nat) : ∀ v : V,v.refs = [] → v.mp f = v
  | .c _,_ => rfl
  | .agg vs,h => by rw [V.mp,mps_norefs f vs (by rw [V.refs] at h; exact h)]
  | .tup vs,h => by rw [V.mp,mps_norefs f vs (by rw [V.refs] at h; exact h)]
  | .ptr ..,h => by simp [V.refs] at h
  | .row ..,h => by simp [V.refs] at h
  | .dptr ..,_ => rfl
  | .fn _ vs,h => by rw [V.mp,mps_norefs f vs (by rw [V.refs] at h; exact h)]
theorem mps_norefs (f : Nat → Nat) : ∀ vs : List V,V.refss vs = [] → V.mps f vs = vs
  | [],_ => rfl
  | v :: r,h => by
    rw [V.refss,List.append_eq_nil_iff] at h
    rw [V.mps,mp_norefs f v h.1,mps_norefs f r h.2]
end
mutual
theorem ren_norefs (os : List Nat) : ∀ v : V,v.refs = [] → v.ren os = v
  | .c _,_ => rfl
  | .agg vs,h => by rw [V.ren,rens_norefs os vs (by rw [V.refs] at h; exact h)]
  | .tup vs,h => by rw [V.ren,rens_norefs os vs (by rw [V.refs] at h; exact h)]
  | .ptr ..,h => by simp [V.refs] at h
  | .row ..,h => by simp [V.refs] at h
  | .dptr ..,_ => rfl
  | .fn _ vs,h => by rw [V.ren,rens_norefs os vs (by rw [V.refs] at h; exact h)]
theorem rens_norefs (os : List Nat) : ∀ vs : List V,V.refss vs = [] → V.rens os vs = vs
  | [],_ => rfl
  | v :: r,h => by
    rw [V.refss,List.append_eq_nil_iff] at h
    rw [V.rens,ren_norefs os v h.1,rens_norefs os r h.2]
end
theorem EW {v : V} (h : v.refs = []) : v.rrefs = [] := List.eq_nil_iff_forall_not_mem.2 fun q hq => by
  have := rrefs_refs v q hq
  rw [h] at this; simp at this
theorem hG.intro {rs : List ResultVar} {Q : St → V → Prop} {v : V} (hv : hU P σ rs = some v) (h : Q σ v) : hG P rs Q .ret σ := by
  show (match hU P σ rs with | some v => Q σ v | none => False)
  rw [hv]; exact h
end
end Go.Ax
namespace Go.Ax
open Go.RowKit
section
variable {P : Program} {w : World} {ok : Nat → Prop}
end
end Go.Ax
namespace Go.Ax
open Go.RowKit
abbrev KT := Exit → St → Prop
abbrev rE {α : Type} (R : α → St) (K : KT) : α → Prop := fun x => K .ret (R x)
abbrev QP {α : Type} (R : α → St) (K : KT) : α → Prop := fun x => K .normal (R x) ∧ K .ret (R x)
abbrev nE {S R : Type} (emb : S → St) (E : R → KT → Prop) (K : KT) : S ⊕ R → Prop := fun x => dK emb E x K
def V.ag (l : List D) : V := .agg (l.map .c)
def tj (k : Nat) (l : List D) : Nat → List D := fun i => List.take k (List.drop (i * k) l)
theorem VLe.r {v : V} : VLe v v := .rfl' v
theorem lf {K : KT} {e : Exit} {σ σ' : St} (hc : K e σ') (he : dt σ σ') : wK K e σ := ⟨σ',he,hc⟩
theorem l0 {K : KT} {e : Exit} {σ : St} (hc : K e σ) : wK K e σ := ⟨σ, .refl σ,hc⟩
section
variable {T : Type} {enc : T → List D} {z : T} {n k : Nat} {el : Nat → List D} {l : List T} {tm r : List (Nat × bu)} {H R : ay} {t o : Nat} {σ σ' : St}
theorem co.q {v : V} (h : bq tm t = some ⟨[],v⟩) (hr : co tm r) : co tm ((t,⟨[],v⟩) :: r) := .cons h (.rfl' v) hr
theorem co.qsO {tm : List (Nat × bu)} : ∀ {l r : List (Nat × bu)},(∀ x ∈ l,bq tm x.1 = some x.2) → (∀ x ∈ l,x.2.ch = []) → co tm r → co tm (l ++ r)
  | [],_,_,_,hr => hr
  | (t,⟨ch,v⟩) :: l,r,h,h',hr => by
    have e : ch = [] := h' _ (List.mem_cons_self ..)
    subst e
    exact co.q (h _ (List.mem_cons_self ..)) (co.qsO (fun x hx => h x (List.mem_cons_of_mem _ hx)) (fun x hx => h' x (List.mem_cons_of_mem _ hx)) hr)
def A8 (tm : List (Nat × bu)) : List (Nat × bu) → List (Option bu)
  | [] => []
  | x :: r => bq tm x.1 :: A8 tm r
def AX : List (Nat × bu) → List (Option bu)
  | [] => []
  | x :: r => some x.2 :: AX r
def DJ : List (Nat × bu) → Bool
  | [] => true
  | x :: r => x.2.ch.isEmpty && DJ r
theorem Bb {tm : List (Nat × bu)} : ∀ {l : List (Nat × bu)},A8 tm l = AX l → ∀ x ∈ l,bq tm x.1 = some x.2
  | y :: l,h,x,hx => by
    unfold A8 AX at h
    obtain ⟨h1,h2⟩ := List.cons.inj h
    rcases List.mem_cons.1 hx with rfl | hx
    · exact h1
    · exact Bb h2 x hx
theorem C8 : ∀ {l : List (Nat × bu)},DJ l = true → ∀ x ∈ l,x.2.ch = []
  | y :: l,h,x,hx => by
    unfold DJ at h
    rw [Bool.and_eq_true] at h
    rcases List.mem_cons.1 hx with rfl | hx
    · exact List.isEmpty_iff.1 h.1
    · exact C8 h.2 x hx
theorem co.qs (n : Nat) {tm l : List (Nat × bu)} (hr : co tm (l.drop n)) (h : A8 tm (l.take n) = AX (l.take n) := by kernel_rfl) (h' : DJ (l.take n) = true := by kernel_rfl) : co tm l := by
  rw [← List.take_append_drop n l]
  exact co.qsO (Bb h) (C8 h') hr
theorem dt.cn (ts : List Nat) (h : mK ts σ = true := by kernel_rfl) (e : Go.Ax.canonN ts σ = σ' := by kernel_rfl) : dt σ σ' := e ▸ dt.canonN ts h
theorem aj.b : aj enc z l.length (bP enc z l) l := .ls enc z l
theorem aj.l1 (k : Nat) (x : T) (h : tj k (enc x) 0 = enc x) : aj enc z 1 (tj k (enc x)) [x] := .lits (l := [x]) (show AM enc (tj k (enc x)) 0 [x] from ⟨.of_eq h,trivial⟩)
end
section
variable {P : Program} {C : FuncId → Option CC} {N : Nat} {c : Code} {K : KT} {σ : St}
end
structure AC (T : Type) where
  dec : V → Option (List Prop × T)
  can : T → V
  ok : ∀ v p x,dec v = some (p,x) → (∀ q ∈ p,q) → VLe v (can x)
def aI (k : IntKind) : AC Int where
  dec | .c (.lit (.int k' n)) => if k' = k then some ([],n) else none
      | _ => none
  can n := .c (.lit (.int k n))
  ok v p x h _ := by
    split at h
    · next k' n =>
      split at h
      · next e => cases h; subst e; exact .r
      · cases h
    · cases h
def aB : AC Bool where
  dec | .c (.lit (.bool b)) => some ([],b)
      | _ => none
  can b := bl b
  ok v p x h _ := by
    split at h
    · cases h; exact .r
    · cases h
def aS : AC ByteArray where
  dec | .c (.lit (.string b)) => some ([],b)
      | _ => none
  can b := aW b
  ok v p x h _ := by
    split at h
    · cases h; exact .r
    · cases h
def aL {T : Type} (enc : T → List D) (dec : List D → T) (z : T) (k : Nat) : AC (List T) where
  dec | .c (.sl k' n el) => some ([aT enc dec k k' n el],lst dec n el)
      | _ => none
  can l := .c (.sl k l.length (bP enc z l))
  ok v p x h hp := by
    split at h
    · next k' n el =>
      cases h
      have g := hp _ (List.mem_singleton.2 rfl)
      exact VLe.slk g.1 (aj.of_ok g)
    · cases h
def P5 {T : Type} (dec : List D → T) : D → List T
  | .sl _ n el => lst dec n el
  | _ => []
theorem OK {T : Type} {enc : T → List D} {dec : List D → T} {z : T} (hd : eA enc dec) {d : D} {k : Nat} {l : List T} (h : je d (.sl k l.length (bP enc z l))) : P5 dec d = l := by
  rcases h.nil_or with ⟨rfl,h0⟩ | ⟨k',el',rfl,h1⟩
  · exact (List.eq_nil_of_length_eq_zero h0).symm
  · exact aj.lst (z := z) hd ⟨rfl,h1⟩
theorem bn.cons_inv {ds cs : List D} {c : D} (h : bn ds (c :: cs)) : ∃ d ds',ds = d :: ds' ∧ je d c ∧ bn ds' cs := by
  cases ds with
  | nil => have := h.1; simp at this
  | cons d ds => exact ⟨d,ds,rfl,h.2 0 d c rfl rfl,by have := h.1; simpa using this,fun j a b ha hb => h.2 (j + 1) a b (by simpa using ha) (by simpa using hb)⟩
theorem bn.nil_inv {ds : List D} (h : bn ds []) : ds = [] := List.eq_nil_of_length_eq_zero h.1
def EA : List V → Option (List D)
  | [] => some []
  | .c d :: r => match EA r with | some ds => some (d :: ds) | none => none
  | _ :: _ => none
theorem Dh : ∀ {cs : List V} {ds : List D},EA cs = some ds → cs = ds.map .c
  | [],ds,h => by cases h; rfl
  | .c d :: r,ds,h => by
    unfold EA at h
    split at h
    · next ds' h' => cases h; rw [Dh h']; rfl
    · cases h
  | .agg _ :: _,_,h => by cases h
  | .tup _ :: _,_,h => by cases h
  | .ptr .. :: _,_,h => by cases h
  | .row .. :: _,_,h => by cases h
  | .dptr .. :: _,_,h => by cases h
  | .fn .. :: _,_,h => by cases h
def aG {T : Type} (okT : List D → Bool) (enc : T → List D) (dec : List D → T) (h : ∀ ds,okT ds = true → enc (dec ds) = ds) : AC T where
  dec | .agg cs => (match EA cs with | some ds => bif okT ds then some ([],dec ds) else none | none => none)
      | _ => none
  can x := V.ag (enc x)
  ok v p x hd _ := by
    split at hd
    · next cs =>
      split at hd
      · next ds hds =>
        cases hk : okT ds with
        | false => rw [hk] at hd; cases hd
        | true =>
          rw [hk] at hd
          cases hd
          rw [Dh hds]
          show VLe _ (.agg ((enc (dec ds)).map .c))
          rw [h ds hk]
          exact .r
      · cases hd
    · cases hd
structure Q9 (P : Program) (f : FuncId) (fn : Func) (c : Code) (rs : List ResultVar) (nt : Nat) : Prop where
  hf : P.funcs[f]? = some fn
  hb : fn.body = some c
  hn : (fn.name == "runtime.NumGoroutine") = false
  hr : fn.results.toList = rs
  ht : fn.ntmps = nt
section
variable {P : Program} {f : FuncId} {R : Type}
theorem ff {p q : List Prop} (h : ∀ x ∈ p ++ q,x) : (∀ x ∈ p,x) ∧ ∀ x ∈ q,x := ⟨fun x hx => h x (List.mem_append.2 (.inl hx)),fun x hx => h x (List.mem_append.2 (.inr hx))⟩
theorem sm {n : Nat} (fn : Func) (c : Code) (rs : List ResultVar) (nt : Nat) {con : ct} (h : ∀ vs p out,con vs = some (p,out) → (∀ q ∈ p,q) → ∃ vs',vs'.length = n ∧ VLes vs vs' ∧ au P nt (be c) (cD P rs (cw out)) { tm := fL vs' 0,hp := [],nx := 0 })
    (hf : P.funcs[f]? = some fn) (hb : fn.body = some c) (hn : (fn.name == "runtime.NumGoroutine") = false) (hr : fn.results.toList = rs) (ht : fn.ntmps = nt) (hl : (Nat.ble n nt && Nat.ble nt 1000000) = true) : br P f con :=
  eL hf hb hn hr ht fun vs p out h1 h2 => by
    obtain ⟨vs',h3,h4,h5⟩ := h vs p out h1 h2
    exact ⟨vs',h4,by rw [h3]; exact hl,h5⟩
def DI (f0 : Option R) (z : R) (out : R → cm) : ct
  | [] => some ([f0.isSome = true],out (f0.getD z))
  | _ => none
theorem FK {f0 : Option R} {z : R} {out : R → cm} (fn : Func) (c : Code) (rs : List ResultVar) (nt : Nat) (run : ∀ y,f0 = some y → au P nt (be c) (cD P rs (cw (out y))) { tm := [],hp := [],nx := 0 })
    (hf : P.funcs[f]? = some fn := by kernel_rfl) (hb : fn.body = some c := by kernel_rfl) (hn : (fn.name == "runtime.NumGoroutine") = false := by kernel_rfl) (hr : fn.results.toList = rs := by kernel_rfl) (ht : fn.ntmps = nt := by kernel_rfl) (hl : (Nat.ble 0 nt && Nat.ble nt 1000000) = true := by kernel_rfl) : br P f (DI f0 z out) :=
  sm fn c rs nt (fun vs p o h hp => by
    unfold DI at h
    split at h
    · cases h
      obtain ⟨y,hy⟩ := Option.isSome_iff_exists.1 (hp _ (List.mem_singleton.2 rfl))
      rw [hy]
      exact ⟨[],rfl,VLes.nil,run y hy⟩
    · cases h) hf hb hn hr ht hl
def gj {A0 : Type} (a0 : AC A0) (f0 : A0 → Option R) (z : R) (out : R → cm) : ct
  | [x0] => (match a0.dec x0 with
    | some (p0,u0) => some (p0 ++ [(f0 u0).isSome = true],out ((f0 u0).getD z))
    | _ => none)
  | _ => none
theorem dW {A0 : Type} {a0 : AC A0} {f0 : A0 → Option R} {z : R} {out : R → cm} (fn : Func) (c : Code) (rs : List ResultVar) (nt : Nat) (run : ∀ u0 y,f0 u0 = some y → au P nt (be c) (cD P rs (cw (out y))) { tm := fL [a0.can u0] 0,hp := [],nx := 0 })
    (hf : P.funcs[f]? = some fn := by kernel_rfl) (hb : fn.body = some c := by kernel_rfl) (hn : (fn.name == "runtime.NumGoroutine") = false := by kernel_rfl) (hr : fn.results.toList = rs := by kernel_rfl) (ht : fn.ntmps = nt := by kernel_rfl) (hl : (Nat.ble 1 nt && Nat.ble nt 1000000) = true := by kernel_rfl) : br P f (gj a0 f0 z out) :=
  sm fn c rs nt (fun vs p o h hp => by
    unfold gj at h
    split at h
    · split at h
      · next p0 u0 e0 =>
        cases h
        obtain ⟨h0,hp⟩ := ff hp
        obtain ⟨y,hy⟩ := Option.isSome_iff_exists.1 (hp _ (List.mem_singleton.2 rfl))
        rw [hy]
        exact ⟨[a0.can u0],rfl,(VLes.cons (a0.ok _ _ _ e0 h0) VLes.nil),run u0 y hy⟩
      · cases h
    · cases h) hf hb hn hr ht hl
def jr {A0 A1 : Type} (a0 : AC A0) (a1 : AC A1) (f0 : A0 → A1 → Option R) (z : R) (out : R → cm) : ct
  | [x0,x1] => (match a0.dec x0,a1.dec x1 with
    | some (p0,u0),some (p1,u1) => some (p0 ++ (p1 ++ [(f0 u0 u1).isSome = true]),out ((f0 u0 u1).getD z))
    | _,_ => none)
  | _ => none
theorem fQ {A0 A1 : Type} {a0 : AC A0} {a1 : AC A1} {f0 : A0 → A1 → Option R} {z : R} {out : R → cm} (fn : Func) (c : Code) (rs : List ResultVar) (nt : Nat) (run : ∀ u0 u1 y,f0 u0 u1 = some y → au P nt (be c) (cD P rs (cw (out y))) { tm := fL [a0.can u0,a1.can u1] 0,hp := [],nx := 0 })
    (hf : P.funcs[f]? = some fn := by kernel_rfl) (hb : fn.body = some c := by kernel_rfl) (hn : (fn.name == "runtime.NumGoroutine") = false := by kernel_rfl) (hr : fn.results.toList = rs := by kernel_rfl) (ht : fn.ntmps = nt := by kernel_rfl) (hl : (Nat.ble 2 nt && Nat.ble nt 1000000) = true := by kernel_rfl) : br P f (jr a0 a1 f0 z out) :=
  sm fn c rs nt (fun vs p o h hp => by
    unfold jr at h
    split at h
    · split at h
      · next p0 u0 p1 u1 e0 e1 =>
        cases h
        obtain ⟨h0,hp⟩ := ff hp
        obtain ⟨h1,hp⟩ := ff hp
        obtain ⟨y,hy⟩ := Option.isSome_iff_exists.1 (hp _ (List.mem_singleton.2 rfl))
        rw [hy]
        exact ⟨[a0.can u0,a1.can u1],rfl,(VLes.cons (a0.ok _ _ _ e0 h0) (VLes.cons (a1.ok _ _ _ e1 h1) VLes.nil)),run u0 u1 y hy⟩
      · cases h
    · cases h) hf hb hn hr ht hl
def Cp {A0 A1 A2 : Type} (a0 : AC A0) (a1 : AC A1) (a2 : AC A2) (f0 : A0 → A1 → A2 → Option R) (z : R) (out : R → cm) : ct
  | [x0,x1,x2] => (match a0.dec x0,a1.dec x1,a2.dec x2 with
    | some (p0,u0),some (p1,u1),some (p2,u2) => some (p0 ++ (p1 ++ (p2 ++ [(f0 u0 u1 u2).isSome = true])),out ((f0 u0 u1 u2).getD z))
    | _,_,_ => none)
  | _ => none
theorem Cf {A0 A1 A2 : Type} {a0 : AC A0} {a1 : AC A1} {a2 : AC A2} {f0 : A0 → A1 → A2 → Option R} {z : R} {out : R → cm} (fn : Func) (c : Code) (rs : List ResultVar) (nt : Nat) (run : ∀ u0 u1 u2 y,f0 u0 u1 u2 = some y → au P nt (be c) (cD P rs (cw (out y))) { tm := fL [a0.can u0,a1.can u1,a2.can u2] 0,hp := [],nx := 0 })
    (hf : P.funcs[f]? = some fn := by kernel_rfl) (hb : fn.body = some c := by kernel_rfl) (hn : (fn.name == "runtime.NumGoroutine") = false := by kernel_rfl) (hr : fn.results.toList = rs := by kernel_rfl) (ht : fn.ntmps = nt := by kernel_rfl) (hl : (Nat.ble 3 nt && Nat.ble nt 1000000) = true := by kernel_rfl) : br P f (Cp a0 a1 a2 f0 z out) :=
  sm fn c rs nt (fun vs p o h hp => by
    unfold Cp at h
    split at h
    · split at h
      · next p0 u0 p1 u1 p2 u2 e0 e1 e2 =>
        cases h
        obtain ⟨h0,hp⟩ := ff hp
        obtain ⟨h1,hp⟩ := ff hp
        obtain ⟨h2,hp⟩ := ff hp
        obtain ⟨y,hy⟩ := Option.isSome_iff_exists.1 (hp _ (List.mem_singleton.2 rfl))
        rw [hy]
        exact ⟨[a0.can u0,a1.can u1,a2.can u2],rfl,(VLes.cons (a0.ok _ _ _ e0 h0) (VLes.cons (a1.ok _ _ _ e1 h1) (VLes.cons (a2.ok _ _ _ e2 h2) VLes.nil))),run u0 u1 u2 y hy⟩
      · cases h
    · cases h) hf hb hn hr ht hl
def EK {A0 A1 A2 A3 : Type} (a0 : AC A0) (a1 : AC A1) (a2 : AC A2) (a3 : AC A3) (f0 : A0 → A1 → A2 → A3 → Option R) (z : R) (out : R → cm) : ct
  | [x0,x1,x2,x3] => (match a0.dec x0,a1.dec x1,a2.dec x2,a3.dec x3 with
    | some (p0,u0),some (p1,u1),some (p2,u2),some (p3,u3) => some (p0 ++ (p1 ++ (p2 ++ (p3 ++ [(f0 u0 u1 u2 u3).isSome = true]))),out ((f0 u0 u1 u2 u3).getD z))
    | _,_,_,_ => none)
  | _ => none
theorem Fh {A0 A1 A2 A3 : Type} {a0 : AC A0} {a1 : AC A1} {a2 : AC A2} {a3 : AC A3} {f0 : A0 → A1 → A2 → A3 → Option R} {z : R} {out : R → cm} (fn : Func) (c : Code) (rs : List ResultVar) (nt : Nat) (run : ∀ u0 u1 u2 u3 y,f0 u0 u1 u2 u3 = some y → au P nt (be c) (cD P rs (cw (out y))) { tm := fL [a0.can u0,a1.can u1,a2.can u2,a3.can u3] 0,hp := [],nx := 0 })
    (hf : P.funcs[f]? = some fn := by kernel_rfl) (hb : fn.body = some c := by kernel_rfl) (hn : (fn.name == "runtime.NumGoroutine") = false := by kernel_rfl) (hr : fn.results.toList = rs := by kernel_rfl) (ht : fn.ntmps = nt := by kernel_rfl) (hl : (Nat.ble 4 nt && Nat.ble nt 1000000) = true := by kernel_rfl) : br P f (EK a0 a1 a2 a3 f0 z out) :=
  sm fn c rs nt (fun vs p o h hp => by
    unfold EK at h
    split at h
    · split at h
      · next p0 u0 p1 u1 p2 u2 p3 u3 e0 e1 e2 e3 =>
        cases h
        obtain ⟨h0,hp⟩ := ff hp
        obtain ⟨h1,hp⟩ := ff hp
        obtain ⟨h2,hp⟩ := ff hp
        obtain ⟨h3,hp⟩ := ff hp
        obtain ⟨y,hy⟩ := Option.isSome_iff_exists.1 (hp _ (List.mem_singleton.2 rfl))
        rw [hy]
        exact ⟨[a0.can u0,a1.can u1,a2.can u2,a3.can u3],rfl,(VLes.cons (a0.ok _ _ _ e0 h0) (VLes.cons (a1.ok _ _ _ e1 h1) (VLes.cons (a2.ok _ _ _ e2 h2) (VLes.cons (a3.ok _ _ _ e3 h3) VLes.nil)))),run u0 u1 u2 u3 y hy⟩
      · cases h
    · cases h) hf hb hn hr ht hl
def G8 {A0 A1 A2 A3 A4 : Type} (a0 : AC A0) (a1 : AC A1) (a2 : AC A2) (a3 : AC A3) (a4 : AC A4) (f0 : A0 → A1 → A2 → A3 → A4 → Option R) (z : R) (out : R → cm) : ct
  | [x0,x1,x2,x3,x4] => (match a0.dec x0,a1.dec x1,a2.dec x2,a3.dec x3,a4.dec x4 with
    | some (p0,u0),some (p1,u1),some (p2,u2),some (p3,u3),some (p4,u4) => some (p0 ++ (p1 ++ (p2 ++ (p3 ++ (p4 ++ [(f0 u0 u1 u2 u3 u4).isSome = true])))),out ((f0 u0 u1 u2 u3 u4).getD z))
    | _,_,_,_,_ => none)
  | _ => none
theorem Ou {A0 A1 A2 A3 A4 : Type} {a0 : AC A0} {a1 : AC A1} {a2 : AC A2} {a3 : AC A3} {a4 : AC A4} {f0 : A0 → A1 → A2 → A3 → A4 → Option R} {z : R} {out : R → cm} (fn : Func) (c : Code) (rs : List ResultVar) (nt : Nat) (run : ∀ u0 u1 u2 u3 u4 y,f0 u0 u1 u2 u3 u4 = some y → au P nt (be c) (cD P rs (cw (out y))) { tm := fL [a0.can u0,a1.can u1,a2.can u2,a3.can u3,a4.can u4] 0,hp := [],nx := 0 })
    (hf : P.funcs[f]? = some fn := by kernel_rfl) (hb : fn.body = some c := by kernel_rfl) (hn : (fn.name == "runtime.NumGoroutine") = false := by kernel_rfl) (hr : fn.results.toList = rs := by kernel_rfl) (ht : fn.ntmps = nt := by kernel_rfl) (hl : (Nat.ble 5 nt && Nat.ble nt 1000000) = true := by kernel_rfl) : br P f (G8 a0 a1 a2 a3 a4 f0 z out) :=
  sm fn c rs nt (fun vs p o h hp => by
    unfold G8 at h
    split at h
    · split at h
      · next p0 u0 p1 u1 p2 u2 p3 u3 p4 u4 e0 e1 e2 e3 e4 =>
        cases h
        obtain ⟨h0,hp⟩ := ff hp
        obtain ⟨h1,hp⟩ := ff hp
        obtain ⟨h2,hp⟩ := ff hp
        obtain ⟨h3,hp⟩ := ff hp
        obtain ⟨h4,hp⟩ := ff hp
        obtain ⟨y,hy⟩ := Option.isSome_iff_exists.1 (hp _ (List.mem_singleton.2 rfl))
        rw [hy]
        exact ⟨[a0.can u0,a1.can u1,a2.can u2,a3.can u3,a4.can u4],rfl,(VLes.cons (a0.ok _ _ _ e0 h0) (VLes.cons (a1.ok _ _ _ e1 h1) (VLes.cons (a2.ok _ _ _ e2 h2) (VLes.cons (a3.ok _ _ _ e3 h3) (VLes.cons (a4.ok _ _ _ e4 h4) VLes.nil))))),run u0 u1 u2 u3 u4 y hy⟩
      · cases h
    · cases h) hf hb hn hr ht hl
end
structure FE (P : Program) where
  f : FuncId
  c : CC
  ok : bR P f c
def dx {P : Program} : List (FE P) → FuncId → Option CC
  | [],_ => none
  | e :: r,f => bif Nat.beq e.f f then some e.c else dx r f
theorem wU {P : Program} : ∀ (l : List (FE P)) (f : FuncId) (con : CC),dx l f = some con → bR P f con
  | [],_,_,h => by cases h
  | e :: r,f,con,h => by
    unfold dx at h
    cases hb : Nat.beq e.f f with
    | true =>
      rw [hb] at h
      cases h
      rw [← Nat.eq_of_beq_eq_true hb]
      exact e.ok
    | false =>
      rw [hb] at h
      exact wU r f con h
abbrev Ob.bx (l : List D) : Ob := .box (l.map .c)
theorem dG {P : Program} {rs : List ResultVar} {σ : St} {out : cm} (v : V) (h : cw out σ.hp v) (hv : hU P σ rs = some v := by kernel_rfl) : cD P rs (cw out) .ret σ := cD.intro hv h
abbrev un (t : Nat) : Nat × bu := sv t (.c .unk)
section
variable {P : Program} {N : Nat} {c : Code} {K : KT} {σ : St}
theorem Aa.nx {C : FuncId → Option CC} {ts : List Nat} (X : KT → Prop) (x : X K) (h : ∀ K,ev P C N c (cN ts K) σ = X K := by intro K; kernel_rfl) : Aa P C N c (cN ts K) σ := .of (h K) x
theorem au.qD (hm : P.follows .mixedOrders = true) (fs : List (FE P)) (ts : List Nat) (a m b : Nat) {l : List Code}
    (h : Aa P (dx fs) N (ofItems ((l.drop a).take m)) (cN ts (bB (au P N (l.drop b) K) K)) σ) (e : a + m = b := by rfl) : au P N (l.drop a) K σ := .pieceD hm (wU fs) ts a m b e h
theorem au.qE (hm : P.follows .mixedOrders = true) (fs : List (FE P)) (ts : List Nat) (a m : Nat) {l : List Code}
    (h : Aa P (dx fs) N (ofItems ((l.drop a).take m)) (cN ts K) σ) (e : l.drop (a + m) = [] := by kernel_rfl) : au P N (l.drop a) K σ := .pieceE hm (wU fs) ts a m e h
end
section
variable {T : Type} {enc : T → List D} {dec : List D → T} {z : T} {n k k0 : Nat} {el : Nat → List D} {l : List T}
theorem lr (hd : eA enc dec) (h : aj enc z n el l) : lst dec n el = l := h.lst hd
theorem lb (hd : eA enc dec) : lst dec l.length (bP enc z l) = l := aj.lst hd (.ls enc z l)
theorem kb (hd : eA enc dec) : aT enc dec k k l.length (bP enc z l) := aj.ok hd (.ls enc z l)
end
end Go.Ax
