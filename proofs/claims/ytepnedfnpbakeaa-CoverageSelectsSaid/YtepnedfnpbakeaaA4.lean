import Derived.Test.YtepnedfnpbakeaaA3
import Derived.Lib.Bytealg
set_option linter.all false
/- States in a canonical form; programs as functions with an option. -/
namespace Go.Ax
open Go.RowKit

/-! ### Renumbered states -/
def idxOf : List Nat → Nat → Nat
  | [], _ => 0
  | q :: r, o => bif Nat.beq q o then 0 else idxOf r o + 1
mutual
def V.ren (os : List Nat) : V → V
  | .c d => .c d
  | .agg vs => .agg (V.rens os vs)
  | .tup vs => .tup (V.rens os vs)
  | .ptr o k i j => .ptr (idxOf os o) k i j
  | .row o k off n => .row (idxOf os o) k off n
  | .dptr k cs j => .dptr k cs j
  | .fn f caps => .fn f (V.rens os caps)
def V.rens (os : List Nat) : List V → List V
  | [] => []
  | v :: r => V.ren os v :: V.rens os r
end
def Ob.ren (os : List Nat) : Ob → Ob
  | .box cs => .box (V.rens os cs)
  | .row t k n el => .row t k n el
  | .raw x => .raw x
def addN (l : List Nat) (x : Nat) : List Nat := bif memB x l then l else l ++ [x]
def addsN (l xs : List Nat) : List Nat := xs.foldl addN l
def refsOb (H : Heap) (o : Nat) : List Nat := match Heap.get H o with | some (.box cs) => V.refss cs | _ => []
def grow1 (H : Heap) (os : List Nat) : List Nat := addsN os (os.flatMap (refsOb H))
def refsT (tm : List (Nat × Slot)) : List Nat := tm.flatMap fun x => V.refs x.2.v
def objs (tm : List (Nat × Slot)) (H : Heap) : List Nat := grow1 H (grow1 H (grow1 H (addsN [] (refsT tm))))
def renT (os : List Nat) (tm : List (Nat × Slot)) : List (Nat × Slot) := tm.map fun x => (x.1, ⟨[], x.2.v.ren os⟩)
def renH (H : Heap) : List Nat → Nat → List Nat → Heap
  | _, _, [] => []
  | os, i, o :: r => match Heap.get H o with | some b => (i, some (b.ren os)) :: renH H os (i + 1) r | none => renH H os (i + 1) r
def canonN (ts : List Nat) (σ : St) : St :=
  { tm := renT (objs (keepT ts σ.tm) σ.hp) (keepT ts σ.tm), hp := renH σ.hp (objs (keepT ts σ.tm) σ.hp) 0 (objs (keepT ts σ.tm) σ.hp), nx := (objs (keepT ts σ.tm) σ.hp).length }
def nodupB : List Nat → Bool
  | [] => true
  | o :: r => !(memB o r) && nodupB r
def canonNOk (ts : List Nat) (σ : St) : Bool :=
  nodupB (objs (keepT ts σ.tm) σ.hp) && (keepT ts σ.tm).all (fun x => slotOk (objs (keepT ts σ.tm) σ.hp) x.2) &&
  (objs (keepT ts σ.tm) σ.hp).all (fun o => match Heap.get σ.hp o with | some b => obOk (objs (keepT ts σ.tm) σ.hp) b | none => true)

section
variable {P : Program} {N : Nat} {B : Base} {σ σ' : St} {E : Env} {a : Act} {w : World}

theorem idxOf_mem : ∀ {os : List Nat} {o : Nat}, o ∈ os → os[idxOf os o]? = some o
  | [], o, h => by simp at h
  | q :: r, o, h => by
    unfold idxOf
    cases hb : Nat.beq q o with
    | true =>
      have := Nat.eq_of_beq_eq_true hb
      subst this; rfl
    | false =>
      have hne : q ≠ o := fun e => by subst e; simp at hb
      rcases List.mem_cons.1 h with h | h
      · exact (hne h.symm).elim
      · simpa using idxOf_mem h

theorem nodupB_inj : ∀ {os : List Nat}, nodupB os = true → ∀ i j o : Nat, os[i]? = some o → os[j]? = some o → i = j
  | [], _, i, j, o, h, _ => by simp at h
  | q :: r, hn, i, j, o, hi, hj => by
    unfold nodupB at hn
    simp only [Bool.and_eq_true, Bool.not_eq_true'] at hn
    have hq : ∀ o, o ∈ r → q ≠ o := by
      intro o ho e
      subst e
      have : memB q r = true := List.any_eq_true.2 ⟨q, ho, by simp⟩
      rw [this] at hn
      exact absurd hn.1 (by simp)
    match i, j with
    | 0, 0 => rfl
    | 0, j + 1 =>
      simp at hi hj
      subst hi
      exact (hq _ (List.mem_of_getElem? hj) rfl).elim
    | i + 1, 0 =>
      simp at hi hj
      subst hj
      exact (hq _ (List.mem_of_getElem? hi) rfl).elim
    | i + 1, j + 1 =>
      simp at hi hj
      have := nodupB_inj hn.2 i j o hi hj
      omega

/-- The environment of the renumbered state. -/
def Env.ren (E : Env) (os : List Nat) : Env where
  conc q := match os[q]? with | some o => E.conc o | none => none
  cap q := match os[q]? with | some o => E.cap o | none => 0
  len q := match os[q]? with | some o => E.len o | none => 0
  live q := ∃ o, os[q]? = some o ∧ E.live o
  ok := E.ok

theorem rens_length (os : List Nat) : ∀ vs : List V, (V.rens os vs).length = vs.length
  | [] => rfl
  | _ :: r => by simp [V.rens, rens_length os r]
theorem rens_get (os : List Nat) : ∀ (vs : List V) (i : Nat), (V.rens os vs)[i]? = (vs[i]?).map (V.ren os)
  | [], i => by simp [V.rens]
  | v :: r, 0 => by simp [V.rens]
  | v :: r, i + 1 => by simp [V.rens, rens_get os r i]

theorem RepV.ren {os : List Nat} {v : Value} {d : V} (h : RepV E w v d) : (∀ o ∈ V.refs d, o ∈ os) → RepV (E.ren os) w v (d.ren os) := by
  induction h with
  | c v d h => exact fun _ => .c v d h
  | agg vs ds hl h ih =>
    intro hr
    rw [V.ren]
    refine .agg vs _ (by rw [rens_length, hl]) fun i v d hv hd => ?_
    rw [rens_get] at hd
    cases hx : ds[i]? with
    | none => rw [hx] at hd; cases hd
    | some x => rw [hx] at hd; cases hd; exact ih i v x hv hx fun o ho => hr o (refss_mem hx ho)
  | tup vs ds hl h ih =>
    intro hr
    rw [V.ren]
    refine .tup vs _ (by rw [rens_length, hl]) fun i v d hv hd => ?_
    rw [rens_get] at hd
    cases hx : ds[i]? with
    | none => rw [hx] at hd; cases hd
    | some x => rw [hx] at hd; cases hd; exact ih i v x hv hx fun o ho => hr o (refss_mem hx ho)
  | ptr o k i j b h1 h2 h3 =>
    intro hr
    have ho := idxOf_mem (hr o (by simp [V.refs]))
    rw [V.ren]
    exact .ptr _ k i j b ⟨o, ho, h1⟩ (by simp only [Env.ren, ho]; exact h2) (by simp only [Env.ren, ho]; exact h3)
  | row o k off n a c hn hc hm hl ha h0 =>
    intro hr
    have ho := idxOf_mem (hr o (by simp [V.refs]))
    rw [V.ren]
    exact .row _ k off n a c ⟨o, ho, hn⟩ hc hm (by simp only [Env.ren, ho]; exact hl) (by simp only [Env.ren, ho]; exact ha) (by simp only [Env.ren, ho]; exact h0)
  | dptr k cs j ad u h1 h2 h3 h4 => exact fun _ => .dptr k cs j ad u h1 h2 h3 h4
  | fn f vs ds hl h ih =>
    intro hr
    rw [V.ren]
    refine .fn f vs _ (by rw [rens_length, hl]) fun i v d hv hd => ?_
    rw [rens_get] at hd
    cases hx : ds[i]? with
    | none => rw [hx] at hd; cases hd
    | some x => rw [hx] at hd; cases hd; exact ih i v x hv hx fun o ho => hr o (refss_mem hx ho)

theorem ObAt.ren {os : List Nat} {q o : Nat} {b : Ob} (ho : os[q]? = some o) (h : ObAt E w o b) (hr : obOk os b = true) : ObAt (E.ren os) w q (b.ren os) := by
  cases b with
  | box cs =>
    obtain ⟨e1, b, C, t, e2, e3, e4, e5⟩ := h
    refine ⟨by simp only [Env.ren, ho]; exact e1, b, C, t, by simp only [Env.ren, ho]; exact e2, e3, ?_, fun i v d hv hd => ?_⟩
    · rw [rens_length]; exact e4
    · rw [rens_get] at hd
      cases hx : cs[i]? with
      | none => rw [hx] at hd; cases hd
      | some x =>
        rw [hx] at hd; cases hd
        exact (e5 i v x hv hx).ren fun p hp => memB_mem (List.all_eq_true.1 hr p (refss_mem hx hp))
  | raw x =>
    obtain ⟨h1, b, h2, h3⟩ := h
    exact ⟨by simp only [Env.ren, ho]; exact h1, b, by simp only [Env.ren, ho]; exact h2, h3⟩
  | row t k n el =>
    obtain ⟨h1, h2⟩ := h
    refine ⟨by simp only [Env.ren, ho]; exact h1, ?_⟩
    rcases h2 with ⟨h2, h3⟩ | ⟨b, C, g1, g2, g3, g4, g5, g6, g7, g8⟩
    · exact .inl ⟨by simp only [Env.ren, ho]; exact h2, h3⟩
    · refine .inr ⟨b, C, by simp only [Env.ren, ho]; exact g1, g2, by simp only [Env.ren, ho]; exact g3, by simp only [Env.ren, ho]; exact g4, by simp only [Env.ren, ho]; exact g5, g6, g7, g8⟩

theorem getT_renT (os : List Nat) : ∀ (tm : List (Nat × Slot)) (t : Nat), getT (renT os tm) t = (getT tm t).map fun s => ⟨[], s.v.ren os⟩
  | [], t => by simp [renT, getT]
  | (q, s) :: r, t => by
    have ih := getT_renT os r t
    unfold renT at ih ⊢
    rw [List.map_cons, getT_cons, getT_cons]
    split
    · rfl
    · exact ih

theorem renH_get (H : Heap) (os : List Nat) : ∀ (l : List Nat) (i q : Nat) (b : Ob), Heap.get (renH H os i l) q = some b → ∃ o b', l[q - i]? = some o ∧ i ≤ q ∧ Heap.get H o = some b' ∧ b = b'.ren os
  | [], i, q, b, h => by simp [renH, Heap.get] at h
  | o :: r, i, q, b, h => by
    unfold renH at h
    split at h
    · next b' hb' =>
      rw [Heap.get_cons] at h
      split at h
      · next e => subst e; cases h; exact ⟨o, b', by simp, Nat.le_refl _, hb', rfl⟩
      · obtain ⟨o', b2, h1, h2, h3, h4⟩ := renH_get H os r (i + 1) q b h
        refine ⟨o', b2, ?_, by omega, h3, h4⟩
        have : q - i = (q - (i + 1)) + 1 := by omega
        rw [this]; simpa using h1
    · obtain ⟨o', b2, h1, h2, h3, h4⟩ := renH_get H os r (i + 1) q b h
      refine ⟨o', b2, ?_, by omega, h3, h4⟩
      have : q - i = (q - (i + 1)) + 1 := by omega
      rw [this]; simpa using h1

theorem Ent.canonN (ts : List Nat) (h : canonNOk ts σ = true) : Ent σ (canonN ts σ) := by
  unfold canonNOk at h
  simp only [Bool.and_eq_true] at h
  obtain ⟨⟨h1, h2⟩, h3⟩ := h
  unfold Go.Ax.canonN
  generalize objs (keepT ts σ.tm) σ.hp = os at h1 h2 h3 ⊢
  refine ⟨fun N B E a w hs => ⟨E.ren os, hs.size, hs.small, hs.defers, fun q hq hl => ?_, ⟨fun q ob ho => ?_, fun q q' b hq hq' hb hb' => ?_, fun q b hq hb => ?_, fun q b hq hb => ?_, hs.heap.oklt⟩, fun t s hg => ?_, hs.base, fun q b hq hb => ?_, hs.okold⟩⟩
  · obtain ⟨o, ho, _⟩ := hl
    have hlt := (List.getElem?_eq_some_iff.1 ho).1
    have hq' : os.length ≤ q := hq
    omega
  · obtain ⟨o, b', g1, g2, g3, rfl⟩ := renH_get σ.hp os os 0 q ob ho
    have g1' : os[q]? = some o := by simpa using g1
    obtain ⟨l1, l2⟩ := hs.heap.at_ o b' g3
    have hok := List.all_eq_true.1 h3 o (List.mem_of_getElem? g1')
    rw [g3] at hok
    exact ⟨⟨o, g1', l1⟩, l2.ren g1' hok⟩
  · obtain ⟨o, ho, l⟩ := hq
    obtain ⟨o', ho', l'⟩ := hq'
    simp only [Env.ren, ho] at hb
    simp only [Env.ren, ho'] at hb'
    have := hs.heap.inj o o' b l l' hb hb'
    subst this
    exact nodupB_inj h1 q q' o ho ho'
  · obtain ⟨o, ho, l⟩ := hq
    simp only [Env.ren, ho] at hb
    exact hs.heap.sep o b l hb
  · obtain ⟨o, ho, l⟩ := hq
    simp only [Env.ren, ho] at hb
    exact hs.heap.lt o b l hb
  · rw [getT_renT] at hg
    cases hk : getT (keepT ts σ.tm) t with
    | none => rw [hk] at hg; cases hg
    | some s0 =>
      rw [hk] at hg
      cases hg
      obtain ⟨g1, g2⟩ := keepT_get ts σ.tm t s0 hk
      have hok := List.all_eq_true.1 h2 _ g2
      unfold slotOk at hok
      simp only [Bool.and_eq_true, List.isEmpty_iff] at hok
      have hh := hs.slots t s0 g1
      refine ⟨fun _ => (hh.1 (by rw [hok.1]; rfl)).ren fun q hq => memB_mem (List.all_eq_true.1 hok.2 q hq), fun _ h => ?_⟩
      simp [holds] at h
  · obtain ⟨o, ho, l⟩ := hq
    simp only [Env.ren, ho] at hb
    exact hs.own o b l hb
end

/-- A continuation behind a piece, from the renumbered state. -/
def cN (ts : List Nat) (K : Exit → St → Prop) (e : Exit) (σ : St) : Prop := bif canonNOk ts σ then wK K e (canonN ts σ) else False

/-! ### Code as a list of items -/
def items : Code → List Code
  | .seq x y => items x ++ items y
  | .skip => []
  | c => [c]
def ofItems : List Code → Code
  | [] => .skip
  | c :: r => .seq c (ofItems r)
def nthI (l : List Code) (n : Nat) : Code := l.getD n .skip

/-- From the state the items run, one behind the other, and end where K holds. -/
def EvL (P : Program) (N : Nat) : List Code → (Exit → St → Prop) → St → Prop
  | [], K, σ => wK K .normal σ
  | c :: r, K, σ => EvOk P N c (thenK (EvL P N r K) K) σ

section
variable {P : Program} {C : FuncId → Option CC} {N : Nat} {c x y : Code} {K K' : Exit → St → Prop} {σ σ' : St}

theorem wK_mono (h : ∀ e σ, K e σ → K' e σ) {e : Exit} (hk : wK K e σ) : wK K' e σ := ⟨hk.choose, hk.choose_spec.1, h _ _ hk.choose_spec.2⟩
theorem wK_self {e : Exit} (h : K e σ) : wK K e σ := ⟨σ, .refl σ, h⟩

theorem EvL.ent : ∀ {l : List Code} {K : Exit → St → Prop}, Ent σ σ' → EvL P N l K σ' → EvL P N l K σ
  | [], _, he, ⟨σ2, h1, h2⟩ => ⟨σ2, he.trans h1, h2⟩
  | _ :: _, _, he, h => EvOk.ent he h

theorem thenK_both {J J' : St → Prop} (hJ : ∀ σ, J σ → J' σ) (hk : ∀ e σ, K e σ → K' e σ) : ∀ e σ, thenK J K e σ → thenK J' K' e σ := by
  intro e σ h
  cases e with
  | normal => exact hJ σ h
  | exit id => exact hk _ _ h
  | goto l => exact hk _ _ h
  | ret => exact hk _ _ h
  | panic ch => exact hk _ _ h
  | outgrown => exact hk _ _ h

theorem EvL.mono : ∀ {l : List Code} {K K' : Exit → St → Prop} {σ : St}, (∀ e σ, K e σ → K' e σ) → EvL P N l K σ → EvL P N l K' σ
  | [], _, _, _, hk, h => wK_mono hk h
  | _ :: _, _, _, _, hk, h => EvOk.mono h (thenK_both (fun _ h => EvL.mono hk h) hk)

theorem EvL.app : ∀ {l l' : List Code} {K : Exit → St → Prop} {σ : St}, EvL P N l (thenK (EvL P N l' K) K) σ → EvL P N (l ++ l') K σ
  | [], _, _, _, ⟨_, h1, h2⟩ => EvL.ent h1 h2
  | _ :: _, _, _, _, h => EvOk.mono h (thenK_both (fun _ h => EvL.app h) fun e σ h => by
      cases e with
      | normal => exact h
      | exit id => exact h
      | goto l => exact h
      | ret => exact h
      | panic ch => exact h
      | outgrown => exact h) |>.mono (fun e σ h => by
      cases e with
      | normal => exact h
      | exit id => exact h
      | goto l => exact h
      | ret => exact h
      | panic ch => exact h
      | outgrown => exact h)

theorem EvL.app_inv : ∀ {l l' : List Code} {K : Exit → St → Prop} {σ : St}, EvL P N (l ++ l') K σ → EvL P N l (thenK (EvL P N l' K) K) σ
  | [], _, _, σ, h => ⟨σ, .refl σ, h⟩
  | _ :: _, _, _, _, h => EvOk.mono h fun e σ h => by
      cases e with
      | normal => exact EvL.app_inv h
      | exit id => exact h
      | goto l => exact h
      | ret => exact h
      | panic ch => exact h
      | outgrown => exact h

theorem EvOk.of_weakN (h : EvOk P N c (thenK (fun σ => wK K .normal σ) K) σ) : EvOk P N c K σ :=
  .weak (h.mono fun e σ h => by
    cases e with
    | normal => exact h
    | exit id => exact ⟨σ, .refl σ, h⟩
    | goto l => exact ⟨σ, .refl σ, h⟩
    | ret => exact ⟨σ, .refl σ, h⟩
    | panic ch => exact ⟨σ, .refl σ, h⟩
    | outgrown => exact ⟨σ, .refl σ, h⟩)

theorem EvOk.ofItems : ∀ (c : Code) {K : Exit → St → Prop} {σ : St}, EvL P N (items c) K σ → EvOk P N c K σ := by
  intro c
  induction c with
  | skip => exact fun h => .ent h.choose_spec.1 (.skip h.choose_spec.2)
  | seq x y ihx ihy =>
    intro K σ h
    exact .seq ((ihx (EvL.app_inv h)).mono (thenK_both (fun _ h => ihy h) fun _ _ h => h))
  | label l => exact fun h => .of_weakN h
  | region id ops dr => exact fun h => .of_weakN h
  | cond c x y _ _ => exact fun h => .of_weakN h
  | block id x _ => exact fun h => .of_weakN h
  | exit id => exact fun h => .of_weakN h
  | ret => exact fun h => .of_weakN h
  | loop x _ => exact fun h => .of_weakN h
  | rangeFunc f params assign body => exact fun h => .of_weakN h
  | scope body => exact fun h => .of_weakN h
  | goto l => exact fun h => .of_weakN h
  | refuse why => exact fun h => .of_weakN h

theorem cN_wK {ts : List Nat} {e : Exit} (h : cN ts K e σ) : wK K e σ := by
  unfold cN at h
  cases hc : canonNOk ts σ with
  | false => rw [hc] at h; exact h.elim
  | true =>
    rw [hc, cond_true] at h
    obtain ⟨σ2, h1, h2⟩ := h
    exact ⟨σ2, (Ent.canonN ts hc).trans h1, h2⟩

/-- The first items, evaluated; then the state is brought into its form. -/
theorem EvL.piece (hm : P.follows .mixedOrders = true) (hC : ∀ f con, C f = some con → MeetsC P f con) (ts : List Nat) : ∀ (l l' : List Code) {K : Exit → St → Prop} {σ : St},
    ev P C N (Go.Ax.ofItems l) (cN ts (thenK (EvL P N l' K) K)) σ → EvL P N (l ++ l') K σ
  | [], l', K, σ, h => by
    obtain ⟨σ', h1, h2⟩ := cN_wK h
    exact EvL.ent h1 h2
  | c :: l, l', K, σ, h => by
    have h' : ev P C N c (thenK (ev P C N (Go.Ax.ofItems l) (cN ts (thenK (EvL P N l' K) K))) (cN ts (thenK (EvL P N l' K) K))) σ := h
    refine .weak (.of_ev hm hC (ev_mono c ?_ h'))
    intro e σ' hk
    cases e with
    | normal => exact ⟨σ', .refl σ', EvL.piece hm hC ts l l' hk⟩
    | exit id => exact cN_wK hk
    | goto l => exact cN_wK hk
    | ret => exact cN_wK hk
    | panic ch => exact cN_wK hk
    | outgrown => exact cN_wK hk

theorem EvL.cons_block {id : Nat} {r : List Code} (h : EvL P N (items x) (blockK id (thenK (EvL P N r K) K)) σ) : EvL P N (.block id x :: r) K σ := EvOk.block (.ofItems x h)
theorem EvL.cons_cond {o : Operand} {b : Bool} {r : List Code} (hb : opndV σ [] o = some (bl b)) (ht : b = true → EvL P N (items x ++ r) K σ) (hf : b = false → EvL P N (items y ++ r) K σ) : EvL P N (.cond o x y :: r) K σ :=
  EvOk.cond hb (fun h => .ofItems x (EvL.app_inv (ht h))) (fun h => .ofItems y (EvL.app_inv (hf h)))

/-! ### Functions with an option -/
def W {α : Type} (o : Option α) (Q : α → Prop) : Prop := match o with | some a => Q a | none => False
/-- A condition that has to hold. -/
def gd {α : Type} (p : Prop) [Decidable p] (o : Option α) : Option α := if p then o else none
theorem gd_pos {α : Type} {p : Prop} [Decidable p] {o : Option α} (h : p) : gd p o = o := by unfold gd; exact if_pos h
theorem gd_neg {α : Type} {p : Prop} [Decidable p] {o : Option α} (h : ¬ p) : gd p o = none := by unfold gd; exact if_neg h
theorem gd_some {α : Type} {p : Prop} [Decidable p] {o : Option α} {a : α} : gd p o = some a ↔ p ∧ o = some a := by
  by_cases h : p
  · rw [gd_pos h]; simp [h]
  · rw [gd_neg h]; simp [h]

theorem W_some {α : Type} {a : α} {Q : α → Prop} : W (some a) Q = Q a := rfl
theorem W_bif {α : Type} {b : Bool} {o o' : Option α} {Q : α → Prop} {X Y : Prop} (h : W (bif b then o else o') Q) (h1 : b = true → W o Q → X) (h2 : b = false → W o' Q → Y) : bif b then X else Y := by
  cases b with
  | true => exact h1 rfl h
  | false => exact h2 rfl h
theorem W_gd {α : Type} {p : Prop} [Decidable p] {o : Option α} {Q : α → Prop} {X : Prop} (h : W (gd p o) Q) (h1 : p → W o Q → X) : p ∧ X := by
  by_cases hp : p
  · rw [gd_pos hp] at h; exact ⟨hp, h1 hp h⟩
  · rw [gd_neg hp] at h; exact h.elim
theorem W_gdT {α : Type} {p : Prop} [Decidable p] {o : Option α} {Q : α → Prop} (hp : p) (h : W (gd p o) Q) : W o Q := by rw [gd_pos hp] at h; exact h
/-- A result that has to be there. -/
theorem W_bind {α β : Type} {o : Option β} {f : β → Option α} {Q : α → Prop} {X : Prop} (d : β) (h : W (o.bind f) Q) (h1 : o.isSome = true → W (f (o.getD d)) Q → X) : o.isSome = true ∧ X := by
  cases o with
  | none => exact h.elim
  | some b => exact ⟨rfl, h1 rfl h⟩
theorem W_bind' {α β : Type} {o : Option β} {f : β → Option α} {Q : α → Prop} (h : W (o.bind f) Q) : W o fun b => W (f b) Q := by
  cases o with
  | none => exact h
  | some b => exact h
theorem W_mono {α : Type} {o : Option α} {Q Q' : α → Prop} (h : W o Q) (hq : ∀ a, Q a → Q' a) : W o Q' := by
  cases o with
  | none => exact h
  | some a => exact hq a h
theorem W_iff {α : Type} {o : Option α} {Q : α → Prop} : W o Q ↔ ∃ a, o = some a ∧ Q a := by
  cases o with
  | none => exact ⟨fun h => h.elim, fun ⟨_, h, _⟩ => by cases h⟩
  | some a => exact ⟨fun h => ⟨a, rfl, h⟩, fun ⟨_, h, hq⟩ => by cases h; exact hq⟩

/-- A loop: rounds until a result. -/
def iterL {σ ρ : Type} (f : σ → Option (σ ⊕ ρ)) : Nat → σ → Option ρ
  | 0, _ => none
  | n + 1, s => match f s with
    | some (.inl s') => iterL f n s'
    | some (.inr r) => some r
    | none => none
theorem iterL_mono {σ ρ : Type} {f : σ → Option (σ ⊕ ρ)} : ∀ {n m : Nat} {s : σ} {r : ρ}, n ≤ m → iterL f n s = some r → iterL f m s = some r
  | 0, _, _, _, _, h => by cases h
  | n + 1, 0, _, _, hm, _ => by omega
  | n + 1, m + 1, s, r, hm, h => by
    unfold iterL at h ⊢
    split
    · next s' hs => rw [hs] at h; exact iterL_mono (by omega) h
    · next r' hs => rw [hs] at h; exact h
    · next hs => rw [hs] at h; cases h
open Classical in
/-- A loop; one that ends soon is run. -/
noncomputable def fixL {σ ρ : Type} (f : σ → Option (σ ⊕ ρ)) (s : σ) : Option ρ := match iterL f 1000000 s with | some r => some r | none => if h : ∃ n, (iterL f n s).isSome = true then iterL f h.choose s else none
theorem fixL_of {σ ρ : Type} {f : σ → Option (σ ⊕ ρ)} {n : Nat} {s : σ} {r : ρ} (h : iterL f n s = some r) : fixL f s = some r := by
  have he : ∃ n, (iterL f n s).isSome = true := ⟨n, by rw [h]; rfl⟩
  have key : ∀ m r', iterL f m s = some r' → r' = r := fun m r' hr' => by
    have a := iterL_mono (Nat.le_max_left n m) h
    have b := iterL_mono (Nat.le_max_right n m) hr'
    rw [a] at b
    exact (Option.some.inj b).symm
  unfold fixL
  split
  · next r' hr' => rw [key _ r' hr']
  · rw [dif_pos he]
    have h2 := he.choose_spec
    obtain ⟨r', hr'⟩ := Option.isSome_iff_exists.1 h2
    rw [hr', key _ r' hr']
theorem fixL_some {σ ρ : Type} {f : σ → Option (σ ⊕ ρ)} {s : σ} {r : ρ} : fixL f s = some r ↔ ∃ n, iterL f n s = some r := by
  constructor
  · intro h
    unfold fixL at h
    split at h
    · next r' hr' => cases h; exact ⟨_, hr'⟩
    · split at h
      · next he => exact ⟨_, h⟩
      · cases h
  · rintro ⟨n, h⟩
    exact fixL_of h
/-- A loop, one round unfolded. -/
theorem fixL_eq {σ ρ : Type} (f : σ → Option (σ ⊕ ρ)) (s : σ) : fixL f s = (f s).bind fun x => match x with | .inl s' => fixL f s' | .inr r => some r := by
  cases hf : f s with
  | none =>
    cases h : fixL f s with
    | none => rfl
    | some r =>
      obtain ⟨n, hn⟩ := fixL_some.1 h
      cases n with
      | zero => cases hn
      | succ n => unfold iterL at hn; rw [hf] at hn; cases hn
  | some x =>
    cases x with
    | inl s' =>
      show fixL f s = fixL f s'
      cases h' : fixL f s' with
      | some r =>
        obtain ⟨n, hn⟩ := fixL_some.1 h'
        exact fixL_of (n := n + 1) (by unfold iterL; rw [hf]; exact hn)
      | none =>
        cases h : fixL f s with
        | none => rfl
        | some r =>
          obtain ⟨n, hn⟩ := fixL_some.1 h
          cases n with
          | zero => cases hn
          | succ n =>
            unfold iterL at hn
            rw [hf] at hn
            have := fixL_of hn
            rw [h'] at this
            cases this
    | inr r => exact fixL_of (n := 1) (by unfold iterL; rw [hf])

/-- Items do what an option says. -/
def Pp {X : Type} (P : Program) (N : Nat) (l : List Code) (σ : St) (o : Option X) (E : X → (Exit → St → Prop) → Prop) : Prop :=
  ∀ K : Exit → St → Prop, W o (fun x => E x K) → EvL P N l K σ

/-- The next round of a loop, or an end of it. -/
def nextE {S R : Type} (emb : S → St) (E : R → (Exit → St → Prop) → Prop) : S ⊕ R → (Exit → St → Prop) → Prop
  | .inl s, K => K .normal (emb s)
  | .inr r, K => E r K

/-- A loop. -/
theorem EvOk.loopF {S R : Type} {f : S → Option (S ⊕ R)} {emb : S → St} {E : R → (Exit → St → Prop) → Prop} (hb : ∀ s, Pp P N (items x) (emb s) (f s) (nextE emb E))
    (hE : ∀ r J K, E r K → E r (thenK J K)) {s : S} (h : W (fixL f s) fun r => E r K) : EvOk P N (.loop x) K (emb s) := by
  obtain ⟨r, hr, hq⟩ := W_iff.1 h
  obtain ⟨n, hn⟩ := fixL_some.1 hr
  refine EvOk.loop (fun m σ => ∃ s, σ = emb s ∧ iterL f m s = some r) n (emb s) (.refl _) ⟨s, rfl, hn⟩ ?_
  rintro m σ ⟨s, rfl, hm⟩
  refine .ofItems x (hb s _ ?_)
  cases m with
  | zero => cases hm
  | succ m =>
    unfold iterL at hm
    split at hm
    · next s' hs => rw [hs]; exact ⟨m, emb s', Nat.lt_succ_self m, .refl _, s', rfl, hm⟩
    · next r' hs => rw [hs]; cases hm; exact hE r _ _ hq
    · cases hm

end
end Go.Ax

/- Lists in states; functions as options meet contracts. -/
namespace Go.Ax
open Go.RowKit

/-- The elements of a list, as cells. -/
def lsEl {T : Type} (enc : T → List D) (z : T) (l : List T) (i : Nat) : List D := enc (l.getD i z)
def LstOk {T : Type} (enc : T → List D) (dec : List D → T) (k0 k n : Nat) (el : Nat → List D) : Prop := (0 < n → k = k0) ∧ ∀ i, i < n → DsLe (el i) (enc (dec (el i)))
/-- A decoder that reads what is weaker in depth, too. -/
def DecOk {T : Type} (enc : T → List D) (dec : List D → T) : Prop := ∀ x ds, DsLe ds (enc x) → dec ds = x
theorem DecOk.eq {T : Type} {enc : T → List D} {dec : List D → T} (h : DecOk enc dec) (x : T) : dec (enc x) = x := h x _ (.refl _)
def D.isLit : D → Bool
  | .lit _ => true
  | _ => false
theorem DLe.lit_inv {d d' : D} (h : DLe d d') (hl : d'.isLit = true) : d = d' := by
  cases h with
  | refl => rfl
  | unk => cases hl
  | any => cases hl
  | nilsl => cases hl
  | sl => cases hl
theorem DsLe.flat {ds ds' : List D} (h : DsLe ds ds') (hf : ds'.all D.isLit = true) : ds = ds' :=
  List.ext_getElem h.1 fun i h1 h2 => (h.2 i _ _ (List.getElem?_eq_getElem h1) (List.getElem?_eq_getElem h2)).lit_inv (List.all_eq_true.1 hf _ (List.getElem_mem h2))
theorem DecOk.flat {T : Type} {enc : T → List D} {dec : List D → T} (hd : ∀ x, dec (enc x) = x) (hf : ∀ x, (enc x).all D.isLit = true) : DecOk enc dec := fun x ds h => by rw [h.flat (hf x)]; exact hd x
theorem LstOk.eq {T : Type} {enc : T → List D} {dec : List D → T} {k0 k n : Nat} {el : Nat → List D} (h : LstOk enc dec k0 k n el) (hf : ∀ x, (enc x).all D.isLit = true) : ∀ i, i < n → el i = enc (dec (el i)) := fun i hi => (h.2 i hi).flat (hf _)
/-- A part of a list, whatever its bounds. -/
def subL {T : Type} (z : T) (l : List T) (off n : Nat) : List T := (List.range n).map fun i => l.getD (off + i) z

structure RowIs {T : Type} (enc : T → List D) (z : T) (n : Nat) (el : Nat → List D) (l : List T) : Prop where
  len : n = l.length
  els : ∀ i, i < n → DsLe (el i) (enc (l.getD i z))

section
variable {T : Type} {enc : T → List D} {dec : List D → T} {z : T} {n m k k0 off : Nat} {el el' : Nat → List D} {l l' : List T}

theorem lst_length : (lst dec n el).length = n := by simp [lst]
theorem lst_getD {i : Nat} (h : i < n) : (lst dec n el).getD i z = dec (el i) := by
  unfold lst
  rw [List.getD_eq_getElem?_getD, List.getElem?_map, List.getElem?_range h]
  rfl
theorem RowIs.of_ok (h : LstOk enc dec k0 k n el) : RowIs enc z n el (lst dec n el) :=
  ⟨lst_length.symm, fun i hi => by rw [lst_getD hi]; exact h.2 i hi⟩
theorem RowIs.lst (hd : DecOk enc dec) (h : RowIs enc z n el l) : Go.Ax.lst dec n el = l := by
  refine List.ext_getElem (by rw [lst_length, h.len]) fun i h1 h2 => ?_
  have hi : i < n := by rw [lst_length] at h1; exact h1
  have := lst_getD (dec := dec) (el := el) (z := z) hi
  rw [List.getD_eq_getElem?_getD, List.getElem?_eq_getElem h1] at this
  have e : (Go.Ax.lst dec n el)[i] = dec (el i) := this
  rw [e, hd _ _ (h.els i hi), List.getD_eq_getElem?_getD, List.getElem?_eq_getElem h2]
  rfl
theorem RowIs.ok (hd : DecOk enc dec) (h : RowIs enc z n el l) : LstOk enc dec k k n el := ⟨fun _ => rfl, fun i hi => by rw [hd _ _ (h.els i hi)]; exact h.els i hi⟩
theorem RowIs.okN (hd : DecOk enc dec) (h : RowIs enc z 0 el l) : LstOk enc dec k0 k 0 el := ⟨fun h => by omega, fun i hi => by omega⟩

theorem RowIs.ls (enc : T → List D) (z : T) (l : List T) : RowIs enc z l.length (lsEl enc z l) l := ⟨rfl, fun _ _ => .refl _⟩
theorem RowIs.ls0 (enc : T → List D) (z : T) (l : List T) : RowIs enc z l.length (fun i => lsEl enc z l (0 + i)) l := ⟨rfl, fun i _ => .of_eq (by simp [lsEl])⟩
theorem RowIs.zero (h : RowIs enc z n el l) : RowIs enc z n (fun i => el (0 + i)) l := ⟨h.len, fun i hi => by rw [Nat.zero_add]; exact h.els i hi⟩
theorem RowIs.nil (enc : T → List D) (z : T) (el : Nat → List D) : RowIs enc z 0 el [] := ⟨rfl, fun i hi => by omega⟩
theorem RowIs.app (h : RowIs enc z n el l) (h' : RowIs enc z m el' l') : RowIs enc z (n + m) (fun i => bif Nat.blt i n then el i else el' (i - n)) (l ++ l') := by
  refine ⟨by rw [List.length_append, h.len, h'.len], fun i hi => ?_⟩
  by_cases hlt : i < n
  · have : Nat.blt i n = true := by simpa using hlt
    rw [this, cond_true, show (l ++ l').getD i z = l.getD i z by rw [List.getD_eq_getElem?_getD, List.getD_eq_getElem?_getD, List.getElem?_append_left (by rw [← h.len]; exact hlt)]]
    exact h.els i hlt
  · have : Nat.blt i n = false := by
      cases hb : Nat.blt i n with
      | false => rfl
      | true => rw [Nat.blt_eq] at hb; exact (hlt hb).elim
    rw [this, cond_false, show (l ++ l').getD i z = l'.getD (i - n) z by rw [List.getD_eq_getElem?_getD, List.getD_eq_getElem?_getD, List.getElem?_append_right (by rw [← h.len]; omega), h.len]]
    exact h'.els (i - n) (by omega)
theorem RowIs.set (h : RowIs enc z n el l) (j : Nat) (x : T) {cs : List D} (hc : cs = enc x) : RowIs enc z n (fun q => bif Nat.beq q j then cs else el q) (l.set j x) := by
  refine ⟨by rw [List.length_set]; exact h.len, fun i hi => ?_⟩
  by_cases hj : i = j
  · subst hj
    rw [show Nat.beq i i = true by simp, cond_true, hc, List.getD_eq_getElem?_getD, List.getElem?_set_self (by rw [← h.len]; exact hi)]
    exact .refl _
  · rw [beq_ne hj, cond_false, show (l.set j x).getD i z = l.getD i z by rw [List.getD_eq_getElem?_getD, List.getD_eq_getElem?_getD, List.getElem?_set_ne (fun e => hj e.symm)]]
    exact h.els i hi
theorem RowIs.setw (h : RowIs enc z n el l) (j : Nat) (x : T) {cs : List D} (hc : DsLe cs (enc x)) : RowIs enc z n (fun q => bif Nat.beq q j then cs else el q) (l.set j x) := by
  refine ⟨by rw [List.length_set]; exact h.len, fun i hi => ?_⟩
  by_cases hj : i = j
  · subst hj
    rw [show Nat.beq i i = true by simp, cond_true, List.getD_eq_getElem?_getD, List.getElem?_set_self (by rw [← h.len]; exact hi)]
    exact hc
  · rw [beq_ne hj, cond_false, show (l.set j x).getD i z = l.getD i z by rw [List.getD_eq_getElem?_getD, List.getD_eq_getElem?_getD, List.getElem?_set_ne (fun e => hj e.symm)]]
    exact h.els i hi
theorem subL_getD {i : Nat} (hi : i < n) : (subL z l off n).getD i z = l.getD (off + i) z := by
  unfold subL
  rw [List.getD_eq_getElem?_getD, List.getElem?_map, List.getElem?_range hi]
  rfl
theorem RowIs.sub (enc : T → List D) (z : T) (l : List T) (off n : Nat) : RowIs enc z n (fun i => lsEl enc z l (off + i)) (subL z l off n) :=
  ⟨by simp [subL], fun i hi => by rw [subL_getD hi]; exact .refl _⟩
theorem RowIs.rep (x : T) {cs : List D} (hc : cs = enc x) (n : Nat) : RowIs enc z n (fun _ => cs) (List.replicate n x) :=
  ⟨by simp, fun i hi => by rw [hc, List.getD_eq_getElem?_getD, List.getElem?_replicate, if_pos hi]; exact .refl _⟩
theorem RowIs.repw (x : T) {cs : List D} (hc : DsLe cs (enc x)) (n : Nat) : RowIs enc z n (fun _ => cs) (List.replicate n x) :=
  ⟨by simp, fun i hi => by rw [List.getD_eq_getElem?_getD, List.getElem?_replicate, if_pos hi]; exact hc⟩
/-- A list whose part is set to one value. -/
def clearL (z : T) (l : List T) (off n : Nat) : List T := (List.range l.length).map fun q => bif Nat.ble off q && Nat.blt q (off + n) then z else l.getD q z
theorem RowIs.clear (h : RowIs enc z n el l) {cs : List D} (hc : cs = enc z) (off m : Nat) : RowIs enc z n (fun q => bif Nat.ble off q && Nat.blt q (off + m) then cs else el q) (clearL z l off m) := by
  refine ⟨by simp [clearL, h.len], fun i hi => ?_⟩
  have hl : i < l.length := by rw [← h.len]; exact hi
  have : (clearL z l off m).getD i z = bif Nat.ble off i && Nat.blt i (off + m) then z else l.getD i z := by
    unfold clearL
    rw [List.getD_eq_getElem?_getD, List.getElem?_map, List.getElem?_range hl]
    rfl
  rw [this]
  cases hb : (Nat.ble off i && Nat.blt i (off + m)) with
  | true => exact .of_eq hc
  | false => exact h.els i hi
theorem RowIs.clearw (h : RowIs enc z n el l) {cs : List D} (hc : DsLe cs (enc z)) (off m : Nat) : RowIs enc z n (fun q => bif Nat.ble off q && Nat.blt q (off + m) then cs else el q) (clearL z l off m) := by
  refine ⟨by simp [clearL, h.len], fun i hi => ?_⟩
  have hl : i < l.length := by rw [← h.len]; exact hi
  have : (clearL z l off m).getD i z = bif Nat.ble off i && Nat.blt i (off + m) then z else l.getD i z := by
    unfold clearL
    rw [List.getD_eq_getElem?_getD, List.getElem?_map, List.getElem?_range hl]
    rfl
  rw [this]
  cases hb : (Nat.ble off i && Nat.blt i (off + m)) with
  | true => exact hc
  | false => exact h.els i hi
theorem len_app (h : n = l.length) (h' : m = l'.length) : n + m = (l ++ l').length := by rw [List.length_append, h, h']
theorem len_set {j : Nat} {x : T} (h : n = l.length) : n = (l.set j x).length := by rw [List.length_set, h]
theorem len_clear {j q : Nat} {x : T} (h : n = l.length) : n = (clearL x l j q).length := by rw [clearL]; simp [h]
theorem subL_len : n = (subL z l off n).length := by simp [subL]
theorem len_rep {x : T} : n = (List.replicate n x).length := by simp
/-- A list that is written out. -/
theorem RowIs.lit (l : List T) (h : ∀ i, i < l.length → DsLe (el i) (enc (l.getD i z))) : RowIs enc z l.length el l := ⟨rfl, h⟩
theorem RowIs.congr (h : RowIs enc z n el l) (hn : m = n) (he : ∀ i, i < n → el' i = el i) : RowIs enc z m el' l := ⟨hn.trans h.len, fun i hi => by rw [he i (hn ▸ hi)]; exact h.els i (hn ▸ hi)⟩

theorem subL_take (h : off + n ≤ l.length) : subL z l off n = (l.drop off).take n := by
  refine List.ext_getElem (by simp [subL]; omega) fun i h1 h2 => ?_
  have hi : i < n := by simpa [subL] using h1
  have := subL_getD (z := z) (l := l) (off := off) hi
  rw [List.getD_eq_getElem?_getD, List.getElem?_eq_getElem h1, List.getD_eq_getElem?_getD, List.getElem?_eq_getElem (show off + i < l.length by omega)] at this
  have e : (subL z l off n)[i] = l[off + i]'(by omega) := this
  rw [e, List.getElem_take, List.getElem_drop]
end

/-! ### Weaker states, slot by slot -/
section
variable {T : Type} {enc : T → List D} {z : T} {n k : Nat} {el : Nat → List D} {l : List T} {tm r : List (Nat × Slot)} {H R : Heap} {t o : Nat}

theorem VLe.sl (h : RowIs enc z n el l) : VLe (.c (.sl k n el)) (.c (.sl k l.length (lsEl enc z l))) := by
  rw [VLe]
  exact .row h.len (fun _ => rfl) h.els
theorem VLe.slk {k' : Nat} (hk : 0 < n → k = k') (h : RowIs enc z n el l) : VLe (.c (.sl k n el)) (.c (.sl k' l.length (lsEl enc z l))) := by
  rw [VLe]
  exact .row h.len hk h.els
theorem VLe.nilsl (enc : T → List D) (z : T) (k : Nat) : VLe (.c .nil) (.c (.sl k 0 (lsEl enc z []))) := by
  rw [VLe]; exact .nilsl _ _
theorem VLe.any {d : D} (h : d.isOne = true) : VLe (.c d) (.c .any) := by rw [VLe]; exact .any _ h
theorem VLe.dptr {cs cs' : List D} {j : Nat} (h : DsLe cs cs') : VLe (.dptr k cs j) (.dptr k cs' j) := by rw [VLe]; exact ⟨rfl, rfl, h⟩
theorem VLe.rown {k off n n' : Nat} (h : n = n') : VLe (.row o k off n) (.row o k off n') := by subst h; exact VLe.rfl' _
theorem VLe.agg {xs ys : List V} (h : VLes xs ys) : VLe (.agg xs) (.agg ys) := by rw [VLe]; exact h
theorem VLe.tup {xs ys : List V} (h : VLes xs ys) : VLe (.tup xs) (.tup ys) := by rw [VLe]; exact h
theorem VLes.cons {x y : V} {xs ys : List V} (h : VLe x y) (hs : VLes xs ys) : VLes (x :: xs) (y :: ys) := by rw [VLes]; exact ⟨h, hs⟩
theorem VLes.nil : VLes [] [] := by rw [VLes]; trivial
theorem VLe.of_eq {x y : V} (h : x = y) : VLe x y := h ▸ VLe.rfl' x

theorem tmLe.cons {v v' : V} (h : getT tm t = some ⟨[], v⟩) (hv : VLe v v') (hr : tmLe tm r) : tmLe tm ((t, ⟨[], v'⟩) :: r) := by
  rw [tmLe, h]; exact ⟨⟨rfl, rfl, hv⟩, hr⟩
theorem tmLe.nil : tmLe tm [] := by rw [tmLe]; trivial
theorem hpLe.row {ty n' : Nat} (h : Heap.get H o = some (.row ty k n el)) (hr : RowIs enc z n el l) (hs : hpLe H R) (hn : n' = l.length) : hpLe H ((o, some (.row ty k n' (lsEl enc z l))) :: R) := by
  subst hn
  rw [hpLe, h]; exact ⟨⟨rfl, rfl, hr.len, hr.els⟩, hs⟩
theorem DLe.ls {k' : Nat} (hk : 0 < n → k = k') (h : RowIs enc z n el l) : DLe (.sl k n el) (.sl k' l.length (lsEl enc z l)) := .row h.len hk h.els
theorem DLe.nils (enc : T → List D) (z : T) (k : Nat) : DLe .nil (.sl k 0 (lsEl enc z [])) := .nilsl _ _
/-- A cell that holds a list, as weak as may be. -/
theorem DLe.nil_or {d : D} {k n : Nat} {el : Nat → List D} (h : DLe d (.sl k n el)) : (d = .nil ∧ n = 0) ∨ ∃ k' el', d = .sl k' n el' ∧ ∀ i, i < n → DsLe (el' i) (el i) := by
  cases h with
  | refl => exact .inr ⟨_, _, rfl, fun _ _ => .refl _⟩
  | nilsl => exact .inl ⟨rfl, rfl⟩
  | sl k0 k n el0 el hk hl hc => exact .inr ⟨_, _, rfl, fun i hi => ⟨hl i hi, fun j d d' => hc i j d d' hi⟩⟩
theorem hpLe.box {cs cs' : List V} (h : Heap.get H o = some (.box cs)) (hv : VLes cs cs') (hs : hpLe H R) : hpLe H ((o, some (.box cs')) :: R) := by
  rw [hpLe, h]; exact ⟨hv, hs⟩
theorem hpLe.same {b : Ob} (h : Heap.get H o = some b) (hs : hpLe H R) : hpLe H ((o, some b) :: R) := by
  rw [hpLe, h]
  refine ⟨?_, hs⟩
  cases b with
  | box cs => exact VLes.rfl' cs
  | raw x => exact rfl
  | row t k n el => exact ⟨rfl, rfl, rfl, fun _ _ => .refl _⟩
theorem hpLe.nil : hpLe H [] := by rw [hpLe]; trivial
theorem Ent.of {σ σ' : St} (h1 : tmLe σ.tm σ'.tm) (h2 : hpLe σ.hp σ'.hp) (h3 : Nat.ble σ.nx σ'.nx = true) : Ent σ σ' := .le ⟨h1, h2, Nat.ble_eq.mp h3⟩
end

section
variable {P : Program} {N : Nat} {σ σ' : St}
theorem retK.intro {rs : List ResultVar} {out : Out} {v : V} (hv : resVs P σ rs = some v) (h : OutOk out σ.hp v) : retK P rs (OutOk out) .ret σ := by
  show (match resVs P σ rs with | some v => OutOk out σ.hp v | none => False)
  rw [hv]; exact h

/-- The function of a body that runs as an option says. -/
theorem meets_fun {f : FuncId} {fn : Func} {c : Code} (hf : P.funcs[f]? = some fn) (hb : fn.body = some c) (hn : (fn.name == "runtime.NumGoroutine") = false) {con : Con} {rs : List ResultVar} (hr : fn.results.toList = rs) {nt : Nat} (ht : fn.ntmps = nt)
    (h : ∀ vs p out, con vs = some (p, out) → (∀ q ∈ p, q) → ∃ vs', VLes vs vs' ∧ (Nat.ble vs'.length nt && Nat.ble nt 1000000) = true ∧ EvL P nt (items c) (retK P rs (OutOk out)) { tm := initT vs' 0, hp := [], nx := 0 }) : Meets P f con := by
  subst hr ht
  refine meets_pieces hf hb hn fun vs p out h1 h2 => ?_
  obtain ⟨vs', h3, h4, h5⟩ := h vs p out h1 h2
  rw [Bool.and_eq_true] at h4
  exact ⟨vs', h3, ⟨Nat.ble_eq.mp h4.1, Nat.ble_eq.mp h4.2⟩, .ofItems c h5⟩
end

/-! ### Helpers for printed proofs -/
def allEl {T : Type} (enc : T → List D) (el : Nat → List D) : Nat → List T → Prop
  | _, [] => True
  | i, x :: r => DsLe (el i) (enc x) ∧ allEl enc el (i + 1) r
theorem allEl_get {T : Type} {enc : T → List D} {z : T} {el : Nat → List D} : ∀ {l : List T} {i : Nat}, allEl enc el i l → ∀ j, j < l.length → DsLe (el (i + j)) (enc (l.getD j z))
  | [], _, _, j, h => by simp at h
  | x :: r, i, ha, 0, _ => ha.1
  | x :: r, i, ha, j + 1, h => by
    have := allEl_get (z := z) ha.2 j (by simpa using h)
    rw [show i + (j + 1) = i + 1 + j by omega]
    simpa using this
theorem RowIs.lits {T : Type} {enc : T → List D} {z : T} {el : Nat → List D} {l : List T} (h : allEl enc el 0 l) : RowIs enc z l.length el l :=
  ⟨rfl, fun i hi => by have := allEl_get (z := z) h i hi; rwa [Nat.zero_add] at this⟩

theorem W_gd2 {α : Type} {p q : Prop} [Decidable p] [Decidable q] {o : Option α} {Q : α → Prop} {X : Prop} (h : W (gd (p ∧ q) o) Q) (h1 : p ∧ q → W o Q → X) : p ∧ q ∧ X := by
  obtain ⟨⟨a, b⟩, c⟩ := W_gd h h1
  exact ⟨a, b, c⟩
theorem W_gd3 {α : Type} {p q r : Prop} [Decidable p] [Decidable q] [Decidable r] {o : Option α} {Q : α → Prop} {X : Prop} (h : W (gd (p ∧ q ∧ r) o) Q) (h1 : p ∧ q ∧ r → W o Q → X) : p ∧ q ∧ r ∧ X := by
  obtain ⟨⟨a, b, c⟩, d⟩ := W_gd h h1
  exact ⟨a, b, c, d⟩
/-- Room for n elements of b bytes. -/
def capB (n b : Nat) : Prop := n * b ≤ 140737488355328 ∧ n ≤ 140737488355328
instance (n b : Nat) : Decidable (capB n b) := inferInstanceAs (Decidable (_ ∧ _))
theorem allq {a : Prop} {l : List Prop} (h : ∀ q ∈ a :: l, q) : a ∧ ∀ q ∈ l, q := ⟨h a (by simp), fun q hq => h q (by simp [hq])⟩

section
variable {P : Program} {C : FuncId → Option CC} {N : Nat} {x y c : Code} {K : Exit → St → Prop} {σ : St}
/-- 'ev', shut. -/
structure EvP (P : Program) (C : FuncId → Option CC) (N : Nat) (c : Code) (K : Exit → St → Prop) (σ : St) : Prop where
  h : ev P C N c K σ
theorem EvP.of {X : Prop} (h : ev P C N c K σ = X) (x : X) : EvP P C N c K σ := ⟨h.mpr x⟩
theorem EvL.pieceD (hm : P.follows .mixedOrders = true) (hC : ∀ f con, C f = some con → MeetsC P f con) (ts : List Nat) (a m b : Nat) {l : List Code} (e : a + m = b)
    (h : EvP P C N (ofItems ((l.drop a).take m)) (cN ts (thenK (EvL P N (l.drop b) K) K)) σ) : EvL P N (l.drop a) K σ := by
  obtain ⟨h⟩ := h
  subst e
  have := EvL.piece hm hC ts ((l.drop a).take m) ((l.drop a).drop m) (K := K) (σ := σ) (by rw [List.drop_drop]; exact h)
  rwa [List.take_append_drop] at this
theorem EvL.pieceE (hm : P.follows .mixedOrders = true) (hC : ∀ f con, C f = some con → MeetsC P f con) (ts : List Nat) (a m : Nat) {l : List Code} (e : l.drop (a + m) = [])
    (h : EvP P C N (ofItems ((l.drop a).take m)) (cN ts K) σ) : EvL P N (l.drop a) K σ := by
  obtain ⟨h⟩ := h
  have hl : (l.drop a).take m = l.drop a := List.take_of_length_le (by
    have := List.drop_eq_nil_iff.1 e
    rw [List.length_drop]; omega)
  rw [hl] at h
  have hq := EvL.piece (l' := []) hm hC ts (l.drop a) (K := K) (σ := σ) (ev_mono _ (fun e σ hk => ?_) h)
  · rwa [List.append_nil] at hq
  · unfold cN at hk ⊢
    cases hc : canonNOk ts σ with
    | false => rw [hc] at hk; exact hk.elim
    | true =>
      rw [hc, cond_true] at hk
      rw [cond_true]
      obtain ⟨σ', h1, h2⟩ := hk
      cases e with
      | normal => exact ⟨σ', h1, σ', .refl _, h2⟩
      | exit id => exact ⟨σ', h1, h2⟩
      | goto l => exact ⟨σ', h1, h2⟩
      | ret => exact ⟨σ', h1, h2⟩
      | panic ch => exact ⟨σ', h1, h2⟩
      | outgrown => exact ⟨σ', h1, h2⟩
theorem EvL.at_ {l l' : List Code} (e : l = l') (h : EvL P N l' K σ) : EvL P N l K σ := e ▸ h
theorem EvL.end_ {l : List Code} (e : l = []) (h : K .normal σ) : EvL P N l K σ := by subst e; exact wK_self h
theorem EvL.cons_loop {r : List Code} {id : Nat} (h : EvOk P N (.loop x) (blockK id (thenK (EvL P N r K) K)) σ) : EvL P N (.block id (.loop x) :: r) K σ := EvOk.block h
theorem EvL.cons_ifs {o : Operand} {b : Bool} {r : List Code} (hb : opndV σ [] o = some (bl b)) (ht : b = true → EvL P N (items x) (thenK (EvL P N r K) K) σ) (hf : b = false → EvL P N (items y) (thenK (EvL P N r K) K) σ) : EvL P N (.cond o x y :: r) K σ :=
  EvOk.cond hb (fun h => .ofItems x (ht h)) (fun h => .ofItems y (hf h))
end
theorem W_loop {S R α : Type} {f : S → Option (S ⊕ R)} {s : S} {g : R → Option α} {Q : α → Prop} {Q' : R → Prop} (h : W ((fixL f s).bind g) Q) (hq : ∀ r, W (g r) Q → Q' r) : W (fixL f s) Q' := W_mono (W_bind' h) hq
theorem bif_W {α : Type} {b : Bool} {o o' : Option α} {Q : α → Prop} (h : W (bif b then o else o') Q) : (b = true → W o Q) ∧ (b = false → W o' Q) := by
  cases b with
  | true => exact ⟨fun _ => h, fun e => by cases e⟩
  | false => exact ⟨(fun e => by cases e), fun _ => h⟩

/-- One contract or another. -/
def orC (c c' : Con) : Con := fun vs => match c vs with | some r => some r | none => c' vs
theorem Meets.or {P : Program} {f : FuncId} {c c' : Con} (h : Meets P f c) (h' : Meets P f c') : Meets P f (orC c c') := by
  intro ok w xs vs p out h1 h2 h3 h4
  unfold orC at h3
  split at h3
  · next r hr => cases h3; exact h ok w xs vs p out h1 h2 hr h4
  · exact h' ok w xs vs p out h1 h2 h3 h4
end Go.Ax

/- Contracts of functions that change what they are handed. -/
namespace Go.Ax
open Go.RowKit

mutual
/-- Objects by other numbers. -/
def V.mp (f : Nat → Nat) : V → V
  | .c d => .c d
  | .agg vs => .agg (V.mps f vs)
  | .tup vs => .tup (V.mps f vs)
  | .ptr o k i j => .ptr (f o) k i j
  | .row o k off n => .row (f o) k off n
  | .dptr k cs j => .dptr k cs j
  | .fn g caps => .fn g (V.mps f caps)
def V.mps (f : Nat → Nat) : List V → List V
  | [] => []
  | v :: r => V.mp f v :: V.mps f r
end
def Ob.mp (f : Nat → Nat) : Ob → Ob
  | .box cs => .box (V.mps f cs)
  | .row t k n el => .row t k n el
  | .raw x => .raw x
mutual
/-- All data in it is scalar. -/
def V.sclr : V → Bool
  | .c d => d.scal
  | .agg vs => V.sclrs vs
  | .tup vs => V.sclrs vs
  | .ptr .. => true
  | .row .. => true
  | .dptr .. => false
  | .fn _ vs => V.sclrs vs
def V.sclrs : List V → Bool
  | [] => true
  | v :: r => V.sclr v && V.sclrs r
end
def obSc : Ob → Prop
  | .box cs => V.sclrs cs = true
  | .row _ _ n el => ∀ i, i < n → ∀ d ∈ el i, d.scal = true
  | .raw _ => True
def obRefs : Ob → List Nat
  | .box cs => V.refss cs
  | .row .. => []
  | .raw _ => []
mutual
/-- The rows that a value names. -/
def V.rrefs : V → List Nat
  | .agg vs => V.rrefss vs
  | .tup vs => V.rrefss vs
  | .row o _ _ _ => [o]
  | .fn _ caps => V.rrefss caps
  | _ => []
def V.rrefss : List V → List Nat
  | [] => []
  | v :: r => V.rrefs v ++ V.rrefss r
end
def obRrefs : Ob → List Nat
  | .box cs => V.rrefss cs
  | .row .. => []
  | .raw _ => []
/-- A value that leads to the object. -/
def ghostV (q : Nat) : Ob → V
  | .box cs => .ptr q cs.length 0 0
  | .row _ k n _ => .row q k 0 n
  | .raw _ => .ptr q 1 0 0
def sameLen : Ob → Ob → Prop
  | .box _, .box _ => True
  | .row _ _ n _, .row _ _ n' _ => n = n'
  | .raw _, .raw _ => True
  | _, _ => False
def ghostT (H : Heap) : List (Nat × Slot) := H.map fun x => (1000000 + x.1, match x.2 with | some b => ⟨[], ghostV x.1 b⟩ | none => ⟨[], .c .unk⟩)
/-- What the callee sees: what is handed over, by its numbers, or data. -/
def handL (os : List Nat) (H : Heap) : List Bool → List V → List V
  | _, [] => []
  | b :: fl, v :: r => (bif b then v.ren os else v.view H) :: handL os H fl r
  | [], v :: r => v.view H :: handL os H [] r
/-- A row, or a box that names no object. -/
def isFlat : Option Ob → Bool
  | some (.row ..) => true
  | some (.box cs) => (V.refss cs).isEmpty
  | _ => false
def flatR (H : Heap) (vs : List V) : Bool := (V.refss vs).all fun o => isFlat (H.get o)
/-- May it be seen as data? -/
def asData (os : List Nat) (H : Heap) (nr : Bool) (v : V) : Bool := bif nr then v.refs.isEmpty else flatR H [v] && v.refs.all fun o => !(memB o os)
/-- nr: no object is seen as data. -/
def handOk (os : List Nat) (H : Heap) (nr : Bool) : List Bool → List V → Bool
  | _, [] => true
  | b :: fl, v :: r => (bif b then v.refs.all (fun o => memB o os) else asData os H nr v) && handOk os H nr fl r
  | [], v :: r => asData os H nr v && handOk os H nr [] r
def obsOk (os : List Nat) (H : Heap) : Bool := os.all fun o => match Heap.get H o with | some b => obOk os b | none => false

def lookO : List (Nat × Nat) → Nat → Nat
  | [], _ => 0
  | (q', o) :: r, q => bif Nat.beq q' q then o else lookO r q
def invO : List (Nat × Nat) → Nat → Option Nat
  | [], _ => none
  | (q, o') :: r, o => bif Nat.beq o' o then some q else invO r o

/-- What a run leaves, as its caller sees it. -/
structure Left (os : List Nat) (nid : Nat) (H : Heap) (sc : Bool) (r : Res) (m : List (Nat × Nat)) (σ : St) (v : V) : Prop where
  inj : ∀ q q' o, (q, o) ∈ m → (q', o) ∈ m → q = q'
  fn : ∀ q o o', (q, o) ∈ m → (q, o') ∈ m → o = o'
  to : ∀ q o, (q, o) ∈ m → o ∈ os ∨ o = nid
  val : VLe (v.mp (lookO m)) r.val
  vrefs : ∀ q ∈ v.refs, q ∈ m.map (·.1)
  vrows : v.rrefs.all (fun q => isRow (Heap.get σ.hp q)) = true
  vsc : sc = true ∨ v.sclr = true
  has : ∀ q o, (q, o) ∈ m → ∃ ob, Heap.get σ.hp q = some ob
  obs : ∀ o ob', Heap.get r.eff o = some ob' → ∃ q ob, (q, o) ∈ m ∧ Heap.get σ.hp q = some ob ∧ ObLe (ob.mp (lookO m)) ob' ∧ (∀ p ∈ obRefs ob, p ∈ m.map (·.1)) ∧ (obRrefs ob).all (fun q => isRow (Heap.get σ.hp q)) = true ∧ (sc = true ∨ obSc ob)
  all : ∀ o ∈ os, o ∈ keysOf r.eff
  kill : ∀ o ∈ r.kill, o ∈ os
  keep : ∀ i o, os[i]? = some o → o ∈ r.kill ∨ ∃ q ob ob', (q, o) ∈ m ∧ Heap.get H o = some ob ∧ Heap.get σ.hp q = some ob' ∧ sameLen ob ob' ∧ getT σ.tm (1000000 + i) = some ⟨[], ghostV q ob⟩

def retM (P : Program) (rs : List ResultVar) (Q : St → V → Prop) : Exit → St → Prop
  | .ret, σ => (match resVs P σ rs with | some v => Q σ v | none => False)
  | .normal, σ => (match resVs P σ rs with | some v => Q σ v | none => False)
  | _, _ => False

section
variable {P : Program} {N : Nat} {B : Base} {σ σ' : St} {E E' : Env} {a : Act} {w w' : World} {H : Heap}

theorem mps_length (f : Nat → Nat) : ∀ vs : List V, (V.mps f vs).length = vs.length
  | [] => rfl
  | _ :: r => by simp [V.mps, mps_length f r]
theorem mps_get (f : Nat → Nat) : ∀ (vs : List V) (i : Nat), (V.mps f vs)[i]? = (vs[i]?).map (V.mp f)
  | [], i => by simp [V.mps]
  | v :: r, 0 => by simp [V.mps]
  | v :: r, i + 1 => by simp [V.mps, mps_get f r i]
theorem sclrs_get : ∀ {vs : List V} {i : Nat} {v : V}, V.sclrs vs = true → vs[i]? = some v → v.sclr = true
  | [], i, v, _, h => by simp at h
  | x :: r, 0, v, hs, h => by
    simp only [V.sclrs, Bool.and_eq_true] at hs
    simp at h; subst h; exact hs.1
  | x :: r, i + 1, v, hs, h => by
    simp only [V.sclrs, Bool.and_eq_true] at hs
    exact sclrs_get hs.2 (by simpa using h)

theorem rrefss_mem {o : Nat} : ∀ {vs : List V} {i : Nat} {v : V}, vs[i]? = some v → o ∈ v.rrefs → o ∈ V.rrefss vs
  | [], i, v, h, _ => by simp at h
  | x :: r, 0, v, h, ho => by simp at h; subst h; simp [V.rrefss, ho]
  | x :: r, i + 1, v, h, ho => by
    simp only [V.rrefss, List.mem_append]
    exact .inr (rrefss_mem (by simpa using h) ho)
mutual
theorem rrefs_refs : ∀ (v : V), ∀ q ∈ v.rrefs, q ∈ v.refs
  | .c _ => by simp [V.rrefs]
  | .agg vs => by simp only [V.rrefs, V.refs]; exact rrefss_refs vs
  | .tup vs => by simp only [V.rrefs, V.refs]; exact rrefss_refs vs
  | .ptr .. => by simp [V.rrefs]
  | .row .. => by simp [V.rrefs, V.refs]
  | .dptr .. => by simp [V.rrefs]
  | .fn _ vs => by simp only [V.rrefs, V.refs]; exact rrefss_refs vs
theorem rrefss_refs : ∀ (vs : List V), ∀ q ∈ V.rrefss vs, q ∈ V.refss vs
  | [] => by simp [V.rrefss]
  | v :: r => by
    intro q hq
    simp only [V.rrefss, V.refss, List.mem_append] at hq ⊢
    exact hq.imp (rrefs_refs v q) (rrefss_refs r q)
end
theorem RepV.ptr_inv {v : Value} {o k i j : Nat} (h : RepV E w v (.ptr o k i j)) : ∃ b, E.conc o = some b ∧ v = .pointer (some ⟨b, i * k + j, none⟩) := by
  generalize hd : V.ptr o k i j = d at h
  cases h with
  | ptr o' k' i' j' b h1 h2 h3 => cases hd; exact ⟨b, h2, rfl⟩
  | _ => cases hd
theorem RepV.row_inv {v : Value} {o k n : Nat} (h : RepV E w v (.row o k 0 n)) : ∃ (a : Option Addr) (c : Nat), v = .slice a n c ∧ ((a = none ∧ c = 0 ∧ E.conc o = none) ∨ ∃ b, E.conc o = some b ∧ a = some ⟨b, 0, none⟩ ∧ c = E.cap o) := by
  generalize hd : V.row o k 0 n = d at h
  cases h with
  | row o' k' off' n' a c hn hc hm hl ha h0 => cases hd; exact ⟨a, c, rfl, h0 rfl⟩
  | _ => cases hd
/-- Two environments agree on an object of other number. -/
def Same (E E' : Env) (f : Nat → Nat) (q : Nat) : Prop :=
  E'.live (f q) ∧ E'.conc (f q) = E.conc q ∧ E'.len (f q) = E.len q
def SameCap (E E' : Env) (f : Nat → Nat) (q : Nat) : Prop := E.conc q = none ∨ E'.cap (f q) = E.cap q

theorem RepV.mp {f : Nat → Nat} {v : Value} {d : V} (h : RepV E w v d) : (∀ q ∈ V.refs d, E.live q → Same E E' f q) → (∀ q ∈ V.rrefs d, E.live q → SameCap E E' f q) → ((∀ b, E.ok b → E'.ok b) ∨ d.sclr = true) → RepV E' w v (d.mp f) := by
  induction h with
  | c v d h =>
    intro _ _ hs
    rcases hs with hs | hs
    · exact .c v d (h.mono hs fun _ _ => rfl)
    · exact .c v d (repD_scal h hs)
  | agg vs ds hl h ih =>
    intro hr hr2 hs
    rw [V.mp]
    refine .agg vs _ (by rw [mps_length, hl]) fun i v d hv hd => ?_
    rw [mps_get] at hd
    cases hx : ds[i]? with
    | none => rw [hx] at hd; cases hd
    | some x => rw [hx] at hd; cases hd; exact ih i v x hv hx (fun o ho => hr o (refss_mem hx ho)) (fun o ho => hr2 o (rrefss_mem hx ho)) (hs.imp id fun hs => sclrs_get hs hx)
  | tup vs ds hl h ih =>
    intro hr hr2 hs
    rw [V.mp]
    refine .tup vs _ (by rw [mps_length, hl]) fun i v d hv hd => ?_
    rw [mps_get] at hd
    cases hx : ds[i]? with
    | none => rw [hx] at hd; cases hd
    | some x => rw [hx] at hd; cases hd; exact ih i v x hv hx (fun o ho => hr o (refss_mem hx ho)) (fun o ho => hr2 o (rrefss_mem hx ho)) (hs.imp id fun hs => sclrs_get hs hx)
  | ptr o k i j b h1 h2 h3 =>
    intro hr _ _
    obtain ⟨g1, g2, g3⟩ := hr o (by simp [V.refs]) h1
    rw [V.mp]
    exact .ptr _ k i j b g1 (g2.trans h2) (by rw [g3]; exact h3)
  | row o k off n a c hn hc hm hl ha h0 =>
    intro hr hr2 _
    obtain ⟨g1, g2, g3⟩ := hr o (by simp [V.refs]) hn
    have g4 := hr2 o (by simp [V.rrefs]) hn
    rw [V.mp]
    refine .row _ k off n a c g1 hc hm (by rw [g3]; exact hl) (by rw [g2]; exact ha) fun h => ?_
    rcases h0 h with h | ⟨b, h1, h2, h3⟩
    · exact .inl (by rw [g2]; exact h)
    · refine .inr ⟨b, by rw [g2]; exact h1, h2, ?_⟩
      rcases g4 with g4 | g4
      · rw [g4] at h1; cases h1
      · rw [g4]; exact h3
  | dptr k cs j ad u h1 h2 h3 h4 =>
    intro _ _ hs
    rcases hs with hs | hs
    · exact .dptr k cs j ad u (hs _ h1) h2 h3 fun i d hd => (h4 i d hd).mono hs fun _ _ => rfl
    · simp [V.sclr] at hs
  | fn g vs ds hl h ih =>
    intro hr hr2 hs
    rw [V.mp]
    refine .fn g vs _ (by rw [mps_length, hl]) fun i v d hv hd => ?_
    rw [mps_get] at hd
    cases hx : ds[i]? with
    | none => rw [hx] at hd; cases hd
    | some x => rw [hx] at hd; cases hd; exact ih i v x hv hx (fun o ho => hr o (refss_mem hx ho)) (fun o ho => hr2 o (rrefss_mem hx ho)) (hs.imp id fun hs => sclrs_get hs hx)

theorem ObAt.mp {f : Nat → Nat} {q : Nat} {ob : Ob} (h : ObAt E w q ob) (hq : Same E E' f q) (hqc : isRow (some ob) = true → SameCap E E' f q) (hr : ∀ p ∈ obRefs ob, E.live p → Same E E' f p) (hr2 : ∀ p ∈ obRrefs ob, E.live p → SameCap E E' f p) (hs : (∀ b, E.ok b → E'.ok b) ∨ obSc ob) : ObAt E' w (f q) (ob.mp f) := by
  obtain ⟨g1, g2, g3⟩ := hq
  cases ob with
  | box cs =>
    obtain ⟨e1, b, C, t, e2, e3, e4, e5⟩ := h
    refine ⟨g3.trans e1, b, C, t, g2.trans e2, e3, ?_, fun i v d hv hd => ?_⟩
    · rw [mps_length]; exact e4
    · rw [mps_get] at hd
      cases hx : cs[i]? with
      | none => rw [hx] at hd; cases hd
      | some x =>
        rw [hx] at hd; cases hd
        exact (e5 i v x hv hx).mp (fun p hp => hr p (refss_mem hx hp)) (fun p hp => hr2 p (rrefss_mem hx hp)) (hs.imp id fun hs => sclrs_get hs hx)
  | raw x =>
    obtain ⟨h1, b, h2, h3⟩ := h
    exact ⟨g3.trans h1, b, g2.trans h2, h3⟩
  | row t k n el =>
    obtain ⟨h1, h2⟩ := h
    refine ⟨g3.trans h1, ?_⟩
    rcases h2 with ⟨h2, h3⟩ | ⟨b, C, a1, a2, a3, a4, a5, a6, a7, a8⟩
    · exact .inl ⟨g2.trans h2, h3⟩
    · have hcap : E'.cap (f q) = E.cap q := by
        rcases hqc rfl with g4 | g4
        · rw [g4] at a1; cases a1
        · exact g4
      refine .inr ⟨b, C, g2.trans a1, a2, by rw [hcap]; exact a3, by rw [hcap]; exact a4, by rw [hcap]; exact a5, a6, a7, fun i j d u hi hd hu => ?_⟩
      have := a8 i j d u hi hd hu
      rcases hs with hs | hs
      · exact this.mono hs fun _ _ => rfl
      · exact repD_scal this (hs i hi d (List.mem_of_getElem? hd))

/-- An object stays; what it names may be forgotten. -/
theorem obAt_kill {kl : List Nat} {q : Nat} {ob ob' : Ob} (h : ObAt E w q ob) (hk : killObs kl (some ob) = some ob') (hc : E'.conc q = E.conc q ∧ E'.cap q = E.cap q ∧ E'.len q = E.len q) (hb : ∀ b, E.conc q = some b → w'.heap[b]? = w.heap[b]?)
    (hr : ∀ v d, RepV E w v d → RepV E' w' v (d.killAll kl)) (hd : ∀ v d, RepD E.ok w v d → RepD E'.ok w' v d) : ObAt E' w' q ob' := by
  obtain ⟨c1, c2, c3⟩ := hc
  cases ob with
  | box cs =>
    rw [killObs_box] at hk
    cases hk
    obtain ⟨hl, b, C, t, h1, h2, h3, h4⟩ := h
    refine ⟨c3.trans hl, b, C, t, c1.trans h1, (hb b h1).trans h2, by rw [List.length_map]; exact h3, fun i v d hv hx => ?_⟩
    rw [List.getElem?_map] at hx
    cases hy : cs[i]? with
    | none => rw [hy] at hx; cases hx
    | some y => rw [hy] at hx; cases hx; exact hr _ _ (h4 i v y hv hy)
  | raw x =>
    rw [killObs_raw] at hk
    cases hk
    obtain ⟨hl, b, h1, h2⟩ := h
    exact ⟨c3.trans hl, b, c1.trans h1, (hb b h1).trans h2⟩
  | row t k n el =>
    rw [killObs_row] at hk
    cases hk
    obtain ⟨hl, h⟩ := h
    refine ⟨c3.trans hl, ?_⟩
    rcases h with ⟨h1, h2⟩ | ⟨b, C, h1, h2, h3, h4, h5, h6, h7, h8⟩
    · exact .inl ⟨c1.trans h1, h2⟩
    · exact .inr ⟨b, C, c1.trans h1, (hb b h1).trans h2, by rw [c2]; exact h3, by rw [c2]; exact h4, by rw [c2]; exact h5, h6, h7, fun i j d u a b c => hd _ _ (h8 i j d u a b c)⟩

theorem get_restr : ∀ {os : List Nat} {H : Heap} {o : Nat} {b : Ob}, Heap.get (restr os H) o = some b → Heap.get H o = some b ∧ o ∈ os
  | [], H, o, b, h => by simp [restr, Heap.get] at h
  | p :: r, H, o, b, h => by
    unfold restr at h
    split at h
    · next b' hb' =>
      rw [Heap.get_cons] at h
      split at h
      · next e => subst e; cases h; exact ⟨hb', by simp⟩
      · have := get_restr h; exact ⟨this.1, List.mem_cons_of_mem _ this.2⟩
    · have := get_restr h; exact ⟨this.1, List.mem_cons_of_mem _ this.2⟩
theorem restr_get : ∀ {os : List Nat} {H : Heap} {o : Nat}, o ∈ os → Heap.get (restr os H) o = Heap.get H o
  | [], H, o, h => by simp at h
  | p :: r, H, o, h => by
    unfold restr
    by_cases e : p = o
    · subst e
      cases hb : Heap.get H p with
      | some b => simp only; rw [Heap.get_cons, if_pos rfl]
      | none =>
        simp only
        cases hg : Heap.get (restr r H) p with
        | none => rfl
        | some b => rw [(get_restr hg).1] at hb; cases hb
    · have ho : o ∈ r := by
        rcases List.mem_cons.1 h with h | h
        · exact (e h.symm).elim
        · exact h
      split
      · rw [Heap.get_cons, if_neg e]; exact restr_get ho
      · exact restr_get ho
theorem heapAt_restr (hH : HeapAt E w H) (os : List Nat) : HeapAt E w (restr os H) :=
  ⟨fun o ob h => hH.at_ o ob (get_restr h).1, hH.inj, hH.sep, hH.lt, hH.oklt⟩

theorem memB_iff {o : Nat} {l : List Nat} : memB o l = true ↔ o ∈ l := ⟨memB_mem, fun h => List.any_eq_true.2 ⟨o, h, by simp⟩⟩

/-- A value over rows that are not handed over, as data. -/
theorem view_apart {os : List Nat} {ok' : Nat → Prop} (hH : HeapAt E w H) (h1 : ∀ b, E.ok b → ok' b) (h2 : ∀ o b, o ∉ os → E.live o → E.conc o = some b → ok' b) {v : Value} {d : V} (h : RepV E w v d)
    (hr : flatR H [d] = true) (ho : d.refs.all (fun o => !(memB o os)) = true) : RepV (env0 ok') w v (d.view H) := by
  have hin : ∀ o ∈ d.refs, o ∉ os := by
    intro o hd hc
    have := List.all_eq_true.1 ho o hd
    rw [memB_iff.2 hc] at this; cases this
  have hrefs : V.refss [d] = d.refs := by simp [V.refss]
  have hrow : ∀ o ∈ d.refs, isFlat (H.get o) = true := by
    intro o hd
    unfold flatR at hr
    rw [hrefs] at hr
    exact List.all_eq_true.1 hr o hd
  -- a smaller heap and environment
  have hag : Agree H (restr d.refs H) d.refs := by
    refine ⟨fun o ho => (restr_get ho).symm, fun o ho cs hb q hq => ?_⟩
    have := hrow o ho
    rw [hb] at this
    simp only [isFlat, List.isEmpty_iff] at this
    rw [this] at hq; cases hq
  rw [view_agree d hag]
  have hv := h.only (os := d.refs) fun o h => h
  have hH1 : HeapAt { E with live := fun o => E.live o ∧ o ∈ d.refs } w (restr d.refs H) := by
    refine ⟨fun o ob hg => ?_, fun o o' b a b' => hH.inj o o' b a.1 b'.1, fun o b a => hH.sep o b a.1, fun o b a => hH.lt o b a.1, hH.oklt⟩
    obtain ⟨g1, g2⟩ := get_restr hg
    obtain ⟨l1, l2⟩ := hH.at_ o ob g1
    refine ⟨⟨l1, g2⟩, ?_⟩
    have := hrow o g2
    rw [g1] at this
    cases ob with
    | box cs =>
      simp only [isFlat, List.isEmpty_iff] at this
      obtain ⟨k1, b, C, t, k2, k3, k4⟩ := l2
      exact ⟨k1, b, C, t, k2, k3, k4.1, fun i v' d' hv' hd' => (k4.2 i v' d' hv' hd').only (os := d.refs) fun o ho => by
        have := refss_mem hd' ho
        rw [‹V.refss cs = []›] at this; cases this⟩
    | raw x => cases this
    | row t k n el => exact l2
  exact view_rep hH1 (ok' := ok') h1 hv (.inl fun q b hq hb => h2 q b (hin q hq.2) hq.1 hb)

theorem handL_length (os : List Nat) (H : Heap) : ∀ (fl : List Bool) (vs : List V), (handL os H fl vs).length = vs.length
  | [], [] => rfl
  | _ :: _, [] => rfl
  | b :: fl, v :: r => by simp [handL, handL_length os H fl r]
  | [], v :: r => by simp [handL, handL_length os H [] r]

/-- The environment that a callee sees. -/
def Env.hand (E : Env) (os : List Nat) (nr : Bool) : Env := { E.ren os with ok := fun b => E.ok b ∨ (nr = false ∧ ∃ o, o ∉ os ∧ E.live o ∧ E.conc o = some b) }

theorem RepV.hand {os : List Nat} {nr : Bool} {v : Value} {d : V} (h : RepV (E.ren os) w v d) : RepV (E.hand os nr) w v d :=
  h.mono (E := E.ren os) (E' := E.hand os nr) (kl := []) (fun _ (h : E.ok _) => Or.inl h) (fun _ _ => rfl) (fun _ h => h) (fun _ _ _ => ⟨rfl, rfl, rfl⟩) (clean_nil d)

theorem data_rep {os : List Nat} {nr : Bool} (hH : HeapAt E w H) {x : Value} {v : V} (h : RepV E w x v) (hk : asData os H nr v = true) : RepV (E.hand os nr) w x (v.view H) := by
  unfold asData at hk
  cases nr with
  | true =>
    simp only [cond_true, List.isEmpty_iff] at hk
    exact env0_mono (E' := E.hand os true) (fun b (h : E.ok b) => Or.inl h) (view_rep hH (ok' := E.ok) (fun b h => h) h (.inr hk))
  | false =>
    simp only [cond_false, Bool.and_eq_true] at hk
    have := view_apart (os := os) (ok' := (E.hand os false).ok) hH (fun b h => .inl h) (fun o b h1 h2 h3 => .inr ⟨rfl, o, h1, h2, h3⟩) h hk.1 hk.2
    exact env0_mono (E' := E.hand os false) (fun b h => h) this

theorem hand_rep {os : List Nat} {nr : Bool} (hH : HeapAt E w H) : ∀ (fl : List Bool) (xs : List Value) (args : List V), RepL E w xs args → handOk os H nr fl args = true → RepL (E.hand os nr) w xs (handL os H fl args)
  | fl, xs, [], hx, _ => by
    have : handL os H fl [] = [] := by cases fl <;> rfl
    rw [this]
    exact ⟨hx.1, fun i v d _ hd => by simp at hd⟩
  | b :: fl, [], v :: r, hx, _ => by have := hx.1; simp at this
  | b :: fl, x :: xs, v :: r, hx, hk => by
    simp only [handOk, Bool.and_eq_true] at hk
    have ih := hand_rep hH fl xs r ⟨by simpa using hx.1, fun i v d hv hd => hx.2 (i + 1) v d (by simpa using hv) (by simpa using hd)⟩ hk.2
    refine ⟨by simpa [handL] using ih.1, fun i v' d hv hd => ?_⟩
    match i with
    | 0 =>
      simp [handL] at hv hd
      subst hv hd
      have h0 := hx.2 0 x v rfl rfl
      cases b with
      | true =>
        simp only [cond_true] at hk ⊢
        exact (h0.ren fun o ho => memB_mem (List.all_eq_true.1 hk.1 o ho)).hand
      | false =>
        simp only [cond_false] at hk ⊢
        exact data_rep hH h0 hk.1
    | i + 1 => exact ih.2 i v' d (by simpa using hv) (by simpa [handL] using hd)
  | [], [], v :: r, hx, _ => by have := hx.1; simp at this
  | [], x :: xs, v :: r, hx, hk => by
    simp only [handOk, Bool.and_eq_true] at hk
    have ih := hand_rep hH [] xs r ⟨by simpa using hx.1, fun i v d hv hd => hx.2 (i + 1) v d (by simpa using hv) (by simpa using hd)⟩ hk.2
    refine ⟨by simpa [handL] using ih.1, fun i v' d hv hd => ?_⟩
    match i with
    | 0 =>
      simp [handL] at hv hd
      subst hv hd
      exact data_rep hH (hx.2 0 x v rfl rfl) hk.1
    | i + 1 => exact ih.2 i v' d (by simpa using hv) (by simpa [handL] using hd)

end
end Go.Ax

/- A function that is handed objects meets its contract. -/
namespace Go.Ax
open Go.RowKit

section
variable {P : Program} {N : Nat} {B : Base} {σ σ' : St} {E E' Ec : Env} {a : Act} {w w' : World} {H : Heap} {os : List Nat} {nr : Bool}

theorem getT_append : ∀ (A B : List (Nat × Slot)) (t : Nat), getT (A ++ B) t = match getT A t with | some s => some s | none => getT B t
  | [], B, t => rfl
  | (q, x) :: A, B, t => by
    rw [List.cons_append, getT_cons, getT_cons]
    split
    · rfl
    · exact getT_append A B t

theorem getT_ghostT : ∀ (H : Heap) (t : Nat) (s : Slot), getT (ghostT H) t = some s → ∃ q, t = 1000000 + q ∧ ((∃ ob, Heap.get H q = some ob ∧ s = ⟨[], ghostV q ob⟩) ∨ s = ⟨[], .c .unk⟩)
  | [], t, s, h => by simp [ghostT, getT] at h
  | (p, b) :: H, t, s, h => by
    unfold ghostT at h
    rw [List.map_cons, getT_cons] at h
    split at h
    · next e =>
      cases h
      refine ⟨p, e.symm, ?_⟩
      cases b with
      | none => exact .inr rfl
      | some b => exact .inl ⟨b, by rw [Heap.get_cons, if_pos rfl], rfl⟩
    · next e =>
      obtain ⟨q, h1, h2⟩ := getT_ghostT H t s h
      refine ⟨q, h1, h2.imp (fun ⟨ob, g1, g2⟩ => ⟨ob, ?_, g2⟩) id⟩
      rw [Heap.get_cons, if_neg (fun e' => e (by rw [e', h1]))]
      exact g1

theorem ghostV_ren (q : Nat) (ob : Ob) : ghostV q (ob.ren os) = ghostV q ob := by
  cases ob with
  | box cs => simp [ghostV, Ob.ren, rens_length]
  | row t k n el => rfl
  | raw x => rfl

/-- Some value leads to each object. -/
theorem ghost_rep {i o : Nat} {ob : Ob} (hi : os[i]? = some o) (hl : E.live o) (h : ObAt E w o ob) : ∃ u, RepV (E.hand os nr) w u (ghostV i ob) := by
  have hlive : (E.hand os nr).live i := ⟨o, hi, hl⟩
  have hconc : (E.hand os nr).conc i = E.conc o := by simp [Env.hand, Env.ren, hi]
  have hcap : (E.hand os nr).cap i = E.cap o := by simp [Env.hand, Env.ren, hi]
  have hlen : (E.hand os nr).len i = E.len o := by simp [Env.hand, Env.ren, hi]
  cases ob with
  | box cs =>
    obtain ⟨h1, b, C, t, h2, h3, h4⟩ := h
    exact ⟨_, .ptr i cs.length 0 0 b hlive (hconc.trans h2) (by rw [hlen, h1]; exact Nat.zero_lt_one)⟩
  | raw x =>
    obtain ⟨h1, b, h2, h3⟩ := h
    exact ⟨_, .ptr i 1 0 0 b hlive (hconc.trans h2) (by rw [hlen, h1]; exact Nat.zero_lt_one)⟩
  | row t k n el =>
    obtain ⟨h1, h2⟩ := h
    rcases h2 with ⟨h2, h3⟩ | ⟨b, C, g1, g2, g3, g4, g5, _⟩
    · subst h3
      exact ⟨.slice none 0 0, .row i k 0 0 none 0 hlive (Nat.le_refl _) (by simp [maxLen]) (by rw [hlen, h1]; omega) (fun h => by omega) fun _ => .inl ⟨rfl, rfl, hconc.trans h2⟩⟩
    · exact ⟨.slice (some ⟨b, 0, none⟩) n (E.cap o), .row i k 0 n _ _ hlive g4 g5 (by rw [hlen, h1]; omega) (fun _ => ⟨b, hconc.trans g1, by simp⟩) fun _ => .inr ⟨b, hconc.trans g1, rfl, hcap.symm⟩⟩

/-- The start of a call that is handed objects. -/
theorem sim_hand (hH : HeapAt E w H) (hn : nodupB os = true) (hb : obsOk os H = true) {xs : List Value} {vs : List V} (hx : RepL (E.hand os nr) w xs vs) (hN : vs.length ≤ N) (hsm : N ≤ 1000000) :
    ∃ gh : Nat → Value, (∀ i o ob, os[i]? = some o → Heap.get H o = some ob → RepV (E.hand os nr) w (gh (1000000 + i)) (ghostV i ob)) ∧
      Sim N ⟨w, (E.hand os nr).ok, fun b => ∃ o ∈ os, E.conc o = some b, gh⟩ { tm := initT vs 0 ++ ghostT (renH H os 0 os), hp := renH H os 0 os, nx := os.length } (E.hand os nr) { tmps := xs.toArray ++ Array.replicate (N - xs.toArray.size) undef, defers := [] } w := by
  have hob : ∀ o ∈ os, ∃ b, Heap.get H o = some b ∧ obOk os b = true := by
    intro o ho
    have := List.all_eq_true.1 hb o ho
    cases hg : Heap.get H o with
    | none => rw [hg] at this; cases this
    | some b => rw [hg] at this; exact ⟨b, rfl, this⟩
  have hex : ∀ t, ∃ u, ∀ i o ob, t = 1000000 + i → os[i]? = some o → Heap.get H o = some ob → RepV (E.hand os nr) w u (ghostV i ob) := by
    intro t
    cases ho : os[t - 1000000]? with
    | none => exact ⟨undef, fun i o ob e h _ => by subst e; rw [Nat.add_sub_cancel_left] at ho; rw [ho] at h; cases h⟩
    | some o =>
      obtain ⟨b, hg, _⟩ := hob o (List.mem_of_getElem? ho)
      obtain ⟨l1, l2⟩ := hH.at_ o b hg
      obtain ⟨u, hu⟩ := ghost_rep (nr := nr) ho l1 l2
      refine ⟨u, fun i o' ob e h1 h2 => ?_⟩
      subst e
      rw [Nat.add_sub_cancel_left] at ho hu
      rw [ho] at h1; cases h1
      rw [hg] at h2; cases h2
      exact hu
  have hgh : ∀ i o ob, os[i]? = some o → Heap.get H o = some ob → RepV (E.hand os nr) w (Classical.choose (hex (1000000 + i))) (ghostV i ob) := fun i o ob h1 h2 => Classical.choose_spec (hex (1000000 + i)) i o ob rfl h1 h2
  refine ⟨fun t => Classical.choose (hex t), hgh, ?_⟩
  have hl := hx.1
  have hE : ∀ q o, os[q]? = some o → (E.hand os nr).conc q = E.conc o := fun q o hq => by simp [Env.hand, Env.ren, hq]
  refine ⟨?_, hsm, rfl, fun q hq h => ?_, ⟨fun q ob ho => ?_, fun q q' b hq hq' hb hb' => ?_, fun q b hq hb => ?_, fun q b hq hb => ?_, fun b h => ?_⟩, fun t s hg => ?_, .refl _ _ _, fun q b hq hb => ?_, fun b h => .inl h⟩
  · simp; omega
  · obtain ⟨o, ho, _⟩ := h
    have := (List.getElem?_eq_some_iff.1 ho).1
    have hq' : os.length ≤ q := hq
    omega
  · obtain ⟨o, b', g1, g2, g3, rfl⟩ := renH_get H os os 0 q ob ho
    have g1' : os[q]? = some o := by simpa using g1
    obtain ⟨l1, l2⟩ := hH.at_ o b' g3
    obtain ⟨b2, k1, k2⟩ := hob o (List.mem_of_getElem? g1')
    rw [g3] at k1; cases k1
    refine ⟨⟨o, g1', l1⟩, ?_⟩
    have := l2.ren (os := os) g1' k2
    exact obAt_mono (E' := E.hand os nr) this ⟨rfl, rfl, rfl⟩ (fun _ _ => rfl) (fun v d h => h.hand) (fun v d h => h.mono (fun b (h : E.ok b) => Or.inl h) fun _ _ => rfl)
  · obtain ⟨o, ho, l⟩ := hq
    obtain ⟨o', ho', l'⟩ := hq'
    rw [hE q o ho] at hb
    rw [hE q' o' ho'] at hb'
    have := hH.inj o o' b l l' hb hb'
    subst this
    exact nodupB_inj hn q q' o ho ho'
  · obtain ⟨o, ho, l⟩ := hq
    rw [hE q o ho] at hb
    rintro (h | ⟨_, o', h1, h2, h3⟩)
    · exact hH.sep o b l hb h
    · have := hH.inj o o' b l h2 hb h3
      subst this
      exact h1 (List.mem_of_getElem? ho)
  · obtain ⟨o, ho, l⟩ := hq
    rw [hE q o ho] at hb
    exact hH.lt o b l hb
  · rcases h with h | ⟨_, o, _, h2, h3⟩
    · exact hH.oklt b h
    · exact hH.lt o b h2 h3
  · rw [getT_append] at hg
    cases hi : getT (initT vs 0) t with
    | some s' =>
      rw [hi] at hg
      cases hg
      obtain ⟨v, _, h2, rfl⟩ := getT_initT vs 0 t s hi
      rw [Nat.sub_zero] at h2
      have hlt : t < xs.length := by rw [hl]; exact (List.getElem?_eq_some_iff.1 h2).1
      have hget : (xs.toArray ++ Array.replicate (N - xs.toArray.size) undef).getD t undef = xs[t] := by
        rw [Array.getD_eq_getD_getElem?, Array.getElem?_append_left (by simpa using hlt)]
        simp [hlt]
      refine ⟨fun _ => ?_, fun _ h => by simp [holds] at h⟩
      rw [valAt_low (by omega)]
      simp only
      rw [hget]
      exact hx.2 t _ v (List.getElem?_eq_getElem hlt) h2
    | none =>
      rw [hi] at hg
      obtain ⟨q, rfl, hs⟩ := getT_ghostT _ t s hg
      rcases hs with ⟨ob, g1, rfl⟩ | rfl
      · obtain ⟨o, b', k1, k2, k3, rfl⟩ := renH_get H os os 0 q ob g1
        refine ⟨fun _ => ?_, fun _ h => by simp [holds] at h⟩
        have : valAt (⟨w, (E.hand os nr).ok, fun b => ∃ o ∈ os, E.conc o = some b, fun t => Classical.choose (hex t)⟩ : Base) { tmps := xs.toArray ++ Array.replicate (N - xs.toArray.size) undef, defers := [] } (1000000 + q) = Classical.choose (hex (1000000 + q)) := if_neg (by omega)
        rw [this, ghostV_ren]
        exact hgh q o b' (by simpa using k1) k3
      · exact ⟨fun _ => .c _ _ (.unk _), fun _ h => by simp [holds] at h⟩
  · obtain ⟨o, ho, l⟩ := hq
    rw [hE q o ho] at hb
    exact .inr ⟨o, List.mem_of_getElem? ho, hb⟩

theorem lookO_mem : ∀ {m : List (Nat × Nat)} {q : Nat}, q ∈ m.map (·.1) → (q, lookO m q) ∈ m
  | [], q, h => by simp at h
  | (p, o) :: m, q, h => by
    unfold lookO
    cases hb : Nat.beq p q with
    | true => rw [Nat.eq_of_beq_eq_true hb]; simp
    | false =>
      have hne : p ≠ q := fun e => by subst e; simp at hb
      rw [cond_false]
      rw [List.map_cons, List.mem_cons] at h
      rcases h with h | h
      · exact (hne h.symm).elim
      · exact List.mem_cons_of_mem _ (lookO_mem h)
theorem invO_mem : ∀ {m : List (Nat × Nat)} {q o : Nat}, invO m o = some q → (q, o) ∈ m
  | [], q, o, h => by simp [invO] at h
  | (p, o') :: m, q, o, h => by
    unfold invO at h
    cases hb : Nat.beq o' o with
    | true => rw [hb, cond_true] at h; cases h; rw [Nat.eq_of_beq_eq_true hb]; simp
    | false => rw [hb, cond_false] at h; exact List.mem_cons_of_mem _ (invO_mem h)
theorem invO_none : ∀ {m : List (Nat × Nat)} {q o : Nat}, invO m o = none → (q, o) ∉ m
  | [], q, o, _ => by simp
  | (p, o') :: m, q, o, h => by
    unfold invO at h
    cases hb : Nat.beq o' o with
    | true => rw [hb, cond_true] at h; cases h
    | false =>
      rw [hb, cond_false] at h
      intro hm
      rcases List.mem_cons.1 hm with hm | hm
      · cases hm; simp at hb
      · exact invO_none h hm

/-- The environment behind the call. -/
noncomputable def Env.back (E Ec : Env) (w : World) (os : List Nat) (nid : Nat) (kl : List Nat) (m : List (Nat × Nat)) : Env where
  conc o := match invO m o with | some q => Ec.conc q | none => bif memB o os then none else E.conc o
  cap o := match invO m o with | some q => (bif memB o os && !(memB o kl) then E.cap o else Ec.cap q) | none => E.cap o
  len o := match invO m o with | some q => Ec.len q | none => E.len o
  live o := E.live o ∨ (o = nid ∧ ∃ q, (q, nid) ∈ m)
  ok b := E.ok b ∨ ((w.heap.size ≤ b ∨ ∃ o ∈ os, E.conc o = some b) ∧ Ec.ok b)

theorem memB_false {o : Nat} {l : List Nat} (h : o ∉ l) : memB o l = false := by
  cases hb : memB o l with
  | false => rfl
  | true => exact (h (memB_mem hb)).elim

theorem left_post {H0 : Heap} (hH0 : HeapAt E w H0) {gh : Nat → Value} {r : Res} {nid : Nat} {m : List (Nat × Nat)} {v : V} {u : Value} (hH : HeapAt E w H) (hf : ¬ E.live nid) (hn : nodupB os = true) (hos : ∀ o ∈ os, ∃ b, Heap.get H o = some b)
    (hgh : ∀ i o ob, os[i]? = some o → Heap.get H o = some ob → RepV (E.hand os nr) w (gh (1000000 + i)) (ghostV i ob))
    (hs : Sim N ⟨w, (E.hand os nr).ok, fun b => ∃ o ∈ os, E.conc o = some b, gh⟩ σ Ec a w') (hu : RepV Ec w' u v) (hl : Left os nid H nr r m σ v) :
    Post E w H0 nid r (E.back Ec w os nid r.kill m) w' u := by
  have hlive : ∀ o ∈ os, E.live o := fun o ho => by
    obtain ⟨b, hb⟩ := hos o ho
    exact (hH.at_ o b hb).1
  have hnid : nid ∉ os := fun h => hf (hlive nid h)
  have inv : ∀ q o, (q, o) ∈ m → invO m o = some q := by
    intro q o h
    cases hi : invO m o with
    | none => exact (invO_none hi h).elim
    | some q' => rw [hl.inj q q' o h (invO_mem hi)]
  have look : ∀ q o, (q, o) ∈ m → lookO m q = o := fun q o h => hl.fn q _ o (lookO_mem (List.mem_map.2 ⟨_, h, rfl⟩)) h
  have clive : ∀ q o, (q, o) ∈ m → Ec.live q := fun q o h => by
    obtain ⟨ob, hob⟩ := hl.has q o h
    exact (hs.heap.at_ q ob hob).1
  have out : ∀ o, E.live o → o ∉ os → invO m o = none := by
    intro o h1 h2
    cases hi : invO m o with
    | none => rfl
    | some q =>
      rcases hl.to q o (invO_mem hi) with h | h
      · exact (h2 h).elim
      · exact (hf (h ▸ h1)).elim
  -- what is kept lies where it lay
  have kept : ∀ o ∈ os, o ∉ r.kill → ∃ q, (q, o) ∈ m ∧ Ec.conc q = E.conc o ∧ (isRow (Heap.get σ.hp q) = true → E.conc o = none ∨ Ec.cap q = E.cap o) ∧ Ec.len q = E.len o := by
    intro o ho hk
    obtain ⟨i, hi⟩ := List.getElem?_of_mem ho
    rcases hl.keep i o hi with h | ⟨q, ob, ob', h1, h2, h3, h4, h5⟩
    · exact (hk h).elim
    refine ⟨q, h1, ?_⟩
    have g0 := hgh i o ob hi h2
    have g1 := (hs.slots _ _ h5).1 rfl
    have hv : valAt (⟨w, (E.hand os nr).ok, fun b => ∃ o ∈ os, E.conc o = some b, gh⟩ : Base) a (1000000 + i) = gh (1000000 + i) := if_neg (by omega)
    rw [hv] at g1
    have hconc : (E.hand os nr).conc i = E.conc o := by simp [Env.hand, Env.ren, hi]
    have hcap : (E.hand os nr).cap i = E.cap o := by simp [Env.hand, Env.ren, hi]
    have l0 := (hH.at_ o ob h2).2
    have l1 := (hs.heap.at_ q ob' h3).2
    cases ob with
    | box cs =>
      cases ob' with
      | row t k n el => exact h4.elim
      | raw x => exact h4.elim
      | box cs' =>
        simp only [ghostV] at g0 g1
        obtain ⟨b, a2, e0⟩ := g0.ptr_inv
        obtain ⟨b', b2, e1⟩ := g1.ptr_inv
        rw [e0] at e1
        have eb : b = b' := by
          have := congrArg (fun v : Value => match v with | .pointer (some a) => a.block | _ => 0) e1
          exact this
        subst eb
        refine ⟨?_, ?_, ?_⟩
        · rw [b2, ← hconc, a2]
        · rw [h3]; intro h; cases h
        · rw [l0.1, l1.1]
    | raw x =>
      cases ob' with
      | row t k n el => exact h4.elim
      | box cs' => exact h4.elim
      | raw y =>
        simp only [ghostV] at g0 g1
        obtain ⟨b, a2, e0⟩ := g0.ptr_inv
        obtain ⟨b', b2, e1⟩ := g1.ptr_inv
        rw [e0] at e1
        have eb : b = b' := by
          have := congrArg (fun v : Value => match v with | .pointer (some a) => a.block | _ => 0) e1
          exact this
        subst eb
        refine ⟨?_, ?_, ?_⟩
        · rw [b2, ← hconc, a2]
        · rw [h3]; intro h; cases h
        · rw [l0.1, l1.1]
    | row t k n el =>
      cases ob' with
      | raw x => exact h4.elim
      | box cs' => exact h4.elim
      | row t' k' n' el' =>
        have hnn : n = n' := h4
        subst hnn
        simp only [ghostV] at g0 g1
        obtain ⟨x, c, e0, h0⟩ := g0.row_inv
        obtain ⟨x', c', e1, h0'⟩ := g1.row_inv
        rw [e0] at e1
        cases e1
        refine ⟨?_, fun _ => ?_, by rw [l0.1, l1.1]⟩
        · rcases h0 with ⟨p1, p2, p3⟩ | ⟨b, p1, p2, p3⟩ <;> rcases h0' with ⟨q1, q2, q3⟩ | ⟨b', q1, q2, q3⟩
          · rw [q3, ← hconc, p3]
          · rw [p1] at q2; cases q2
          · rw [q1] at p2; cases p2
          · rw [p2] at q2; cases q2
            rw [q1, ← hconc, p1]
        · rcases h0 with ⟨p1, p2, p3⟩ | ⟨b, p1, p2, p3⟩ <;> rcases h0' with ⟨q1, q2, q3⟩ | ⟨b', q1, q2, q3⟩
          · left; rw [← hconc, p3]
          · rw [p1] at q2; cases q2
          · rw [q1] at p2; cases p2
          · right; rw [← q3, p3, hcap]
  -- the two environments
  have same : ∀ q o, (q, o) ∈ m → Same Ec (E.back Ec w os nid r.kill m) (lookO m) q := by
    intro q o h
    unfold Same
    rw [look q o h]
    refine ⟨?_, by simp [Env.back, inv q o h], by simp [Env.back, inv q o h]⟩
    rcases hl.to q o h with h1 | h1
    · exact .inl (hlive o h1)
    · subst h1; exact .inr ⟨rfl, q, h⟩
  have samecap : ∀ q o, (q, o) ∈ m → isRow (Heap.get σ.hp q) = true → SameCap Ec (E.back Ec w os nid r.kill m) (lookO m) q := by
    intro q o h hr
    unfold SameCap
    rw [look q o h]
    simp only [Env.back, inv q o h]
    cases hb : memB o os && !(memB o r.kill) with
    | false => right; rfl
    | true =>
      rw [Bool.and_eq_true] at hb
      have h1 := memB_mem hb.1
      have h2 : o ∉ r.kill := fun hk => by rw [memB_iff.2 hk] at hb; simp at hb
      obtain ⟨q', a1, a2, a3, a4⟩ := kept o h1 h2
      have := hl.inj q q' o h a1
      subst this
      rcases a3 hr with a3 | a3
      · left; rw [a2, a3]
      · right; rw [cond_true, a3]
  have mem1 : ∀ q, q ∈ m.map (·.1) → ∃ o, (q, o) ∈ m := by
    intro q h
    obtain ⟨⟨q', o⟩, h1, h2⟩ := List.mem_map.1 h
    subst h2
    exact ⟨o, h1⟩
  have hok2 : nr = true → ∀ b, Ec.ok b → (E.back Ec w os nid r.kill m).ok b := by
    intro h b hb
    subst h
    rcases hs.okold b hb with (h1 | ⟨h1, _⟩) | h1
    · exact .inl h1
    · cases h1
    · exact .inr ⟨h1, hb⟩
  have rrow : ∀ l : List Nat, l.all (fun q => isRow (Heap.get σ.hp q)) = true → ∀ q ∈ l, isRow (Heap.get σ.hp q) = true := fun l h => List.all_eq_true.1 h
  have rsub : ∀ v : V, ∀ q ∈ v.rrefs, q ∈ v.refs := rrefs_refs
  have hst : Step E w r.kill (E.back Ec w os nid r.kill m) w' := by
    refine ⟨hs.base.os, hs.base.tape, hs.base.output, hs.base.size, fun o h => .inl h, fun b hb hno => ?_, fun b h => .inl h, fun b h => h.imp id fun h => h.1.imp id fun ⟨o, h1, h2⟩ => ⟨o, hlive o h1, h2⟩, fun o hlo hk => ?_, fun o b hlo hc => ?_⟩
    · exact hs.base.block b hb fun ⟨o, ho, h⟩ => hno o (hlive o ho) h
    · by_cases ho : o ∈ os
      · obtain ⟨q, h1, h2, h3, h4⟩ := kept o ho hk
        simp only [Env.back, inv q o h1, memB_iff.2 ho, memB_false hk, Bool.not_false, Bool.and_true, cond_true]
        exact ⟨h2, trivial, h4⟩
      · simp only [Env.back, out o hlo ho, memB_false ho, cond_false]
        exact ⟨trivial, trivial, trivial⟩
    · cases hi : invO m o with
      | some q =>
        have hm := invO_mem hi
        simp only [Env.back, hi] at hc
        rcases hs.own q b (clive q o hm) hc with h | ⟨o', h1, h2⟩
        · exact .inr h
        · exact .inl ⟨o', hlive o' h1, h2⟩
      | none =>
        simp only [Env.back, hi] at hc
        cases hb : memB o os with
        | true => rw [hb] at hc; cases hc
        | false =>
          rw [hb, cond_false] at hc
          rcases hlo with h | ⟨h0, q, h⟩
          · exact .inl ⟨o, h, hc⟩
          · subst h0; exact (invO_none hi h).elim
  have hrep : ∀ v d, RepV E w v d → RepV (E.back Ec w os nid r.kill m) w' v (d.killAll r.kill) := fun v d h => h.step hst hH.sep hH.oklt
  have hrepD : ∀ v d, RepD E.ok w v d → RepD (E.back Ec w os nid r.kill m).ok w' v d := fun v d h => h.mono hst.ok fun b hb => hst.blk b (hH.oklt b hb) fun o ho hc => hH.sep o b ho hc hb
  -- where an object lies behind the call
  have wher : ∀ o b, (E.back Ec w os nid r.kill m).live o → (E.back Ec w os nid r.kill m).conc o = some b → (∃ q, (q, o) ∈ m ∧ Ec.conc q = some b) ∨ (o ∉ os ∧ E.live o ∧ E.conc o = some b) := by
    intro o b hlo hc
    cases hi : invO m o with
    | some q => simp only [Env.back, hi] at hc; exact .inl ⟨q, invO_mem hi, hc⟩
    | none =>
      simp only [Env.back, hi] at hc
      cases hb : memB o os with
      | true => rw [hb] at hc; cases hc
      | false =>
        rw [hb, cond_false] at hc
        have hno : o ∉ os := fun h => by rw [memB_iff.2 h] at hb; cases hb
        rcases hlo with h | ⟨h0, q, h⟩
        · exact .inr ⟨hno, h, hc⟩
        · subst h0; exact (invO_none hi h).elim
  have apart : ∀ q o o' b, (q, o) ∈ m → Ec.conc q = some b → o' ∉ os → E.live o' → E.conc o' = some b → False := by
    intro q o o' b h1 h2 h3 h4 h5
    rcases hs.own q b (clive q o h1) h2 with h | ⟨o2, g1, g2⟩
    · have := hH.lt o' b h4 h5
      have h : w.heap.size ≤ b := h
      omega
    · have := hH.inj o' o2 b h4 (hlive o2 g1) h5 g2
      subst this
      exact h3 g1
  refine ⟨hst, ⟨fun o ob ho => ?_, fun o o' b h1 h2 h3 h4 => ?_, fun o b h1 h2 => ?_, fun o b h1 h2 => ?_, fun b hb => ?_⟩, ?_, fun q h => h.imp id (·.1)⟩
  · rw [get_append] at ho
    split at ho
    · obtain ⟨q, ob0, h1, h2, h3, h4, h5, h6⟩ := hl.obs o ob ho
      have hsm := same q o h1
      refine ⟨by have := hsm.1; rwa [look q o h1] at this, ?_⟩
      have h7 := (hs.heap.at_ q ob0 h2).2.mp (E' := E.back Ec w os nid r.kill m) (f := lookO m) hsm (fun hr => samecap q o h1 (by rw [h2]; exact hr)) (fun p hp _ => by
        obtain ⟨o', ho'⟩ := mem1 p (h4 p hp); exact same p o' ho') (fun p hp _ => by
        have hp' : p ∈ obRefs ob0 := by
          cases ob0 with
          | box cs => exact rrefss_refs cs p hp
          | row => exact absurd hp (by simp [obRrefs])
          | raw => exact absurd hp (by simp [obRrefs])
        obtain ⟨o', ho'⟩ := mem1 p (h4 p hp')
        exact samecap p o' ho' (rrow _ h5 p hp)) (h6.imp hok2 id)
      rw [look q o h1] at h7
      exact h7.le h3
    · next hk =>
      have hno : o ∉ os := fun h => hk (hl.all o h)
      rw [get_killH] at ho
      cases hy : Heap.get H0 o with
      | none => rw [hy, killObs_none] at ho; cases ho
      | some y =>
        rw [hy] at ho
        obtain ⟨l1, l2⟩ := hH0.at_ o y hy
        refine ⟨.inl l1, obAt_kill l2 ho ?_ (fun b hb => ?_) hrep hrepD⟩
        · simp only [Env.back, out o l1 hno, memB_false hno, cond_false]
          exact ⟨trivial, trivial, trivial⟩
        · refine hs.base.block b (hH.lt o b l1 hb) ?_
          rintro ⟨o', h1, h2⟩
          have := hH.inj o o' b l1 (hlive o' h1) hb h2
          subst this
          exact hno h1
  · rcases wher o b h1 h3 with ⟨q, a1, a2⟩ | ⟨a1, a2, a3⟩ <;> rcases wher o' b h2 h4 with ⟨q', b1, b2⟩ | ⟨b1, b2, b3⟩
    · have := hs.heap.inj q q' b (clive q o a1) (clive q' o' b1) a2 b2
      subst this
      exact hl.fn q o o' a1 b1
    · exact (apart q o o' b a1 a2 b1 b2 b3).elim
    · exact (apart q' o' o b b1 b2 a1 a2 a3).elim
    · exact hH.inj o o' b a2 b2 a3 b3
  · rcases wher o b h1 h2 with ⟨q, a1, a2⟩ | ⟨a1, a2, a3⟩
    · rintro (h | ⟨_, h⟩)
      · rcases hs.own q b (clive q o a1) a2 with g | ⟨o2, g1, g2⟩
        · have := hH.oklt b h
          have g : w.heap.size ≤ b := g
          omega
        · exact hH.sep o2 b (hlive o2 g1) g2 h
      · exact hs.heap.sep q b (clive q o a1) a2 h
    · rintro (h | ⟨h | ⟨o2, h3, h4⟩, _⟩)
      · exact hH.sep o b a2 a3 h
      · have := hH.lt o b a2 a3; omega
      · have := hH.inj o o2 b a2 (hlive o2 h3) a3 h4
        subst this
        exact a1 h3
  · rcases wher o b h1 h2 with ⟨q, a1, a2⟩ | ⟨a1, a2, a3⟩
    · exact hs.heap.lt q b (clive q o a1) a2
    · have := hH.lt o b a2 a3; have := hs.base.size
      have h : w.heap.size ≤ w'.heap.size := this
      omega
  · rcases hb with h | ⟨_, h⟩
    · have := hH.oklt b h; have := hs.base.size
      have h : w.heap.size ≤ w'.heap.size := this
      omega
    · exact hs.heap.oklt b h
  · refine (hu.mp (E' := E.back Ec w os nid r.kill m) (f := lookO m) (fun p hp _ => ?_) (fun p hp _ => ?_) (hl.vsc.imp hok2 id)).le hl.val
    · obtain ⟨o', ho'⟩ := mem1 p (hl.vrefs p hp); exact same p o' ho'
    · obtain ⟨o', ho'⟩ := mem1 p (hl.vrefs p (rsub v p hp))
      exact samecap p o' ho' (rrow _ hl.vrows p hp)

/-- A function that is handed objects, by pieces. -/
theorem meets_mut {f : FuncId} {fn : Func} {c : Code} (hf : P.funcs[f]? = some fn) (hb : fn.body = some c) (hn : (fn.name == "runtime.NumGoroutine") = false) {mc : Heap → Nat → List V → Option Res} {rs : List ResultVar} (hr : fn.results.toList = rs) {nt : Nat} (ht : fn.ntmps = nt)
    (h : ∀ H nid args r, mc H nid args = some r → (∀ p ∈ r.pre, p) → ∃ (nr : Bool) (os : List Nat) (fl : List Bool) (vs' : List V), nodupB os = true ∧ obsOk os H = true ∧ handOk os H nr fl args = true ∧ VLes (handL os H fl args) vs' ∧
      (Nat.ble vs'.length nt && Nat.ble nt 1000000) = true ∧ EvL P nt (items c) (retM P rs fun σ v => ∃ m, Left os nid H nr r m σ v) { tm := initT vs' 0 ++ ghostT (renH H os 0 os), hp := renH H os 0 os, nx := os.length }) : MeetsC P f (.mut mc) := by
  subst hr ht
  intro E w H0 nid xs args r hH0 hfn hx hmc hp
  have hH := heapAt_restr hH0 (reachOf H0 args)
  generalize hHe : restr (reachOf H0 args) H0 = H at hmc hH
  obtain ⟨nr, os, fl, vs', h1, h2, h3, h4, h5, h6⟩ := h H nid args r hmc hp
  rw [Bool.and_eq_true] at h5
  have hos : ∀ o ∈ os, ∃ b, Heap.get H o = some b := by
    intro o ho
    have := List.all_eq_true.1 h2 o ho
    cases hg : Heap.get H o with
    | none => rw [hg] at this; cases this
    | some b => exact ⟨b, rfl⟩
  have hx' := (hand_rep (os := os) (nr := nr) hH fl xs args hx h3).le h4
  obtain ⟨gh, hgh, hsim⟩ := sim_hand (N := fn.ntmps) hH h1 h2 hx' (Nat.ble_eq.mp h5.1) (Nat.ble_eq.mp h5.2)
  refine .inl ⟨enters_of hf hb hn _ _, ?_⟩
  refine calls_of_wp hf hb (wp_mono ((EvOk.ofItems c h6).ok _ _ _ _ hsim) ?_)
  rintro e a' w' ⟨σ', E', hk, hs'⟩
  have key : (match resVs P σ' fn.results.toList with | some v => ∃ m, Left os nid H nr r m σ' v | none => False) → a'.defers = [] ∧ ∃ v, (results fn a'.tmps).run P w' = .ok v w' ∧ ∃ v', Ending.returned v = .returned v' ∧ ∃ E'', Post E w H0 nid r E'' w' v' := by
    intro hk
    split at hk
    · next v hv =>
      obtain ⟨m, hl⟩ := hk
      obtain ⟨u, g1, g2⟩ := run_results hs' hv
      exact ⟨hs'.defers, u, g1, u, rfl, _, left_post hH0 hH hfn h1 hos hgh hs' g2 hl⟩
    · exact hk.elim
  cases e with
  | normal => exact key hk
  | ret => exact key hk
  | exit id => exact hk.elim
  | goto l => exact hk.elim
  | panic ch => exact hk.elim
  | outgrown => exact hk.elim
end
end Go.Ax

/- Contracts over objects that are handed over: shapes that are printed. -/
namespace Go.Ax
open Go.RowKit

/-- Arguments: those that are not handed over, as data. -/
def viewF (H : Heap) : List Bool → List V → List V
  | _, [] => []
  | b :: fl, v :: r => (bif b then v else v.view H) :: viewF H fl r
  | [], v :: r => v.view H :: viewF H [] r
def renF (os : List Nat) : List Bool → List V → List V
  | _, [] => []
  | b :: fl, v :: r => (bif b then v.ren os else v) :: renF os fl r
  | [], v :: r => v :: renF os [] r
theorem handL_eq (os : List Nat) (H : Heap) : ∀ (fl : List Bool) (vs : List V), handL os H fl vs = renF os fl (viewF H fl vs)
  | [], [] => rfl
  | _ :: _, [] => rfl
  | true :: fl, v :: r => by simp [handL, viewF, renF, handL_eq os H fl r]
  | false :: fl, v :: r => by simp [handL, viewF, renF, handL_eq os H fl r]
  | [], v :: r => by simp [handL, viewF, renF, handL_eq os H [] r]

theorem beq_self (o : Nat) : Nat.beq o o = true := by simp
theorem ren_row1 (o k i n : Nat) : V.ren [o] (.row o k i n) = .row 0 k i n := by
  rw [V.ren]
  simp [idxOf]
theorem ren_ptr1 (o k i n : Nat) : V.ren [o] (.ptr o k i n) = .ptr 0 k i n := by
  rw [V.ren]
  simp [idxOf]

/-- A contract or another. -/
def orM (m m' : Heap → Nat → List V → Option Res) : Heap → Nat → List V → Option Res := fun H nid args => match m H nid args with | some r => some r | none => m' H nid args
theorem MeetsC.or {P : Program} {f : FuncId} {m m' : Heap → Nat → List V → Option Res} (h : MeetsC P f (.mut m)) (h' : MeetsC P f (.mut m')) : MeetsC P f (.mut (orM m m')) := by
  intro E w H nid xs args r h1 h2 h3 h4 h5
  unfold orM at h4
  split at h4
  · next r' hr => cases h4; exact h E w H nid xs args _ h1 h2 h3 hr h5
  · exact h' E w H nid xs args r h1 h2 h3 h4 h5

section
variable {P : Program} {σ : St} {H : Heap} {nid : Nat} {nr : Bool}
theorem Ent.hp {tm : List (Nat × Slot)} {H H' : Heap} {nx : Nat} (h : hpLe H H') : Ent { tm := tm, hp := H, nx := nx } { tm := tm, hp := H', nx := nx } := by
  refine ⟨fun N B E a w hs => ⟨E, hs.size, hs.small, hs.defers, hs.live, ⟨fun o ob ho => ?_, hs.heap.inj, hs.heap.sep, hs.heap.lt, hs.heap.oklt⟩, hs.slots, hs.base, hs.own, hs.okold⟩⟩
  obtain ⟨b, g1, g2⟩ := hpLe_get h o ob ho
  obtain ⟨l1, l2⟩ := hs.heap.at_ o b g1
  exact ⟨l1, l2.le g2⟩
/-- A row that was handed over comes back, longer or not. -/
theorem left_row {o q k n t : Nat} {el el' : Nat → List D} {p : List Prop} (hg : Heap.get σ.hp q = some (.row t k n el)) (he : ∀ i, i < n → el i = el' i) (hs : nr = true ∨ ∀ i, i < n → ∀ d ∈ el i, d.scal = true) :
    Left [o] nid H nr { pre := p, val := .row o k 0 n, eff := [(o, some (.row t k n el'))], kill := [o] } [(q, o)] σ (.row q k 0 n) where
  inj := fun a b c h1 h2 => by simp at h1 h2; omega
  fn := fun a b c h1 h2 => by simp at h1 h2; omega
  to := fun a b h => by simp at h; simp [h.2]
  val := by
    rw [V.mp]
    simp [lookO]
    exact VLe.rfl' _
  vrefs := fun a h => by simp [V.refs] at h; simp [h]
  vrows := by simp [V.rrefs, hg, isRow]
  vsc := .inr rfl
  has := fun a b h => by simp at h; obtain ⟨rfl, rfl⟩ := h; exact ⟨_, hg⟩
  obs := fun a b h => by
    rw [Heap.get_cons] at h
    split at h
    · next e =>
      subst e; cases h
      exact ⟨q, _, by simp, hg, ⟨rfl, rfl, rfl, fun i hi => .of_eq (he i hi)⟩, fun p hp => absurd hp (by simp [obRefs]), rfl, hs⟩
    · simp [Heap.get] at h
  all := fun a h => by simp at h; simp [h, keysOf]
  kill := fun a h => h
  keep := fun i a h => by
    have := List.mem_of_getElem? h
    exact .inl this
/-- A new row comes back. -/
theorem left_new {q k n t : Nat} {el el' : Nat → List D} {p : List Prop} (hg : Heap.get σ.hp q = some (.row t k n el)) (he : ∀ i, i < n → el i = el' i) (hs : nr = true ∨ ∀ i, i < n → ∀ d ∈ el i, d.scal = true) :
    Left [] nid H nr { pre := p, val := .row nid k 0 n, eff := [(nid, some (.row t k n el'))], kill := [] } [(q, nid)] σ (.row q k 0 n) where
  inj := fun a b c h1 h2 => by simp at h1 h2; omega
  fn := fun a b c h1 h2 => by simp at h1 h2; omega
  to := fun a b h => by simp at h; simp [h.2]
  val := by
    rw [V.mp]
    simp [lookO]
    exact VLe.rfl' _
  vrefs := fun a h => by simp [V.refs] at h; simp [h]
  vrows := by simp [V.rrefs, hg, isRow]
  vsc := .inr rfl
  has := fun a b h => by simp at h; obtain ⟨rfl, rfl⟩ := h; exact ⟨_, hg⟩
  obs := fun a b h => by
    rw [Heap.get_cons] at h
    split at h
    · next e =>
      subst e; cases h
      exact ⟨q, _, by simp, hg, ⟨rfl, rfl, rfl, fun i hi => .of_eq (he i hi)⟩, fun p hp => absurd hp (by simp [obRefs]), rfl, hs⟩
    · simp [Heap.get] at h
  all := fun a h => by simp at h
  kill := fun a h => by simp at h
  keep := fun i a h => by simp at h
mutual
theorem mp_norefs (f : Nat → Nat) : ∀ v : V, v.refs = [] → v.mp f = v
  | .c _, _ => rfl
  | .agg vs, h => by rw [V.mp, mps_norefs f vs (by rw [V.refs] at h; exact h)]
  | .tup vs, h => by rw [V.mp, mps_norefs f vs (by rw [V.refs] at h; exact h)]
  | .ptr .., h => by simp [V.refs] at h
  | .row .., h => by simp [V.refs] at h
  | .dptr .., _ => rfl
  | .fn _ vs, h => by rw [V.mp, mps_norefs f vs (by rw [V.refs] at h; exact h)]
theorem mps_norefs (f : Nat → Nat) : ∀ vs : List V, V.refss vs = [] → V.mps f vs = vs
  | [], _ => rfl
  | v :: r, h => by
    rw [V.refss, List.append_eq_nil_iff] at h
    rw [V.mps, mp_norefs f v h.1, mps_norefs f r h.2]
end
mutual
theorem ren_norefs (os : List Nat) : ∀ v : V, v.refs = [] → v.ren os = v
  | .c _, _ => rfl
  | .agg vs, h => by rw [V.ren, rens_norefs os vs (by rw [V.refs] at h; exact h)]
  | .tup vs, h => by rw [V.ren, rens_norefs os vs (by rw [V.refs] at h; exact h)]
  | .ptr .., h => by simp [V.refs] at h
  | .row .., h => by simp [V.refs] at h
  | .dptr .., _ => rfl
  | .fn _ vs, h => by rw [V.ren, rens_norefs os vs (by rw [V.refs] at h; exact h)]
theorem rens_norefs (os : List Nat) : ∀ vs : List V, V.refss vs = [] → V.rens os vs = vs
  | [], _ => rfl
  | v :: r, h => by
    rw [V.refss, List.append_eq_nil_iff] at h
    rw [V.rens, ren_norefs os v h.1, rens_norefs os r h.2]
end
theorem rrefs_nil {v : V} (h : v.refs = []) : v.rrefs = [] := List.eq_nil_iff_forall_not_mem.2 fun q hq => by
  have := rrefs_refs v q hq
  rw [h] at this; simp at this
theorem rrefss_nil {vs : List V} (h : V.refss vs = []) : V.rrefss vs = [] := List.eq_nil_iff_forall_not_mem.2 fun q hq => by
  have := rrefss_refs vs q hq
  rw [h] at this; simp at this
/-- An object that was handed over stays where it is. -/
theorem left_keep {o q : Nat} {ob ob1 ob2 : Ob} {p : List Prop} {v rv : V} (h0 : Heap.get H o = some ob) (hg : Heap.get σ.hp q = some ob1) (hgh : getT σ.tm 1000000 = some ⟨[], ghostV q ob⟩) (hl : sameLen ob ob1)
    (ho : obRefs ob1 = []) (hle : ObLe ob1 ob2) (hv : v.refs = []) (hvle : VLe v rv) (hs : nr = true ∨ (v.sclr = true ∧ obSc ob1)) :
    Left [o] nid H nr { pre := p, val := rv, eff := [(o, some ob2)], kill := [] } [(q, o)] σ v where
  inj := fun a b c h1 h2 => by simp at h1 h2; omega
  fn := fun a b c h1 h2 => by simp at h1 h2; omega
  to := fun a b h => by simp at h; simp [h.2]
  val := by rw [mp_norefs _ v hv]; exact hvle
  vrefs := fun a h => by rw [hv] at h; simp at h
  vrows := by rw [rrefs_nil hv]; rfl
  vsc := hs.imp id (·.1)
  has := fun a b h => by simp at h; obtain ⟨rfl, rfl⟩ := h; exact ⟨_, hg⟩
  obs := fun a b h => by
    rw [Heap.get_cons] at h
    split at h
    · next e =>
      subst e; cases h
      refine ⟨q, ob1, by simp, hg, ?_, fun p hp => by rw [ho] at hp; simp at hp, ?_, hs.imp id (·.2)⟩
      · cases ob1 with
        | box cs => rw [Ob.mp, mps_norefs _ cs ho]; exact hle
        | row t k n el => exact hle
        | raw x => exact hle
      · cases ob1 with
        | box cs => rw [obRrefs, rrefss_nil ho]; rfl
        | row t k n el => rfl
        | raw x => rfl
    · simp [Heap.get] at h
  all := fun a h => by simp at h; simp [h, keysOf]
  kill := fun a h => by simp at h
  keep := fun i a h => by
    have hm := List.mem_of_getElem? h
    have hi : i = 0 := by
      have := (List.getElem?_eq_some_iff.1 h).1
      simpa using this
    subst hi
    simp at hm
    subst hm
    exact .inr ⟨q, ob, ob1, by simp, h0, hg, hl, hgh⟩

/-- Cells without addresses. -/
def dataCells : List V → Option (List D)
  | [] => some []
  | .c .nil :: r => match dataCells r with | some ds => some (.sl 0 0 (fun _ => []) :: ds) | none => none
  | .c d :: r => match dataCells r with | some ds => some (d :: ds) | none => none
  | _ :: _ => none
theorem dataCells_ok : ∀ {cs : List V} {ds : List D}, dataCells cs = some ds → V.refss cs = [] ∧ VLes cs (ds.map .c) ∧ cs.length = ds.length
  | [], ds, h => by simp only [dataCells, Option.some.injEq] at h; subst h; exact ⟨rfl, VLes.nil, rfl⟩
  | .c d :: r, ds, h => by
    have key : ∀ d', VLe (.c d) (.c d') → (match dataCells r with | some ds => some (d' :: ds) | none => none) = some ds → V.refss (.c d :: r) = [] ∧ VLes (.c d :: r) (ds.map .c) ∧ (V.c d :: r).length = ds.length := by
      intro d' hd h
      cases hr : dataCells r with
      | none => rw [hr] at h; cases h
      | some ds' =>
        rw [hr] at h; cases h
        obtain ⟨h1, h2, h3⟩ := dataCells_ok hr
        refine ⟨by rw [V.refss, h1]; rfl, VLes.cons hd h2, by simp [h3]⟩
    cases d with
    | nil => exact key (.sl 0 0 fun _ => []) (by rw [VLe]; exact .nilsl _ _) h
    | unk => exact key .unk (VLe.rfl' _) h
    | lit v => exact key (.lit v) (VLe.rfl' _) h
    | opt b us => exact key (.opt b us) (VLe.rfl' _) h
    | any => exact key .any (VLe.rfl' _) h
    | sl k n el => exact key (.sl k n el) (VLe.rfl' _) h
  | .agg _ :: _, ds, h => by simp [dataCells] at h
  | .tup _ :: _, ds, h => by simp [dataCells] at h
  | .ptr .. :: _, ds, h => by simp [dataCells] at h
  | .row .. :: _, ds, h => by simp [dataCells] at h
  | .dptr .. :: _, ds, h => by simp [dataCells] at h
  | .fn .. :: _, ds, h => by simp [dataCells] at h

theorem renH1 {o : Nat} {b : Ob} (h : Heap.get H o = some b) : renH H [o] 0 [o] = [(0, some (b.ren [o]))] := by
  simp [renH, h]

/-- A function that is handed a row, or nil. -/
theorem meets_row {f : FuncId} {fn : Func} {c : Code} (hf : P.funcs[f]? = some fn) (hb : fn.body = some c) (hn : (fn.name == "runtime.NumGoroutine") = false) {mc : Heap → Nat → List V → Option Res} {rs : List ResultVar} (hr : fn.results.toList = rs) {nt : Nat} (ht : fn.ntmps = nt)
    (h : ∀ H nid args r, mc H nid args = some r → (∀ p ∈ r.pre, p) →
      (∃ (nr : Bool) (fl : List Bool) (o t k n : Nat) (el : Nat → List D) (vs' : List V), Heap.get H o = some (.row t k n el) ∧ handOk [o] H nr fl args = true ∧ VLes (renF [o] fl (viewF H fl args)) vs' ∧ (Nat.ble vs'.length nt && Nat.ble nt 1000000) = true ∧
        EvL P nt (items c) (retM P rs fun σ v => ∃ m, Left [o] nid H nr r m σ v) { tm := initT vs' 0 ++ [(1000000, ⟨[], .row 0 k 0 n⟩)], hp := [(0, some (.row t k n el))], nx := 1 }) ∨
      (∃ (nr : Bool) (fl : List Bool) (vs' : List V), handOk [] H nr fl args = true ∧ VLes (renF [] fl (viewF H fl args)) vs' ∧ (Nat.ble vs'.length nt && Nat.ble nt 1000000) = true ∧
        EvL P nt (items c) (retM P rs fun σ v => ∃ m, Left [] nid H nr r m σ v) { tm := initT vs' 0 ++ [], hp := [], nx := 0 })) : MeetsC P f (.mut mc) := by
  refine meets_mut hf hb hn hr ht fun H nid args r h1 h2 => ?_
  rcases h H nid args r h1 h2 with ⟨nr, fl, o, t, k, n, el, vs', g1, g2, g3, g4, g5⟩ | ⟨nr, fl, vs', g2, g3, g4, g5⟩
  · refine ⟨nr, [o], fl, vs', rfl, by simp [obsOk, g1, obOk], g2, by rw [handL_eq]; exact g3, g4, ?_⟩
    rw [renH1 g1]
    exact g5
  · exact ⟨nr, [], fl, vs', rfl, rfl, g2, by rw [handL_eq]; exact g3, g4, g5⟩

/-- A function that is handed a box of data. -/
theorem meets_box {f : FuncId} {fn : Func} {c : Code} (hf : P.funcs[f]? = some fn) (hb : fn.body = some c) (hn : (fn.name == "runtime.NumGoroutine") = false) {mc : Heap → Nat → List V → Option Res} {rs : List ResultVar} (hr : fn.results.toList = rs) {nt : Nat} (ht : fn.ntmps = nt)
    (h : ∀ H nid args r, mc H nid args = some r → (∀ p ∈ r.pre, p) →
      (∃ (nr : Bool) (fl : List Bool) (o : Nat) (cs : List V) (ds : List D) (vs' : List V), Heap.get H o = some (.box cs) ∧ dataCells cs = some ds ∧ handOk [o] H nr fl args = true ∧ VLes (renF [o] fl (viewF H fl args)) vs' ∧ (Nat.ble vs'.length nt && Nat.ble nt 1000000) = true ∧
        EvL P nt (items c) (retM P rs fun σ v => ∃ m, Left [o] nid H nr r m σ v) { tm := initT vs' 0 ++ [(1000000, ⟨[], .ptr 0 ds.length 0 0⟩)], hp := [(0, some (.box (ds.map .c)))], nx := 1 })) : MeetsC P f (.mut mc) := by
  refine meets_mut hf hb hn hr ht fun H nid args r h1 h2 => ?_
  obtain ⟨nr, fl, o, cs, ds, vs', g1, g2, g3, g4, g5, g6⟩ := h H nid args r h1 h2
  obtain ⟨d1, d2, d3⟩ := dataCells_ok g2
  refine ⟨nr, [o], fl, vs', rfl, by simp [obsOk, g1, obOk, d1], g3, by rw [handL_eq]; exact g4, g5, ?_⟩
  rw [renH1 g1]
  have e : ghostT [(0, some (Ob.ren [o] (Ob.box cs)))] = [(1000000, ⟨[], V.ptr 0 ds.length 0 0⟩)] := by rw [← d3, Ob.ren, rens_norefs _ cs d1]; rfl
  rw [e]
  refine EvL.ent (Ent.hp ?_) g6
  rw [Ob.ren, rens_norefs _ cs d1]
  exact hpLe.box (by rw [Heap.get_cons, if_pos rfl]) d2 hpLe.nil

theorem retM.intro {rs : List ResultVar} {Q : St → V → Prop} {v : V} (hv : resVs P σ rs = some v) (h : Q σ v) : retM P rs Q .ret σ := by
  show (match resVs P σ rs with | some v => Q σ v | none => False)
  rw [hv]; exact h
end
end Go.Ax

/- Contracts of functions of the library that have no code, or whose code is walked by hand. -/
namespace Go.Ax
open Go.RowKit

section
variable {P : Program} {w : World} {ok : Nat → Prop}

theorem run_loadBytes : ∀ (ns : List Int) (a : Addr) (acc : ByteArray), (∀ j n, ns[j]? = some n → w.cell? (a.add j) = some (.int .u8 n)) →
    (Extern.Bytes.loadBytes a ns.length acc).run P w = .ok ⟨acc.data ++ (ns.map fun x => UInt8.ofNat x.toNat).toArray⟩ w
  | [], a, acc, h => by simp [Extern.Bytes.loadBytes]
  | n :: ns, a, acc, h => by
    have h0 := h 0 n rfl
    have h0' : w.cell? a = some (.int .u8 n) := by simpa [Addr.add] using h0
    have ih := run_loadBytes ns (a.add 1) (acc.push n.toNat.toUInt8) (fun j m hj => by
      rw [add_add, Nat.add_comm]
      exact h (j + 1) m (by simpa using hj))
    simp only [List.length_cons, Extern.Bytes.loadBytes, Sem.run_bind]
    rw [show (load a).run P w = .ok (.int .u8 n) w by simp [run_load, h0']]
    simp only [Result.andThen_ok, ih]
    congr 2
    simp [ByteArray.push]

/-- A slice of bytes, as the library reads it. -/
theorem run_bytesOf {v : Value} {k n : Nat} {el : Nat → List D} (h : RepD ok w v (.sl k n el)) (h1 : 0 < n → k = 1) (h2 : ∀ i, i < n → el i = eU8 (dU8 (el i))) :
    (Extern.Bytes.bytesOf v).run P w = .ok (bytesL (lst dU8 n el)) w := by
  cases h with
  | sl a _ c _ _ u hc hm ha ho hl hu =>
    cases n with
    | zero =>
      cases a with
      | none => rfl
      | some a => rfl
    | succ n =>
      obtain ⟨ad, rfl, _, hcell⟩ := ha (by omega)
      have hk := h1 (by omega)
      subst hk
      have hu' : ∀ i, i < n + 1 → u i 0 = .int .u8 (dU8 (el i)) := by
        intro i hi
        have := hu i 0 (.lit (.int .u8 (dU8 (el i)))) hi (by rw [h2 i hi]; rfl)
        generalize u i 0 = x at this
        cases this with
        | lit => rfl
      have hlen : (lst dU8 (n + 1) el).length = n + 1 := by simp [lst]
      have := run_loadBytes (P := P) (w := w) (lst dU8 (n + 1) el) ad .empty (fun j m hj => by
        have hj' : j < n + 1 := by
          have := (List.getElem?_eq_some_iff.1 hj).1
          omega
        have e := hcell j 0 hj' (by omega)
        rw [Nat.mul_one, Nat.add_zero] at e
        rw [e, hu' j hj']
        unfold lst at hj
        rw [List.getElem?_map, List.getElem?_range hj'] at hj
        simp only [Option.map_some, Option.some.injEq] at hj
        rw [hj])
      rw [hlen] at this
      simp only [Extern.Bytes.bytesOf, this]
      simp [bytesL]
end

/-- Two lists of bytes, by the dictionary's order. -/
def compareL (a b : List Int) : Int := Lib.compareBytes (a.map fun x => UInt8.ofNat x.toNat) (b.map fun x => UInt8.ofNat x.toNat)
def bytealg_Compare (a b : List Int) : Option Int := some (compareL a b)
def bytealg_Compare_C : Con
  | [.c (.sl k n e), .c (.sl k' n' e')] => some ([LstOk eU8 dU8 1 k n e, LstOk eU8 dU8 1 k' n' e', (bytealg_Compare (lst dU8 n e) (lst dU8 n' e')).isSome = true], .data (i64 ((bytealg_Compare (lst dU8 n e) (lst dU8 n' e')).getD (0 : Int))))
  | _ => none
theorem bytealg_Compare_meets {P : Program} {f : FuncId} {fn : Func} (hf : P.funcs[f]? = some fn) (hname : (fn.name == "runtime.NumGoroutine") = false) (hb : fn.body.isNone = true) (hn : Extern.findNext fn = none) (he : Extern.find fn = some Extern.BytealgCompare.compare) :
    Meets P f bytealg_Compare_C := by
  intro ok w xs vs p out hx hok hcon hp
  unfold bytealg_Compare_C at hcon
  split at hcon
  · next k n e k' n' e' =>
    cases hcon
    obtain ⟨x, y, rfl⟩ : ∃ x y, xs = [x, y] := by
      have := hx.1
      match xs, this with
      | [x, y], _ => exact ⟨x, y, rfl⟩
    have e1 := hx.2 0 x _ rfl rfl
    have e2 := hx.2 1 y _ rfl rfl
    cases e1 with
    | c _ _ e1 =>
    cases e2 with
    | c _ _ e2 =>
    have g1 : LstOk eU8 dU8 1 k n e := hp _ (by simp)
    have g2 : LstOk eU8 dU8 1 k' n' e' := hp _ (by simp)
    have r1 := run_bytesOf (P := P) e1 g1.1 (g1.eq fun _ => rfl)
    have r2 := run_bytesOf (P := P) e2 g2.1 (g2.eq fun _ => rfl)
    refine .inr ⟨.int .i64 (compareL (lst dU8 n e) (lst dU8 n' e')), w, ?_, .refl _ _, .lit _⟩
    rw [run_callFunc_extern hf hname hb hn he]
    have : (Extern.BytealgCompare.compare #[x, y]).run P w = .ok (.int .i64 (compareL (lst dU8 n e) (lst dU8 n' e'))) w := by
      change Sem.run P (do pure (goInt (Extern.BytealgCompare.cmp (← Extern.Bytes.bytesOf x) (← Extern.Bytes.bytesOf y)))) w = _
      simp only [Sem.run_bind, r1, r2, Result.andThen_ok, Sem.run_pure, Lib.cmp_eq]
      rfl
    rw [show [x, y].toArray = #[x, y] from rfl, this]
    rfl
  · cases hcon
end Go.Ax

/- Short words for printed proofs. -/
namespace Go.Ax
open Go.RowKit

abbrev KT := Exit → St → Prop
abbrev rE {α : Type} (R : α → St) (K : KT) : α → Prop := fun x => K .ret (R x)
abbrev rEn {α : Type} (R : α → St) (K : KT) : α → Prop := fun x => K .normal (R x) ∧ K .ret (R x)
abbrev rE2 {α : Type} (R R2 : α → St) (K : KT) : α → Prop := fun x => K .ret (R x) ∧ K .ret (R2 x)
abbrev nE {S R : Type} (emb : S → St) (E : R → KT → Prop) (K : KT) : S ⊕ R → Prop := fun x => nextE emb E x K
/-- A struct's cells as a value. -/
def V.ag (l : List D) : V := .agg (l.map .c)
/-- A row of one literal. -/
def litE (k : Nat) (l : List D) : Nat → List D := fun i => List.take k (List.drop (i * k) l)

theorem VLe.r {v : V} : VLe v v := .rfl' v
theorem lf {K : KT} {e : Exit} {σ σ' : St} (hc : K e σ') (he : Ent σ σ') : wK K e σ := ⟨σ', he, hc⟩
theorem l0 {K : KT} {e : Exit} {σ : St} (hc : K e σ) : wK K e σ := ⟨σ, .refl σ, hc⟩
section
variable {T : Type} {enc : T → List D} {z : T} {n k : Nat} {el : Nat → List D} {l : List T} {tm r : List (Nat × Slot)} {H R : Heap} {t o : Nat} {σ σ' : St}
theorem tmLe.q {v : V} (h : getT tm t = some ⟨[], v⟩) (hr : tmLe tm r) : tmLe tm ((t, ⟨[], v⟩) :: r) := .cons h (.rfl' v) hr
theorem tmLe.qsO {tm : List (Nat × Slot)} : ∀ {l r : List (Nat × Slot)}, (∀ x ∈ l, getT tm x.1 = some x.2) → (∀ x ∈ l, x.2.ch = []) → tmLe tm r → tmLe tm (l ++ r)
  | [], _, _, _, hr => hr
  | (t, ⟨ch, v⟩) :: l, r, h, h', hr => by
    have e : ch = [] := h' _ (List.mem_cons_self ..)
    subst e
    exact tmLe.q (h _ (List.mem_cons_self ..)) (tmLe.qsO (fun x hx => h x (List.mem_cons_of_mem _ hx)) (fun x hx => h' x (List.mem_cons_of_mem _ hx)) hr)
def getTs (tm : List (Nat × Slot)) : List (Nat × Slot) → List (Option Slot)
  | [] => []
  | x :: r => getT tm x.1 :: getTs tm r
def somes : List (Nat × Slot) → List (Option Slot)
  | [] => []
  | x :: r => some x.2 :: somes r
def noCh : List (Nat × Slot) → Bool
  | [] => true
  | x :: r => x.2.ch.isEmpty && noCh r
theorem getTs_eq {tm : List (Nat × Slot)} : ∀ {l : List (Nat × Slot)}, getTs tm l = somes l → ∀ x ∈ l, getT tm x.1 = some x.2
  | y :: l, h, x, hx => by
    unfold getTs somes at h
    obtain ⟨h1, h2⟩ := List.cons.inj h
    rcases List.mem_cons.1 hx with rfl | hx
    · exact h1
    · exact getTs_eq h2 x hx
theorem noCh_eq : ∀ {l : List (Nat × Slot)}, noCh l = true → ∀ x ∈ l, x.2.ch = []
  | y :: l, h, x, hx => by
    unfold noCh at h
    rw [Bool.and_eq_true] at h
    rcases List.mem_cons.1 hx with rfl | hx
    · exact List.isEmpty_iff.1 h.1
    · exact noCh_eq h.2 x hx
theorem tmLe.qs (n : Nat) {tm l : List (Nat × Slot)} (hr : tmLe tm (l.drop n)) (h : getTs tm (l.take n) = somes (l.take n) := by kernel_rfl) (h' : noCh (l.take n) = true := by kernel_rfl) : tmLe tm l := by
  rw [← List.take_append_drop n l]
  exact tmLe.qsO (getTs_eq h) (noCh_eq h') hr
theorem Ent.cn (ts : List Nat) (h : canonNOk ts σ = true := by kernel_rfl) (e : Go.Ax.canonN ts σ = σ' := by kernel_rfl) : Ent σ σ' := e ▸ Ent.canonN ts h
theorem RowIs.b : RowIs enc z l.length (lsEl enc z l) l := .ls enc z l
theorem RowIs.l1 (k : Nat) (x : T) (h : litE k (enc x) 0 = enc x) : RowIs enc z 1 (litE k (enc x)) [x] := .lits (l := [x]) (show allEl enc (litE k (enc x)) 0 [x] from ⟨.of_eq h, trivial⟩)
end

section
variable {P : Program} {C : FuncId → Option CC} {N : Nat} {c : Code} {K : KT} {σ : St}
theorem EvL.en {l : List Code} {σ' : St} (h : EvL P N l K σ') (he : Ent σ σ') : EvL P N l K σ := .ent he h
theorem EvP.nf {ts : List Nat} {X : KT → Prop} (h : ∀ K, ev P C N c (cN ts K) σ = X K) (x : X K) : EvP P C N c (cN ts K) σ := .of (h K) x
theorem EvL.pD (hm : P.follows .mixedOrders = true) (hC : ∀ f con, C f = some con → MeetsC P f con) (ts : List Nat) (a m b : Nat) {l : List Code}
    (h : EvP P C N (ofItems ((l.drop a).take m)) (cN ts (thenK (EvL P N (l.drop b) K) K)) σ) (e : a + m = b := by rfl) : EvL P N (l.drop a) K σ := .pieceD hm hC ts a m b e h
theorem EvL.pE (hm : P.follows .mixedOrders = true) (hC : ∀ f con, C f = some con → MeetsC P f con) (ts : List Nat) (a m : Nat) {l : List Code}
    (h : EvP P C N (ofItems ((l.drop a).take m)) (cN ts K) σ) (e : l.drop (a + m) = [] := by kernel_rfl) : EvL P N (l.drop a) K σ := .pieceE hm hC ts a m e h
end

/-! ### Contracts of typed arguments -/
/-- What a value says, under conditions; the value of it. -/
structure AC (T : Type) where
  dec : V → Option (List Prop × T)
  can : T → V
  ok : ∀ v p x, dec v = some (p, x) → (∀ q ∈ p, q) → VLe v (can x)
def aI (k : IntKind) : AC Int where
  dec | .c (.lit (.int k' n)) => if k' = k then some ([], n) else none
      | _ => none
  can n := .c (.lit (.int k n))
  ok v p x h _ := by
    split at h
    · next k' n =>
      split at h
      · next e => cases h; subst e; exact .r
      · cases h
    · cases h
def aB : AC Bool where
  dec | .c (.lit (.bool b)) => some ([], b)
      | _ => none
  can b := bl b
  ok v p x h _ := by
    split at h
    · cases h; exact .r
    · cases h
def aS : AC ByteArray where
  dec | .c (.lit (.string b)) => some ([], b)
      | _ => none
  can b := str b
  ok v p x h _ := by
    split at h
    · cases h; exact .r
    · cases h
def aL {T : Type} (enc : T → List D) (dec : List D → T) (z : T) (k : Nat) : AC (List T) where
  dec | .c (.sl k' n el) => some ([LstOk enc dec k k' n el], lst dec n el)
      | _ => none
  can l := .c (.sl k l.length (lsEl enc z l))
  ok v p x h hp := by
    split at h
    · next k' n el =>
      cases h
      have g := hp _ (List.mem_singleton.2 rfl)
      exact VLe.slk g.1 (RowIs.of_ok g)
    · cases h
/-- A cell that holds a list. -/
def dLs {T : Type} (dec : List D → T) : D → List T
  | .sl _ n el => lst dec n el
  | _ => []
theorem dLs_ok {T : Type} {enc : T → List D} {dec : List D → T} {z : T} (hd : DecOk enc dec) {d : D} {k : Nat} {l : List T} (h : DLe d (.sl k l.length (lsEl enc z l))) : dLs dec d = l := by
  rcases h.nil_or with ⟨rfl, h0⟩ | ⟨k', el', rfl, h1⟩
  · exact (List.eq_nil_of_length_eq_zero h0).symm
  · exact RowIs.lst (z := z) hd ⟨rfl, h1⟩
theorem DsLe.cons_inv {ds cs : List D} {c : D} (h : DsLe ds (c :: cs)) : ∃ d ds', ds = d :: ds' ∧ DLe d c ∧ DsLe ds' cs := by
  cases ds with
  | nil => have := h.1; simp at this
  | cons d ds => exact ⟨d, ds, rfl, h.2 0 d c rfl rfl, by have := h.1; simpa using this, fun j a b ha hb => h.2 (j + 1) a b (by simpa using ha) (by simpa using hb)⟩
theorem DsLe.nil_inv {ds : List D} (h : DsLe ds []) : ds = [] := List.eq_nil_of_length_eq_zero h.1
/-- Cells that hold data. -/
def toDs : List V → Option (List D)
  | [] => some []
  | .c d :: r => match toDs r with | some ds => some (d :: ds) | none => none
  | _ :: _ => none
theorem toDs_eq : ∀ {cs : List V} {ds : List D}, toDs cs = some ds → cs = ds.map .c
  | [], ds, h => by cases h; rfl
  | .c d :: r, ds, h => by
    unfold toDs at h
    split at h
    · next ds' h' => cases h; rw [toDs_eq h']; rfl
    · cases h
  | .agg _ :: _, _, h => by cases h
  | .tup _ :: _, _, h => by cases h
  | .ptr .. :: _, _, h => by cases h
  | .row .. :: _, _, h => by cases h
  | .dptr .. :: _, _, h => by cases h
  | .fn .. :: _, _, h => by cases h
/-- A struct of scalars: the cells have its form. -/
def aG {T : Type} (okT : List D → Bool) (enc : T → List D) (dec : List D → T) (h : ∀ ds, okT ds = true → enc (dec ds) = ds) : AC T where
  dec | .agg cs => (match toDs cs with | some ds => bif okT ds then some ([], dec ds) else none | none => none)
      | _ => none
  can x := V.ag (enc x)
  ok v p x hd _ := by
    split at hd
    · next cs =>
      split at hd
      · next ds hds =>
        cases hk : okT ds with
        | false => rw [hk] at hd; cases hd
        | true =>
          rw [hk] at hd
          cases hd
          rw [toDs_eq hds]
          show VLe _ (.agg ((enc (dec ds)).map .c))
          rw [h ds hk]
          exact .r
      · cases hd
    · cases hd
/-- A pointer to a struct of scalars. -/
def aP {T : Type} (k : Nat) (okT : List D → Bool) (enc : T → List D) (dec : List D → T) (h : ∀ ds, okT ds = true → enc (dec ds) = ds) : AC T where
  dec | .dptr k' ds 0 => bif Nat.beq k' k && okT ds then some ([], dec ds) else none
      | _ => none
  can x := .dptr k (enc x) 0
  ok v p x hd _ := by
    split at hd
    · next k' ds =>
      cases hk : (Nat.beq k' k && okT ds) with
      | false => rw [hk] at hd; cases hd
      | true =>
        rw [hk] at hd
        cases hd
        rw [Bool.and_eq_true] at hk
        have e : k' = k := Nat.eq_of_beq_eq_true hk.1
        rw [e, h ds hk.2]
        exact .r
    · cases hd
/-- The code of a function, and how long its frame is. -/
structure FnIs (P : Program) (f : FuncId) (fn : Func) (c : Code) (rs : List ResultVar) (nt : Nat) : Prop where
  hf : P.funcs[f]? = some fn
  hb : fn.body = some c
  hn : (fn.name == "runtime.NumGoroutine") = false
  hr : fn.results.toList = rs
  ht : fn.ntmps = nt
section
variable {P : Program} {f : FuncId} {R : Type}
theorem app_all {p q : List Prop} (h : ∀ x ∈ p ++ q, x) : (∀ x ∈ p, x) ∧ ∀ x ∈ q, x := ⟨fun x hx => h x (List.mem_append.2 (.inl hx)), fun x hx => h x (List.mem_append.2 (.inr hx))⟩
theorem meetsA {n : Nat} (fn : Func) (c : Code) (rs : List ResultVar) (nt : Nat) {con : Con} (h : ∀ vs p out, con vs = some (p, out) → (∀ q ∈ p, q) → ∃ vs', vs'.length = n ∧ VLes vs vs' ∧ EvL P nt (items c) (retK P rs (OutOk out)) { tm := initT vs' 0, hp := [], nx := 0 })
    (hf : P.funcs[f]? = some fn) (hb : fn.body = some c) (hn : (fn.name == "runtime.NumGoroutine") = false) (hr : fn.results.toList = rs) (ht : fn.ntmps = nt) (hl : (Nat.ble n nt && Nat.ble nt 1000000) = true) : Meets P f con :=
  meets_fun hf hb hn hr ht fun vs p out h1 h2 => by
    obtain ⟨vs', h3, h4, h5⟩ := h vs p out h1 h2
    exact ⟨vs', h4, by rw [h3]; exact hl, h5⟩
def con0 (f0 : Option R) (z : R) (out : R → Out) : Con
  | [] => some ([f0.isSome = true], out (f0.getD z))
  | _ => none
theorem meets0 {f0 : Option R} {z : R} {out : R → Out} (fn : Func) (c : Code) (rs : List ResultVar) (nt : Nat) (run : ∀ y, f0 = some y → EvL P nt (items c) (retK P rs (OutOk (out y))) { tm := [], hp := [], nx := 0 })
    (hf : P.funcs[f]? = some fn := by kernel_rfl) (hb : fn.body = some c := by kernel_rfl) (hn : (fn.name == "runtime.NumGoroutine") = false := by kernel_rfl) (hr : fn.results.toList = rs := by kernel_rfl) (ht : fn.ntmps = nt := by kernel_rfl) (hl : (Nat.ble 0 nt && Nat.ble nt 1000000) = true := by kernel_rfl) : Meets P f (con0 f0 z out) :=
  meetsA fn c rs nt (fun vs p o h hp => by
    unfold con0 at h
    split at h
    · cases h
      obtain ⟨y, hy⟩ := Option.isSome_iff_exists.1 (hp _ (List.mem_singleton.2 rfl))
      rw [hy]
      exact ⟨[], rfl, VLes.nil, run y hy⟩
    · cases h) hf hb hn hr ht hl
def con1 {A0 : Type} (a0 : AC A0) (f0 : A0 → Option R) (z : R) (out : R → Out) : Con
  | [x0] => (match a0.dec x0 with
    | some (p0, u0) => some (p0 ++ [(f0 u0).isSome = true], out ((f0 u0).getD z))
    | _ => none)
  | _ => none
theorem meets1 {A0 : Type} {a0 : AC A0} {f0 : A0 → Option R} {z : R} {out : R → Out} (fn : Func) (c : Code) (rs : List ResultVar) (nt : Nat) (run : ∀ u0 y, f0 u0 = some y → EvL P nt (items c) (retK P rs (OutOk (out y))) { tm := initT [a0.can u0] 0, hp := [], nx := 0 })
    (hf : P.funcs[f]? = some fn := by kernel_rfl) (hb : fn.body = some c := by kernel_rfl) (hn : (fn.name == "runtime.NumGoroutine") = false := by kernel_rfl) (hr : fn.results.toList = rs := by kernel_rfl) (ht : fn.ntmps = nt := by kernel_rfl) (hl : (Nat.ble 1 nt && Nat.ble nt 1000000) = true := by kernel_rfl) : Meets P f (con1 a0 f0 z out) :=
  meetsA fn c rs nt (fun vs p o h hp => by
    unfold con1 at h
    split at h
    · split at h
      · next p0 u0 e0 =>
        cases h
        obtain ⟨h0, hp⟩ := app_all hp
        obtain ⟨y, hy⟩ := Option.isSome_iff_exists.1 (hp _ (List.mem_singleton.2 rfl))
        rw [hy]
        exact ⟨[a0.can u0], rfl, (VLes.cons (a0.ok _ _ _ e0 h0) VLes.nil), run u0 y hy⟩
      · cases h
    · cases h) hf hb hn hr ht hl
def con2 {A0 A1 : Type} (a0 : AC A0) (a1 : AC A1) (f0 : A0 → A1 → Option R) (z : R) (out : R → Out) : Con
  | [x0, x1] => (match a0.dec x0, a1.dec x1 with
    | some (p0, u0), some (p1, u1) => some (p0 ++ (p1 ++ [(f0 u0 u1).isSome = true]), out ((f0 u0 u1).getD z))
    | _, _ => none)
  | _ => none
theorem meets2 {A0 A1 : Type} {a0 : AC A0} {a1 : AC A1} {f0 : A0 → A1 → Option R} {z : R} {out : R → Out} (fn : Func) (c : Code) (rs : List ResultVar) (nt : Nat) (run : ∀ u0 u1 y, f0 u0 u1 = some y → EvL P nt (items c) (retK P rs (OutOk (out y))) { tm := initT [a0.can u0, a1.can u1] 0, hp := [], nx := 0 })
    (hf : P.funcs[f]? = some fn := by kernel_rfl) (hb : fn.body = some c := by kernel_rfl) (hn : (fn.name == "runtime.NumGoroutine") = false := by kernel_rfl) (hr : fn.results.toList = rs := by kernel_rfl) (ht : fn.ntmps = nt := by kernel_rfl) (hl : (Nat.ble 2 nt && Nat.ble nt 1000000) = true := by kernel_rfl) : Meets P f (con2 a0 a1 f0 z out) :=
  meetsA fn c rs nt (fun vs p o h hp => by
    unfold con2 at h
    split at h
    · split at h
      · next p0 u0 p1 u1 e0 e1 =>
        cases h
        obtain ⟨h0, hp⟩ := app_all hp
        obtain ⟨h1, hp⟩ := app_all hp
        obtain ⟨y, hy⟩ := Option.isSome_iff_exists.1 (hp _ (List.mem_singleton.2 rfl))
        rw [hy]
        exact ⟨[a0.can u0, a1.can u1], rfl, (VLes.cons (a0.ok _ _ _ e0 h0) (VLes.cons (a1.ok _ _ _ e1 h1) VLes.nil)), run u0 u1 y hy⟩
      · cases h
    · cases h) hf hb hn hr ht hl
def con3 {A0 A1 A2 : Type} (a0 : AC A0) (a1 : AC A1) (a2 : AC A2) (f0 : A0 → A1 → A2 → Option R) (z : R) (out : R → Out) : Con
  | [x0, x1, x2] => (match a0.dec x0, a1.dec x1, a2.dec x2 with
    | some (p0, u0), some (p1, u1), some (p2, u2) => some (p0 ++ (p1 ++ (p2 ++ [(f0 u0 u1 u2).isSome = true])), out ((f0 u0 u1 u2).getD z))
    | _, _, _ => none)
  | _ => none
theorem meets3 {A0 A1 A2 : Type} {a0 : AC A0} {a1 : AC A1} {a2 : AC A2} {f0 : A0 → A1 → A2 → Option R} {z : R} {out : R → Out} (fn : Func) (c : Code) (rs : List ResultVar) (nt : Nat) (run : ∀ u0 u1 u2 y, f0 u0 u1 u2 = some y → EvL P nt (items c) (retK P rs (OutOk (out y))) { tm := initT [a0.can u0, a1.can u1, a2.can u2] 0, hp := [], nx := 0 })
    (hf : P.funcs[f]? = some fn := by kernel_rfl) (hb : fn.body = some c := by kernel_rfl) (hn : (fn.name == "runtime.NumGoroutine") = false := by kernel_rfl) (hr : fn.results.toList = rs := by kernel_rfl) (ht : fn.ntmps = nt := by kernel_rfl) (hl : (Nat.ble 3 nt && Nat.ble nt 1000000) = true := by kernel_rfl) : Meets P f (con3 a0 a1 a2 f0 z out) :=
  meetsA fn c rs nt (fun vs p o h hp => by
    unfold con3 at h
    split at h
    · split at h
      · next p0 u0 p1 u1 p2 u2 e0 e1 e2 =>
        cases h
        obtain ⟨h0, hp⟩ := app_all hp
        obtain ⟨h1, hp⟩ := app_all hp
        obtain ⟨h2, hp⟩ := app_all hp
        obtain ⟨y, hy⟩ := Option.isSome_iff_exists.1 (hp _ (List.mem_singleton.2 rfl))
        rw [hy]
        exact ⟨[a0.can u0, a1.can u1, a2.can u2], rfl, (VLes.cons (a0.ok _ _ _ e0 h0) (VLes.cons (a1.ok _ _ _ e1 h1) (VLes.cons (a2.ok _ _ _ e2 h2) VLes.nil))), run u0 u1 u2 y hy⟩
      · cases h
    · cases h) hf hb hn hr ht hl
def con4 {A0 A1 A2 A3 : Type} (a0 : AC A0) (a1 : AC A1) (a2 : AC A2) (a3 : AC A3) (f0 : A0 → A1 → A2 → A3 → Option R) (z : R) (out : R → Out) : Con
  | [x0, x1, x2, x3] => (match a0.dec x0, a1.dec x1, a2.dec x2, a3.dec x3 with
    | some (p0, u0), some (p1, u1), some (p2, u2), some (p3, u3) => some (p0 ++ (p1 ++ (p2 ++ (p3 ++ [(f0 u0 u1 u2 u3).isSome = true]))), out ((f0 u0 u1 u2 u3).getD z))
    | _, _, _, _ => none)
  | _ => none
theorem meets4 {A0 A1 A2 A3 : Type} {a0 : AC A0} {a1 : AC A1} {a2 : AC A2} {a3 : AC A3} {f0 : A0 → A1 → A2 → A3 → Option R} {z : R} {out : R → Out} (fn : Func) (c : Code) (rs : List ResultVar) (nt : Nat) (run : ∀ u0 u1 u2 u3 y, f0 u0 u1 u2 u3 = some y → EvL P nt (items c) (retK P rs (OutOk (out y))) { tm := initT [a0.can u0, a1.can u1, a2.can u2, a3.can u3] 0, hp := [], nx := 0 })
    (hf : P.funcs[f]? = some fn := by kernel_rfl) (hb : fn.body = some c := by kernel_rfl) (hn : (fn.name == "runtime.NumGoroutine") = false := by kernel_rfl) (hr : fn.results.toList = rs := by kernel_rfl) (ht : fn.ntmps = nt := by kernel_rfl) (hl : (Nat.ble 4 nt && Nat.ble nt 1000000) = true := by kernel_rfl) : Meets P f (con4 a0 a1 a2 a3 f0 z out) :=
  meetsA fn c rs nt (fun vs p o h hp => by
    unfold con4 at h
    split at h
    · split at h
      · next p0 u0 p1 u1 p2 u2 p3 u3 e0 e1 e2 e3 =>
        cases h
        obtain ⟨h0, hp⟩ := app_all hp
        obtain ⟨h1, hp⟩ := app_all hp
        obtain ⟨h2, hp⟩ := app_all hp
        obtain ⟨h3, hp⟩ := app_all hp
        obtain ⟨y, hy⟩ := Option.isSome_iff_exists.1 (hp _ (List.mem_singleton.2 rfl))
        rw [hy]
        exact ⟨[a0.can u0, a1.can u1, a2.can u2, a3.can u3], rfl, (VLes.cons (a0.ok _ _ _ e0 h0) (VLes.cons (a1.ok _ _ _ e1 h1) (VLes.cons (a2.ok _ _ _ e2 h2) (VLes.cons (a3.ok _ _ _ e3 h3) VLes.nil)))), run u0 u1 u2 u3 y hy⟩
      · cases h
    · cases h) hf hb hn hr ht hl
def con5 {A0 A1 A2 A3 A4 : Type} (a0 : AC A0) (a1 : AC A1) (a2 : AC A2) (a3 : AC A3) (a4 : AC A4) (f0 : A0 → A1 → A2 → A3 → A4 → Option R) (z : R) (out : R → Out) : Con
  | [x0, x1, x2, x3, x4] => (match a0.dec x0, a1.dec x1, a2.dec x2, a3.dec x3, a4.dec x4 with
    | some (p0, u0), some (p1, u1), some (p2, u2), some (p3, u3), some (p4, u4) => some (p0 ++ (p1 ++ (p2 ++ (p3 ++ (p4 ++ [(f0 u0 u1 u2 u3 u4).isSome = true])))), out ((f0 u0 u1 u2 u3 u4).getD z))
    | _, _, _, _, _ => none)
  | _ => none
theorem meets5 {A0 A1 A2 A3 A4 : Type} {a0 : AC A0} {a1 : AC A1} {a2 : AC A2} {a3 : AC A3} {a4 : AC A4} {f0 : A0 → A1 → A2 → A3 → A4 → Option R} {z : R} {out : R → Out} (fn : Func) (c : Code) (rs : List ResultVar) (nt : Nat) (run : ∀ u0 u1 u2 u3 u4 y, f0 u0 u1 u2 u3 u4 = some y → EvL P nt (items c) (retK P rs (OutOk (out y))) { tm := initT [a0.can u0, a1.can u1, a2.can u2, a3.can u3, a4.can u4] 0, hp := [], nx := 0 })
    (hf : P.funcs[f]? = some fn := by kernel_rfl) (hb : fn.body = some c := by kernel_rfl) (hn : (fn.name == "runtime.NumGoroutine") = false := by kernel_rfl) (hr : fn.results.toList = rs := by kernel_rfl) (ht : fn.ntmps = nt := by kernel_rfl) (hl : (Nat.ble 5 nt && Nat.ble nt 1000000) = true := by kernel_rfl) : Meets P f (con5 a0 a1 a2 a3 a4 f0 z out) :=
  meetsA fn c rs nt (fun vs p o h hp => by
    unfold con5 at h
    split at h
    · split at h
      · next p0 u0 p1 u1 p2 u2 p3 u3 p4 u4 e0 e1 e2 e3 e4 =>
        cases h
        obtain ⟨h0, hp⟩ := app_all hp
        obtain ⟨h1, hp⟩ := app_all hp
        obtain ⟨h2, hp⟩ := app_all hp
        obtain ⟨h3, hp⟩ := app_all hp
        obtain ⟨h4, hp⟩ := app_all hp
        obtain ⟨y, hy⟩ := Option.isSome_iff_exists.1 (hp _ (List.mem_singleton.2 rfl))
        rw [hy]
        exact ⟨[a0.can u0, a1.can u1, a2.can u2, a3.can u3, a4.can u4], rfl, (VLes.cons (a0.ok _ _ _ e0 h0) (VLes.cons (a1.ok _ _ _ e1 h1) (VLes.cons (a2.ok _ _ _ e2 h2) (VLes.cons (a3.ok _ _ _ e3 h3) (VLes.cons (a4.ok _ _ _ e4 h4) VLes.nil))))), run u0 u1 u2 u3 u4 y hy⟩
      · cases h
    · cases h) hf hb hn hr ht hl
def con6 {A0 A1 A2 A3 A4 A5 : Type} (a0 : AC A0) (a1 : AC A1) (a2 : AC A2) (a3 : AC A3) (a4 : AC A4) (a5 : AC A5) (f0 : A0 → A1 → A2 → A3 → A4 → A5 → Option R) (z : R) (out : R → Out) : Con
  | [x0, x1, x2, x3, x4, x5] => (match a0.dec x0, a1.dec x1, a2.dec x2, a3.dec x3, a4.dec x4, a5.dec x5 with
    | some (p0, u0), some (p1, u1), some (p2, u2), some (p3, u3), some (p4, u4), some (p5, u5) => some (p0 ++ (p1 ++ (p2 ++ (p3 ++ (p4 ++ (p5 ++ [(f0 u0 u1 u2 u3 u4 u5).isSome = true]))))), out ((f0 u0 u1 u2 u3 u4 u5).getD z))
    | _, _, _, _, _, _ => none)
  | _ => none
theorem meets6 {A0 A1 A2 A3 A4 A5 : Type} {a0 : AC A0} {a1 : AC A1} {a2 : AC A2} {a3 : AC A3} {a4 : AC A4} {a5 : AC A5} {f0 : A0 → A1 → A2 → A3 → A4 → A5 → Option R} {z : R} {out : R → Out} (fn : Func) (c : Code) (rs : List ResultVar) (nt : Nat) (run : ∀ u0 u1 u2 u3 u4 u5 y, f0 u0 u1 u2 u3 u4 u5 = some y → EvL P nt (items c) (retK P rs (OutOk (out y))) { tm := initT [a0.can u0, a1.can u1, a2.can u2, a3.can u3, a4.can u4, a5.can u5] 0, hp := [], nx := 0 })
    (hf : P.funcs[f]? = some fn := by kernel_rfl) (hb : fn.body = some c := by kernel_rfl) (hn : (fn.name == "runtime.NumGoroutine") = false := by kernel_rfl) (hr : fn.results.toList = rs := by kernel_rfl) (ht : fn.ntmps = nt := by kernel_rfl) (hl : (Nat.ble 6 nt && Nat.ble nt 1000000) = true := by kernel_rfl) : Meets P f (con6 a0 a1 a2 a3 a4 a5 f0 z out) :=
  meetsA fn c rs nt (fun vs p o h hp => by
    unfold con6 at h
    split at h
    · split at h
      · next p0 u0 p1 u1 p2 u2 p3 u3 p4 u4 p5 u5 e0 e1 e2 e3 e4 e5 =>
        cases h
        obtain ⟨h0, hp⟩ := app_all hp
        obtain ⟨h1, hp⟩ := app_all hp
        obtain ⟨h2, hp⟩ := app_all hp
        obtain ⟨h3, hp⟩ := app_all hp
        obtain ⟨h4, hp⟩ := app_all hp
        obtain ⟨h5, hp⟩ := app_all hp
        obtain ⟨y, hy⟩ := Option.isSome_iff_exists.1 (hp _ (List.mem_singleton.2 rfl))
        rw [hy]
        exact ⟨[a0.can u0, a1.can u1, a2.can u2, a3.can u3, a4.can u4, a5.can u5], rfl, (VLes.cons (a0.ok _ _ _ e0 h0) (VLes.cons (a1.ok _ _ _ e1 h1) (VLes.cons (a2.ok _ _ _ e2 h2) (VLes.cons (a3.ok _ _ _ e3 h3) (VLes.cons (a4.ok _ _ _ e4 h4) (VLes.cons (a5.ok _ _ _ e5 h5) VLes.nil)))))), run u0 u1 u2 u3 u4 u5 y hy⟩
      · cases h
    · cases h) hf hb hn hr ht hl
def con7 {A0 A1 A2 A3 A4 A5 A6 : Type} (a0 : AC A0) (a1 : AC A1) (a2 : AC A2) (a3 : AC A3) (a4 : AC A4) (a5 : AC A5) (a6 : AC A6) (f0 : A0 → A1 → A2 → A3 → A4 → A5 → A6 → Option R) (z : R) (out : R → Out) : Con
  | [x0, x1, x2, x3, x4, x5, x6] => (match a0.dec x0, a1.dec x1, a2.dec x2, a3.dec x3, a4.dec x4, a5.dec x5, a6.dec x6 with
    | some (p0, u0), some (p1, u1), some (p2, u2), some (p3, u3), some (p4, u4), some (p5, u5), some (p6, u6) => some (p0 ++ (p1 ++ (p2 ++ (p3 ++ (p4 ++ (p5 ++ (p6 ++ [(f0 u0 u1 u2 u3 u4 u5 u6).isSome = true])))))), out ((f0 u0 u1 u2 u3 u4 u5 u6).getD z))
    | _, _, _, _, _, _, _ => none)
  | _ => none
theorem meets7 {A0 A1 A2 A3 A4 A5 A6 : Type} {a0 : AC A0} {a1 : AC A1} {a2 : AC A2} {a3 : AC A3} {a4 : AC A4} {a5 : AC A5} {a6 : AC A6} {f0 : A0 → A1 → A2 → A3 → A4 → A5 → A6 → Option R} {z : R} {out : R → Out} (fn : Func) (c : Code) (rs : List ResultVar) (nt : Nat) (run : ∀ u0 u1 u2 u3 u4 u5 u6 y, f0 u0 u1 u2 u3 u4 u5 u6 = some y → EvL P nt (items c) (retK P rs (OutOk (out y))) { tm := initT [a0.can u0, a1.can u1, a2.can u2, a3.can u3, a4.can u4, a5.can u5, a6.can u6] 0, hp := [], nx := 0 })
    (hf : P.funcs[f]? = some fn := by kernel_rfl) (hb : fn.body = some c := by kernel_rfl) (hn : (fn.name == "runtime.NumGoroutine") = false := by kernel_rfl) (hr : fn.results.toList = rs := by kernel_rfl) (ht : fn.ntmps = nt := by kernel_rfl) (hl : (Nat.ble 7 nt && Nat.ble nt 1000000) = true := by kernel_rfl) : Meets P f (con7 a0 a1 a2 a3 a4 a5 a6 f0 z out) :=
  meetsA fn c rs nt (fun vs p o h hp => by
    unfold con7 at h
    split at h
    · split at h
      · next p0 u0 p1 u1 p2 u2 p3 u3 p4 u4 p5 u5 p6 u6 e0 e1 e2 e3 e4 e5 e6 =>
        cases h
        obtain ⟨h0, hp⟩ := app_all hp
        obtain ⟨h1, hp⟩ := app_all hp
        obtain ⟨h2, hp⟩ := app_all hp
        obtain ⟨h3, hp⟩ := app_all hp
        obtain ⟨h4, hp⟩ := app_all hp
        obtain ⟨h5, hp⟩ := app_all hp
        obtain ⟨h6, hp⟩ := app_all hp
        obtain ⟨y, hy⟩ := Option.isSome_iff_exists.1 (hp _ (List.mem_singleton.2 rfl))
        rw [hy]
        exact ⟨[a0.can u0, a1.can u1, a2.can u2, a3.can u3, a4.can u4, a5.can u5, a6.can u6], rfl, (VLes.cons (a0.ok _ _ _ e0 h0) (VLes.cons (a1.ok _ _ _ e1 h1) (VLes.cons (a2.ok _ _ _ e2 h2) (VLes.cons (a3.ok _ _ _ e3 h3) (VLes.cons (a4.ok _ _ _ e4 h4) (VLes.cons (a5.ok _ _ _ e5 h5) (VLes.cons (a6.ok _ _ _ e6 h6) VLes.nil))))))), run u0 u1 u2 u3 u4 u5 u6 y hy⟩
      · cases h
    · cases h) hf hb hn hr ht hl
def con8 {A0 A1 A2 A3 A4 A5 A6 A7 : Type} (a0 : AC A0) (a1 : AC A1) (a2 : AC A2) (a3 : AC A3) (a4 : AC A4) (a5 : AC A5) (a6 : AC A6) (a7 : AC A7) (f0 : A0 → A1 → A2 → A3 → A4 → A5 → A6 → A7 → Option R) (z : R) (out : R → Out) : Con
  | [x0, x1, x2, x3, x4, x5, x6, x7] => (match a0.dec x0, a1.dec x1, a2.dec x2, a3.dec x3, a4.dec x4, a5.dec x5, a6.dec x6, a7.dec x7 with
    | some (p0, u0), some (p1, u1), some (p2, u2), some (p3, u3), some (p4, u4), some (p5, u5), some (p6, u6), some (p7, u7) => some (p0 ++ (p1 ++ (p2 ++ (p3 ++ (p4 ++ (p5 ++ (p6 ++ (p7 ++ [(f0 u0 u1 u2 u3 u4 u5 u6 u7).isSome = true]))))))), out ((f0 u0 u1 u2 u3 u4 u5 u6 u7).getD z))
    | _, _, _, _, _, _, _, _ => none)
  | _ => none
theorem meets8 {A0 A1 A2 A3 A4 A5 A6 A7 : Type} {a0 : AC A0} {a1 : AC A1} {a2 : AC A2} {a3 : AC A3} {a4 : AC A4} {a5 : AC A5} {a6 : AC A6} {a7 : AC A7} {f0 : A0 → A1 → A2 → A3 → A4 → A5 → A6 → A7 → Option R} {z : R} {out : R → Out} (fn : Func) (c : Code) (rs : List ResultVar) (nt : Nat) (run : ∀ u0 u1 u2 u3 u4 u5 u6 u7 y, f0 u0 u1 u2 u3 u4 u5 u6 u7 = some y → EvL P nt (items c) (retK P rs (OutOk (out y))) { tm := initT [a0.can u0, a1.can u1, a2.can u2, a3.can u3, a4.can u4, a5.can u5, a6.can u6, a7.can u7] 0, hp := [], nx := 0 })
    (hf : P.funcs[f]? = some fn := by kernel_rfl) (hb : fn.body = some c := by kernel_rfl) (hn : (fn.name == "runtime.NumGoroutine") = false := by kernel_rfl) (hr : fn.results.toList = rs := by kernel_rfl) (ht : fn.ntmps = nt := by kernel_rfl) (hl : (Nat.ble 8 nt && Nat.ble nt 1000000) = true := by kernel_rfl) : Meets P f (con8 a0 a1 a2 a3 a4 a5 a6 a7 f0 z out) :=
  meetsA fn c rs nt (fun vs p o h hp => by
    unfold con8 at h
    split at h
    · split at h
      · next p0 u0 p1 u1 p2 u2 p3 u3 p4 u4 p5 u5 p6 u6 p7 u7 e0 e1 e2 e3 e4 e5 e6 e7 =>
        cases h
        obtain ⟨h0, hp⟩ := app_all hp
        obtain ⟨h1, hp⟩ := app_all hp
        obtain ⟨h2, hp⟩ := app_all hp
        obtain ⟨h3, hp⟩ := app_all hp
        obtain ⟨h4, hp⟩ := app_all hp
        obtain ⟨h5, hp⟩ := app_all hp
        obtain ⟨h6, hp⟩ := app_all hp
        obtain ⟨h7, hp⟩ := app_all hp
        obtain ⟨y, hy⟩ := Option.isSome_iff_exists.1 (hp _ (List.mem_singleton.2 rfl))
        rw [hy]
        exact ⟨[a0.can u0, a1.can u1, a2.can u2, a3.can u3, a4.can u4, a5.can u5, a6.can u6, a7.can u7], rfl, (VLes.cons (a0.ok _ _ _ e0 h0) (VLes.cons (a1.ok _ _ _ e1 h1) (VLes.cons (a2.ok _ _ _ e2 h2) (VLes.cons (a3.ok _ _ _ e3 h3) (VLes.cons (a4.ok _ _ _ e4 h4) (VLes.cons (a5.ok _ _ _ e5 h5) (VLes.cons (a6.ok _ _ _ e6 h6) (VLes.cons (a7.ok _ _ _ e7 h7) VLes.nil)))))))), run u0 u1 u2 u3 u4 u5 u6 u7 y hy⟩
      · cases h
    · cases h) hf hb hn hr ht hl
end
/-- Contracts that are used in a piece. -/
structure FE (P : Program) where
  f : FuncId
  c : CC
  ok : MeetsC P f c
def lookF {P : Program} : List (FE P) → FuncId → Option CC
  | [], _ => none
  | e :: r, f => bif Nat.beq e.f f then some e.c else lookF r f
theorem lookF_ok {P : Program} : ∀ (l : List (FE P)) (f : FuncId) (con : CC), lookF l f = some con → MeetsC P f con
  | [], _, _, h => by cases h
  | e :: r, f, con, h => by
    unfold lookF at h
    cases hb : Nat.beq e.f f with
    | true =>
      rw [hb] at h
      cases h
      rw [← Nat.eq_of_beq_eq_true hb]
      exact e.ok
    | false =>
      rw [hb] at h
      exact lookF_ok r f con h
/-- A box of data. -/
abbrev Ob.bx (l : List D) : Ob := .box (l.map .c)
theorem rtI {P : Program} {rs : List ResultVar} {σ : St} {out : Out} (v : V) (h : OutOk out σ.hp v) (hv : resVs P σ rs = some v := by kernel_rfl) : retK P rs (OutOk out) .ret σ := retK.intro hv h
abbrev un (t : Nat) : Nat × Slot := sv t (.c .unk)
section
variable {P : Program} {N : Nat} {c : Code} {K : KT} {σ : St}
theorem EvP.nx {C : FuncId → Option CC} {ts : List Nat} (X : KT → Prop) (x : X K) (h : ∀ K, ev P C N c (cN ts K) σ = X K := by intro K; kernel_rfl) : EvP P C N c (cN ts K) σ := .of (h K) x
theorem EvL.qD (hm : P.follows .mixedOrders = true) (fs : List (FE P)) (ts : List Nat) (a m b : Nat) {l : List Code}
    (h : EvP P (lookF fs) N (ofItems ((l.drop a).take m)) (cN ts (thenK (EvL P N (l.drop b) K) K)) σ) (e : a + m = b := by rfl) : EvL P N (l.drop a) K σ := .pieceD hm (lookF_ok fs) ts a m b e h
theorem EvL.qE (hm : P.follows .mixedOrders = true) (fs : List (FE P)) (ts : List Nat) (a m : Nat) {l : List Code}
    (h : EvP P (lookF fs) N (ofItems ((l.drop a).take m)) (cN ts K) σ) (e : l.drop (a + m) = [] := by kernel_rfl) : EvL P N (l.drop a) K σ := .pieceE hm (lookF_ok fs) ts a m e h
end
section
variable {T : Type} {enc : T → List D} {dec : List D → T} {z : T} {n k k0 : Nat} {el : Nat → List D} {l : List T}
theorem lr (hd : DecOk enc dec) (h : RowIs enc z n el l) : lst dec n el = l := h.lst hd
theorem lb (hd : DecOk enc dec) : lst dec l.length (lsEl enc z l) = l := RowIs.lst hd (.ls enc z l)
theorem kb (hd : DecOk enc dec) : LstOk enc dec k k l.length (lsEl enc z l) := RowIs.ok hd (.ls enc z l)
end
end Go.Ax
