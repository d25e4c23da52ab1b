import Derived.Test.YtchffdmfiffifaaAx20
/- States in a canonical form; programs as functions with an option. -/
namespace Go.Ax
open Go.RowKit

/-! ### Renumbered states -/
def idxOf : List Nat → Nat → Nat
  | [], _ => 0
  | q :: r, o => bif Nat.beq q o then 0 else idxOf r o + 1
mutual
def V.ren (os : List Nat) : V → V
  | .c d => .c d
  | .agg vs => .agg (V.rens os vs)
  | .tup vs => .tup (V.rens os vs)
  | .ptr o k i j => .ptr (idxOf os o) k i j
  | .row o k off n => .row (idxOf os o) k off n
  | .dptr k cs j => .dptr k cs j
  | .fn f caps => .fn f (V.rens os caps)
def V.rens (os : List Nat) : List V → List V
  | [] => []
  | v :: r => V.ren os v :: V.rens os r
end
def Ob.ren (os : List Nat) : Ob → Ob
  | .box cs => .box (V.rens os cs)
  | .row t k n el => .row t k n el
  | .raw x => .raw x
def addN (l : List Nat) (x : Nat) : List Nat := bif memB x l then l else l ++ [x]
def addsN (l xs : List Nat) : List Nat := xs.foldl addN l
def refsOb (H : Heap) (o : Nat) : List Nat := match Heap.get H o with | some (.box cs) => V.refss cs | _ => []
def grow1 (H : Heap) (os : List Nat) : List Nat := addsN os (os.flatMap (refsOb H))
def refsT (tm : List (Nat × Slot)) : List Nat := tm.flatMap fun x => V.refs x.2.v
def objs (tm : List (Nat × Slot)) (H : Heap) : List Nat := grow1 H (grow1 H (grow1 H (addsN [] (refsT tm))))
def renT (os : List Nat) (tm : List (Nat × Slot)) : List (Nat × Slot) := tm.map fun x => (x.1, ⟨[], x.2.v.ren os⟩)
def renH (H : Heap) : List Nat → Nat → List Nat → Heap
  | _, _, [] => []
  | os, i, o :: r => match Heap.get H o with | some b => (i, some (b.ren os)) :: renH H os (i + 1) r | none => renH H os (i + 1) r
def canonN (ts : List Nat) (σ : St) : St :=
  { tm := renT (objs (keepT ts σ.tm) σ.hp) (keepT ts σ.tm), hp := renH σ.hp (objs (keepT ts σ.tm) σ.hp) 0 (objs (keepT ts σ.tm) σ.hp), nx := (objs (keepT ts σ.tm) σ.hp).length }
def nodupB : List Nat → Bool
  | [] => true
  | o :: r => !(memB o r) && nodupB r
def canonNOk (ts : List Nat) (σ : St) : Bool :=
  nodupB (objs (keepT ts σ.tm) σ.hp) && (keepT ts σ.tm).all (fun x => slotOk (objs (keepT ts σ.tm) σ.hp) x.2) &&
  (objs (keepT ts σ.tm) σ.hp).all (fun o => match Heap.get σ.hp o with | some b => obOk (objs (keepT ts σ.tm) σ.hp) b | none => true)

section
variable {P : Program} {N : Nat} {B : Base} {σ σ' : St} {E : Env} {a : Act} {w : World}

theorem idxOf_mem : ∀ {os : List Nat} {o : Nat}, o ∈ os → os[idxOf os o]? = some o
  | [], o, h => by simp at h
  | q :: r, o, h => by
    unfold idxOf
    cases hb : Nat.beq q o with
    | true =>
      have := Nat.eq_of_beq_eq_true hb
      subst this; rfl
    | false =>
      have hne : q ≠ o := fun e => by subst e; simp at hb
      rcases List.mem_cons.1 h with h | h
      · exact (hne h.symm).elim
      · simpa using idxOf_mem h

theorem nodupB_inj : ∀ {os : List Nat}, nodupB os = true → ∀ i j o : Nat, os[i]? = some o → os[j]? = some o → i = j
  | [], _, i, j, o, h, _ => by simp at h
  | q :: r, hn, i, j, o, hi, hj => by
    unfold nodupB at hn
    simp only [Bool.and_eq_true, Bool.not_eq_true'] at hn
    have hq : ∀ o, o ∈ r → q ≠ o := by
      intro o ho e
      subst e
      have : memB q r = true := List.any_eq_true.2 ⟨q, ho, by simp⟩
      rw [this] at hn
      exact absurd hn.1 (by simp)
    match i, j with
    | 0, 0 => rfl
    | 0, j + 1 =>
      simp at hi hj
      subst hi
      exact (hq _ (List.mem_of_getElem? hj) rfl).elim
    | i + 1, 0 =>
      simp at hi hj
      subst hj
      exact (hq _ (List.mem_of_getElem? hi) rfl).elim
    | i + 1, j + 1 =>
      simp at hi hj
      have := nodupB_inj hn.2 i j o hi hj
      omega

/-- The environment of the renumbered state. -/
def Env.ren (E : Env) (os : List Nat) : Env where
  conc q := match os[q]? with | some o => E.conc o | none => none
  cap q := match os[q]? with | some o => E.cap o | none => 0
  len q := match os[q]? with | some o => E.len o | none => 0
  live q := ∃ o, os[q]? = some o ∧ E.live o
  ok := E.ok

theorem rens_length (os : List Nat) : ∀ vs : List V, (V.rens os vs).length = vs.length
  | [] => rfl
  | _ :: r => by simp [V.rens, rens_length os r]
theorem rens_get (os : List Nat) : ∀ (vs : List V) (i : Nat), (V.rens os vs)[i]? = (vs[i]?).map (V.ren os)
  | [], i => by simp [V.rens]
  | v :: r, 0 => by simp [V.rens]
  | v :: r, i + 1 => by simp [V.rens, rens_get os r i]

theorem RepV.ren {os : List Nat} {v : Value} {d : V} (h : RepV E w v d) : (∀ o ∈ V.refs d, o ∈ os) → RepV (E.ren os) w v (d.ren os) := by
  induction h with
  | c v d h => exact fun _ => .c v d h
  | agg vs ds hl h ih =>
    intro hr
    rw [V.ren]
    refine .agg vs _ (by rw [rens_length, hl]) fun i v d hv hd => ?_
    rw [rens_get] at hd
    cases hx : ds[i]? with
    | none => rw [hx] at hd; cases hd
    | some x => rw [hx] at hd; cases hd; exact ih i v x hv hx fun o ho => hr o (refss_mem hx ho)
  | tup vs ds hl h ih =>
    intro hr
    rw [V.ren]
    refine .tup vs _ (by rw [rens_length, hl]) fun i v d hv hd => ?_
    rw [rens_get] at hd
    cases hx : ds[i]? with
    | none => rw [hx] at hd; cases hd
    | some x => rw [hx] at hd; cases hd; exact ih i v x hv hx fun o ho => hr o (refss_mem hx ho)
  | ptr o k i j b h1 h2 h3 =>
    intro hr
    have ho := idxOf_mem (hr o (by simp [V.refs]))
    rw [V.ren]
    exact .ptr _ k i j b ⟨o, ho, h1⟩ (by simp only [Env.ren, ho]; exact h2) (by simp only [Env.ren, ho]; exact h3)
  | row o k off n a c hn hc hm hl ha h0 =>
    intro hr
    have ho := idxOf_mem (hr o (by simp [V.refs]))
    rw [V.ren]
    exact .row _ k off n a c ⟨o, ho, hn⟩ hc hm (by simp only [Env.ren, ho]; exact hl) (by simp only [Env.ren, ho]; exact ha) (by simp only [Env.ren, ho]; exact h0)
  | dptr k cs j ad u h1 h2 h3 h4 => exact fun _ => .dptr k cs j ad u h1 h2 h3 h4
  | fn f vs ds hl h ih =>
    intro hr
    rw [V.ren]
    refine .fn f vs _ (by rw [rens_length, hl]) fun i v d hv hd => ?_
    rw [rens_get] at hd
    cases hx : ds[i]? with
    | none => rw [hx] at hd; cases hd
    | some x => rw [hx] at hd; cases hd; exact ih i v x hv hx fun o ho => hr o (refss_mem hx ho)

theorem ObAt.ren {os : List Nat} {q o : Nat} {b : Ob} (ho : os[q]? = some o) (h : ObAt E w o b) (hr : obOk os b = true) : ObAt (E.ren os) w q (b.ren os) := by
  cases b with
  | box cs =>
    obtain ⟨e1, b, C, t, e2, e3, e4, e5⟩ := h
    refine ⟨by simp only [Env.ren, ho]; exact e1, b, C, t, by simp only [Env.ren, ho]; exact e2, e3, ?_, fun i v d hv hd => ?_⟩
    · rw [rens_length]; exact e4
    · rw [rens_get] at hd
      cases hx : cs[i]? with
      | none => rw [hx] at hd; cases hd
      | some x =>
        rw [hx] at hd; cases hd
        exact (e5 i v x hv hx).ren fun p hp => memB_mem (List.all_eq_true.1 hr p (refss_mem hx hp))
  | raw x =>
    obtain ⟨h1, b, h2, h3⟩ := h
    exact ⟨by simp only [Env.ren, ho]; exact h1, b, by simp only [Env.ren, ho]; exact h2, h3⟩
  | row t k n el =>
    obtain ⟨h1, h2⟩ := h
    refine ⟨by simp only [Env.ren, ho]; exact h1, ?_⟩
    rcases h2 with ⟨h2, h3⟩ | ⟨b, C, g1, g2, g3, g4, g5, g6, g7, g8⟩
    · exact .inl ⟨by simp only [Env.ren, ho]; exact h2, h3⟩
    · refine .inr ⟨b, C, by simp only [Env.ren, ho]; exact g1, g2, by simp only [Env.ren, ho]; exact g3, by simp only [Env.ren, ho]; exact g4, by simp only [Env.ren, ho]; exact g5, g6, g7, g8⟩

theorem getT_renT (os : List Nat) : ∀ (tm : List (Nat × Slot)) (t : Nat), getT (renT os tm) t = (getT tm t).map fun s => ⟨[], s.v.ren os⟩
  | [], t => by simp [renT, getT]
  | (q, s) :: r, t => by
    have ih := getT_renT os r t
    unfold renT at ih ⊢
    rw [List.map_cons, getT_cons, getT_cons]
    split
    · rfl
    · exact ih

theorem renH_get (H : Heap) (os : List Nat) : ∀ (l : List Nat) (i q : Nat) (b : Ob), Heap.get (renH H os i l) q = some b → ∃ o b', l[q - i]? = some o ∧ i ≤ q ∧ Heap.get H o = some b' ∧ b = b'.ren os
  | [], i, q, b, h => by simp [renH, Heap.get] at h
  | o :: r, i, q, b, h => by
    unfold renH at h
    split at h
    · next b' hb' =>
      rw [Heap.get_cons] at h
      split at h
      · next e => subst e; cases h; exact ⟨o, b', by simp, Nat.le_refl _, hb', rfl⟩
      · obtain ⟨o', b2, h1, h2, h3, h4⟩ := renH_get H os r (i + 1) q b h
        refine ⟨o', b2, ?_, by omega, h3, h4⟩
        have : q - i = (q - (i + 1)) + 1 := by omega
        rw [this]; simpa using h1
    · obtain ⟨o', b2, h1, h2, h3, h4⟩ := renH_get H os r (i + 1) q b h
      refine ⟨o', b2, ?_, by omega, h3, h4⟩
      have : q - i = (q - (i + 1)) + 1 := by omega
      rw [this]; simpa using h1

theorem Ent.canonN (ts : List Nat) (h : canonNOk ts σ = true) : Ent σ (canonN ts σ) := by
  unfold canonNOk at h
  simp only [Bool.and_eq_true] at h
  obtain ⟨⟨h1, h2⟩, h3⟩ := h
  unfold Go.Ax.canonN
  generalize objs (keepT ts σ.tm) σ.hp = os at h1 h2 h3 ⊢
  refine ⟨fun N B E a w hs => ⟨E.ren os, hs.size, hs.small, hs.defers, fun q hq hl => ?_, ⟨fun q ob ho => ?_, fun q q' b hq hq' hb hb' => ?_, fun q b hq hb => ?_, fun q b hq hb => ?_, hs.heap.oklt⟩, fun t s hg => ?_, hs.base, fun q b hq hb => ?_, hs.okold⟩⟩
  · obtain ⟨o, ho, _⟩ := hl
    have hlt := (List.getElem?_eq_some_iff.1 ho).1
    have hq' : os.length ≤ q := hq
    omega
  · obtain ⟨o, b', g1, g2, g3, rfl⟩ := renH_get σ.hp os os 0 q ob ho
    have g1' : os[q]? = some o := by simpa using g1
    obtain ⟨l1, l2⟩ := hs.heap.at_ o b' g3
    have hok := List.all_eq_true.1 h3 o (List.mem_of_getElem? g1')
    rw [g3] at hok
    exact ⟨⟨o, g1', l1⟩, l2.ren g1' hok⟩
  · obtain ⟨o, ho, l⟩ := hq
    obtain ⟨o', ho', l'⟩ := hq'
    simp only [Env.ren, ho] at hb
    simp only [Env.ren, ho'] at hb'
    have := hs.heap.inj o o' b l l' hb hb'
    subst this
    exact nodupB_inj h1 q q' o ho ho'
  · obtain ⟨o, ho, l⟩ := hq
    simp only [Env.ren, ho] at hb
    exact hs.heap.sep o b l hb
  · obtain ⟨o, ho, l⟩ := hq
    simp only [Env.ren, ho] at hb
    exact hs.heap.lt o b l hb
  · rw [getT_renT] at hg
    cases hk : getT (keepT ts σ.tm) t with
    | none => rw [hk] at hg; cases hg
    | some s0 =>
      rw [hk] at hg
      cases hg
      obtain ⟨g1, g2⟩ := keepT_get ts σ.tm t s0 hk
      have hok := List.all_eq_true.1 h2 _ g2
      unfold slotOk at hok
      simp only [Bool.and_eq_true, List.isEmpty_iff] at hok
      have hh := hs.slots t s0 g1
      refine ⟨fun _ => (hh.1 (by rw [hok.1]; rfl)).ren fun q hq => memB_mem (List.all_eq_true.1 hok.2 q hq), fun _ h => ?_⟩
      simp [holds] at h
  · obtain ⟨o, ho, l⟩ := hq
    simp only [Env.ren, ho] at hb
    exact hs.own o b l hb
end

/-- A continuation behind a piece, from the renumbered state. -/
def cN (ts : List Nat) (K : Exit → St → Prop) (e : Exit) (σ : St) : Prop := bif canonNOk ts σ then wK K e (canonN ts σ) else False

/-! ### Code as a list of items -/
def items : Code → List Code
  | .seq x y => items x ++ items y
  | .skip => []
  | c => [c]
def ofItems : List Code → Code
  | [] => .skip
  | c :: r => .seq c (ofItems r)
def nthI (l : List Code) (n : Nat) : Code := l.getD n .skip

/-- From the state the items run, one behind the other, and end where K holds. -/
def EvL (P : Program) (N : Nat) : List Code → (Exit → St → Prop) → St → Prop
  | [], K, σ => wK K .normal σ
  | c :: r, K, σ => EvOk P N c (thenK (EvL P N r K) K) σ

section
variable {P : Program} {C : FuncId → Option CC} {N : Nat} {c x y : Code} {K K' : Exit → St → Prop} {σ σ' : St}

theorem wK_mono (h : ∀ e σ, K e σ → K' e σ) {e : Exit} (hk : wK K e σ) : wK K' e σ := ⟨hk.choose, hk.choose_spec.1, h _ _ hk.choose_spec.2⟩
theorem wK_self {e : Exit} (h : K e σ) : wK K e σ := ⟨σ, .refl σ, h⟩

theorem EvL.ent : ∀ {l : List Code} {K : Exit → St → Prop}, Ent σ σ' → EvL P N l K σ' → EvL P N l K σ
  | [], _, he, ⟨σ2, h1, h2⟩ => ⟨σ2, he.trans h1, h2⟩
  | _ :: _, _, he, h => EvOk.ent he h

theorem thenK_both {J J' : St → Prop} (hJ : ∀ σ, J σ → J' σ) (hk : ∀ e σ, K e σ → K' e σ) : ∀ e σ, thenK J K e σ → thenK J' K' e σ := by
  intro e σ h
  cases e with
  | normal => exact hJ σ h
  | exit id => exact hk _ _ h
  | goto l => exact hk _ _ h
  | ret => exact hk _ _ h
  | panic ch => exact hk _ _ h
  | outgrown => exact hk _ _ h

theorem EvL.mono : ∀ {l : List Code} {K K' : Exit → St → Prop} {σ : St}, (∀ e σ, K e σ → K' e σ) → EvL P N l K σ → EvL P N l K' σ
  | [], _, _, _, hk, h => wK_mono hk h
  | _ :: _, _, _, _, hk, h => EvOk.mono h (thenK_both (fun _ h => EvL.mono hk h) hk)

theorem EvL.app : ∀ {l l' : List Code} {K : Exit → St → Prop} {σ : St}, EvL P N l (thenK (EvL P N l' K) K) σ → EvL P N (l ++ l') K σ
  | [], _, _, _, ⟨_, h1, h2⟩ => EvL.ent h1 h2
  | _ :: _, _, _, _, h => EvOk.mono h (thenK_both (fun _ h => EvL.app h) fun e σ h => by
      cases e with
      | normal => exact h
      | exit id => exact h
      | goto l => exact h
      | ret => exact h
      | panic ch => exact h
      | outgrown => exact h) |>.mono (fun e σ h => by
      cases e with
      | normal => exact h
      | exit id => exact h
      | goto l => exact h
      | ret => exact h
      | panic ch => exact h
      | outgrown => exact h)

theorem EvL.app_inv : ∀ {l l' : List Code} {K : Exit → St → Prop} {σ : St}, EvL P N (l ++ l') K σ → EvL P N l (thenK (EvL P N l' K) K) σ
  | [], _, _, σ, h => ⟨σ, .refl σ, h⟩
  | _ :: _, _, _, _, h => EvOk.mono h fun e σ h => by
      cases e with
      | normal => exact EvL.app_inv h
      | exit id => exact h
      | goto l => exact h
      | ret => exact h
      | panic ch => exact h
      | outgrown => exact h

theorem EvOk.of_weakN (h : EvOk P N c (thenK (fun σ => wK K .normal σ) K) σ) : EvOk P N c K σ :=
  .weak (h.mono fun e σ h => by
    cases e with
    | normal => exact h
    | exit id => exact ⟨σ, .refl σ, h⟩
    | goto l => exact ⟨σ, .refl σ, h⟩
    | ret => exact ⟨σ, .refl σ, h⟩
    | panic ch => exact ⟨σ, .refl σ, h⟩
    | outgrown => exact ⟨σ, .refl σ, h⟩)

theorem EvOk.ofItems : ∀ (c : Code) {K : Exit → St → Prop} {σ : St}, EvL P N (items c) K σ → EvOk P N c K σ := by
  intro c
  induction c with
  | skip => exact fun h => .ent h.choose_spec.1 (.skip h.choose_spec.2)
  | seq x y ihx ihy =>
    intro K σ h
    exact .seq ((ihx (EvL.app_inv h)).mono (thenK_both (fun _ h => ihy h) fun _ _ h => h))
  | label l => exact fun h => .of_weakN h
  | region id ops dr => exact fun h => .of_weakN h
  | cond c x y _ _ => exact fun h => .of_weakN h
  | block id x _ => exact fun h => .of_weakN h
  | exit id => exact fun h => .of_weakN h
  | ret => exact fun h => .of_weakN h
  | loop x _ => exact fun h => .of_weakN h
  | rangeFunc f params assign body => exact fun h => .of_weakN h
  | scope body => exact fun h => .of_weakN h
  | goto l => exact fun h => .of_weakN h
  | refuse why => exact fun h => .of_weakN h

theorem cN_wK {ts : List Nat} {e : Exit} (h : cN ts K e σ) : wK K e σ := by
  unfold cN at h
  cases hc : canonNOk ts σ with
  | false => rw [hc] at h; exact h.elim
  | true =>
    rw [hc, cond_true] at h
    obtain ⟨σ2, h1, h2⟩ := h
    exact ⟨σ2, (Ent.canonN ts hc).trans h1, h2⟩

/-- The first items, evaluated; then the state is brought into its form. -/
theorem EvL.piece (hm : P.follows .mixedOrders = true) (hC : ∀ f con, C f = some con → MeetsC P f con) (ts : List Nat) : ∀ (l l' : List Code) {K : Exit → St → Prop} {σ : St},
    ev P C N (Go.Ax.ofItems l) (cN ts (thenK (EvL P N l' K) K)) σ → EvL P N (l ++ l') K σ
  | [], l', K, σ, h => by
    obtain ⟨σ', h1, h2⟩ := cN_wK h
    exact EvL.ent h1 h2
  | c :: l, l', K, σ, h => by
    have h' : ev P C N c (thenK (ev P C N (Go.Ax.ofItems l) (cN ts (thenK (EvL P N l' K) K))) (cN ts (thenK (EvL P N l' K) K))) σ := h
    refine .weak (.of_ev hm hC (ev_mono c ?_ h'))
    intro e σ' hk
    cases e with
    | normal => exact ⟨σ', .refl σ', EvL.piece hm hC ts l l' hk⟩
    | exit id => exact cN_wK hk
    | goto l => exact cN_wK hk
    | ret => exact cN_wK hk
    | panic ch => exact cN_wK hk
    | outgrown => exact cN_wK hk

theorem EvL.cons_block {id : Nat} {r : List Code} (h : EvL P N (items x) (blockK id (thenK (EvL P N r K) K)) σ) : EvL P N (.block id x :: r) K σ := EvOk.block (.ofItems x h)
theorem EvL.cons_cond {o : Operand} {b : Bool} {r : List Code} (hb : opndV σ [] o = some (bl b)) (ht : b = true → EvL P N (items x ++ r) K σ) (hf : b = false → EvL P N (items y ++ r) K σ) : EvL P N (.cond o x y :: r) K σ :=
  EvOk.cond hb (fun h => .ofItems x (EvL.app_inv (ht h))) (fun h => .ofItems y (EvL.app_inv (hf h)))

/-! ### Functions with an option -/
def W {α : Type} (o : Option α) (Q : α → Prop) : Prop := match o with | some a => Q a | none => False
/-- A condition that has to hold. -/
noncomputable def gd {α : Type} (p : Prop) (o : Option α) : Option α := open Classical in if p then o else none
theorem gd_pos {α : Type} {p : Prop} {o : Option α} (h : p) : gd p o = o := by unfold gd; exact if_pos h
theorem gd_neg {α : Type} {p : Prop} {o : Option α} (h : ¬ p) : gd p o = none := by unfold gd; exact if_neg h
theorem gd_some {α : Type} {p : Prop} {o : Option α} {a : α} : gd p o = some a ↔ p ∧ o = some a := by
  by_cases h : p
  · rw [gd_pos h]; simp [h]
  · rw [gd_neg h]; simp [h]

theorem W_some {α : Type} {a : α} {Q : α → Prop} : W (some a) Q = Q a := rfl
theorem W_bif {α : Type} {b : Bool} {o o' : Option α} {Q : α → Prop} {X Y : Prop} (h : W (bif b then o else o') Q) (h1 : b = true → W o Q → X) (h2 : b = false → W o' Q → Y) : bif b then X else Y := by
  cases b with
  | true => exact h1 rfl h
  | false => exact h2 rfl h
theorem W_gd {α : Type} {p : Prop} {o : Option α} {Q : α → Prop} {X : Prop} (h : W (gd p o) Q) (h1 : p → W o Q → X) : p ∧ X := by
  by_cases hp : p
  · rw [gd_pos hp] at h; exact ⟨hp, h1 hp h⟩
  · rw [gd_neg hp] at h; exact h.elim
theorem W_gdT {α : Type} {p : Prop} {o : Option α} {Q : α → Prop} (hp : p) (h : W (gd p o) Q) : W o Q := by rw [gd_pos hp] at h; exact h
/-- A result that has to be there. -/
theorem W_bind {α β : Type} {o : Option β} {f : β → Option α} {Q : α → Prop} {X : Prop} (d : β) (h : W (o.bind f) Q) (h1 : o.isSome = true → W (f (o.getD d)) Q → X) : o.isSome = true ∧ X := by
  cases o with
  | none => exact h.elim
  | some b => exact ⟨rfl, h1 rfl h⟩
theorem W_bind' {α β : Type} {o : Option β} {f : β → Option α} {Q : α → Prop} (h : W (o.bind f) Q) : W o fun b => W (f b) Q := by
  cases o with
  | none => exact h
  | some b => exact h
theorem W_mono {α : Type} {o : Option α} {Q Q' : α → Prop} (h : W o Q) (hq : ∀ a, Q a → Q' a) : W o Q' := by
  cases o with
  | none => exact h
  | some a => exact hq a h
theorem W_iff {α : Type} {o : Option α} {Q : α → Prop} : W o Q ↔ ∃ a, o = some a ∧ Q a := by
  cases o with
  | none => exact ⟨fun h => h.elim, fun ⟨_, h, _⟩ => by cases h⟩
  | some a => exact ⟨fun h => ⟨a, rfl, h⟩, fun ⟨_, h, hq⟩ => by cases h; exact hq⟩

/-- A loop: rounds until a result. -/
def iterL {σ ρ : Type} (f : σ → Option (σ ⊕ ρ)) : Nat → σ → Option ρ
  | 0, _ => none
  | n + 1, s => match f s with
    | some (.inl s') => iterL f n s'
    | some (.inr r) => some r
    | none => none
theorem iterL_mono {σ ρ : Type} {f : σ → Option (σ ⊕ ρ)} : ∀ {n m : Nat} {s : σ} {r : ρ}, n ≤ m → iterL f n s = some r → iterL f m s = some r
  | 0, _, _, _, _, h => by cases h
  | n + 1, 0, _, _, hm, _ => by omega
  | n + 1, m + 1, s, r, hm, h => by
    unfold iterL at h ⊢
    split
    · next s' hs => rw [hs] at h; exact iterL_mono (by omega) h
    · next r' hs => rw [hs] at h; exact h
    · next hs => rw [hs] at h; cases h
open Classical in
noncomputable def fixL {σ ρ : Type} (f : σ → Option (σ ⊕ ρ)) (s : σ) : Option ρ := if h : ∃ n, (iterL f n s).isSome = true then iterL f h.choose s else none
theorem fixL_of {σ ρ : Type} {f : σ → Option (σ ⊕ ρ)} {n : Nat} {s : σ} {r : ρ} (h : iterL f n s = some r) : fixL f s = some r := by
  have he : ∃ n, (iterL f n s).isSome = true := ⟨n, by rw [h]; rfl⟩
  unfold fixL
  rw [dif_pos he]
  have h2 := he.choose_spec
  obtain ⟨r', hr'⟩ := Option.isSome_iff_exists.1 h2
  rw [hr']
  have a := iterL_mono (Nat.le_max_left n he.choose) h
  have b := iterL_mono (Nat.le_max_right n he.choose) hr'
  rw [a] at b
  exact b.symm
theorem fixL_some {σ ρ : Type} {f : σ → Option (σ ⊕ ρ)} {s : σ} {r : ρ} : fixL f s = some r ↔ ∃ n, iterL f n s = some r := by
  constructor
  · intro h
    unfold fixL at h
    split at h
    · next he => exact ⟨_, h⟩
    · cases h
  · rintro ⟨n, h⟩
    exact fixL_of h
/-- A loop, one round unfolded. -/
theorem fixL_eq {σ ρ : Type} (f : σ → Option (σ ⊕ ρ)) (s : σ) : fixL f s = (f s).bind fun x => match x with | .inl s' => fixL f s' | .inr r => some r := by
  cases hf : f s with
  | none =>
    cases h : fixL f s with
    | none => rfl
    | some r =>
      obtain ⟨n, hn⟩ := fixL_some.1 h
      cases n with
      | zero => cases hn
      | succ n => unfold iterL at hn; rw [hf] at hn; cases hn
  | some x =>
    cases x with
    | inl s' =>
      show fixL f s = fixL f s'
      cases h' : fixL f s' with
      | some r =>
        obtain ⟨n, hn⟩ := fixL_some.1 h'
        exact fixL_of (n := n + 1) (by unfold iterL; rw [hf]; exact hn)
      | none =>
        cases h : fixL f s with
        | none => rfl
        | some r =>
          obtain ⟨n, hn⟩ := fixL_some.1 h
          cases n with
          | zero => cases hn
          | succ n =>
            unfold iterL at hn
            rw [hf] at hn
            have := fixL_of hn
            rw [h'] at this
            cases this
    | inr r => exact fixL_of (n := 1) (by unfold iterL; rw [hf])

/-- Items do what an option says. -/
def Pp {X : Type} (P : Program) (N : Nat) (l : List Code) (σ : St) (o : Option X) (E : X → (Exit → St → Prop) → Prop) : Prop :=
  ∀ K : Exit → St → Prop, W o (fun x => E x K) → EvL P N l K σ

/-- The next round of a loop, or an end of it. -/
def nextE {S R : Type} (emb : S → St) (E : R → (Exit → St → Prop) → Prop) : S ⊕ R → (Exit → St → Prop) → Prop
  | .inl s, K => K .normal (emb s)
  | .inr r, K => E r K

/-- A loop. -/
theorem EvOk.loopF {S R : Type} {f : S → Option (S ⊕ R)} {emb : S → St} {E : R → (Exit → St → Prop) → Prop} (hb : ∀ s, Pp P N (items x) (emb s) (f s) (nextE emb E))
    (hE : ∀ r J K, E r K → E r (thenK J K)) {s : S} (h : W (fixL f s) fun r => E r K) : EvOk P N (.loop x) K (emb s) := by
  obtain ⟨r, hr, hq⟩ := W_iff.1 h
  obtain ⟨n, hn⟩ := fixL_some.1 hr
  refine EvOk.loop (fun m σ => ∃ s, σ = emb s ∧ iterL f m s = some r) n (emb s) (.refl _) ⟨s, rfl, hn⟩ ?_
  rintro m σ ⟨s, rfl, hm⟩
  refine .ofItems x (hb s _ ?_)
  cases m with
  | zero => cases hm
  | succ m =>
    unfold iterL at hm
    split at hm
    · next s' hs => rw [hs]; exact ⟨m, emb s', Nat.lt_succ_self m, .refl _, s', rfl, hm⟩
    · next r' hs => rw [hs]; cases hm; exact hE r _ _ hq
    · cases hm

end
end Go.Ax
