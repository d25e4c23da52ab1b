import Derived.Test.YtchffdmfiffifaaAx19
/- More ways to weaken a state. -/
namespace Go.Ax
open Go.RowKit

def ObLe : Ob → Ob → Prop
  | .box cs, .box cs' => VLes cs cs'
  | .raw x, .raw y => x = y
  | .row t k n el, .row t' k' n' el' => t = t' ∧ k = k' ∧ n = n' ∧ ∀ i, i < n → el i = el' i
  | _, _ => False

/-- Slots, each weaker than the slot of its number. -/
def tmLe (tm : List (Nat × Slot)) : List (Nat × Slot) → Prop
  | [] => True
  | (t, s') :: r => (match getT tm t with | some s => s.ch = [] ∧ s'.ch = [] ∧ VLe s.v s'.v | none => False) ∧ tmLe tm r
def hpLe (H : Heap) : Heap → Prop
  | [] => True
  | (_, none) :: _ => False
  | (o, some b') :: r => (match Heap.get H o with | some b => ObLe b b' | none => False) ∧ hpLe H r
def stLe (σ σ' : St) : Prop := tmLe σ.tm σ'.tm ∧ hpLe σ.hp σ'.hp ∧ σ.nx ≤ σ'.nx

section
variable {σ σ' : St} {E : Env} {a : Act} {w : World} {N : Nat} {B : Base}

theorem tmLe_get : ∀ {tm tm' : List (Nat × Slot)}, tmLe tm tm' → ∀ t s', getT tm' t = some s' → ∃ s, getT tm t = some s ∧ s.ch = [] ∧ s'.ch = [] ∧ VLe s.v s'.v
  | tm, [], _, t, s', h => by simp [getT] at h
  | tm, (q, x) :: r, hl, t, s', h => by
    rw [tmLe] at hl
    rw [getT_cons] at h
    split at h
    · next e =>
      subst e; cases h
      have h1 := hl.1
      cases hg : getT tm q with
      | none => rw [hg] at h1; exact h1.elim
      | some s => rw [hg] at h1; exact ⟨s, rfl, h1⟩
    · exact tmLe_get hl.2 t s' h

theorem hpLe_get : ∀ {H H' : Heap}, hpLe H H' → ∀ o b', Heap.get H' o = some b' → ∃ b, Heap.get H o = some b ∧ ObLe b b'
  | H, [], _, o, b', h => by simp [Heap.get] at h
  | H, (q, none) :: r, hl, o, b', h => by simp [hpLe] at hl
  | H, (q, some x) :: r, hl, o, b', h => by
    rw [hpLe] at hl
    rw [Heap.get_cons] at h
    split at h
    · next e =>
      subst e; cases h
      have h1 := hl.1
      cases hg : Heap.get H q with
      | none => rw [hg] at h1; exact h1.elim
      | some s => rw [hg] at h1; exact ⟨s, rfl, h1⟩
    · exact hpLe_get hl.2 o b' h

theorem ObAt.le {o : Nat} {b b' : Ob} (h : ObAt E w o b) (hl : ObLe b b') : ObAt E w o b' := by
  cases b with
  | box cs =>
    cases b' with
    | box cs' =>
      obtain ⟨e1, b, Cs, t, e2, e3, e4⟩ := h
      exact ⟨e1, b, Cs, t, e2, e3, e4.le hl⟩
    | row => exact hl.elim
    | raw x => exact hl.elim
  | raw x =>
    cases b' with
    | box cs' => exact hl.elim
    | row => exact hl.elim
    | raw y => have : x = y := hl; subst this; exact h
  | row t k n el =>
    cases b' with
    | raw x => exact hl.elim
    | box cs' => exact hl.elim
    | row t' k' n' el' =>
      obtain ⟨rfl, rfl, rfl, he⟩ := hl
      obtain ⟨h1, h2⟩ := h
      refine ⟨h1, h2.imp id ?_⟩
      rintro ⟨b, Cs, g1, g2, g3, g4, g5, g6, g7, g8⟩
      exact ⟨b, Cs, g1, g2, g3, g4, g5, fun i hi => by rw [← he i hi]; exact g6 i hi, g7, fun i j d u hi hd hu => g8 i j d u hi (by rw [he i hi]; exact hd) hu⟩

theorem Ent.le (h : stLe σ σ') : Ent σ σ' := by
  obtain ⟨h1, h2, h3⟩ := h
  refine ⟨fun N B E a w hs => ⟨E, hs.size, hs.small, hs.defers, fun q hq => hs.live q (Nat.le_trans h3 hq), ⟨fun o ob ho => ?_, hs.heap.inj, hs.heap.sep, hs.heap.lt, hs.heap.oklt⟩, fun t s hg => ?_, hs.base, hs.own, hs.okold⟩⟩
  · obtain ⟨b, g1, g2⟩ := hpLe_get h2 o ob ho
    obtain ⟨l1, l2⟩ := hs.heap.at_ o b g1
    exact ⟨l1, l2.le g2⟩
  · obtain ⟨s', g1, g2, g3, g4⟩ := tmLe_get h1 t s hg
    have hh := hs.slots t s' g1
    refine ⟨fun _ => (hh.1 (by rw [g2]; rfl)).le g4, fun _ h => ?_⟩
    rw [g3] at h
    simp [holds] at h

/-- Part of a state, weaker. -/
theorem Ent.to (ts os : List Nat) (nx : Nat) (h : canonOk ts os nx σ = true) (hl : stLe (Go.Ax.canon ts os nx σ) σ') : Ent σ σ' := (Ent.canon ts os nx h).trans (.le hl)

/-- nil, as an own row without elements. -/
theorem Ent.nilrow (t o e k : Nat) (el : Nat → List D) (hn : σ.nx ≤ o) (hg : getT σ.tm t = some ⟨[], .c .nil⟩) : Ent σ { tm := (t, ⟨[], .row o k 0 0⟩) :: σ.tm, hp := (o, some (.row e k 0 el)) :: σ.hp, nx := o + 1 } := by
  refine ⟨fun N B E a w hs => ?_⟩
  have hf : ¬ E.live o := hs.live o hn
  have hS : Step E w [] (E.next o none 0 0 E.ok) w := next_step hf none 0 0 E.ok (.refl _ _) (by simp) (fun _ h => h) (fun _ h => .inl h)
  have hN : HeapAt (E.next o none 0 0 E.ok) w σ.hp := next_heap hf hs.heap (.refl _ _) (by simp) (fun _ h => h) (fun _ h => .inl h) hs.heap.oklt
  have hown : ∀ q b, (E.next o none 0 0 E.ok).live q → (E.next o none 0 0 E.ok).conc q = some b → B.W.heap.size ≤ b ∨ B.mb b := by
    intro q b ho h
    rcases hS.concnew q b ho h with ⟨q, h1, h2⟩ | h
    · exact hs.own q b h1 h2
    · have := hs.base.size; exact .inl (by omega)
  -- slots as they were
  have hslot : ∀ q s, getT σ.tm q = some s → (holds σ.tm s.ch = true → RepV (E.next o none 0 0 E.ok) w (valAt B a q) s.v) := fun q s hg' h => rep_next hs.heap hS ((hs.slots q s hg').1 h)
  have hbool : ∀ q, boolOf (getT ((t, (⟨[], .row o k 0 0⟩ : Slot)) :: σ.tm) q) = boolOf (getT σ.tm q) := by
    intro q
    rw [getT_cons]
    split
    · next e => subst e; rw [hg]; rfl
    · rfl
  refine ⟨_, hs.size, hs.small, hs.defers, fun q hq => ?_, ⟨fun q ob ho => ?_, hN.inj, hN.sep, hN.lt, hN.oklt⟩, fun q s hq => ?_, hs.base, hown, hs.okold⟩
  · have hq' : o + 1 ≤ q := hq
    rintro (h | h)
    · omega
    · exact hs.live q (by omega) h
  · rw [Heap.get_cons] at ho
    split at ho
    · next e' => subst e'; cases ho; exact ⟨.inl rfl, by simp [Env.next], .inl ⟨by simp [Env.next], rfl⟩⟩
    · exact hN.at_ q ob ho
  · rw [getT_cons] at hq
    split at hq
    · next e' =>
      subst e'; cases hq
      refine ⟨fun _ => ?_, fun _ h => by simp [holds] at h⟩
      have hv := (hs.slots t _ hg).1 rfl
      have : valAt B a t = .slice none 0 0 := hv.nil_inv
      simp only
      rw [this]
      exact .row o k 0 0 none 0 (.inl rfl) (Nat.le_refl _) (by simp [maxLen]) (by simp [Env.next]) (fun h => by omega) (fun _ => .inl ⟨rfl, rfl, by simp [Env.next]⟩)
    · refine slotAt_move (tm := σ.tm) ⟨hslot q s hq, (hs.slots q s hq).2⟩ fun x _ _ => hbool x.1
end

/-! ### Scalar results -/
def rB (R : Bool → Prop) (_ : Heap) : V → Prop
  | .c (.lit (.bool b)) => R b
  | _ => False
def rI (R : Int → Prop) (_ : Heap) : V → Prop
  | .c (.lit (.int .i64 n)) => R n
  | _ => False
def rS (R : ByteArray → Prop) (_ : Heap) : V → Prop
  | .c (.lit (.string s)) => R s
  | _ => False
def rA (R : List V → Prop) (_ : Heap) : V → Prop
  | .agg l => R l
  | _ => False

section
variable {P : Program} {C : FuncId → Option CC} {fn : Func} {vs : List V} {Q Q' : Heap → V → Prop}

theorem runF_mono (h : ∀ H v, Q H v → Q' H v) (hr : runF P C fn vs Q) : runF P C fn vs Q' := by
  unfold runF at hr ⊢
  split at hr
  · next c hc =>
    cases hN : (Nat.ble vs.length fn.ntmps && Nat.ble fn.ntmps 1000000) with
    | false => rw [hN] at hr; exact hr.elim
    | true =>
      rw [hN, cond_true] at hr
      rw [cond_true]
      refine ev_mono c (fun e σ hk => ?_) hr
      have key : (match resVs P σ fn.results.toList with | some v => Q σ.hp v | none => False) → (match resVs P σ fn.results.toList with | some v => Q' σ.hp v | none => False) := by
        intro hk
        split at hk
        · exact h _ _ hk
        · exact hk.elim
      cases e with
      | normal => exact key hk
      | ret => exact key hk
      | exit id => exact hk
      | goto l => exact hk
      | panic ch => exact hk
      | outgrown => exact hk
  · exact hr.elim

theorem runF_bool {b : Bool} (h : runF P C fn vs (rB fun x => x = b)) : runF P C fn vs (OutOk (.data (bl b))) := by
  refine runF_mono (fun H v hv => ?_) h
  unfold rB at hv
  split at hv
  · subst hv; exact rfl
  · exact hv.elim
theorem runF_int {b : Int} (h : runF P C fn vs (rI fun x => x = b)) : runF P C fn vs (OutOk (.data (i64 b))) := by
  refine runF_mono (fun H v hv => ?_) h
  unfold rI at hv
  split at hv
  · subst hv; exact rfl
  · exact hv.elim
theorem runF_str {b : ByteArray} (h : runF P C fn vs (rS fun x => x = b)) : runF P C fn vs (OutOk (.data (str b))) := by
  refine runF_mono (fun H v hv => ?_) h
  unfold rS at hv
  split at hv
  · subst hv; exact rfl
  · exact hv.elim

theorem runB {b : Bool} {X : Prop} (h : runF P C fn vs (rB fun x => x = b) = X) (hx : X) : RunOk P C fn vs (OutOk (.data (bl b))) := ⟨runF_bool (h ▸ hx)⟩
theorem runI {b : Int} {X : Prop} (h : runF P C fn vs (rI fun x => x = b) = X) (hx : X) : RunOk P C fn vs (OutOk (.data (i64 b))) := ⟨runF_int (h ▸ hx)⟩
theorem runS {b : ByteArray} {X : Prop} (h : runF P C fn vs (rS fun x => x = b) = X) (hx : X) : RunOk P C fn vs (OutOk (.data (str b))) := ⟨runF_str (h ▸ hx)⟩

theorem VLe.refl_c (d : D) (h : ∀ k n el, d ≠ .sl k n el) : VLe (.c d) (.c d) := by
  cases d with
  | sl k n el => exact (h k n el rfl).elim
  | _ => simp [VLe, DLe]
mutual
theorem VLe.rfl' : ∀ v : V, VLe v v
  | .c d => by
    rw [VLe]
    cases d with
    | unk => exact trivial
    | nil => exact trivial
    | lit v => exact rfl
    | opt b us => exact ⟨rfl, rfl⟩
    | sl k n el => exact ⟨rfl, fun _ => rfl, fun _ _ => rfl⟩
  | .agg vs => by rw [VLe]; exact VLes.rfl' vs
  | .tup vs => by rw [VLe]; exact VLes.rfl' vs
  | .ptr .. => by simp [VLe]
  | .row .. => by simp [VLe]
  | .dptr .. => by simp [VLe]
  | .fn .. => by simp [VLe]
theorem VLes.rfl' : ∀ vs : List V, VLes vs vs
  | [] => trivial
  | v :: r => ⟨VLe.rfl' v, VLes.rfl' r⟩
end

/-- The contract's shape for a scalar law: the arguments decoded. -/
theorem bif_split {b : Bool} {X Y : Prop} (h1 : b = true → X) (h2 : b = false → Y) : (bif b then X else Y) := by
  cases b with
  | true => exact h1 rfl
  | false => exact h2 rfl
end

/-! ### Pieces, with the state cut down -/
def cK (ts os : List Nat) (nx : Nat) (Q : Exit → St → Prop) (e : Exit) (σ : St) : Prop := bif canonOk ts os nx σ then Q e (Go.Ax.canon ts os nx σ) else False
def wK (K : Exit → St → Prop) (e : Exit) (σ : St) : Prop := ∃ σ', Ent σ σ' ∧ K e σ'

section
variable {P : Program} {C : FuncId → Option CC} {N : Nat} {c : Code} {K : Exit → St → Prop} {σ : St}

theorem cK_wK {ts os : List Nat} {nx : Nat} {e : Exit} (h : cK ts os nx K e σ) : wK K e σ := by
  unfold cK at h
  cases hc : canonOk ts os nx σ with
  | false => rw [hc] at h; exact h.elim
  | true => rw [hc, cond_true] at h; exact ⟨_, Ent.canon ts os nx hc, h⟩

theorem EvOk.weak (h : EvOk P N c (wK K) σ) : EvOk P N c K σ :=
  ⟨fun B E a w hs => wp_mono (h.ok B E a w hs) fun _ a' w' ⟨_, E', ⟨σ2, he, hk⟩, hs'⟩ => by
    obtain ⟨E2, hs2⟩ := he.sim N B E' a' w' hs'
    exact ⟨σ2, E2, hk, hs2⟩⟩

/-- The first n pieces, evaluated; then the state is cut down. -/
theorem EvOk.piece (hm : P.follows .mixedOrders = true) (hC : ∀ f con, C f = some con → MeetsC P f con) (n : Nat) (ts os : List Nat) (nx : Nat) (hs : isSeqs n c = true)
    (h : ev P C N (tks n c) (cK ts os nx (thenK (EvOk P N (tls n c) K) K)) σ) : EvOk P N c K σ := by
  refine .weak (.cut hm hC n c σ hs (ev_mono _ ?_ h))
  intro e σ' hk
  obtain ⟨σ2, he, hk⟩ := cK_wK hk
  cases e with
  | normal => exact .ent he (EvOk.mono hk fun e σ h => ⟨σ, .refl σ, h⟩)
  | exit id => exact ⟨σ2, he, hk⟩
  | goto l => exact ⟨σ2, he, hk⟩
  | ret => exact ⟨σ2, he, hk⟩
  | panic ch => exact ⟨σ2, he, hk⟩
  | outgrown => exact ⟨σ2, he, hk⟩

/-- All of a code, evaluated; then the state is cut down. -/
theorem EvOk.all (hm : P.follows .mixedOrders = true) (hC : ∀ f con, C f = some con → MeetsC P f con) (ts os : List Nat) (nx : Nat) (h : ev P C N c (cK ts os nx K) σ) : EvOk P N c K σ :=
  .weak (.of_ev hm hC (ev_mono _ (fun _ _ hk => cK_wK hk) h))

/-- A loop whose states are cut down in each round. -/
theorem EvOk.rounds (hm : P.follows .mixedOrders = true) (hC : ∀ f con, C f = some con → MeetsC P f con) (ts os : List Nat) (nx : Nat) (I : Nat → St → Prop) (m : Nat) (h0 : I m σ)
    (h : ∀ m σ, I m σ → ev P C N c (cK ts os nx (thenK (fun σ' => ∃ m' σ'', m' < m ∧ Ent σ' σ'' ∧ I m' σ'') K)) σ) : EvOk P N (.loop c) K σ :=
  .loop I m σ (.refl σ) h0 fun m σ hI => .all hm hC ts os nx (h m σ hI)
end
end Go.Ax
