import Derived.Test.YtchffdmfiffifaaAx10
/- States, and regions in the order of the text. -/
namespace Go.Ax
open Go.RowKit

def SlotAt (tm : List (Nat × Slot)) (E : Env) (w : World) (v : Value) (s : Slot) : Prop :=
  (holds tm s.ch = true → RepV E w v s.v) ∧ (s.ch.all (fun x => boolSlot tm x.1) = true → holds tm s.ch = false → v = undef)

/-- What was there at the call's start. -/
structure Base where
  W : World
  ok : Nat → Prop
  /-- blocks of the caller that are handed over -/
  mb : Nat → Prop
  /-- values that the call was handed, by ghost slots from 1000000 on -/
  gh : Nat → Value := fun _ => undef

/-- The value of a slot. -/
def valAt (B : Base) (a : Act) (t : Nat) : Value := if t < 1000000 then a.tmps.getD t undef else B.gh t
theorem valAt_low {B : Base} {a : Act} {t : Nat} (h : t < 1000000) : valAt B a t = a.tmps.getD t undef := if_pos h

/-- Below n the worlds are the same, but for some blocks. -/
structure BelowM (M : Nat → Prop) (n : Nat) (w w' : World) : Prop where
  os : w'.os = w.os
  tape : w'.tape = w.tape
  output : w'.output = w.output
  size : w.heap.size ≤ w'.heap.size
  block : ∀ k, k < n → ¬ M k → w'.heap[k]? = w.heap[k]?
theorem BelowM.refl (M : Nat → Prop) (n : Nat) (w : World) : BelowM M n w w := ⟨rfl, rfl, rfl, Nat.le_refl _, fun _ _ _ => rfl⟩
theorem BelowM.below {n : Nat} {w w' : World} (h : BelowM (fun _ => False) n w w') : Below n w w' := ⟨h.os, h.tape, h.output, h.size, fun k hk => h.block k hk (fun h => h)⟩

structure Sim (N : Nat) (B : Base) (σ : St) (E : Env) (a : Act) (w : World) : Prop where
  size : a.tmps.size = N
  small : N ≤ 1000000
  defers : a.defers = []
  live : ∀ q, σ.nx ≤ q → ¬ E.live q
  heap : HeapAt E w σ.hp
  slots : ∀ t s, getT σ.tm t = some s → SlotAt σ.tm E w (valAt B a t) s
  base : BelowM B.mb B.W.heap.size B.W w
  own : ∀ o b, E.live o → E.conc o = some b → B.W.heap.size ≤ b ∨ B.mb b
  okold : ∀ b, E.ok b → B.ok b ∨ B.W.heap.size ≤ b

section
variable {P : Program} {N : Nat} {B : Base} {σ : St} {E : Env} {a : Act} {w : World}

theorem beq_ne {a b : Nat} (h : a ≠ b) : Nat.beq a b = false := by
  cases hb : Nat.beq a b
  · rfl
  · exact (h (Nat.eq_of_beq_eq_true hb)).elim

theorem getT_cons (t' : Nat) (s : Slot) (r : List (Nat × Slot)) (t : Nat) : getT ((t', s) :: r) t = if t' = t then some s else getT r t := by
  rw [getT]
  by_cases h : t' = t
  · subst h; simp
  · rw [beq_ne h]; simp [h]

theorem getT_putT : ∀ (tm : List (Nat × Slot)) (t : Nat) (s : Slot) (t' : Nat), getT (putT tm t s) t' = if t = t' then some s else getT tm t'
  | [], t, s, t' => by rw [putT, getT_cons]
  | (q, x) :: r, t, s, t' => by
    rw [putT]
    by_cases h : q = t
    · subst h
      rw [show Nat.beq q q = true by simp, cond_true, getT_cons, getT_cons]
      split <;> rfl
    · rw [beq_ne h, cond_false]
      cases Nat.blt t q
      · rw [cond_false, getT_cons, getT_putT r, getT_cons]
        by_cases h1 : q = t'
        · rw [if_pos h1, if_pos h1, if_neg (by omega)]
        · rw [if_neg h1, if_neg h1]
      · rw [cond_true, getT_cons]

theorem getT_map (f : Slot → Slot) : ∀ (tm : List (Nat × Slot)) (t : Nat), getT (tm.map fun x => (x.1, f x.2)) t = (getT tm t).map f
  | [], t => rfl
  | (q, x) :: r, t => by
    rw [List.map_cons, getT_cons, getT_cons, getT_map f r]
    split <;> rfl

theorem getT_killT : ∀ (kl : List Nat) (tm : List (Nat × Slot)) (t : Nat), getT (killT kl tm) t = (getT tm t).map fun s => { ch := s.ch, v := s.v.killAll kl }
  | [], tm, t => by simp [killT, V.killAll]
  | o :: r, tm, t => by
    rw [killT, getT_killT r, getT_map (fun s => { ch := s.ch, v := s.v.kill o })]
    cases getT tm t <;> simp [V.killAll]

/-- What 'holds' sees of a slot. -/
def boolOf : Option Slot → Option Bool
  | some { v := .c (.lit (.bool b)), .. } => some b
  | _ => none

theorem boolOf_some {s : Option Slot} {b : Bool} (h : boolOf s = some b) : ∃ ch, s = some { ch, v := .c (.lit (.bool b)) } := by
  unfold boolOf at h
  split at h
  · next ch b' => cases h; exact ⟨ch, rfl⟩
  · cases h

theorem holds_cons (tm : List (Nat × Slot)) (t : Nat) (w : Bool) (r : Chain) : holds tm ((t, w) :: r) = ((match boolOf (getT tm t) with | some b => (b == w) | none => false) && holds tm r) := by
  rw [holds]
  congr 1
  cases hb : boolOf (getT tm t) with
  | some b =>
    obtain ⟨ch, e⟩ := boolOf_some hb
    rw [e]
    cases w <;> cases b <;> rfl
  | none =>
    split
    · next h => rw [h] at hb; simp [boolOf] at hb
    · rfl

theorem holds_congr {tm tm' : List (Nat × Slot)} : ∀ (ch : Chain), (∀ x ∈ ch, boolOf (getT tm' x.1) = boolOf (getT tm x.1)) → holds tm' ch = holds tm ch
  | [], _ => rfl
  | (t, w) :: r, h => by
    rw [holds_cons, holds_cons, h (t, w) (by simp), holds_congr r fun x hx => h x (by simp [hx])]

theorem killAll_bool : ∀ (kl : List Nat) (b : Bool), (V.c (.lit (.bool b))).killAll kl = .c (.lit (.bool b))
  | [], _ => rfl
  | o :: r, b => by rw [V.killAll, V.kill, killAll_bool r]

theorem kill_not_bool (o : Nat) (v : V) (b : Bool) (h : v.kill o = .c (.lit (.bool b))) : v = .c (.lit (.bool b)) := by
  cases v with
  | c d => simpa [V.kill] using h
  | agg vs => simp [V.kill] at h
  | tup vs => simp [V.kill] at h
  | ptr o' k i j => rw [V.kill] at h; cases hb : Nat.beq o' o <;> simp [hb] at h
  | row o' k i j => rw [V.kill] at h; cases hb : Nat.beq o' o <;> simp [hb] at h
  | dptr k cs j => simp [V.kill] at h
  | fn f vs => simp [V.kill] at h

theorem killAll_not_bool : ∀ (kl : List Nat) (v : V) (b : Bool), v.killAll kl = .c (.lit (.bool b)) → v = .c (.lit (.bool b))
  | [], v, b, h => h
  | o :: r, v, b, h => kill_not_bool o v b (killAll_not_bool r _ b h)

theorem boolOf_kill (kl : List Nat) (s : Option Slot) : boolOf (s.map fun s => { ch := s.ch, v := s.v.killAll kl }) = boolOf s := by
  cases s with
  | none => rfl
  | some s =>
    obtain ⟨ch, v⟩ := s
    by_cases h : ∃ b, v = .c (.lit (.bool b))
    · obtain ⟨b, rfl⟩ := h
      simp [boolOf, killAll_bool]
    · have h2 : boolOf (some { ch, v }) = none := by
        cases hb : boolOf (some { ch, v }) with
        | none => rfl
        | some b => obtain ⟨ch', e⟩ := boolOf_some hb; cases e; exact (h ⟨b, rfl⟩).elim
      rw [h2]
      cases hb : boolOf (Option.map (fun s : Slot => { ch := s.ch, v := s.v.killAll kl }) (some { ch, v })) with
      | none => rfl
      | some b =>
        obtain ⟨ch', e⟩ := boolOf_some hb
        simp only [Option.map_some, Option.some.injEq, Slot.mk.injEq] at e
        exact (h ⟨b, killAll_not_bool kl v b e.2⟩).elim

theorem holds_killT (kl : List Nat) (tm : List (Nat × Slot)) (ch : Chain) : holds (killT kl tm) ch = holds tm ch :=
  holds_congr ch fun x _ => by rw [getT_killT, boolOf_kill]

theorem holds_putT {tm : List (Nat × Slot)} {t : Nat} {s : Slot} {ch : Chain} (h : ∀ x ∈ ch, x.1 ≠ t) : holds (putT tm t s) ch = holds tm ch :=
  holds_congr ch fun x hx => by rw [getT_putT, if_neg (fun e => h x hx e.symm)]

theorem holds_sub {tm : List (Nat × Slot)} {ch' : Chain} (h' : holds tm ch' = true) : ∀ (ch : Chain), subCh ch ch' = true → holds tm ch = true
  | [], _ => rfl
  | (t, w) :: r, h => by
    simp only [subCh, List.all_cons, Bool.and_eq_true] at h
    obtain ⟨h1, h2⟩ := h
    rw [holds_cons, Bool.and_eq_true]
    refine ⟨?_, holds_sub h' r h2⟩
    unfold inCh at h1
    obtain ⟨y, hy, hyt⟩ := List.any_eq_true.1 h1
    simp only [Bool.and_eq_true, Nat.beq_eq, beq_iff_eq] at hyt
    obtain ⟨e1, e2⟩ := hyt
    have key : ∀ (ch' : Chain), y ∈ ch' → holds tm ch' = true → (match boolOf (getT tm y.1) with | some b => (b == y.2) | none => false) = true := by
      intro ch'
      induction ch' with
      | nil => intro hy; simp at hy
      | cons z l ih =>
        intro hy hh
        obtain ⟨zt, zw⟩ := z
        rw [holds_cons, Bool.and_eq_true] at hh
        rcases List.mem_cons.1 hy with rfl | hy
        · exact hh.1
        · exact ih hy hh.2
    have := key ch' hy h'
    rw [← e1, ← e2] at this
    exact this

theorem rep_func (f : FuncId) : RepV E w (.func (.func f) #[] #[]) (.fn f []) :=
  .fn f [] [] rfl fun i v d h => by simp at h

theorem rep_ofConst (v : Value) : RepV E w v (V.ofValue v) := rep_ofValue v

theorem opnd_sound (hs : Sim N B σ E a w) {ch : Chain} (hh : holds σ.tm ch = true) {x : Operand} {v : V} (h : opndV σ ch x = some v) : RepV E w (a.eval x) v := by
  unfold opndV at h
  split at h
  · next t =>
    cases hlow : Nat.blt t 1000000 with
    | false => simp [hlow] at h
    | true =>
    rw [hlow, cond_true] at h
    split at h
    · next s hg =>
      cases hc : subCh s.ch ch with
      | false => simp [hc] at h
      | true =>
        simp only [hc, cond_true, Option.some.injEq] at h
        subst h
        have := (hs.slots t s hg).1 (holds_sub hh _ hc)
        rw [valAt_low (by simpa using hlow)] at this
        exact this
    · cases h
  · cases h; exact rep_ofValue _
  · cases h; exact rep_func _
  · cases h

theorem opnds_sound (hs : Sim N B σ E a w) {ch : Chain} (hh : holds σ.tm ch = true) : ∀ {xs : List Operand} {vs : List V}, opndsV σ ch xs = some vs → RepL E w (xs.map a.eval) vs
  | [], vs, h => by simp [opndsV] at h; subst h; exact .nil
  | x :: xs, vs, h => by
    unfold opndsV at h
    rw [List.mapM_cons] at h
    simp only [Option.bind_eq_bind, Option.pure_def, Option.bind_eq_some_iff, Option.some.injEq] at h
    obtain ⟨d, hd, ds, hds, rfl⟩ := h
    have ih := opnds_sound hs hh (xs := xs) hds
    refine ⟨by simp [ih.1], fun i v d' hv hd' => ?_⟩
    match i with
    | 0 => simp at hv hd'; subst hv; subst hd'; exact opnd_sound hs hh hd
    | i + 1 => exact ih.2 i v d' (by simpa using hv) (by simpa using hd')

/-- The guard of an operation. -/
theorem guard_sound {ops : Array Oper} (hs : Sim N B σ E a w) {o : Oper} {ch : Chain} (h : guardCh ops.toList σ.tm o.guard = some ch) (hb : ch.all (fun x => boolSlot σ.tm x.1) = true) : Region.wanted o (yielded ops a.tmps) = holds σ.tm ch := by
  unfold guardCh at h
  split at h
  · next hg => cases h; simp [Region.wanted, hg, holds]
  · next j wt hg =>
    split at h
    · next oj hj =>
      split at h
      · next t ht =>
        cases hlow : Nat.blt t 1000000 with
        | false => simp [hlow] at h
        | true =>
        rw [hlow, cond_true] at h
        split at h
        · next ch' b hgt =>
          cases h
          have hj' : ops[j]? = some oj := by rw [← Array.getElem?_toList]; exact hj
          rw [holds_cons, hgt]
          simp only [boolOf, Region.wanted, hg, yielded, hj', Option.bind_some, ht]
          have hsl := hs.slots t _ hgt
          rw [valAt_low (by simpa using hlow)] at hsl
          cases hh : holds σ.tm ch' with
          | true =>
            have hr := (hsl.1 hh).lit_inv
            have : a.tmps[t]? = some (.bool b) := by
              rw [Array.getD_eq_getD_getElem?] at hr
              cases hx : a.tmps[t]? with
              | none => rw [hx] at hr; simp [undef] at hr
              | some x => rw [hx] at hr; simpa using hr
            rw [this]
            cases b <;> cases wt <;> rfl
          | false =>
            have hr := hsl.2 (by simp only [List.all_cons, Bool.and_eq_true] at hb; exact hb.2) hh
            rw [Bool.and_false]
            rw [Array.getD_eq_getD_getElem?] at hr
            cases hx : a.tmps[t]? with
            | none => rfl
            | some x => rw [hx] at hr; simp at hr; subst hr; rfl
        · cases h
      · cases h
    · cases h

theorem pick_sound (hs : Sim N B σ E a w) {ch : Chain} (hh : holds σ.tm ch = true) {c x y : Operand} {v : V} (h : pickV σ ch c x y = some v) :
    ∃ b : Bool, a.eval c = .bool b ∧ RepV E w (if b then a.eval x else a.eval y) v := by
  unfold pickV at h
  split at h
  · next b hc =>
    have hcb := (opnd_sound hs hh hc).lit_inv
    refine ⟨b, hcb, ?_⟩
    split at h
    · next p q hx hy =>
      cases h
      -- the chain that holds in the branch taken
      have key : ∀ (want : Bool), b = want → ∀ (z : Operand) (u : V), opndV σ (chFor c want ch) z = some u → RepV E w (a.eval z) u := by
        intro want hw z u hz
        cases c with
        | tmp t =>
          have : holds σ.tm ((t, want) :: ch) = true := by
            rw [holds_cons, hh, Bool.and_true]
            cases hg : getT σ.tm t with
            | none => simp [opndV, hg] at hc
            | some s =>
              cases hsc : subCh s.ch ch with
              | false => simp [opndV, hg, hsc] at hc
              | true =>
                have hl : Nat.blt t 1000000 = true := by
                  cases hl : Nat.blt t 1000000 with
                  | true => rfl
                  | false => simp [opndV, hl] at hc
                simp only [opndV, hg, hsc, hl, cond_true, Option.some.injEq] at hc
                have : boolOf (some s) = some b := by obtain ⟨sc, sv⟩ := s; simp only at hc; subst hc; rfl
                rw [this, hw]
                cases want <;> rfl
          exact opnd_sound hs this hz
        | const _ => exact opnd_sound hs hh hz
        | global _ => exact opnd_sound hs hh hz
        | func _ => exact opnd_sound hs hh hz
      cases hb : b with
      | true =>
        subst hb
        have := key true rfl x _ hx
        simpa using this
      | false =>
        subst hb
        have := key false rfl y _ hy
        simpa using this
    · cases h
  · cases h

/-- The value of an operation, as the world sees it; the next state. -/
theorem put_getD {t t' : Nat} {v : Value} (ht : t < a.tmps.size) : (a.put (some t) v).tmps.getD t' undef = if t = t' then v else a.tmps.getD t' undef := by
  simp only [Act.put, Array.getD_eq_getD_getElem?, Array.getElem?_setIfInBounds]
  by_cases h : t = t'
  · subst h; simp [ht]
  · simp [h]

theorem valAt_put {t t' : Nat} {v : Value} (ht : t < a.tmps.size) (hl : t < 1000000) : valAt B (a.put (some t) v) t' = if t = t' then v else valAt B a t' := by
  unfold valAt
  rw [put_getD ht]
  by_cases h : t = t'
  · subst h; rw [if_pos hl, if_pos rfl, if_pos rfl]
  · simp only [if_neg h]

theorem getT_clearCh (d : Nat) (tm : List (Nat × Slot)) (t : Nat) : getT (clearCh d tm) t = (getT tm t).map fun s => bif s.ch.any (fun y => Nat.beq y.1 d) then ⟨[], .c .unk⟩ else s :=
  getT_map (fun s => bif s.ch.any (fun y => Nat.beq y.1 d) then ⟨[], .c .unk⟩ else s) tm t

theorem not_any {d : Nat} {ch : Chain} (h : ch.any (fun y => Nat.beq y.1 d) = false) : ∀ x ∈ ch, x.1 ≠ d := by
  intro x hx e
  have := List.any_eq_false.1 h x hx
  rw [e] at this
  simp at this

theorem notIn_ne {d : Nat} {ch : Chain} (h : notIn (some d) ch = true) : ∀ x ∈ ch, x.1 ≠ d := by
  intro x hx e
  have := List.all_eq_true.1 h x hx
  rw [e] at this
  simp at this

theorem boolSlot_of {tm : List (Nat × Slot)} {t : Nat} : boolSlot tm t = (boolOf (getT tm t)).isSome := by
  unfold boolSlot
  cases h : getT tm t with
  | none => rfl
  | some s =>
    obtain ⟨ch, v⟩ := s
    simp only
    unfold V.isBool boolOf
    split <;> simp_all

theorem holds_bools {tm : List (Nat × Slot)} : ∀ (ch : Chain), holds tm ch = true → ch.all (fun x => boolSlot tm x.1) = true
  | [], _ => rfl
  | (t, w) :: r, h => by
    rw [holds_cons, Bool.and_eq_true] at h
    simp only [List.all_cons, Bool.and_eq_true]
    refine ⟨?_, holds_bools r h.2⟩
    rw [boolSlot_of]
    cases hb : boolOf (getT tm t) with
    | none => rw [hb] at h; simp at h
    | some b => rfl

/-- Slots go from one state to another: bools that are left are as they were. -/
theorem slotAt_move {tm tm' : List (Nat × Slot)} {E' : Env} {w' : World} {v : Value} {s : Slot} (h : SlotAt tm E' w' v s) (hb : ∀ x ∈ s.ch, boolSlot tm' x.1 = true → boolOf (getT tm' x.1) = boolOf (getT tm x.1)) : SlotAt tm' E' w' v s := by
  have key : s.ch.all (fun x => boolSlot tm' x.1) = true → holds tm' s.ch = holds tm s.ch ∧ s.ch.all (fun x => boolSlot tm x.1) = true := by
    intro ha
    have h1 : ∀ x ∈ s.ch, boolOf (getT tm' x.1) = boolOf (getT tm x.1) := fun x hx => hb x hx (List.all_eq_true.1 ha x hx)
    refine ⟨holds_congr _ h1, List.all_eq_true.2 fun x hx => ?_⟩
    have := List.all_eq_true.1 ha x hx
    rw [boolSlot_of] at this ⊢
    rw [← h1 x hx]; exact this
  refine ⟨fun hh => ?_, fun ha hh => ?_⟩
  · have := key (holds_bools _ hh)
    exact h.1 (by rw [← this.1]; exact hh)
  · have := key ha
    exact h.2 this.2 (by rw [← this.1]; exact hh)

theorem boolOf_clear {d : Nat} {tm : List (Nat × Slot)} {t : Nat} (h : boolSlot (clearCh d tm) t = true) : boolOf (getT (clearCh d tm) t) = boolOf (getT tm t) := by
  rw [boolSlot_of] at h
  rw [getT_clearCh] at h ⊢
  cases hx : getT tm t with
  | none => rfl
  | some s =>
    rw [hx] at h
    simp only [Option.map_some] at h ⊢
    cases hc : s.ch.any (fun y => Nat.beq y.1 d) with
    | false => rfl
    | true => rw [hc] at h; simp [boolOf] at h

/-- The slots behind a put, whatever the rest. -/
theorem slots_put {tm : List (Nat × Slot)} {E' : Env} {w' : World} {ch : Chain} {d : Nat} {v : V} {v' : Value} (hlt : d < a.tmps.size) (hlow : d < 1000000) (hsl : ∀ t s, getT tm t = some s → SlotAt tm E' w' (valAt B a t) s)
    (hcd : ∀ x ∈ ch, x.1 ≠ d) (hv : SlotAt tm E' w' v' { ch, v }) : ∀ t s, getT (putT (clearCh d tm) d { ch, v }) t = some s → SlotAt (putT (clearCh d tm) d { ch, v }) E' w' (valAt B (a.put (some d) v') t) s := by
  have hb : ∀ c : Chain, (∀ x ∈ c, x.1 ≠ d) → ∀ x ∈ c, boolSlot (putT (clearCh d tm) d { ch, v }) x.1 = true → boolOf (getT (putT (clearCh d tm) d { ch, v }) x.1) = boolOf (getT tm x.1) := by
    intro c hc x hx h
    rw [boolSlot_of, getT_putT, if_neg (fun e => hc x hx e.symm)] at h
    rw [getT_putT, if_neg (fun e => hc x hx e.symm)]
    exact boolOf_clear (by rw [boolSlot_of]; exact h)
  intro t s hg
  rw [getT_putT] at hg
  rw [valAt_put hlt hlow]
  split at hg
  · next e =>
    subst e; cases hg
    rw [if_pos rfl]
    exact slotAt_move hv (hb ch hcd)
  · next e =>
    rw [if_neg e]
    rw [getT_clearCh] at hg
    cases hx : getT tm t with
    | none => rw [hx] at hg; cases hg
    | some y =>
      rw [hx] at hg
      simp only [Option.map_some, Option.some.injEq] at hg
      cases hc : y.ch.any (fun y => Nat.beq y.1 d) with
      | true =>
        rw [hc, cond_true] at hg; subst hg
        exact ⟨fun _ => .unk _, fun _ h => by simp [holds] at h⟩
      | false =>
        rw [hc, cond_false] at hg; subst hg
        exact slotAt_move (hsl t _ hx) (hb _ (not_any hc))

theorem slots_kill {kl : List Nat} {tm : List (Nat × Slot)} {E' : Env} {w' : World} (hr : ∀ v d, RepV E w v d → RepV E' w' v (d.killAll kl)) (hsl : ∀ t s, getT tm t = some s → SlotAt tm E w (valAt B a t) s) :
    ∀ t s, getT (killT kl tm) t = some s → SlotAt (killT kl tm) E' w' (valAt B a t) s := by
  intro t s hg
  rw [getT_killT] at hg
  cases hx : getT tm t with
  | none => rw [hx] at hg; cases hg
  | some y =>
    rw [hx] at hg; cases hg
    refine slotAt_move (tm := tm) ⟨fun h => hr _ _ ((hsl t y hx).1 h), (hsl t y hx).2⟩ fun x _ _ => ?_
    rw [getT_killT, boolOf_kill]

theorem sim_after (hs : Sim N B σ E a w) {rc : Rec} {E' : Env} {w' : World} {v' : Value} {M : Nat} (hM : σ.nx ≤ M) (hnid : rc.nid < M) (hP : Post E w σ.hp rc.nid rc.res E' w' v') (hh : holds σ.tm rc.ch = true)
    (hd : dstOk N rc.dst = true) (hn : rc.ch.isEmpty = true ∨ notIn rc.dst rc.ch = true) : Sim N B { after σ rc with nx := M } E' (a.put rc.dst v') w' := by
  have hlive : ∀ q, M ≤ q → ¬ E'.live q := by
    intro q hq h
    rcases hP.live q h with h | h
    · exact hs.live q (by omega) h
    · omega
  have hown : ∀ o b, E'.live o → E'.conc o = some b → B.W.heap.size ≤ b ∨ B.mb b := by
    intro o b ho h
    rcases hP.st.concnew o b ho h with ⟨o, h1, h2⟩ | h
    · exact hs.own o b h1 h2
    · have := hs.base.size; exact .inl (by omega)
  have hold : ∀ b, E'.ok b → B.ok b ∨ B.W.heap.size ≤ b := by
    intro b hb
    rcases hP.st.okold b hb with h | h
    · exact hs.okold b h
    · have := hs.base.size; exact .inr (by omega)
  have hbase : BelowM B.mb B.W.heap.size B.W w' := by
    refine ⟨hP.st.os.trans hs.base.os, hP.st.tape.trans hs.base.tape, hP.st.output.trans hs.base.output, Nat.le_trans hs.base.size hP.st.size, fun k hk hm => ?_⟩
    rw [hP.st.blk k (by have := hs.base.size; omega) fun o ho h => by
      rcases hs.own o k ho h with h | h
      · omega
      · exact hm h]
    exact hs.base.block k hk hm
  have hkill := slots_kill (kl := rc.res.kill) (E' := E') (w' := w') (fun v d h => h.step hP.st hs.heap.sep hs.heap.oklt) hs.slots
  cases hdst : rc.dst with
  | none =>
    refine ⟨hs.size, hs.small, hs.defers, hlive, hP.heap, fun t s hg => ?_, hbase, hown, hold⟩
    simp only [after, hdst] at hg ⊢
    exact hkill t s hg
  | some d =>
    rw [hdst] at hd hn
    simp only [dstOk, Nat.blt_eq] at hd
    have hlt : d < a.tmps.size := by rw [hs.size]; exact hd
    have hcd : ∀ x ∈ rc.ch, x.1 ≠ d := by
      rcases hn with hn | hn
      · intro x hx; rw [List.isEmpty_iff.1 hn] at hx; simp at hx
      · exact notIn_ne hn
    refine ⟨by simp [Act.put, hs.size], hs.small, hs.defers, hlive, hP.heap, ?_, hbase, hown, hold⟩
    simp only [after, hdst]
    refine slots_put hlt (by have := hs.small; omega) hkill hcd ⟨fun _ => hP.val, fun _ h => ?_⟩
    rw [holds_killT, hh] at h
    cases h
end
end Go.Ax
