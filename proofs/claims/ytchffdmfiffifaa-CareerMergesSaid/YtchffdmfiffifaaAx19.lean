import Derived.Test.YtchffdmfiffifaaAx18
/- Rules for proofs in pieces. -/
namespace Go.Ax
open Go.RowKit

/-- From every world that the state tells of, the code runs, and ends where K holds. -/
structure EvOk (P : Program) (N : Nat) (c : Code) (K : Exit → St → Prop) (σ : St) : Prop where
  ok : ∀ (B : Base) (E : Env) (a : Act) (w : World), Sim N B σ E a w → c.wp P (KS N B K) a w

section
variable {P : Program} {C : FuncId → Option CC} {N : Nat} {c x y : Code} {K K' : Exit → St → Prop} {σ σ' : St}

theorem EvOk.of_ev (hm : P.follows .mixedOrders = true) (hC : ∀ f con, C f = some con → MeetsC P f con) (h : ev P C N c K σ) : EvOk P N c K σ :=
  ⟨fun _ E a w hs => ev_sound hm hC c K σ E a w h hs⟩

theorem EvOk.mono (h : EvOk P N c K σ) (hk : ∀ e σ, K e σ → K' e σ) : EvOk P N c K' σ :=
  ⟨fun B E a w hs => wp_mono (h.ok B E a w hs) fun _ _ _ ⟨σ', E', h1, h2⟩ => ⟨σ', E', hk _ _ h1, h2⟩⟩

theorem EvOk.ent (he : Ent σ σ') (h : EvOk P N c K σ') : EvOk P N c K σ :=
  ⟨fun B E a w hs => by
    obtain ⟨E', hs'⟩ := he.sim N B E a w hs
    exact h.ok B E' a w hs'⟩

theorem EvOk.seq (h : EvOk P N x (thenK (EvOk P N y K) K) σ) : EvOk P N (.seq x y) K σ :=
  ⟨fun B E a w hs => by
    refine wp_seq (wp_mono (h.ok B E a w hs) ?_)
    rintro e a' w' ⟨σ', E', hk, hs'⟩
    cases e with
    | normal => exact hk.ok B E' a' w' hs'
    | exit id => exact ⟨σ', E', hk, hs'⟩
    | goto l => exact ⟨σ', E', hk, hs'⟩
    | ret => exact ⟨σ', E', hk, hs'⟩
    | panic ch => exact ⟨σ', E', hk, hs'⟩
    | outgrown => exact ⟨σ', E', hk, hs'⟩⟩

theorem thenK_mono {J J' : St → Prop} (h : ∀ σ, J σ → J' σ) : ∀ e σ, thenK J K e σ → thenK J' K e σ := by
  intro e σ hk
  cases e with
  | normal => exact h σ hk
  | exit id => exact hk
  | goto l => exact hk
  | ret => exact hk
  | panic ch => exact hk
  | outgrown => exact hk

/-- Ways meet behind a piece. -/
theorem EvOk.join (J : St → Prop) (h : EvOk P N x (thenK J K) σ) (hy : ∀ σ', J σ' → EvOk P N y K σ') : EvOk P N (.seq x y) K σ :=
  .seq (h.mono (thenK_mono hy))

theorem EvOk.block {id : Nat} (h : EvOk P N x (blockK id K) σ) : EvOk P N (.block id x) K σ :=
  ⟨fun B E a w hs => by
    refine wp_block (wp_mono (h.ok B E a w hs) ?_)
    rintro e a' w' ⟨σ', E', hk, hs'⟩
    cases e with
    | normal => exact ⟨σ', E', hk, hs'⟩
    | exit id' =>
      show if id' = id then KS N B K .normal a' w' else KS N B K (.exit id') a' w'
      simp only [blockK] at hk
      by_cases hid : id' = id
      · subst hid
        rw [show Nat.beq id' id' = true by simp, cond_true] at hk
        rw [if_pos rfl]; exact ⟨σ', E', hk, hs'⟩
      · rw [beq_ne hid, cond_false] at hk
        rw [if_neg hid]; exact ⟨σ', E', hk, hs'⟩
    | goto l => exact ⟨σ', E', hk, hs'⟩
    | ret => exact ⟨σ', E', hk, hs'⟩
    | panic ch => exact ⟨σ', E', hk, hs'⟩
    | outgrown => exact ⟨σ', E', hk, hs'⟩⟩

theorem EvOk.cond {o : Operand} {b : Bool} (hb : opndV σ [] o = some (bl b)) (ht : b = true → EvOk P N x K σ) (hf : b = false → EvOk P N y K σ) : EvOk P N (.cond o x y) K σ :=
  ⟨fun B E a w hs => by
    have hv : a.eval o = .bool b := (opnd_sound hs (ch := []) rfl hb).lit_inv
    exact wp_cond_split hv (fun h => (ht h).ok B E a w hs) fun h => (hf h).ok B E a w hs⟩

theorem EvOk.loop (I : Nat → St → Prop) (m : Nat) (σ0 : St) (h1 : Ent σ σ0) (h2 : I m σ0)
    (h3 : ∀ m σ, I m σ → EvOk P N x (thenK (fun σ' => ∃ m' σ'', m' < m ∧ Ent σ' σ'' ∧ I m' σ'') K) σ) : EvOk P N (.loop x) K σ :=
  ⟨fun B E a w hs => by
    obtain ⟨E0, hs0⟩ := h1.sim N B E a w hs
    exact ev_loop (fun K σ => EvOk P N x K σ) x (fun K σ E a w h hs => h.ok B E a w hs) I K h3 m σ0 E0 a w h2 hs0⟩

theorem EvOk.skip (h : K .normal σ) : EvOk P N .skip K σ := ⟨fun _ E _ _ hs => wp_skip ⟨σ, E, h, hs⟩⟩
theorem EvOk.exit {id : Nat} (h : K (.exit id) σ) : EvOk P N (.exit id) K σ := ⟨fun _ E _ _ hs => wp_exit ⟨σ, E, h, hs⟩⟩
theorem EvOk.ret (h : K .ret σ) : EvOk P N .ret K σ := ⟨fun _ E _ _ hs => wp_ret ⟨σ, E, h, hs⟩⟩
end

/-- The first n pieces. -/
def tks : Nat → Code → Code
  | 0, _ => .skip
  | n + 1, c => .seq (hd c) (tks n (tl c))
def isSeqs : Nat → Code → Bool
  | 0, _ => true
  | n + 1, .seq _ y => isSeqs n y
  | _, _ => false
theorem EvOk.cut {P : Program} {C : FuncId → Option CC} {N : Nat} {K : Exit → St → Prop} (hm : P.follows .mixedOrders = true) (hC : ∀ f con, C f = some con → MeetsC P f con) :
    ∀ (n : Nat) (c : Code) (σ : St), isSeqs n c = true → ev P C N (tks n c) (thenK (EvOk P N (tls n c) K) K) σ → EvOk P N c K σ
  | 0, c, σ, _, h => h
  | n + 1, c, σ, hs, h => by
    cases c with
    | seq x y =>
      have h' : ev P C N x (thenK (ev P C N (tks n y) (thenK (EvOk P N (tls n y) K) K)) (thenK (EvOk P N (tls n y) K) K)) σ := h
      refine .seq (.of_ev hm hC (ev_mono x ?_ h'))
      intro e σ' hk
      cases e with
      | normal => exact EvOk.cut hm hC n y σ' hs hk
      | exit id => exact hk
      | goto l => exact hk
      | ret => exact hk
      | panic ch => exact hk
      | outgrown => exact hk
    | _ => simp [isSeqs] at hs

/-! ### Tables of contracts -/
def lookC : List (FuncId × CC) → FuncId → Option CC
  | [], _ => none
  | (g, c) :: r, f => bif Nat.beq g f then some c else lookC r f

def MeetsL (P : Program) : List (FuncId × CC) → Prop
  | [] => True
  | x :: r => MeetsC P x.1 x.2 ∧ MeetsL P r

theorem lookC_ok {P : Program} : ∀ {l : List (FuncId × CC)}, MeetsL P l → ∀ f con, lookC l f = some con → MeetsC P f con
  | [], _, f, con, h => by simp [lookC] at h
  | (g, c) :: r, hl, f, con, h => by
    rw [lookC] at h
    cases hb : Nat.beq g f with
    | true =>
      rw [hb, cond_true, Option.some.injEq] at h
      have := Nat.eq_of_beq_eq_true hb
      subst this; subst h
      exact hl.1
    | false =>
      rw [hb, cond_false] at h
      exact lookC_ok hl.2 f con h

/-- A function, by pieces. -/
theorem meets_pieces {P : Program} {f : FuncId} {fn : Func} {c : Code} (hf : P.funcs[f]? = some fn) {con : Con} (hb : fn.body = some c) (hn : (fn.name == "runtime.NumGoroutine") = false)
    (h : ∀ vs p out, con vs = some (p, out) → (∀ q ∈ p, q) → ∃ vs', VLes vs vs' ∧ (vs'.length ≤ fn.ntmps ∧ fn.ntmps ≤ 1000000) ∧ EvOk P fn.ntmps c (retK P fn.results.toList (OutOk out)) { tm := initT vs' 0, hp := [], nx := 0 }) : Meets P f con := by
  intro ok w xs vs p out hx hok hcon hp
  obtain ⟨vs', hle, hN, hrun⟩ := h vs p out hcon hp
  refine .inl ⟨enters_of hf hb hn _ _, ?_⟩
  refine calls_of_wp hf hb (wp_mono (hrun.ok _ _ _ _ (sim_init (hx.le hle) hok hN.1 hN.2)) ?_)
  rintro e a' w' ⟨σ', E', hk, hs'⟩
  have key : (match resVs P σ' fn.results.toList with | some v => OutOk out σ'.hp v | none => False) → a'.defers = [] ∧ ∃ v, (results fn a'.tmps).run P w' = .ok v w' ∧ ∃ v', Ending.returned v = .returned v' ∧ (Below w.heap.size w w' ∧ OutAt ok w w' v' out) := by
    intro hk
    split at hk
    · next v hv =>
      obtain ⟨u, h1, h2⟩ := run_results hs' hv
      exact ⟨hs'.defers, u, h1, u, rfl, hs'.base.below, outOk_at hs' h2 hk⟩
    · exact hk.elim
  cases e with
  | normal => exact key hk
  | ret => exact key hk
  | exit id => exact hk.elim
  | goto l => exact hk.elim
  | panic ch => exact hk.elim
  | outgrown => exact hk.elim

/-- 'runF', shut. -/
structure RunOk (P : Program) (C : FuncId → Option CC) (fn : Func) (vs : List V) (Q : Heap → V → Prop) : Prop where
  h : runF P C fn vs Q

/-- A function, whole. -/
theorem meets_whole {P : Program} {f : FuncId} {fn : Func} (hf : P.funcs[f]? = some fn) {con : Con} (l : List (FuncId × CC)) (hl : MeetsL P l) (hm : P.follows .mixedOrders = true) (hn : (fn.name == "runtime.NumGoroutine") = false)
    (hb : fn.body.isSome = true) (h : ∀ vs p out, con vs = some (p, out) → (∀ q ∈ p, q) → ∃ vs', VLes vs vs' ∧ RunOk P (lookC l) fn vs' (OutOk out)) : Meets P f con := by
  obtain ⟨c, hc⟩ := Option.isSome_iff_exists.1 hb
  refine meets_pieces hf hc hn fun vs p out h1 h2 => ?_
  obtain ⟨vs', h3, ⟨h4⟩⟩ := h vs p out h1 h2
  refine ⟨vs', h3, ?_⟩
  unfold runF at h4
  rw [hc] at h4
  simp only at h4
  cases hN : (Nat.ble vs'.length fn.ntmps && Nat.ble fn.ntmps 1000000) with
  | false => rw [hN] at h4; exact h4.elim
  | true =>
    rw [hN, cond_true] at h4
    rw [Bool.and_eq_true] at hN
    exact ⟨⟨Nat.ble_eq.mp hN.1, Nat.ble_eq.mp hN.2⟩, .of_ev hm (lookC_ok hl) h4⟩

/-! ### Weaker states, by computation -/
section
variable {σ σ' : St}

def keepT : List Nat → List (Nat × Slot) → List (Nat × Slot)
  | [], _ => []
  | t :: r, tm => match getT tm t with | some s => (t, s) :: keepT r tm | none => keepT r tm
def keepO : List Nat → Heap → Heap
  | [], _ => []
  | o :: r, H => match Heap.get H o with | some b => (o, some b) :: keepO r H | none => keepO r H
def memB (o : Nat) (l : List Nat) : Bool := l.any fun q => Nat.beq q o
def slotOk (os : List Nat) (s : Slot) : Bool := s.ch.isEmpty && (V.refs s.v).all fun o => memB o os
def obOk (os : List Nat) : Ob → Bool
  | .box cs => (V.refss cs).all fun o => memB o os
  | .row .. => true
  | .raw _ => true
/-- The state, with some of its slots and objects alone. -/
def canon (ts os : List Nat) (nx : Nat) (σ : St) : St := { tm := keepT ts σ.tm, hp := keepO os σ.hp, nx := nx }
def canonOk (ts os : List Nat) (nx : Nat) (σ : St) : Bool :=
  (keepT ts σ.tm).all (fun x => slotOk os x.2) && (keepO os σ.hp).all (fun x => match x.2 with | some b => obOk os b | none => false) && os.all (fun o => Nat.blt o nx)

theorem memB_mem {o : Nat} {l : List Nat} (h : memB o l = true) : o ∈ l := by
  obtain ⟨q, hq, hb⟩ := List.any_eq_true.1 h
  rw [← Nat.eq_of_beq_eq_true hb]; exact hq

theorem keepT_get : ∀ (ts : List Nat) (tm : List (Nat × Slot)) (t : Nat) (s : Slot), getT (keepT ts tm) t = some s → getT tm t = some s ∧ (t, s) ∈ keepT ts tm
  | [], tm, t, s, h => by simp [keepT, getT] at h
  | q :: r, tm, t, s, h => by
    unfold keepT at h ⊢
    split at h
    · next s' hs' =>
      rw [getT_cons] at h
      skip
      split at h
      · next e => subst e; cases h; exact ⟨hs', by simp⟩
      · have := keepT_get r tm t s h
        exact ⟨this.1, List.mem_cons_of_mem _ this.2⟩
    · next hs' =>
      skip
      exact keepT_get r tm t s h

theorem keepO_get : ∀ (os : List Nat) (H : Heap) (o : Nat) (b : Ob), Heap.get (keepO os H) o = some b → Heap.get H o = some b ∧ (o, some b) ∈ keepO os H ∧ o ∈ os
  | [], H, o, b, h => by simp [keepO, Heap.get] at h
  | q :: r, H, o, b, h => by
    unfold keepO at h ⊢
    split at h
    · next s' hs' =>
      rw [Heap.get_cons] at h
      skip
      split at h
      · next e => subst e; cases h; exact ⟨hs', by simp, by simp⟩
      · have := keepO_get r H o b h
        exact ⟨this.1, List.mem_cons_of_mem _ this.2.1, List.mem_cons_of_mem _ this.2.2⟩
    · next hs' =>
      skip
      have := keepO_get r H o b h
      exact ⟨this.1, this.2.1, List.mem_cons_of_mem _ this.2.2⟩

/-- A value needs only the objects that it names. -/
theorem RepV.only {E : Env} {w : World} {os : List Nat} {v : Value} {d : V} (h : RepV E w v d) : (∀ o ∈ V.refs d, o ∈ os) → RepV { E with live := fun o => E.live o ∧ o ∈ os } w v d := by
  induction h with
  | c v d h => exact fun _ => .c v d h
  | agg vs ds hl h ih =>
    intro hr
    exact .agg vs ds hl fun i v d hv hd => ih i v d hv hd fun o ho => hr o (refss_mem hd ho)
  | tup vs ds hl h ih =>
    intro hr
    exact .tup vs ds hl fun i v d hv hd => ih i v d hv hd fun o ho => hr o (refss_mem hd ho)
  | ptr o k i j b h1 h2 h3 => exact fun hr => .ptr o k i j b ⟨h1, hr o (by simp [V.refs])⟩ h2 h3
  | row o k off n a c hn hc hm hl ha h0 => exact fun hr => .row o k off n a c ⟨hn, hr o (by simp [V.refs])⟩ hc hm hl ha h0
  | dptr k cs j ad u h1 h2 h3 h4 => exact fun _ => .dptr k cs j ad u h1 h2 h3 h4
  | fn f vs ds hl h ih =>
    intro hr
    exact .fn f vs ds hl fun i v d hv hd => ih i v d hv hd fun o ho => hr o (refss_mem hd ho)

theorem Ent.canon (ts os : List Nat) (nx : Nat) (h : canonOk ts os nx σ = true) : Ent σ (canon ts os nx σ) := by
  unfold canonOk at h
  simp only [Bool.and_eq_true] at h
  obtain ⟨⟨h1, h2⟩, h3⟩ := h
  refine ⟨fun N B E a w hs => ⟨{ E with live := fun o => E.live o ∧ o ∈ os }, hs.size, hs.small, hs.defers, fun q hq hl => ?_, ⟨fun o ob ho => ?_, fun o o' b a b' => hs.heap.inj o o' b a.1 b'.1, fun o b a => hs.heap.sep o b a.1, fun o b a => hs.heap.lt o b a.1, hs.heap.oklt⟩, fun t s hg => ?_, hs.base, fun o b a => hs.own o b a.1, hs.okold⟩⟩
  · have := List.all_eq_true.1 h3 q hl.2
    simp only [Nat.blt_eq] at this
    have hq' : nx ≤ q := hq
    omega
  · obtain ⟨g1, g2, g3⟩ := keepO_get os σ.hp o ob ho
    obtain ⟨l1, l2⟩ := hs.heap.at_ o ob g1
    refine ⟨⟨l1, g3⟩, ?_⟩
    have hok := List.all_eq_true.1 h2 _ g2
    cases ob with
    | box cs =>
      obtain ⟨e1, b, Cs, t, e2, e3, e4⟩ := l2
      refine ⟨e1, b, Cs, t, e2, e3, e4.1, fun i v d hv hd => (e4.2 i v d hv hd).only fun q hq => ?_⟩
      exact memB_mem (List.all_eq_true.1 hok q (refss_mem hd hq))
    | row t k n el => exact l2
    | raw x => exact l2
  · obtain ⟨g1, g2⟩ := keepT_get ts σ.tm t s hg
    have hok := List.all_eq_true.1 h1 _ g2
    unfold slotOk at hok
    simp only [Bool.and_eq_true, List.isEmpty_iff] at hok
    have hh := hs.slots t s g1
    refine ⟨fun _ => (hh.1 (by rw [hok.1]; rfl)).only fun q hq => memB_mem (List.all_eq_true.1 hok.2 q hq), fun _ h => ?_⟩
    rw [hok.1] at h
    simp [holds] at h
end
end Go.Ax
