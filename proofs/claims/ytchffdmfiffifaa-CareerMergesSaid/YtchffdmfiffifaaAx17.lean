import Derived.Test.YtchffdmfiffifaaAx16
import Derived.Test.YtchffdmfiffifaaAy2
/- Code: an evaluation of it that is sound. -/
namespace Go.Ax
open Go.RowKit

theorem allP_all : ∀ {ps : List Prop} {Q : Prop}, allP ps Q → (∀ p ∈ ps, p) ∧ Q
  | [], _, h => ⟨fun p hp => by simp at hp, h⟩
  | p :: ps, Q, h => by
    obtain ⟨h1, h2⟩ := allP_all h.2
    refine ⟨fun q hq => ?_, h2⟩
    rcases List.mem_cons.1 hq with rfl | hq
    · exact h.1
    · exact h1 q hq

/-- What holds of a state holds of another. -/
structure Ent (σ σ' : St) : Prop where
  sim : ∀ (N : Nat) (B : Base) (E : Env) (a : Act) (w : World), Sim N B σ E a w → ∃ E', Sim N B σ' E' a w

def thenK (K1 : St → Prop) (K : Exit → St → Prop) : Exit → St → Prop
  | .normal, σ => K1 σ
  | e, σ => K e σ

def blockK (id : Nat) (K : Exit → St → Prop) : Exit → St → Prop
  | .exit id', σ => bif Nat.beq id' id then K .normal σ else K (.exit id') σ
  | e, σ => K e σ

/-- A loop: an invariant with a number that falls. -/
structure LoopOk (body : (Exit → St → Prop) → St → Prop) (K : Exit → St → Prop) (σ : St) : Prop where
  ok : ∃ I : Nat → St → Prop, (∃ m σ0, Ent σ σ0 ∧ I m σ0) ∧ ∀ m σ, I m σ → body (thenK (fun σ' => ∃ m' σ'', m' < m ∧ Ent σ' σ'' ∧ I m' σ'') K) σ

def ev (P : Program) (C : FuncId → Option CC) (N : Nat) : Code → (Exit → St → Prop) → St → Prop
  | .skip, K, σ => K .normal σ
  | .label _, K, σ => K .normal σ
  | .region _ ops dr, K, σ =>
    bif dr then
      match goD P C N ops.toList ops.toList σ.nx { σ with nx := σ.nx + ops.toList.length } with
      | some (ps, rcs, σ') => bif edgesAll 0 ops.toList && drawOk (masks ops.toList []) [] rcs then allP ps (K .normal σ') else False
      | none => False
    else
      match goOps P C N ops.toList ops.toList σ with
      | some (ps, σ') => allP ps (K .normal σ')
      | none => goS P C N ops.toList ops.toList σ (K .normal)
  | .seq x y, K, σ => ev P C N x (thenK (ev P C N y K) K) σ
  | .cond c x y, K, σ =>
    match opndV σ [] c with
    | some (.c (.lit (.bool b))) => bif b then ev P C N x K σ else ev P C N y K σ
    | _ => False
  | .block id x, K, σ => ev P C N x (blockK id K) σ
  | .exit id, K, σ => K (.exit id) σ
  | .ret, K, σ => K .ret σ
  | .loop x, K, σ => LoopOk (ev P C N x) K σ
  | _, _, _ => False

section
variable {P : Program} {N : Nat} {B : Base} {C : FuncId → Option CC}

/-- The states of the model in which K holds. -/
def KS (N : Nat) (B : Base) (K : Exit → St → Prop) (e : Exit) (a : Act) (w : World) : Prop := ∃ σ E, K e σ ∧ Sim N B σ E a w

theorem ev_loop (body : (Exit → St → Prop) → St → Prop) (c : Code)
    (hbody : ∀ (K : Exit → St → Prop) (σ : St) (E : Env) (a : Act) (w : World), body K σ → Sim N B σ E a w → c.wp P (KS N B K) a w)
    (I : Nat → St → Prop) (K : Exit → St → Prop) (hI : ∀ m σ, I m σ → body (thenK (fun σ' => ∃ m' σ'', m' < m ∧ Ent σ' σ'' ∧ I m' σ'') K) σ) :
    ∀ (m : Nat) (σ : St) (E : Env) (a : Act) (w : World), I m σ → Sim N B σ E a w → (Code.loop c).wp P (KS N B K) a w := by
  intro m σ E a w hm hs b k cs
  have key : ∀ m σ E a w, I m σ → Sim N B σ E a w → ∃ e a' w', KS N B K e a' w' ∧ Arrives P (lone (b.at a (.code c :: .inLoop c :: k)) cs w) b k cs e a' w' := by
    intro m
    induction m using Nat.strongRecOn with
    | _ m ih =>
      intro σ E a w hm hs
      obtain ⟨e, a₁, w₁, ⟨σ₁, E₁, hk, hs₁⟩, harr⟩ := hbody _ σ E a w (hI m σ hm) hs b (.inLoop c :: k) cs
      cases e with
      | normal =>
        obtain ⟨m', σ2, hlt, hent, hI'⟩ := hk
        obtain ⟨E2, hs2⟩ := hent.sim N B E₁ a₁ w₁ hs₁
        obtain ⟨e₂, a₂, w₂, hq₂, harr₂⟩ := ih m' hlt σ2 E2 a₁ w₁ hI' hs2
        exact ⟨e₂, a₂, w₂, hq₂, .of_steps (Steps.trans harr (.one step_inLoop)) harr₂⟩
      | exit id => exact ⟨_, a₁, w₁, ⟨σ₁, E₁, hk, hs₁⟩, .pass (x := .inLoop c) rfl (fun _ _ => .inl (by simp)) harr⟩
      | goto l => exact ⟨_, a₁, w₁, ⟨σ₁, E₁, hk, hs₁⟩, .pass (x := .inLoop c) rfl (fun _ _ => .inl (by simp)) harr⟩
      | ret => exact ⟨_, a₁, w₁, ⟨σ₁, E₁, hk, hs₁⟩, .pass (x := .inLoop c) rfl (fun _ _ => .inl (by simp)) harr⟩
      | panic ch => exact ⟨_, a₁, w₁, ⟨σ₁, E₁, hk, hs₁⟩, .pass (x := .inLoop c) rfl (fun _ _ => .inl (by simp)) harr⟩
      | outgrown => exact ⟨_, a₁, w₁, ⟨σ₁, E₁, hk, hs₁⟩, .pass (x := .inLoop c) rfl (fun _ _ => .inl (by simp)) harr⟩
  obtain ⟨e, a', w', hq, harr⟩ := key m σ E a w hm hs
  exact ⟨e, a', w', hq, .of_steps (.one step_loop) harr⟩

theorem ev_sound (hm : P.follows .mixedOrders = true) (hC : ∀ f con, C f = some con → MeetsC P f con) : ∀ (c : Code) (K : Exit → St → Prop) (σ : St) (E : Env) (a : Act) (w : World),
    ev P C N c K σ → Sim N B σ E a w → c.wp P (KS N B K) a w := by
  intro c
  induction c with
  | skip => exact fun K σ E a w h hs => wp_skip ⟨σ, E, h, hs⟩
  | label l => exact fun K σ E a w h hs => wp_label ⟨σ, E, h, hs⟩
  | region id ops dr =>
    intro K σ E a w h hs
    rw [ev] at h
    cases dr with
    | true =>
      rw [cond_true] at h
      split at h
      · next ps rcs σ' hg =>
        cases hc : (edgesAll 0 ops.toList && drawOk (masks ops.toList []) [] rcs) with
        | false => rw [hc] at h; exact h.elim
        | true =>
          rw [hc, cond_true] at h
          simp only [Bool.and_eq_true] at hc
          obtain ⟨h1, h2⟩ := allP_all h
          exact region_draw_wp hm hC hg hc.1 hc.2 h1 hs fun E' a' w' hs' => ⟨σ', E', h2, hs'⟩
      · exact h.elim
    | false =>
      rw [cond_false] at h
      split at h
      · next ps σ' hg =>
        obtain ⟨h1, h2⟩ := allP_all h
        exact region_wp hC hg h1 hs fun E' a' w' hs' => ⟨σ', E', h2, hs'⟩
      · exact regionS_wp hC h hs fun σ' E' a' w' hk hs' => ⟨σ', E', hk, hs'⟩
  | seq x y ihx ihy =>
    intro K σ E a w h hs
    rw [ev] at h
    refine wp_seq (wp_mono (ihx _ σ E a w h hs) ?_)
    rintro e a' w' ⟨σ', E', hk, hs'⟩
    cases e with
    | normal => exact ihy K σ' E' a' w' hk hs'
    | exit id => exact ⟨σ', E', hk, hs'⟩
    | goto l => exact ⟨σ', E', hk, hs'⟩
    | ret => exact ⟨σ', E', hk, hs'⟩
    | panic ch => exact ⟨σ', E', hk, hs'⟩
    | outgrown => exact ⟨σ', E', hk, hs'⟩
  | cond c x y ihx ihy =>
    intro K σ E a w h hs
    rw [ev] at h
    split at h
    · next b hb =>
      have hv : a.eval c = .bool b := (opnd_sound hs (ch := []) rfl hb).lit_inv
      refine wp_cond hv ?_
      cases b with
      | true => rw [if_pos rfl]; exact ihx K σ E a w h hs
      | false => rw [if_neg (by simp)]; exact ihy K σ E a w h hs
    · exact h.elim
  | block id x ih =>
    intro K σ E a w h hs
    rw [ev] at h
    refine wp_block (wp_mono (ih _ σ E a w h hs) ?_)
    rintro e a' w' ⟨σ', E', hk, hs'⟩
    cases e with
    | normal => exact ⟨σ', E', hk, hs'⟩
    | exit id' =>
      unfold Exit.inBlock
      simp only [blockK] at hk
      by_cases hid : id' = id
      · subst hid
        rw [show Nat.beq id' id' = true by simp, cond_true] at hk
        show if id' = id' then KS N B K .normal a' w' else KS N B K (.exit id') a' w'
        rw [if_pos rfl]; exact ⟨σ', E', hk, hs'⟩
      · rw [beq_ne hid, cond_false] at hk
        show if id' = id then KS N B K .normal a' w' else KS N B K (.exit id') a' w'
        rw [if_neg hid]; exact ⟨σ', E', hk, hs'⟩
    | goto l => exact ⟨σ', E', hk, hs'⟩
    | ret => exact ⟨σ', E', hk, hs'⟩
    | panic ch => exact ⟨σ', E', hk, hs'⟩
    | outgrown => exact ⟨σ', E', hk, hs'⟩
  | exit id => exact fun K σ E a w h hs => wp_exit ⟨σ, E, h, hs⟩
  | ret => exact fun K σ E a w h hs => wp_ret ⟨σ, E, h, hs⟩
  | loop x ih =>
    intro K σ E a w h hs
    rw [ev] at h
    obtain ⟨I, ⟨m, σ0, hent, hI0⟩, hI⟩ := h.ok
    obtain ⟨E0, hs0⟩ := hent.sim N B E a w hs
    exact ev_loop (ev P C N x) x ih I K hI m σ0 E0 a w hI0 hs0
  | rangeFunc f params assign body => exact fun K σ E a w h hs => h.elim
  | scope body => exact fun K σ E a w h hs => h.elim
  | goto l => exact fun K σ E a w h hs => h.elim
  | refuse why => exact fun K σ E a w h hs => h.elim
end

/-! ### Weaker states -/
section
variable {σ σ' σ'' : St}
theorem Ent.refl (σ : St) : Ent σ σ := ⟨fun _ _ E _ _ h => ⟨E, h⟩⟩
theorem Ent.trans (h : Ent σ σ') (h' : Ent σ' σ'') : Ent σ σ'' := ⟨fun N B E a w hs => by
  obtain ⟨E', hs'⟩ := h.sim N B E a w hs
  exact h'.sim N B E' a w hs'⟩
theorem Ent.of_eq (h : σ = σ') : Ent σ σ' := h ▸ .refl σ
end

/-! ### Pieces of code -/
def bodyOf (f : Func) : Code := match f.body with | some c => c | none => .skip
def hd : Code → Code
  | .seq x _ => x
  | c => c
def tl : Code → Code
  | .seq _ y => y
  | _ => .skip
def inside : Code → Code
  | .block _ x => x
  | .loop x => x
  | c => c
def thn : Code → Code
  | .cond _ x _ => x
  | c => c
def els : Code → Code
  | .cond _ _ y => y
  | c => c
/-- The code behind n pieces. -/
def tls : Nat → Code → Code
  | 0, c => c
  | n + 1, c => tls n (tl c)

/-- Numbers of 64 bits. -/
abbrev w64 (n : Int) : Int := IntKind.i64.wrap n

abbrev di (n : Int) : D := .lit (.int .i64 n)
abbrev db (b : Bool) : D := .lit (.bool b)
abbrev ds (s : ByteArray) : D := .lit (.string s)
abbrev sv (t : Nat) (v : V) : Nat × Slot := (t, ⟨[], v⟩)

theorem loop_intro {P : Program} {C : FuncId → Option CC} {N : Nat} {x : Code} {K : Exit → St → Prop} {σ : St} (I : Nat → St → Prop) (m : Nat) (σ0 : St) (h1 : Ent σ σ0) (h2 : I m σ0)
    (h3 : ∀ m σ, I m σ → ev P C N x (thenK (fun σ' => ∃ m' σ'', m' < m ∧ Ent σ' σ'' ∧ I m' σ'') K) σ) : ev P C N (.loop x) K σ :=
  ⟨I, ⟨m, σ0, h1, h2⟩, h3⟩

theorem ev_mono {P : Program} {C : FuncId → Option CC} {N : Nat} : ∀ (c : Code) {K K' : Exit → St → Prop} {σ : St}, (∀ e σ, K e σ → K' e σ) → ev P C N c K σ → ev P C N c K' σ := by
  intro c
  induction c with
  | skip => exact fun h => h _ _
  | label l => exact fun h => h _ _
  | region id ops dr =>
    intro K K' σ h hh
    rw [ev] at hh ⊢
    cases dr with
    | true =>
      rw [cond_true] at hh ⊢
      split at hh
      · next ps rcs σ' hg =>
        cases hc : (edgesAll 0 ops.toList && drawOk (masks ops.toList []) [] rcs) with
        | false => rw [hc] at hh; exact hh.elim
        | true =>
          rw [hc, cond_true] at hh
          rw [cond_true]
          exact allP_mono (h _ _) hh
      · exact hh.elim
    | false =>
      rw [cond_false] at hh ⊢
      split at hh
      · exact allP_mono (h _ _) hh
      · exact goS_mono (fun σ hk => h _ _ hk) _ _ hh
  | seq x y ihx ihy =>
    intro K K' σ h hh
    rw [ev] at hh ⊢
    refine ihx ?_ hh
    intro e σ hk
    cases e with
    | normal => exact ihy h hk
    | exit id => exact h _ _ hk
    | goto l => exact h _ _ hk
    | ret => exact h _ _ hk
    | panic ch => exact h _ _ hk
    | outgrown => exact h _ _ hk
  | cond c x y ihx ihy =>
    intro K K' σ h hh
    rw [ev] at hh ⊢
    split at hh
    · next b hb =>
      cases b with
      | true => exact ihx h hh
      | false => exact ihy h hh
    · exact hh.elim
  | block id x ih =>
    intro K K' σ h hh
    rw [ev] at hh ⊢
    refine ih ?_ hh
    intro e σ hk
    cases e with
    | normal => exact h _ _ hk
    | exit id' =>
      simp only [blockK] at hk ⊢
      cases hb : Nat.beq id' id with
      | true => rw [hb] at hk; exact h _ _ hk
      | false => rw [hb] at hk; exact h _ _ hk
    | goto l => exact h _ _ hk
    | ret => exact h _ _ hk
    | panic ch => exact h _ _ hk
    | outgrown => exact h _ _ hk
  | exit id => exact fun h => h _ _
  | ret => exact fun h => h _ _
  | loop x ih =>
    intro K K' σ h hh
    rw [ev] at hh ⊢
    obtain ⟨I, h0, h1⟩ := hh.ok
    refine ⟨I, h0, fun m σ hm => ih ?_ (h1 m σ hm)⟩
    intro e σ hk
    cases e with
    | normal => exact hk
    | exit id => exact h _ _ hk
    | goto l => exact h _ _ hk
    | ret => exact h _ _ hk
    | panic ch => exact h _ _ hk
    | outgrown => exact h _ _ hk
  | rangeFunc f params assign body => exact fun h hh => hh.elim
  | scope body => exact fun h hh => hh.elim
  | goto l => exact fun h hh => hh.elim
  | refuse why => exact fun h hh => hh.elim
where
  allP_mono : ∀ {ps : List Prop} {Q Q' : Prop}, (Q → Q') → allP ps Q → allP ps Q'
    | [], _, _, h, hh => h hh
    | _ :: ps, _, _, h, hh => ⟨hh.1, allP_mono h hh.2⟩

/-- Behind a piece of code a weaker state will do. -/
theorem ev_ent_start {P : Program} {C : FuncId → Option CC} {N : Nat} {x y : Code} {K : Exit → St → Prop} {σ : St} (h : ev P C N x (thenK (ev P C N y K) K) σ) : ev P C N (.seq x y) K σ := h
end Go.Ax
