import Derived.Test.YtchffdmfiffifaaCx1
/- A function that is handed objects meets its contract. -/
namespace Go.Ax
open Go.RowKit

section
variable {P : Program} {N : Nat} {B : Base} {σ σ' : St} {E E' Ec : Env} {a : Act} {w w' : World} {H : Heap} {os : List Nat} {nr : Bool}

theorem getT_append : ∀ (A B : List (Nat × Slot)) (t : Nat), getT (A ++ B) t = match getT A t with | some s => some s | none => getT B t
  | [], B, t => rfl
  | (q, x) :: A, B, t => by
    rw [List.cons_append, getT_cons, getT_cons]
    split
    · rfl
    · exact getT_append A B t

theorem getT_ghostT : ∀ (H : Heap) (t : Nat) (s : Slot), getT (ghostT H) t = some s → ∃ q, t = 1000000 + q ∧ ((∃ ob, Heap.get H q = some ob ∧ s = ⟨[], ghostV q ob⟩) ∨ s = ⟨[], .c .unk⟩)
  | [], t, s, h => by simp [ghostT, getT] at h
  | (p, b) :: H, t, s, h => by
    unfold ghostT at h
    rw [List.map_cons, getT_cons] at h
    split at h
    · next e =>
      cases h
      refine ⟨p, e.symm, ?_⟩
      cases b with
      | none => exact .inr rfl
      | some b => exact .inl ⟨b, by rw [Heap.get_cons, if_pos rfl], rfl⟩
    · next e =>
      obtain ⟨q, h1, h2⟩ := getT_ghostT H t s h
      refine ⟨q, h1, h2.imp (fun ⟨ob, g1, g2⟩ => ⟨ob, ?_, g2⟩) id⟩
      rw [Heap.get_cons, if_neg (fun e' => e (by rw [e', h1]))]
      exact g1

theorem ghostV_ren (q : Nat) (ob : Ob) : ghostV q (ob.ren os) = ghostV q ob := by
  cases ob with
  | box cs => simp [ghostV, Ob.ren, rens_length]
  | row t k n el => rfl
  | raw x => rfl

/-- Some value leads to each object. -/
theorem ghost_rep {i o : Nat} {ob : Ob} (hi : os[i]? = some o) (hl : E.live o) (h : ObAt E w o ob) : ∃ u, RepV (E.hand os nr) w u (ghostV i ob) := by
  have hlive : (E.hand os nr).live i := ⟨o, hi, hl⟩
  have hconc : (E.hand os nr).conc i = E.conc o := by simp [Env.hand, Env.ren, hi]
  have hcap : (E.hand os nr).cap i = E.cap o := by simp [Env.hand, Env.ren, hi]
  have hlen : (E.hand os nr).len i = E.len o := by simp [Env.hand, Env.ren, hi]
  cases ob with
  | box cs =>
    obtain ⟨h1, b, C, t, h2, h3, h4⟩ := h
    exact ⟨_, .ptr i cs.length 0 0 b hlive (hconc.trans h2) (by rw [hlen, h1]; exact Nat.zero_lt_one)⟩
  | raw x =>
    obtain ⟨h1, b, h2, h3⟩ := h
    exact ⟨_, .ptr i 1 0 0 b hlive (hconc.trans h2) (by rw [hlen, h1]; exact Nat.zero_lt_one)⟩
  | row t k n el =>
    obtain ⟨h1, h2⟩ := h
    rcases h2 with ⟨h2, h3⟩ | ⟨b, C, g1, g2, g3, g4, g5, _⟩
    · subst h3
      exact ⟨.slice none 0 0, .row i k 0 0 none 0 hlive (Nat.le_refl _) (by simp [maxLen]) (by rw [hlen, h1]; omega) (fun h => by omega) fun _ => .inl ⟨rfl, rfl, hconc.trans h2⟩⟩
    · exact ⟨.slice (some ⟨b, 0, none⟩) n (E.cap o), .row i k 0 n _ _ hlive g4 g5 (by rw [hlen, h1]; omega) (fun _ => ⟨b, hconc.trans g1, by simp⟩) fun _ => .inr ⟨b, hconc.trans g1, rfl, hcap.symm⟩⟩

/-- The start of a call that is handed objects. -/
theorem sim_hand (hH : HeapAt E w H) (hn : nodupB os = true) (hb : obsOk os H = true) {xs : List Value} {vs : List V} (hx : RepL (E.hand os nr) w xs vs) (hN : vs.length ≤ N) (hsm : N ≤ 1000000) :
    ∃ gh : Nat → Value, (∀ i o ob, os[i]? = some o → Heap.get H o = some ob → RepV (E.hand os nr) w (gh (1000000 + i)) (ghostV i ob)) ∧
      Sim N ⟨w, (E.hand os nr).ok, fun b => ∃ o ∈ os, E.conc o = some b, gh⟩ { tm := initT vs 0 ++ ghostT (renH H os 0 os), hp := renH H os 0 os, nx := os.length } (E.hand os nr) { tmps := xs.toArray ++ Array.replicate (N - xs.toArray.size) undef, defers := [] } w := by
  have hob : ∀ o ∈ os, ∃ b, Heap.get H o = some b ∧ obOk os b = true := by
    intro o ho
    have := List.all_eq_true.1 hb o ho
    cases hg : Heap.get H o with
    | none => rw [hg] at this; cases this
    | some b => rw [hg] at this; exact ⟨b, rfl, this⟩
  have hex : ∀ t, ∃ u, ∀ i o ob, t = 1000000 + i → os[i]? = some o → Heap.get H o = some ob → RepV (E.hand os nr) w u (ghostV i ob) := by
    intro t
    cases ho : os[t - 1000000]? with
    | none => exact ⟨undef, fun i o ob e h _ => by subst e; rw [Nat.add_sub_cancel_left] at ho; rw [ho] at h; cases h⟩
    | some o =>
      obtain ⟨b, hg, _⟩ := hob o (List.mem_of_getElem? ho)
      obtain ⟨l1, l2⟩ := hH.at_ o b hg
      obtain ⟨u, hu⟩ := ghost_rep (nr := nr) ho l1 l2
      refine ⟨u, fun i o' ob e h1 h2 => ?_⟩
      subst e
      rw [Nat.add_sub_cancel_left] at ho hu
      rw [ho] at h1; cases h1
      rw [hg] at h2; cases h2
      exact hu
  have hgh : ∀ i o ob, os[i]? = some o → Heap.get H o = some ob → RepV (E.hand os nr) w (Classical.choose (hex (1000000 + i))) (ghostV i ob) := fun i o ob h1 h2 => Classical.choose_spec (hex (1000000 + i)) i o ob rfl h1 h2
  refine ⟨fun t => Classical.choose (hex t), hgh, ?_⟩
  have hl := hx.1
  have hE : ∀ q o, os[q]? = some o → (E.hand os nr).conc q = E.conc o := fun q o hq => by simp [Env.hand, Env.ren, hq]
  refine ⟨?_, hsm, rfl, fun q hq h => ?_, ⟨fun q ob ho => ?_, fun q q' b hq hq' hb hb' => ?_, fun q b hq hb => ?_, fun q b hq hb => ?_, fun b h => ?_⟩, fun t s hg => ?_, .refl _ _ _, fun q b hq hb => ?_, fun b h => .inl h⟩
  · simp; omega
  · obtain ⟨o, ho, _⟩ := h
    have := (List.getElem?_eq_some_iff.1 ho).1
    have hq' : os.length ≤ q := hq
    omega
  · obtain ⟨o, b', g1, g2, g3, rfl⟩ := renH_get H os os 0 q ob ho
    have g1' : os[q]? = some o := by simpa using g1
    obtain ⟨l1, l2⟩ := hH.at_ o b' g3
    obtain ⟨b2, k1, k2⟩ := hob o (List.mem_of_getElem? g1')
    rw [g3] at k1; cases k1
    refine ⟨⟨o, g1', l1⟩, ?_⟩
    have := l2.ren (os := os) g1' k2
    exact obAt_mono (E' := E.hand os nr) this ⟨rfl, rfl, rfl⟩ (fun _ _ => rfl) (fun v d h => h.hand) (fun v d h => h.mono (fun b (h : E.ok b) => Or.inl h) fun _ _ => rfl)
  · obtain ⟨o, ho, l⟩ := hq
    obtain ⟨o', ho', l'⟩ := hq'
    rw [hE q o ho] at hb
    rw [hE q' o' ho'] at hb'
    have := hH.inj o o' b l l' hb hb'
    subst this
    exact nodupB_inj hn q q' o ho ho'
  · obtain ⟨o, ho, l⟩ := hq
    rw [hE q o ho] at hb
    rintro (h | ⟨_, o', h1, h2, h3⟩)
    · exact hH.sep o b l hb h
    · have := hH.inj o o' b l h2 hb h3
      subst this
      exact h1 (List.mem_of_getElem? ho)
  · obtain ⟨o, ho, l⟩ := hq
    rw [hE q o ho] at hb
    exact hH.lt o b l hb
  · rcases h with h | ⟨_, o, _, h2, h3⟩
    · exact hH.oklt b h
    · exact hH.lt o b h2 h3
  · rw [getT_append] at hg
    cases hi : getT (initT vs 0) t with
    | some s' =>
      rw [hi] at hg
      cases hg
      obtain ⟨v, _, h2, rfl⟩ := getT_initT vs 0 t s hi
      rw [Nat.sub_zero] at h2
      have hlt : t < xs.length := by rw [hl]; exact (List.getElem?_eq_some_iff.1 h2).1
      have hget : (xs.toArray ++ Array.replicate (N - xs.toArray.size) undef).getD t undef = xs[t] := by
        rw [Array.getD_eq_getD_getElem?, Array.getElem?_append_left (by simpa using hlt)]
        simp [hlt]
      refine ⟨fun _ => ?_, fun _ h => by simp [holds] at h⟩
      rw [valAt_low (by omega)]
      simp only
      rw [hget]
      exact hx.2 t _ v (List.getElem?_eq_getElem hlt) h2
    | none =>
      rw [hi] at hg
      obtain ⟨q, rfl, hs⟩ := getT_ghostT _ t s hg
      rcases hs with ⟨ob, g1, rfl⟩ | rfl
      · obtain ⟨o, b', k1, k2, k3, rfl⟩ := renH_get H os os 0 q ob g1
        refine ⟨fun _ => ?_, fun _ h => by simp [holds] at h⟩
        have : valAt (⟨w, (E.hand os nr).ok, fun b => ∃ o ∈ os, E.conc o = some b, fun t => Classical.choose (hex t)⟩ : Base) { tmps := xs.toArray ++ Array.replicate (N - xs.toArray.size) undef, defers := [] } (1000000 + q) = Classical.choose (hex (1000000 + q)) := if_neg (by omega)
        rw [this, ghostV_ren]
        exact hgh q o b' (by simpa using k1) k3
      · exact ⟨fun _ => .c _ _ (.unk _), fun _ h => by simp [holds] at h⟩
  · obtain ⟨o, ho, l⟩ := hq
    rw [hE q o ho] at hb
    exact .inr ⟨o, List.mem_of_getElem? ho, hb⟩

theorem lookO_mem : ∀ {m : List (Nat × Nat)} {q : Nat}, q ∈ m.map (·.1) → (q, lookO m q) ∈ m
  | [], q, h => by simp at h
  | (p, o) :: m, q, h => by
    unfold lookO
    cases hb : Nat.beq p q with
    | true => rw [Nat.eq_of_beq_eq_true hb]; simp
    | false =>
      have hne : p ≠ q := fun e => by subst e; simp at hb
      rw [cond_false]
      rw [List.map_cons, List.mem_cons] at h
      rcases h with h | h
      · exact (hne h.symm).elim
      · exact List.mem_cons_of_mem _ (lookO_mem h)
theorem invO_mem : ∀ {m : List (Nat × Nat)} {q o : Nat}, invO m o = some q → (q, o) ∈ m
  | [], q, o, h => by simp [invO] at h
  | (p, o') :: m, q, o, h => by
    unfold invO at h
    cases hb : Nat.beq o' o with
    | true => rw [hb, cond_true] at h; cases h; rw [Nat.eq_of_beq_eq_true hb]; simp
    | false => rw [hb, cond_false] at h; exact List.mem_cons_of_mem _ (invO_mem h)
theorem invO_none : ∀ {m : List (Nat × Nat)} {q o : Nat}, invO m o = none → (q, o) ∉ m
  | [], q, o, _ => by simp
  | (p, o') :: m, q, o, h => by
    unfold invO at h
    cases hb : Nat.beq o' o with
    | true => rw [hb, cond_true] at h; cases h
    | false =>
      rw [hb, cond_false] at h
      intro hm
      rcases List.mem_cons.1 hm with hm | hm
      · cases hm; simp at hb
      · exact invO_none h hm

/-- The environment behind the call. -/
noncomputable def Env.back (E Ec : Env) (w : World) (os : List Nat) (nid : Nat) (kl : List Nat) (m : List (Nat × Nat)) : Env where
  conc o := match invO m o with | some q => Ec.conc q | none => bif memB o os then none else E.conc o
  cap o := match invO m o with | some q => (bif memB o os && !(memB o kl) then E.cap o else Ec.cap q) | none => E.cap o
  len o := match invO m o with | some q => Ec.len q | none => E.len o
  live o := E.live o ∨ (o = nid ∧ ∃ q, (q, nid) ∈ m)
  ok b := E.ok b ∨ (w.heap.size ≤ b ∧ Ec.ok b)

theorem memB_false {o : Nat} {l : List Nat} (h : o ∉ l) : memB o l = false := by
  cases hb : memB o l with
  | false => rfl
  | true => exact (h (memB_mem hb)).elim

theorem left_post {H0 : Heap} (hH0 : HeapAt E w H0) {gh : Nat → Value} {r : Res} {nid : Nat} {m : List (Nat × Nat)} {v : V} {u : Value} (hH : HeapAt E w H) (hf : ¬ E.live nid) (hn : nodupB os = true) (hos : ∀ o ∈ os, ∃ b, Heap.get H o = some b)
    (hgh : ∀ i o ob, os[i]? = some o → Heap.get H o = some ob → RepV (E.hand os nr) w (gh (1000000 + i)) (ghostV i ob))
    (hs : Sim N ⟨w, (E.hand os nr).ok, fun b => ∃ o ∈ os, E.conc o = some b, gh⟩ σ Ec a w') (hu : RepV Ec w' u v) (hl : Left os nid H nr r m σ v) :
    Post E w H0 nid r (E.back Ec w os nid r.kill m) w' u := by
  have hlive : ∀ o ∈ os, E.live o := fun o ho => by
    obtain ⟨b, hb⟩ := hos o ho
    exact (hH.at_ o b hb).1
  have hnid : nid ∉ os := fun h => hf (hlive nid h)
  have inv : ∀ q o, (q, o) ∈ m → invO m o = some q := by
    intro q o h
    cases hi : invO m o with
    | none => exact (invO_none hi h).elim
    | some q' => rw [hl.inj q q' o h (invO_mem hi)]
  have look : ∀ q o, (q, o) ∈ m → lookO m q = o := fun q o h => hl.fn q _ o (lookO_mem (List.mem_map.2 ⟨_, h, rfl⟩)) h
  have clive : ∀ q o, (q, o) ∈ m → Ec.live q := fun q o h => by
    obtain ⟨ob, hob⟩ := hl.has q o h
    exact (hs.heap.at_ q ob hob).1
  have out : ∀ o, E.live o → o ∉ os → invO m o = none := by
    intro o h1 h2
    cases hi : invO m o with
    | none => rfl
    | some q =>
      rcases hl.to q o (invO_mem hi) with h | h
      · exact (h2 h).elim
      · exact (hf (h ▸ h1)).elim
  -- what is kept lies where it lay
  have kept : ∀ o ∈ os, o ∉ r.kill → ∃ q, (q, o) ∈ m ∧ Ec.conc q = E.conc o ∧ (isRow (Heap.get σ.hp q) = true → E.conc o = none ∨ Ec.cap q = E.cap o) ∧ Ec.len q = E.len o := by
    intro o ho hk
    obtain ⟨i, hi⟩ := List.getElem?_of_mem ho
    rcases hl.keep i o hi with h | ⟨q, ob, ob', h1, h2, h3, h4, h5⟩
    · exact (hk h).elim
    refine ⟨q, h1, ?_⟩
    have g0 := hgh i o ob hi h2
    have g1 := (hs.slots _ _ h5).1 rfl
    have hv : valAt (⟨w, (E.hand os nr).ok, fun b => ∃ o ∈ os, E.conc o = some b, gh⟩ : Base) a (1000000 + i) = gh (1000000 + i) := if_neg (by omega)
    rw [hv] at g1
    have hconc : (E.hand os nr).conc i = E.conc o := by simp [Env.hand, Env.ren, hi]
    have hcap : (E.hand os nr).cap i = E.cap o := by simp [Env.hand, Env.ren, hi]
    have l0 := (hH.at_ o ob h2).2
    have l1 := (hs.heap.at_ q ob' h3).2
    cases ob with
    | box cs =>
      cases ob' with
      | row t k n el => exact h4.elim
      | raw x => exact h4.elim
      | box cs' =>
        simp only [ghostV] at g0 g1
        obtain ⟨b, a2, e0⟩ := g0.ptr_inv
        obtain ⟨b', b2, e1⟩ := g1.ptr_inv
        rw [e0] at e1
        have eb : b = b' := by
          have := congrArg (fun v : Value => match v with | .pointer (some a) => a.block | _ => 0) e1
          exact this
        subst eb
        refine ⟨?_, ?_, ?_⟩
        · rw [b2, ← hconc, a2]
        · rw [h3]; intro h; cases h
        · rw [l0.1, l1.1]
    | raw x =>
      cases ob' with
      | row t k n el => exact h4.elim
      | box cs' => exact h4.elim
      | raw y =>
        simp only [ghostV] at g0 g1
        obtain ⟨b, a2, e0⟩ := g0.ptr_inv
        obtain ⟨b', b2, e1⟩ := g1.ptr_inv
        rw [e0] at e1
        have eb : b = b' := by
          have := congrArg (fun v : Value => match v with | .pointer (some a) => a.block | _ => 0) e1
          exact this
        subst eb
        refine ⟨?_, ?_, ?_⟩
        · rw [b2, ← hconc, a2]
        · rw [h3]; intro h; cases h
        · rw [l0.1, l1.1]
    | row t k n el =>
      cases ob' with
      | raw x => exact h4.elim
      | box cs' => exact h4.elim
      | row t' k' n' el' =>
        have hnn : n = n' := h4
        subst hnn
        simp only [ghostV] at g0 g1
        obtain ⟨x, c, e0, h0⟩ := g0.row_inv
        obtain ⟨x', c', e1, h0'⟩ := g1.row_inv
        rw [e0] at e1
        cases e1
        refine ⟨?_, fun _ => ?_, by rw [l0.1, l1.1]⟩
        · rcases h0 with ⟨p1, p2, p3⟩ | ⟨b, p1, p2, p3⟩ <;> rcases h0' with ⟨q1, q2, q3⟩ | ⟨b', q1, q2, q3⟩
          · rw [q3, ← hconc, p3]
          · rw [p1] at q2; cases q2
          · rw [q1] at p2; cases p2
          · rw [p2] at q2; cases q2
            rw [q1, ← hconc, p1]
        · rcases h0 with ⟨p1, p2, p3⟩ | ⟨b, p1, p2, p3⟩ <;> rcases h0' with ⟨q1, q2, q3⟩ | ⟨b', q1, q2, q3⟩
          · left; rw [← hconc, p3]
          · rw [p1] at q2; cases q2
          · rw [q1] at p2; cases p2
          · right; rw [← q3, p3, hcap]
  -- the two environments
  have same : ∀ q o, (q, o) ∈ m → Same Ec (E.back Ec w os nid r.kill m) (lookO m) q := by
    intro q o h
    unfold Same
    rw [look q o h]
    refine ⟨?_, by simp [Env.back, inv q o h], by simp [Env.back, inv q o h]⟩
    rcases hl.to q o h with h1 | h1
    · exact .inl (hlive o h1)
    · subst h1; exact .inr ⟨rfl, q, h⟩
  have samecap : ∀ q o, (q, o) ∈ m → isRow (Heap.get σ.hp q) = true → SameCap Ec (E.back Ec w os nid r.kill m) (lookO m) q := by
    intro q o h hr
    unfold SameCap
    rw [look q o h]
    simp only [Env.back, inv q o h]
    cases hb : memB o os && !(memB o r.kill) with
    | false => right; rfl
    | true =>
      rw [Bool.and_eq_true] at hb
      have h1 := memB_mem hb.1
      have h2 : o ∉ r.kill := fun hk => by rw [memB_iff.2 hk] at hb; simp at hb
      obtain ⟨q', a1, a2, a3, a4⟩ := kept o h1 h2
      have := hl.inj q q' o h a1
      subst this
      rcases a3 hr with a3 | a3
      · left; rw [a2, a3]
      · right; rw [cond_true, a3]
  have mem1 : ∀ q, q ∈ m.map (·.1) → ∃ o, (q, o) ∈ m := by
    intro q h
    obtain ⟨⟨q', o⟩, h1, h2⟩ := List.mem_map.1 h
    subst h2
    exact ⟨o, h1⟩
  have hok2 : nr = true → ∀ b, Ec.ok b → (E.back Ec w os nid r.kill m).ok b := by
    intro h b hb
    subst h
    rcases hs.okold b hb with (h1 | ⟨h1, _⟩) | h1
    · exact .inl h1
    · cases h1
    · exact .inr ⟨h1, hb⟩
  have rrow : ∀ l : List Nat, l.all (fun q => isRow (Heap.get σ.hp q)) = true → ∀ q ∈ l, isRow (Heap.get σ.hp q) = true := fun l h => List.all_eq_true.1 h
  have rsub : ∀ v : V, ∀ q ∈ v.rrefs, q ∈ v.refs := rrefs_refs
  have hst : Step E w r.kill (E.back Ec w os nid r.kill m) w' := by
    refine ⟨hs.base.os, hs.base.tape, hs.base.output, hs.base.size, fun o h => .inl h, fun b hb hno => ?_, fun b h => .inl h, fun b h => h.imp id (·.1), fun o hlo hk => ?_, fun o b hlo hc => ?_⟩
    · exact hs.base.block b hb fun ⟨o, ho, h⟩ => hno o (hlive o ho) h
    · by_cases ho : o ∈ os
      · obtain ⟨q, h1, h2, h3, h4⟩ := kept o ho hk
        simp only [Env.back, inv q o h1, memB_iff.2 ho, memB_false hk, Bool.not_false, Bool.and_true, cond_true]
        exact ⟨h2, trivial, h4⟩
      · simp only [Env.back, out o hlo ho, memB_false ho, cond_false]
        exact ⟨trivial, trivial, trivial⟩
    · cases hi : invO m o with
      | some q =>
        have hm := invO_mem hi
        simp only [Env.back, hi] at hc
        rcases hs.own q b (clive q o hm) hc with h | ⟨o', h1, h2⟩
        · exact .inr h
        · exact .inl ⟨o', hlive o' h1, h2⟩
      | none =>
        simp only [Env.back, hi] at hc
        cases hb : memB o os with
        | true => rw [hb] at hc; cases hc
        | false =>
          rw [hb, cond_false] at hc
          rcases hlo with h | ⟨h0, q, h⟩
          · exact .inl ⟨o, h, hc⟩
          · subst h0; exact (invO_none hi h).elim
  have hrep : ∀ v d, RepV E w v d → RepV (E.back Ec w os nid r.kill m) w' v (d.killAll r.kill) := fun v d h => h.step hst hH.sep hH.oklt
  have hrepD : ∀ v d, RepD E.ok w v d → RepD (E.back Ec w os nid r.kill m).ok w' v d := fun v d h => h.mono hst.ok fun b hb => hst.blk b (hH.oklt b hb) fun o ho hc => hH.sep o b ho hc hb
  -- where an object lies behind the call
  have wher : ∀ o b, (E.back Ec w os nid r.kill m).live o → (E.back Ec w os nid r.kill m).conc o = some b → (∃ q, (q, o) ∈ m ∧ Ec.conc q = some b) ∨ (o ∉ os ∧ E.live o ∧ E.conc o = some b) := by
    intro o b hlo hc
    cases hi : invO m o with
    | some q => simp only [Env.back, hi] at hc; exact .inl ⟨q, invO_mem hi, hc⟩
    | none =>
      simp only [Env.back, hi] at hc
      cases hb : memB o os with
      | true => rw [hb] at hc; cases hc
      | false =>
        rw [hb, cond_false] at hc
        have hno : o ∉ os := fun h => by rw [memB_iff.2 h] at hb; cases hb
        rcases hlo with h | ⟨h0, q, h⟩
        · exact .inr ⟨hno, h, hc⟩
        · subst h0; exact (invO_none hi h).elim
  have apart : ∀ q o o' b, (q, o) ∈ m → Ec.conc q = some b → o' ∉ os → E.live o' → E.conc o' = some b → False := by
    intro q o o' b h1 h2 h3 h4 h5
    rcases hs.own q b (clive q o h1) h2 with h | ⟨o2, g1, g2⟩
    · have := hH.lt o' b h4 h5
      have h : w.heap.size ≤ b := h
      omega
    · have := hH.inj o' o2 b h4 (hlive o2 g1) h5 g2
      subst this
      exact h3 g1
  refine ⟨hst, ⟨fun o ob ho => ?_, fun o o' b h1 h2 h3 h4 => ?_, fun o b h1 h2 => ?_, fun o b h1 h2 => ?_, fun b hb => ?_⟩, ?_, fun q h => h.imp id (·.1)⟩
  · rw [get_append] at ho
    split at ho
    · obtain ⟨q, ob0, h1, h2, h3, h4, h5, h6⟩ := hl.obs o ob ho
      have hsm := same q o h1
      refine ⟨by have := hsm.1; rwa [look q o h1] at this, ?_⟩
      have h7 := (hs.heap.at_ q ob0 h2).2.mp (E' := E.back Ec w os nid r.kill m) (f := lookO m) hsm (fun hr => samecap q o h1 (by rw [h2]; exact hr)) (fun p hp _ => by
        obtain ⟨o', ho'⟩ := mem1 p (h4 p hp); exact same p o' ho') (fun p hp _ => by
        have hp' : p ∈ obRefs ob0 := by
          cases ob0 with
          | box cs => exact rrefss_refs cs p hp
          | row => exact absurd hp (by simp [obRrefs])
          | raw => exact absurd hp (by simp [obRrefs])
        obtain ⟨o', ho'⟩ := mem1 p (h4 p hp')
        exact samecap p o' ho' (rrow _ h5 p hp)) (h6.imp hok2 id)
      rw [look q o h1] at h7
      exact h7.le h3
    · next hk =>
      have hno : o ∉ os := fun h => hk (hl.all o h)
      rw [get_killH] at ho
      cases hy : Heap.get H0 o with
      | none => rw [hy, killObs_none] at ho; cases ho
      | some y =>
        rw [hy] at ho
        obtain ⟨l1, l2⟩ := hH0.at_ o y hy
        refine ⟨.inl l1, obAt_kill l2 ho ?_ (fun b hb => ?_) hrep hrepD⟩
        · simp only [Env.back, out o l1 hno, memB_false hno, cond_false]
          exact ⟨trivial, trivial, trivial⟩
        · refine hs.base.block b (hH.lt o b l1 hb) ?_
          rintro ⟨o', h1, h2⟩
          have := hH.inj o o' b l1 (hlive o' h1) hb h2
          subst this
          exact hno h1
  · rcases wher o b h1 h3 with ⟨q, a1, a2⟩ | ⟨a1, a2, a3⟩ <;> rcases wher o' b h2 h4 with ⟨q', b1, b2⟩ | ⟨b1, b2, b3⟩
    · have := hs.heap.inj q q' b (clive q o a1) (clive q' o' b1) a2 b2
      subst this
      exact hl.fn q o o' a1 b1
    · exact (apart q o o' b a1 a2 b1 b2 b3).elim
    · exact (apart q' o' o b b1 b2 a1 a2 a3).elim
    · exact hH.inj o o' b a2 b2 a3 b3
  · rcases wher o b h1 h2 with ⟨q, a1, a2⟩ | ⟨a1, a2, a3⟩
    · rintro (h | ⟨_, h⟩)
      · rcases hs.own q b (clive q o a1) a2 with g | ⟨o2, g1, g2⟩
        · have := hH.oklt b h
          have g : w.heap.size ≤ b := g
          omega
        · exact hH.sep o2 b (hlive o2 g1) g2 h
      · exact hs.heap.sep q b (clive q o a1) a2 h
    · rintro (h | ⟨h, _⟩)
      · exact hH.sep o b a2 a3 h
      · have := hH.lt o b a2 a3; omega
  · rcases wher o b h1 h2 with ⟨q, a1, a2⟩ | ⟨a1, a2, a3⟩
    · exact hs.heap.lt q b (clive q o a1) a2
    · have := hH.lt o b a2 a3; have := hs.base.size
      have h : w.heap.size ≤ w'.heap.size := this
      omega
  · rcases hb with h | ⟨_, h⟩
    · have := hH.oklt b h; have := hs.base.size
      have h : w.heap.size ≤ w'.heap.size := this
      omega
    · exact hs.heap.oklt b h
  · refine (hu.mp (E' := E.back Ec w os nid r.kill m) (f := lookO m) (fun p hp _ => ?_) (fun p hp _ => ?_) (hl.vsc.imp hok2 id)).le hl.val
    · obtain ⟨o', ho'⟩ := mem1 p (hl.vrefs p hp); exact same p o' ho'
    · obtain ⟨o', ho'⟩ := mem1 p (hl.vrefs p (rsub v p hp))
      exact samecap p o' ho' (rrow _ hl.vrows p hp)

/-- A function that is handed objects, by pieces. -/
theorem meets_mut {f : FuncId} {fn : Func} {c : Code} (hf : P.funcs[f]? = some fn) (hb : fn.body = some c) (hn : (fn.name == "runtime.NumGoroutine") = false) {mc : Heap → Nat → List V → Option Res} {rs : List ResultVar} (hr : fn.results.toList = rs) {nt : Nat} (ht : fn.ntmps = nt)
    (h : ∀ H nid args r, mc H nid args = some r → (∀ p ∈ r.pre, p) → ∃ (nr : Bool) (os : List Nat) (fl : List Bool) (vs' : List V), nodupB os = true ∧ obsOk os H = true ∧ handOk os H nr fl args = true ∧ VLes (handL os H fl args) vs' ∧
      (Nat.ble vs'.length nt && Nat.ble nt 1000000) = true ∧ EvL P nt (items c) (retM P rs fun σ v => ∃ m, Left os nid H nr r m σ v) { tm := initT vs' 0 ++ ghostT (renH H os 0 os), hp := renH H os 0 os, nx := os.length }) : MeetsC P f (.mut mc) := by
  subst hr ht
  intro E w H0 nid xs args r hH0 hfn hx hmc hp
  have hH := heapAt_restr hH0 (reachOf H0 args)
  generalize hHe : restr (reachOf H0 args) H0 = H at hmc hH
  obtain ⟨nr, os, fl, vs', h1, h2, h3, h4, h5, h6⟩ := h H nid args r hmc hp
  rw [Bool.and_eq_true] at h5
  have hos : ∀ o ∈ os, ∃ b, Heap.get H o = some b := by
    intro o ho
    have := List.all_eq_true.1 h2 o ho
    cases hg : Heap.get H o with
    | none => rw [hg] at this; cases this
    | some b => exact ⟨b, rfl⟩
  have hx' := (hand_rep (os := os) (nr := nr) hH fl xs args hx h3).le h4
  obtain ⟨gh, hgh, hsim⟩ := sim_hand (N := fn.ntmps) hH h1 h2 hx' (Nat.ble_eq.mp h5.1) (Nat.ble_eq.mp h5.2)
  refine .inl ⟨enters_of hf hb hn _ _, ?_⟩
  refine calls_of_wp hf hb (wp_mono ((EvOk.ofItems c h6).ok _ _ _ _ hsim) ?_)
  rintro e a' w' ⟨σ', E', hk, hs'⟩
  have key : (match resVs P σ' fn.results.toList with | some v => ∃ m, Left os nid H nr r m σ' v | none => False) → a'.defers = [] ∧ ∃ v, (results fn a'.tmps).run P w' = .ok v w' ∧ ∃ v', Ending.returned v = .returned v' ∧ ∃ E'', Post E w H0 nid r E'' w' v' := by
    intro hk
    split at hk
    · next v hv =>
      obtain ⟨m, hl⟩ := hk
      obtain ⟨u, g1, g2⟩ := run_results hs' hv
      exact ⟨hs'.defers, u, g1, u, rfl, _, left_post hH0 hH hfn h1 hos hgh hs' g2 hl⟩
    · exact hk.elim
  cases e with
  | normal => exact key hk
  | ret => exact key hk
  | exit id => exact hk.elim
  | goto l => exact hk.elim
  | panic ch => exact hk.elim
  | outgrown => exact hk.elim
end
end Go.Ax
