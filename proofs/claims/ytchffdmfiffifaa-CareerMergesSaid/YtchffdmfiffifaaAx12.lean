import Derived.Test.YtchffdmfiffifaaAx11
/- Regions that run in the order of the text. -/
namespace Go.Ax
open Go.RowKit

section
variable {P : Program} {N : Nat} {B : Base} {σ σ' : St} {E : Env} {a : Act} {w : World} {C : FuncId → Option CC}

/-- An operation whose guard says no. -/
theorem sim_skip (hs : Sim N B σ E a w) {rc : Rec} {M : Nat} (hf : ¬ E.live rc.nid) (hM : σ.nx ≤ M) (hnid : rc.nid < M) (hh : holds σ.tm rc.ch = false) (he : rc.res.eff = []) (hk : rc.res.kill = []) (hn : notIn rc.dst rc.ch = true)
    (hd : dstOk N rc.dst = true) : Sim N B { after σ rc with nx := M } (E.next rc.nid none 0 0 E.ok) (a.put rc.dst undef) w := by
  have hS : Step E w [] (E.next rc.nid none 0 0 E.ok) w := next_step hf none 0 0 E.ok (.refl _ _) (by simp) (fun _ h => h) (fun _ h => .inl h)
  have hN : HeapAt (E.next rc.nid none 0 0 E.ok) w σ.hp := next_heap hf hs.heap (.refl _ _) (by simp) (fun _ h => h) (fun _ h => .inl h) hs.heap.oklt
  have hown : ∀ o b, (E.next rc.nid none 0 0 E.ok).live o → (E.next rc.nid none 0 0 E.ok).conc o = some b → B.W.heap.size ≤ b ∨ B.mb b := by
    intro o b ho h
    rcases hS.concnew o b ho h with ⟨o, h1, h2⟩ | h
    · exact hs.own o b h1 h2
    · have := hs.base.size; exact .inl (by omega)
  have hlive : ∀ q, M ≤ q → ¬ (E.next rc.nid none 0 0 E.ok).live q := by
    rintro q hq (h | h)
    · omega
    · exact hs.live q (by omega) h
  have hslot : ∀ t s, getT σ.tm t = some s → SlotAt σ.tm (E.next rc.nid none 0 0 E.ok) w (valAt B a t) s := fun t s hg =>
    ⟨fun h => rep_next hs.heap hS ((hs.slots t s hg).1 h), (hs.slots t s hg).2⟩
  have hkT : killT rc.res.kill σ.tm = σ.tm := by rw [hk]; rfl
  have hkH : rc.res.eff ++ killH rc.res.kill σ.hp = σ.hp := by rw [he, hk]; rfl
  cases hdst : rc.dst with
  | none =>
    refine ⟨hs.size, hs.small, hs.defers, hlive, by simp only [after]; rw [hkH]; exact hN, fun t s hg => ?_, hs.base, hown, hs.okold⟩
    simp only [after, hdst] at hg ⊢
    rw [hkT] at hg ⊢
    exact hslot t s hg
  | some d =>
    rw [hdst] at hd hn
    simp only [dstOk, Nat.blt_eq] at hd
    have hlt : d < a.tmps.size := by rw [hs.size]; exact hd
    refine ⟨by simp [Act.put, hs.size], hs.small, hs.defers, hlive, by simp only [after]; rw [hkH]; exact hN, ?_, hs.base, hown, hs.okold⟩
    simp only [after, hdst]
    rw [hkT]
    refine slots_put hlt (by have := hs.small; omega) hslot (notIn_ne hn) ⟨fun h => ?_, fun _ _ => rfl⟩
    have h' : holds σ.tm rc.ch = true := h
    rw [hh] at h'
    cases h'

theorem imps_out {tm : List (Nat × Slot)} {ch : Chain} {ps : List Prop} (h : ∀ p ∈ imps tm ch ps, p) (hh : holds tm ch = true) : ∀ p ∈ ps, p := by
  intro p hp
  cases ch with
  | nil => exact h p hp
  | cons x l => exact h _ (List.mem_map.2 ⟨p, hp, rfl⟩) hh

theorem guardOk_bools {tm : List (Nat × Slot)} {c ch : Chain} (h : ch.all (fun x => guardOk tm c x.1) = true) : ch.all (fun x => boolSlot tm x.1) = true := by
  refine List.all_eq_true.2 fun x hx => ?_
  have := List.all_eq_true.1 h x hx
  unfold guardOk at this
  unfold boolSlot
  split at this
  · simp only [Bool.and_eq_true] at this; exact this.1
  · cases this

/-- What a record says of its making. -/
theorem recOf_some {ops : List Oper} {nid : Nat} {o : Oper} {rc : Rec} (h : recOf P C N ops σ nid o = some rc) :
    dstOk N o.dst = true ∧ guardCh ops σ.tm o.guard = some rc.ch ∧ rc.ch.all (fun x => guardOk σ.tm rc.ch x.1) = true ∧ evalOp P C σ nid rc.ch o = some (rc.vs, rc.res) ∧
      (rc.ch.isEmpty || (rc.res.eff.isEmpty && rc.res.kill.isEmpty && notIn o.dst rc.ch)) = true ∧ rc.dst = o.dst ∧ rc.nid = nid ∧ rc.rds = opTmps (opnds o.op) ++ rc.ch.map (·.1) ∧ rc.reach = reachOf σ.hp rc.vs ∧ rc.rws = solidOf σ.hp rc.vs := by
  unfold recOf at h
  cases hd : dstOk N o.dst with
  | false => simp [hd] at h
  | true =>
    simp only [hd, cond_true] at h
    split at h
    · next ch hch =>
      cases hb : ch.all (fun x => guardOk σ.tm ch x.1) with
      | false => simp [hb] at h
      | true =>
        simp only [hb, cond_true] at h
        split at h
        · next vs r hr =>
          cases hc : (ch.isEmpty || (r.eff.isEmpty && r.kill.isEmpty && notIn o.dst ch)) with
          | false => simp [hc] at h
          | true =>
            simp only [hc, cond_true, Option.some.injEq] at h
            subst h
            exact ⟨rfl, hch, hb, hr, hc, rfl, rfl, rfl, rfl, rfl⟩
        · cases h
    · cases h

/-- One operation of a region. -/
theorem step_wp (hC : ∀ f con, C f = some con → MeetsC P f con) (hs : Sim N B σ E a w) {ops : Array Oper} {i : Nat} {o : Oper} (hi : ops[i]? = some o) {nid M : Nat} (hf : ¬ E.live nid) (hM : σ.nx ≤ M) (hnid : nid < M)
    {rc : Rec} (h : recOf P C N ops.toList σ nid o = some rc) (hp : ∀ p ∈ imps σ.tm rc.ch rc.res.pre, p) {K : Act → World → Prop} {Q : Exit → Act → World → Prop}
    (hK : ∀ E' a' w', Sim N B { after σ rc with nx := M } E' a' w' → (∀ q, E'.live q → E.live q ∨ q = nid) → K a' w') : wpOp P ops Q i K a w := by
  obtain ⟨hd, hch, hb, hr, hc, e1, e2, _, _⟩ := recOf_some h
  rw [← e1] at hd hc
  rw [← e2] at hnid hf hK
  unfold wpOp
  rw [hi]
  simp only
  rw [guard_sound hs hch (guardOk_bools hb), ← e1]
  cases hh : holds σ.tm rc.ch with
  | false =>
    rw [if_neg (by simp)]
    have hne : rc.ch.isEmpty = false := by
      cases hx : rc.ch with
      | nil => rw [hx] at hh; simp [holds] at hh
      | cons => rfl
    rw [hne, Bool.false_or] at hc
    simp only [Bool.and_eq_true, List.isEmpty_iff] at hc
    exact hK _ _ _ (sim_skip hs hf hM hnid hh hc.1.1 hc.1.2 hc.2 hd) next_live
  | true =>
    rw [if_pos rfl]
    left
    have hpp := imps_out hp hh
    have hn : rc.ch.isEmpty = true ∨ notIn rc.dst rc.ch = true := by
      simp only [Bool.or_eq_true, Bool.and_eq_true] at hc
      exact hc.imp id (·.2)
    unfold evalOp at hr
    split at hr
    · next c x y ho =>
      cases hv : pickV σ rc.ch c x y with
      | none => simp [hv] at hr
      | some v =>
        simp only [hv, Option.map_some, Option.some.injEq, Prod.mk.injEq] at hr
        obtain ⟨b, hb, hrep⟩ := pick_sound hs hh hv
        unfold Oper.wp
        have hrun : (execOp a.eval o).run P w = .ok (.value (if b then a.eval x else a.eval y)) w := by
          simp [execOp, ho, hb, asBool]
        rw [hrun]
        have hP : Post E w σ.hp rc.nid rc.res (E.next rc.nid none 0 0 E.ok) w (if b then a.eval x else a.eval y) := by
          have hS : Step E w [] (E.next rc.nid none 0 0 E.ok) w := next_step hf none 0 0 E.ok (.refl _ _) (by simp) (fun _ h => h) (fun _ h => .inl h)
          rw [← hr.2]
          exact ⟨hS, next_heap hf hs.heap (.refl _ _) (by simp) (fun _ h => h) (fun _ h => .inl h) hs.heap.oklt, rep_next hs.heap hS hrep, next_live⟩
        have hfin := hK _ _ _ (sim_after hs hM hnid hP hh hd hn) hP.live
        rw [e1] at hfin
        exact hfin
    · next op hnp =>
      split at hr
      · next vs hvs =>
        cases hov : opV P C σ.hp nid o vs with
        | none => simp [hov] at hr
        | some r =>
          simp only [hov, Option.map_some, Option.some.injEq, Prod.mk.injEq] at hr
          obtain ⟨rfl, rfl⟩ := hr
          rw [← e2] at hov
          refine op_sound hs.heap hf hC (opnds_sound hs hh hvs) hov hpp fun E' w' v' hP => ?_
          have hfin := hK _ _ _ (sim_after hs hM hnid hP hh hd hn) hP.live
          rw [e1] at hfin
          exact hfin
      · cases hr

theorem getT_dropCh (tm : List (Nat × Slot)) (t : Nat) : getT (dropCh tm) t = (getT tm t).map fun s => bif s.ch.isEmpty then s else ⟨[], .c .unk⟩ :=
  getT_map (fun s => bif s.ch.isEmpty then s else ⟨[], .c .unk⟩) tm t

theorem sim_drop (hs : Sim N B σ E a w) : Sim N B { σ with tm := dropCh σ.tm } E a w := by
  refine ⟨hs.size, hs.small, hs.defers, hs.live, hs.heap, fun t s hg => ?_, hs.base, hs.own, hs.okold⟩
  simp only at hg ⊢
  rw [getT_dropCh] at hg
  cases hx : getT σ.tm t with
  | none => rw [hx] at hg; cases hg
  | some y =>
    rw [hx] at hg
    simp only [Option.map_some, Option.some.injEq] at hg
    cases hc : y.ch.isEmpty with
    | false =>
      rw [hc, cond_false] at hg; subst hg
      exact ⟨fun _ => .unk _, fun _ h => by simp [holds] at h⟩
    | true =>
      rw [hc, cond_true] at hg; subst hg
      have hch : y.ch = [] := List.isEmpty_iff.1 hc
      have := hs.slots t y hx
      exact ⟨fun _ => this.1 (by rw [hch]; rfl), fun _ h => by rw [hch] at h; simp [holds] at h⟩

theorem goOps_wp (hC : ∀ f con, C f = some con → MeetsC P f con) {ops : Array Oper} {Q : Exit → Act → World → Prop} : ∀ (rest : List Oper) (i : Nat) (σ σ' : St) (ps : List Prop) (E : Env) (a : Act) (w : World),
    ops.toList.drop i = rest → goOps P C N ops.toList rest σ = some (ps, σ') → (∀ p ∈ ps, p) → Sim N B σ E a w → (∀ E' a' w', Sim N B σ' E' a' w' → Q .normal a' w') → wpOps P ops Q (List.range' i rest.length) a w
  | [], i, σ, σ', ps, E, a, w, hd, hg, hp, hs, hQ => by
    simp only [goOps, Option.some.injEq, Prod.mk.injEq] at hg
    obtain ⟨rfl, rfl⟩ := hg
    exact hQ _ _ _ (sim_drop hs)
  | o :: rest, i, σ, σ', ps, E, a, w, hd, hg, hp, hs, hQ => by
    rw [goOps] at hg
    split at hg
    · next rc h1 =>
      split at hg
      · next qs σ2 h2 =>
        simp only [Option.some.injEq, Prod.mk.injEq] at hg
        obtain ⟨rfl, rfl⟩ := hg
        have hi : ops[i]? = some o := by
          have := congrArg (·[0]?) hd
          simpa using this
        rw [List.length_cons, List.range'_succ, wpOps_cons]
        refine step_wp (M := σ.nx + 1) hC hs hi (hs.live _ (Nat.le_refl _)) (Nat.le_succ _) (Nat.lt_succ_self _) h1 (fun p hp' => hp p (List.mem_append_left _ hp')) fun E' a' w' hs' _ => ?_
        refine goOps_wp hC rest (i + 1) { after σ rc with nx := σ.nx + 1 } _ qs E' a' w' ?_ h2 (fun p hp' => hp p (List.mem_append_right _ hp')) hs' hQ
        rw [← List.drop_drop, hd]
        rfl
      · cases hg
    · cases hg

theorem region_wp (hC : ∀ f con, C f = some con → MeetsC P f con) {id : Nat} {ops : Array Oper} {Q : Exit → Act → World → Prop} {ps : List Prop} (hg : goOps P C N ops.toList ops.toList σ = some (ps, σ')) (hp : ∀ p ∈ ps, p)
    (hs : Sim N B σ E a w) (hQ : ∀ E' a' w', Sim N B σ' E' a' w' → Q .normal a' w') : (Code.region id ops false).wp P Q a w := by
  refine wp_region ?_
  have := goOps_wp hC (Q := Q) ops.toList 0 σ σ' ps E a w rfl hg hp hs hQ
  rw [List.range_eq_range']
  simpa using this
end
end Go.Ax
