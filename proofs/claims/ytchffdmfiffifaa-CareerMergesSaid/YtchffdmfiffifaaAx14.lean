import Derived.Test.YtchffdmfiffifaaAx13
/- Two operations that do not see each other change places. -/
namespace Go.Ax
open Go.RowKit

section
variable {P : Program} {N : Nat} {B : Base} {σ σ' : St} {E : Env} {a : Act} {w : World} {C : FuncId → Option CC} {all : List Oper}

def killObs : List Nat → Option Ob → Option Ob
  | [], b => b
  | o :: r, b => killObs r (killOb o b)

theorem get_killH : ∀ (kl : List Nat) (H : Heap) (q : Nat), Heap.get (killH kl H) q = killObs kl (Heap.get H q)
  | [], H, q => rfl
  | o :: r, H, q => by
    have h1 := get_killH1 o H q
    rw [killH, get_killH r, killObs]
    simp only [killH] at h1
    rw [h1]

theorem get_append : ∀ (A H : Heap) (q : Nat), Heap.get (A ++ H) q = if q ∈ keysOf A then Heap.get A q else Heap.get H q
  | [], H, q => by simp [keysOf]
  | (p, b) :: A, H, q => by
    rw [List.cons_append, Heap.get_cons, Heap.get_cons, get_append A H q]
    by_cases h : p = q
    · subst h; simp [keysOf]
    · simp only [if_neg h, keysOf, List.map_cons, List.mem_cons]
      have : ¬ q = p := fun e => h e.symm
      simp only [this, false_or]
      rfl

theorem get_after (r : Rec) (q : Nat) : Heap.get (after σ r).hp q = if q ∈ keysOf r.res.eff then Heap.get r.res.eff q else killObs r.res.kill (Heap.get σ.hp q) := by
  rw [after, get_append, get_killH]

def clr (dst : Option Nat) (s : Slot) : Slot := match dst with | some d => bif s.ch.any (fun y => Nat.beq y.1 d) then ⟨[], .c .unk⟩ else s | none => s

theorem getT_after (r : Rec) (t : Nat) : getT (after σ r).tm t = if r.dst = some t then some ⟨r.ch, r.res.val⟩ else (getT σ.tm t).map fun s => clr r.dst ⟨s.ch, s.v.killAll r.res.kill⟩ := by
  unfold after clr
  cases hd : r.dst with
  | none => simp only [reduceCtorEq, if_false]; rw [getT_killT]
  | some d =>
    simp only [Option.some.injEq]
    rw [getT_putT]
    split
    · rfl
    · rw [getT_clearCh, getT_killT]
      cases getT σ.tm t <;> rfl

theorem mem_dstL {d : Option Nat} {t : Nat} : t ∈ dstL d ↔ d = some t := by
  cases d with
  | none => simp [dstL]
  | some x => simp [dstL, eq_comm]

theorem slot_back {r : Rec} {t : Nat} {s : Slot} (h : getT (after σ r).tm t = some s) (ht : t ∉ dstL r.dst) (hn : s.v.noUnk = true) : getT σ.tm t = some s := by
  rw [getT_after, if_neg (fun e => ht (mem_dstL.2 e))] at h
  cases hx : getT σ.tm t with
  | none => rw [hx] at h; cases h
  | some y =>
    rw [hx] at h
    simp only [Option.map_some, Option.some.injEq] at h
    have : clr r.dst ⟨y.ch, y.v.killAll r.res.kill⟩ = ⟨y.ch, y.v.killAll r.res.kill⟩ := by
      unfold clr
      cases hd : r.dst with
      | none => rfl
      | some d =>
        simp only
        cases hc : y.ch.any (fun z => Nat.beq z.1 d) with
        | false => rfl
        | true =>
          simp only [clr, hd, hc, cond_true] at h
          subst h
          simp [V.noUnk] at hn
    rw [this] at h
    subst h
    have := killAll_noUnk _ _ hn
    obtain ⟨ych, yv⟩ := y
    simp only at this ⊢
    rw [this]

theorem slot_forth {r : Rec} {t : Nat} {s : Slot} (h : getT σ.tm t = some s) (ht : t ∉ dstL r.dst) (hk : ∀ q ∈ s.v.refs, q ∉ r.res.kill) (hc : ∀ x ∈ s.ch, x.1 ∉ dstL r.dst) : getT (after σ r).tm t = some s := by
  rw [getT_after, if_neg (fun e => ht (mem_dstL.2 e)), h]
  simp only [Option.map_some, Option.some.injEq]
  have e1 : s.v.killAll r.res.kill = s.v := killAll_disj _ _ hk
  rw [e1]
  unfold clr
  cases hd : r.dst with
  | none => rfl
  | some d =>
    simp only
    have : s.ch.any (fun z => Nat.beq z.1 d) = false := by
      refine List.any_eq_false.2 fun x hx => ?_
      have := hc x hx
      rw [hd] at this
      intro hb
      exact this (by simp [dstL, Nat.eq_of_beq_eq_true hb])
    rw [this]
    rfl

theorem mem_opTmps : ∀ {xs : List Operand} {t : Nat}, t ∈ opTmps xs ↔ Operand.tmp t ∈ xs
  | [], t => by simp [opTmps]
  | .tmp q :: r, t => by simp [opTmps, mem_opTmps (xs := r)]
  | .const v :: r, t => by simp [opTmps, mem_opTmps (xs := r)]
  | .global g :: r, t => by simp [opTmps, mem_opTmps (xs := r)]
  | .func f :: r, t => by simp [opTmps, mem_opTmps (xs := r)]

theorem subCh_ids {c ch : Chain} (h : subCh c ch = true) : ∀ x ∈ c, x.1 ∈ ch.map (·.1) := by
  intro x hx
  have := List.all_eq_true.1 h x hx
  unfold inCh at this
  obtain ⟨y, hy, hyx⟩ := List.any_eq_true.1 this
  simp only [Bool.and_eq_true, Nat.beq_eq] at hyx
  rw [hyx.1]
  exact List.mem_map.2 ⟨y, hy, rfl⟩

theorem noUnks_mem : ∀ {vs : List V} {v : V}, V.noUnks vs = true → v ∈ vs → v.noUnk = true
  | x :: r, v, h, hv => by
    simp only [V.noUnks, Bool.and_eq_true] at h
    rcases List.mem_cons.1 hv with rfl | hv
    · exact h.1
    · exact noUnks_mem h.2 hv

/-- What an operand that is a slot says. -/
theorem opndV_tmp {ch : Chain} {t : Nat} {v : V} (h : opndV σ ch (.tmp t) = some v) : ∃ s, getT σ.tm t = some s ∧ subCh s.ch ch = true ∧ s.v = v := by
  unfold opndV at h
  cases hl : Nat.blt t 1000000 with
  | false => simp [hl] at h
  | true =>
    simp only [hl, cond_true] at h
    split at h
    · next s hg =>
      cases hc : subCh s.ch ch with
      | false => simp [hc] at h
      | true => simp only [hc, cond_true, Option.some.injEq] at h; exact ⟨s, hg, hc, h⟩
    · cases h

theorem opndsV_mem {ch : Chain} : ∀ {xs : List Operand} {vs : List V}, opndsV σ ch xs = some vs → ∀ x ∈ xs, ∃ v ∈ vs, opndV σ ch x = some v
  | [], vs, h, x, hx => by simp at hx
  | y :: xs, vs, h, x, hx => by
    unfold opndsV at h
    rw [List.mapM_cons] at h
    simp only [Option.bind_eq_bind, Option.pure_def, Option.bind_eq_some_iff, Option.some.injEq] at h
    obtain ⟨d, hd, ds, hds, rfl⟩ := h
    rcases List.mem_cons.1 hx with rfl | hx
    · exact ⟨d, by simp, hd⟩
    · obtain ⟨v, hv, h⟩ := opndsV_mem (xs := xs) hds x hx
      exact ⟨v, by simp [hv], h⟩

theorem pickV_slots {ch : Chain} {c x y : Operand} {v : V} (h : pickV σ ch c x y = some v) :
    ∃ b p q : Bool, opndV σ ch c = some (bl b) ∧ opndV σ (chFor c true ch) x = some (bl p) ∧ opndV σ (chFor c false ch) y = some (bl q) ∧ v = bl (bif b then p else q) := by
  unfold pickV at h
  split at h
  · next b hc =>
    split at h
    · next p q hx hy => cases h; exact ⟨b, p, q, hc, hx, hy, rfl⟩
    · cases h
  · cases h

theorem chFor_ids {c : Operand} {wt : Bool} {ch : Chain} {i : Nat} (h : i ∈ (chFor c wt ch).map (·.1)) : i ∈ ch.map (·.1) ∨ c = .tmp i := by
  unfold chFor at h
  split at h
  · simp only [List.map_cons, List.mem_cons] at h
    rcases h with rfl | h
    · exact .inr rfl
    · exact .inl h
  · exact .inl h

/-- Every slot that a record read. -/
theorem rds_slots {nid : Nat} {o : Oper} {rc : Rec} (h : recOf P C N all σ nid o = some rc) (hn : V.noUnks rc.vs = true) {t : Nat} (ht : t ∈ rc.rds) :
    ∃ s, getT σ.tm t = some s ∧ s.v.noUnk = true ∧ (∀ x ∈ s.ch, x.1 ∈ rc.rds) ∧ ∀ q ∈ s.v.refs, q ∈ V.refss rc.vs := by
  obtain ⟨hd, hch, hb, hr, hc, e1, e2, e3, e4, e5⟩ := recOf_some h
  have hids : ∀ i, i ∈ rc.ch.map (·.1) → i ∈ rc.rds := fun i hi => by rw [e3]; exact List.mem_append_right _ hi
  have hbool : ∀ {s : Slot} {b : Bool}, s.v = bl b → s.v.noUnk = true ∧ ∀ q ∈ s.v.refs, q ∈ V.refss rc.vs := by
    intro s b e; rw [e]; exact ⟨rfl, fun q hq => by simp [V.refs] at hq⟩
  rw [e3, List.mem_append] at ht
  rcases ht with ht | ht
  · have hto := mem_opTmps.1 ht
    unfold evalOp at hr
    split at hr
    · next c x y ho =>
      cases hv : pickV σ rc.ch c x y with
      | none => simp [hv] at hr
      | some v =>
        obtain ⟨b, p, q, h1, h2, h3, _⟩ := pickV_slots hv
        have hcr : ∀ i, c = .tmp i → i ∈ rc.rds := fun i hi => by rw [e3, ho]; exact List.mem_append_left _ (mem_opTmps.2 (by simp [opnds, Op.operands, hi]))
        rw [ho] at hto
        have hto' : Operand.tmp t = c ∨ Operand.tmp t = x ∨ Operand.tmp t = y := by simpa [opnds, Op.operands] using hto
        rcases hto' with rfl | rfl | rfl
        · obtain ⟨s, g1, g2, g3⟩ := opndV_tmp h1
          exact ⟨s, g1, (hbool g3).1, fun z hz => hids _ (subCh_ids g2 z hz), (hbool g3).2⟩
        · obtain ⟨s, g1, g2, g3⟩ := opndV_tmp h2
          exact ⟨s, g1, (hbool g3).1, fun z hz => (chFor_ids (subCh_ids g2 z hz)).elim (hids _) (hcr _), (hbool g3).2⟩
        · obtain ⟨s, g1, g2, g3⟩ := opndV_tmp h3
          exact ⟨s, g1, (hbool g3).1, fun z hz => (chFor_ids (subCh_ids g2 z hz)).elim (hids _) (hcr _), (hbool g3).2⟩
    · next op hnp =>
      split at hr
      · next vs hvs =>
        cases hov : opV P C σ.hp nid o vs with
        | none => simp [hov] at hr
        | some r =>
          simp only [hov, Option.map_some, Option.some.injEq, Prod.mk.injEq] at hr
          obtain ⟨rfl, _⟩ := hr
          obtain ⟨v, hv, hov'⟩ := opndsV_mem hvs _ hto
          obtain ⟨s, g1, g2, rfl⟩ := opndV_tmp hov'
          refine ⟨s, g1, noUnks_mem hn hv, fun z hz => hids _ (subCh_ids g2 z hz), fun q hq => ?_⟩
          obtain ⟨i, hi⟩ := List.getElem?_of_mem hv
          exact refss_mem hi hq
      · cases hr
  · obtain ⟨x, hx, rfl⟩ := List.mem_map.1 ht
    have hg := List.all_eq_true.1 hb x hx
    unfold guardOk at hg
    split at hg
    · next s hs =>
      simp only [Bool.and_eq_true] at hg
      have : ∃ b, s.v = bl b := by
        have := hg.1
        unfold V.isBool at this
        split at this
        · next b e => exact ⟨b, e⟩
        · cases this
      obtain ⟨b, hbv⟩ := this
      exact ⟨s, hs, (hbool hbv).1, fun z hz => hids _ (subCh_ids hg.2 z hz), (hbool hbv).2⟩
    · cases hg

/-- A record depends on what it read alone. -/
theorem recOf_congr {nid : Nat} {o : Oper} {rc : Rec} (h : recOf P C N all σ nid o = some rc) (hA : ∀ t ∈ rc.rds, getT σ'.tm t = getT σ.tm t) (hB : Agree σ.hp σ'.hp (V.refss rc.vs)) :
    recOf P C N all σ' nid o = some rc ∧ holds σ'.tm rc.ch = holds σ.tm rc.ch := by
  obtain ⟨hd, hch, hb, hr, hc, e1, e2, e3, e4, e5⟩ := recOf_some h
  have hid : ∀ x ∈ rc.ch, getT σ'.tm x.1 = getT σ.tm x.1 := fun x hx => hA _ (by rw [e3]; exact List.mem_append_right _ (List.mem_map.2 ⟨x, hx, rfl⟩))
  have hop : ∀ (x : Operand), x ∈ opnds o.op → ∀ ch, opndV σ' ch x = opndV σ ch x := by
    intro x hx ch
    cases x with
    | tmp t => unfold opndV; simp only [hA t (by rw [e3]; exact List.mem_append_left _ (mem_opTmps.2 hx))]
    | _ => rfl
  have g1 : guardCh all σ'.tm o.guard = some rc.ch := by
    have hch' := hch
    unfold guardCh at hch ⊢
    split at hch
    · exact hch
    · next j wt _ =>
      split at hch
      · next oj hj =>
        split at hch
        · next t ht =>
          cases hl : Nat.blt t 1000000 with
          | false => simp [hl] at hch
          | true =>
            simp only [hl, cond_true] at hch ⊢
            split at hch
            · next ch' b hg =>
              simp only [Option.some.injEq] at hch
              have := hid (t, wt) (by rw [← hch]; simp)
              rw [this, hg]
              simp only [hch]
            · cases hch
        · cases hch
      · cases hch
  have g2 : rc.ch.all (fun x => guardOk σ'.tm rc.ch x.1) = true := by
    refine List.all_eq_true.2 fun x hx => ?_
    have := List.all_eq_true.1 hb x hx
    unfold guardOk at this ⊢
    rw [hid x hx]
    exact this
  have g3 : evalOp P C σ' nid rc.ch o = some (rc.vs, rc.res) := by
    rw [← hr]
    unfold evalOp at hr ⊢
    split
    · next c x y ho =>
      rw [ho] at hop
      have : pickV σ' rc.ch c x y = pickV σ rc.ch c x y := by
        unfold pickV
        rw [hop c (by simp [opnds, Op.operands]), hop x (by simp [opnds, Op.operands]), hop y (by simp [opnds, Op.operands])]
      rw [this]
    · next op hnp =>
      have : ∀ (xs : List Operand), (∀ x ∈ xs, x ∈ opnds o.op) → opndsV σ' rc.ch xs = opndsV σ rc.ch xs := by
        intro xs
        induction xs with
        | nil => intro _; rfl
        | cons x l ih =>
          intro hx
          unfold opndsV at ih ⊢
          rw [List.mapM_cons, List.mapM_cons, hop x (hx x (by simp)), ih fun z hz => hx z (by simp [hz])]
      rw [this _ fun x hx => hx]
      split at hr
      · next c x y ho => exact (hnp c x y ho).elim
      · split at hr
        · next vs hvs =>
          cases hov : opV P C σ.hp nid o vs with
          | none => simp [hov] at hr
          | some r =>
            simp only [hov, Option.map_some, Option.some.injEq, Prod.mk.injEq] at hr
            obtain ⟨rfl, _⟩ := hr
            rw [← opV_agree hB, hov]
        · cases hr
  have hreach : reachOf σ'.hp rc.vs = rc.reach := by rw [e4]; exact (reach_agree hB).symm
  have hrows : solidOf σ'.hp rc.vs = rc.rws := by rw [e5]; exact (solidOf_agree hB).symm
  refine ⟨?_, holds_congr _ fun x hx => by rw [hid x hx]⟩
  unfold recOf
  rw [hd, cond_true, g1]
  simp only
  rw [g2, cond_true, g3]
  simp only
  rw [hc, cond_true, hreach, hrows]
  rw [← e1, ← e2, ← e3]
end
end Go.Ax
