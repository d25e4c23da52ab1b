import Derived.Test.YtchffdmfiffifaaAx14
/- A region that draws its order: whatever the order, it ends as the text's order ends. -/
namespace Go.Ax
open Go.RowKit

section
variable {P : Program} {N : Nat} {B : Base} {σ σ' : St} {E : Env} {a : Act} {w : World} {C : FuncId → Option CC} {all : List Oper}

structure Eqv (σ σ' : St) : Prop where
  tm : ∀ t, getT σ.tm t = getT σ'.tm t
  hp : ∀ o, Heap.get σ.hp o = Heap.get σ'.hp o

theorem Eqv.refl (σ : St) : Eqv σ σ := ⟨fun _ => rfl, fun _ => rfl⟩
theorem Eqv.symm (h : Eqv σ σ') : Eqv σ' σ := ⟨fun t => (h.tm t).symm, fun o => (h.hp o).symm⟩
theorem Eqv.trans {σ'' : St} (h : Eqv σ σ') (h' : Eqv σ' σ'') : Eqv σ σ'' := ⟨fun t => (h.tm t).trans (h'.tm t), fun o => (h.hp o).trans (h'.hp o)⟩

theorem Eqv.after (h : Eqv σ σ') (r : Rec) : Eqv (after σ r) (after σ' r) :=
  ⟨fun t => by rw [getT_after, getT_after, h.tm t], fun o => by rw [get_after, get_after, h.hp o]⟩

theorem Eqv.recOf (h : Eqv σ σ') {nid : Nat} {o : Oper} {rc : Rec} (hr : recOf P C N all σ nid o = some rc) : recOf P C N all σ' nid o = some rc ∧ holds σ'.tm rc.ch = holds σ.tm rc.ch :=
  recOf_congr hr (fun t _ => (h.tm t).symm) ⟨fun o _ => h.hp o, fun _ _ _ _ q _ => h.hp q⟩

theorem killObs_box (kl : List Nat) : ∀ cs : List V, killObs kl (some (.box cs)) = some (.box (cs.map (V.killAll kl))) := by
  have hk : ∀ (o : Nat) (cs : List V), V.kills o cs = cs.map (V.kill o) := by
    intro o cs
    induction cs with
    | nil => rfl
    | cons v r ih => rw [V.kills, ih]; rfl
  induction kl with
  | nil => intro cs; simp [killObs, V.killAll]
  | cons o r ih =>
    intro cs
    rw [killObs, killOb, ih, hk, List.map_map]
    rfl
theorem killObs_row (kl : List Nat) (t k n : Nat) (el : Nat → List D) : killObs kl (some (.row t k n el)) = some (.row t k n el) := by
  induction kl with
  | nil => rfl
  | cons o r ih => rw [killObs]; exact ih
theorem killObs_raw (kl : List Nat) (x : Obj) : killObs kl (some (.raw x)) = some (.raw x) := by
  induction kl with
  | nil => rfl
  | cons o r ih => rw [killObs]; exact ih
theorem killObs_none (kl : List Nat) : killObs kl none = none := by
  induction kl with
  | nil => rfl
  | cons o r ih => rw [killObs]; exact ih
/-- What names none of the objects stays. -/
theorem killObs_apart {kl : List Nat} {b : Option Ob} (h : ∀ q ∈ boxRefs b, q ∉ kl) : killObs kl b = b := by
  cases b with
  | none => exact killObs_none kl
  | some b =>
    cases b with
    | row t k n el => exact killObs_row kl t k n el
    | raw x => exact killObs_raw kl x
    | box cs =>
      rw [killObs_box]
      congr 2
      have : ∀ l : List V, (∀ q ∈ V.refss l, q ∉ kl) → l.map (V.killAll kl) = l := by
        intro l
        induction l with
        | nil => intro _; rfl
        | cons v r ih =>
          intro hl
          rw [List.map_cons, killAll_disj kl v fun q hq => hl q (by simp [V.refss, hq]), ih fun q hq => hl q (by simp [V.refss, hq])]
      exact this cs h
/-- What is not forgotten has not been forgotten. -/
theorem killObs_solid {kl : List Nat} {b : Option Ob} (h : solid (killObs kl b) = true) : killObs kl b = b := by
  cases b with
  | none => exact killObs_none kl
  | some b =>
    cases b with
    | row t k n el => exact killObs_row kl t k n el
    | raw x => exact killObs_raw kl x
    | box cs =>
      rw [killObs_box] at h ⊢
      congr 2
      have : ∀ l : List V, V.noUnks (l.map (V.killAll kl)) = true → l.map (V.killAll kl) = l := by
        intro l
        induction l with
        | nil => intro _; rfl
        | cons v r ih =>
          intro hl
          rw [List.map_cons, V.noUnks, Bool.and_eq_true] at hl
          rw [List.map_cons, killAll_noUnk kl v hl.1, ih hl.2]
      exact this cs h
theorem effRefs_get {H : Heap} {q : Nat} : ∀ p ∈ boxRefs (Heap.get H q), p ∈ effRefs H := by
  induction H with
  | nil => intro p hp; simp [Heap.get, boxRefs] at hp
  | cons x H ih =>
    obtain ⟨o, b⟩ := x
    intro p hp
    rw [Heap.get_cons] at hp
    unfold effRefs
    rw [List.flatMap_cons, List.mem_append]
    split at hp
    · exact .inl hp
    · exact .inr (ih p hp)

theorem clr_kill (dst : Option Nat) (kl : List Nat) (s : Slot) : clr dst ⟨s.ch, s.v.killAll kl⟩ = ⟨(clr dst s).ch, (clr dst s).v.killAll kl⟩ := by
  unfold clr
  cases dst with
  | none => rfl
  | some d =>
    simp only
    cases s.ch.any (fun y => Nat.beq y.1 d) with
    | false => rfl
    | true =>
      simp only [cond_true]
      have : ∀ kl : List Nat, (V.c D.unk).killAll kl = V.c D.unk := by
        intro kl
        induction kl with
        | nil => rfl
        | cons o r ih => rw [V.killAll, V.kill, ih]
      rw [this]

theorem clr_clr (d d' : Option Nat) (s : Slot) : clr d (clr d' s) = clr d' (clr d s) := by
  unfold clr
  cases d with
  | none => rfl
  | some d =>
    cases d' with
    | none => rfl
    | some d' =>
      simp only
      cases h1 : s.ch.any (fun y => Nat.beq y.1 d) <;> cases h2 : s.ch.any (fun y => Nat.beq y.1 d') <;> simp [h1, h2]

theorem clr_self {d : Option Nat} {s : Slot} (h : ∀ x ∈ s.ch, x.1 ∉ dstL d) : clr d s = s := by
  unfold clr
  cases d with
  | none => rfl
  | some d =>
    simp only
    have : s.ch.any (fun z => Nat.beq z.1 d) = false := by
      refine List.any_eq_false.2 fun x hx => ?_
      intro hb
      exact h x hx (by simp [dstL, Nat.eq_of_beq_eq_true hb])
    rw [this]
    rfl

theorem anyRefs_one {v : V} (h : anyRefs [v] = false) : v.refs = [] := by
  have := refss_nil_of h
  simpa [V.refss] using this

/-- What 'blind' says. -/
structure Blind (x y : Rec) : Prop where
  rds : ∀ t, t ∈ dstL x.dst → t ∉ y.rds
  dst : ∀ t, t ∈ dstL x.dst → t ∉ dstL y.dst
  reach : ∀ q, q ∈ keysOf x.res.eff → q ∉ y.reach
  keys : ∀ q, q ∈ keysOf x.res.eff → q ∉ keysOf y.res.eff
  kill : x.res.kill = [] ∨ ((y.rws.1 = true ∧ ∀ q ∈ x.res.kill, q ∉ y.reach ∧ q ∉ y.res.val.refs) ∧ (∀ q ∈ x.res.kill, q ∉ y.rws.2 ∧ q ∉ effRefs y.res.eff) ∧ y.res.kill = [])

theorem blind_spec {x y : Rec} (h : blind x y = true) : Blind x y := by
  unfold blind at h
  simp only [Bool.and_eq_true, Bool.or_eq_true, List.isEmpty_iff, Bool.not_eq_true'] at h
  obtain ⟨⟨h1, h2⟩, h3⟩ := h
  have g1 := disj_spec h1
  have g2 := disj_spec h2
  refine ⟨fun t ht hn => g1 t ht (List.mem_append_left _ hn), fun t ht hn => g1 t ht (List.mem_append_right _ hn), fun q hq hn => g2 q hq (List.mem_append_left _ hn), fun q hq hn => g2 q hq (List.mem_append_right _ hn), ?_⟩
  rcases h3 with h3 | ⟨⟨a1, a2⟩, a4⟩
  · exact .inl h3
  · refine .inr ⟨⟨a1, fun q hq => ⟨fun hn => disj_spec a2 q hq ?_, fun hn => disj_spec a2 q hq ?_⟩⟩, fun q hq => ⟨fun hn => disj_spec a2 q hq ?_, fun hn => disj_spec a2 q hq ?_⟩, a4⟩ <;> simp [hn]

theorem swap {nj ni : Nat} {oj oi : Oper} {rj ri : Rec} (hj : recOf P C N all σ nj oj = some rj) (hi : recOf P C N all (after σ rj) ni oi = some ri) (hind : indep rj ri = true) :
    recOf P C N all σ ni oi = some ri ∧ recOf P C N all (after σ ri) nj oj = some rj ∧ Eqv (after (after σ ri) rj) (after (after σ rj) ri) ∧ holds σ.tm ri.ch = holds (after σ rj).tm ri.ch ∧ holds (after σ ri).tm rj.ch = holds σ.tm rj.ch := by
  unfold indep at hind
  simp only [Bool.and_eq_true] at hind
  obtain ⟨⟨⟨hb1, hb2⟩, hnj⟩, hni⟩ := hind
  have bji := blind_spec hb1
  have bij := blind_spec hb2
  -- op i, ahead of op j
  have back := recOf_congr (σ' := σ) hi (fun t ht => by
      obtain ⟨s, g1, g2, _, _⟩ := rds_slots hi hni ht
      rw [slot_back g1 (fun hd => bji.rds t hd ht) g2, g1])
    (agree_reach fun q hq => by
      obtain ⟨_, _, _, _, _, _, _, _, e, e'⟩ := recOf_some hi
      have hq' := hq
      rw [← e] at hq
      rcases bji.kill with hk | ⟨⟨hk, _⟩, _⟩
      · rw [get_after, if_neg (fun hk => bji.reach q hk hq), hk]; rfl
      · rw [e'] at hk
        have hrow := List.all_eq_true.1 hk q hq'
        rw [get_after, if_neg (fun hk => bji.reach q hk hq)] at hrow ⊢
        exact killObs_solid hrow)
  -- op j, behind op i
  have forth := recOf_congr (σ' := after σ ri) hj (fun t ht => by
      obtain ⟨s, g1, _, g3, g4⟩ := rds_slots hj hnj ht
      rw [g1]
      refine slot_forth g1 (fun hd => bij.rds t hd ht) ?_ fun x hx hd => bij.rds _ hd (g3 x hx)
      intro q hq hqk
      rcases bij.kill with hk | ⟨⟨_, hk⟩, _⟩
      · rw [hk] at hqk; simp at hqk
      · obtain ⟨_, _, _, _, _, _, _, _, e, _⟩ := recOf_some hj
        exact (hk q hqk).1 (by rw [e]; exact mem_reach (g4 q hq)))
    (agree_reach fun q hq => by
      obtain ⟨_, _, _, _, _, _, _, _, e, e'⟩ := recOf_some hj
      have hq' := hq
      rw [← e] at hq
      rw [get_after, if_neg (fun hk => bij.reach q hk hq)]
      rcases bij.kill with hk | ⟨_, hk, _⟩
      · rw [hk]; rfl
      · refine (killObs_apart fun p hp hpk => (hk p hpk).1 ?_).symm
        rw [e']
        exact List.mem_flatMap.2 ⟨q, hq', hp⟩)
  refine ⟨back.1, forth.1, ⟨fun t => ?_, fun q => ?_⟩, back.2, forth.2⟩
  · have chi : ∀ x ∈ ri.ch, x.1 ∉ dstL rj.dst := fun x hx hd => by
      obtain ⟨_, _, _, _, _, _, _, e, _, _⟩ := recOf_some hi
      exact bji.rds _ hd (by rw [e]; exact List.mem_append_right _ (List.mem_map.2 ⟨x, hx, rfl⟩))
    have chj : ∀ x ∈ rj.ch, x.1 ∉ dstL ri.dst := fun x hx hd => by
      obtain ⟨_, _, _, _, _, _, _, e, _, _⟩ := recOf_some hj
      exact bij.rds _ hd (by rw [e]; exact List.mem_append_right _ (List.mem_map.2 ⟨x, hx, rfl⟩))
    have vi : ri.res.val.killAll rj.res.kill = ri.res.val := by
      rcases bji.kill with hk | ⟨⟨_, hk⟩, _⟩
      · rw [hk]; rfl
      · exact killAll_disj _ _ fun q hq hqk => (hk q hqk).2 hq
    have vj : rj.res.val.killAll ri.res.kill = rj.res.val := by
      rcases bij.kill with hk | ⟨⟨_, hk⟩, _⟩
      · rw [hk]; rfl
      · exact killAll_disj _ _ fun q hq hqk => (hk q hqk).2 hq
    rw [getT_after (σ := after σ ri) rj t, getT_after (σ := σ) ri t, getT_after (σ := after σ rj) ri t, getT_after (σ := σ) rj t]
    by_cases h1 : ri.dst = some t
    · have h2 : ¬ rj.dst = some t := fun e => bij.dst t (mem_dstL.2 h1) (mem_dstL.2 e)
      rw [if_pos h1, if_neg h2, if_pos h1]
      simp only [Option.map_some, vi]
      rw [clr_self chi]
    · by_cases h2 : rj.dst = some t
      · rw [if_pos h2, if_neg h1, if_pos h2]
        simp only [Option.map_some, vj]
        rw [clr_self chj]
      · rw [if_neg h2, if_neg h1, if_neg h1, if_neg h2]
        cases getT σ.tm t with
        | none => rfl
        | some s =>
          simp only [Option.map_some, Option.some.injEq]
          rw [clr_kill, clr_kill, clr_kill, clr_kill]
          have hkk : rj.res.kill = [] ∨ ri.res.kill = [] := by
            rcases bji.kill with hk | ⟨_, _, hk⟩
            · exact .inl hk
            · exact .inr hk
          rcases hkk with hk | hk
          · rw [hk]
            simp only [V.killAll]
            rw [clr_clr rj.dst ri.dst s]
          · rw [hk]
            simp only [V.killAll]
            rw [clr_clr rj.dst ri.dst s, clr_kill rj.dst rj.res.kill s, clr_kill ri.dst rj.res.kill (clr rj.dst s)]
  · rw [get_after (σ := after σ ri) rj q, get_after (σ := σ) ri q, get_after (σ := after σ rj) ri q, get_after (σ := σ) rj q]
    by_cases h1 : q ∈ keysOf ri.res.eff
    · have h2 : q ∉ keysOf rj.res.eff := bij.keys q h1
      rw [if_neg h2, if_pos h1, if_pos h1]
      rcases bji.kill with hk | ⟨_, hk, _⟩
      · rw [hk]; rfl
      · exact killObs_apart fun p hp hpk => (hk p hpk).2 (effRefs_get p hp)
    · by_cases h2 : q ∈ keysOf rj.res.eff
      · rw [if_pos h2, if_neg h1, if_pos h2]
        rcases bij.kill with hk | ⟨_, hk, _⟩
        · rw [hk]; rfl
        · exact (killObs_apart fun p hp hpk => (hk p hpk).2 (effRefs_get p hp)).symm
      · rw [if_neg h2, if_neg h1, if_neg h1, if_neg h2]
        rcases bji.kill with hk | ⟨_, _, hk⟩
        · rw [hk]; rfl
        · rw [hk]; rfl

/-- A run of what is left of a region, in the order of the text (up to what states say). -/
inductive Runs (P : Program) (C : FuncId → Option CC) (N : Nat) (ops : Array Oper) (n0 : Nat) (σf : St) : St → List (Nat × Rec) → Prop
  | done (σ : St) (h : Eqv σ σf) : Runs P C N ops n0 σf σ []
  | step (σ : St) (i : Nat) (o : Oper) (r : Rec) (L : List (Nat × Rec)) (hi : ops[i]? = some o) (hr : recOf P C N ops.toList σ (n0 + i) o = some r) (hp : ∀ p ∈ imps σ.tm r.ch r.res.pre, p)
      (h : Runs P C N ops n0 σf (after σ r) L) : Runs P C N ops n0 σf σ ((i, r) :: L)

variable {ops : Array Oper} {n0 : Nat} {σf : St}

theorem imps_congr {tm tm' : List (Nat × Slot)} {ch : Chain} (h : holds tm' ch = holds tm ch) (ps : List Prop) : imps tm' ch ps = imps tm ch ps := by
  unfold imps
  cases ch with
  | nil => rfl
  | cons x l => simp only [h]

theorem Runs.eqv {L : List (Nat × Rec)} (h : Runs P C N ops n0 σf σ L) : ∀ {σ' : St}, Eqv σ σ' → Runs P C N ops n0 σf σ' L := by
  induction h with
  | done σ h => exact fun e => .done _ (e.symm.trans h)
  | step σ i o r L hi hr hp h ih =>
    intro σ' e
    obtain ⟨h1, h2⟩ := e.recOf hr
    exact .step σ' i o r L hi h1 (by rw [imps_congr h2]; exact hp) (ih (e.after r))

theorem Runs.swap {i j : Nat} {ri rj : Rec} {L : List (Nat × Rec)} (h : Runs P C N ops n0 σf σ ((j, rj) :: (i, ri) :: L)) (hind : indep rj ri = true) : Runs P C N ops n0 σf σ ((i, ri) :: (j, rj) :: L) := by
  cases h with
  | step _ _ oj _ _ hj hrj hpj h =>
    cases h with
    | step _ _ oi _ _ hi hri hpi h =>
      obtain ⟨h1, h2, h3, h4, h5⟩ := Go.Ax.swap hrj hri hind
      exact .step σ i oi ri _ hi h1 (by rw [imps_congr h4]; exact hpi) (.step _ j oj rj _ hj h2 (by rw [imps_congr h5]; exact hpj) (h.eqv h3.symm))

theorem Runs.front {i : Nat} {ri : Rec} {L2 : List (Nat × Rec)} : ∀ (L1 : List (Nat × Rec)) {σ : St}, Runs P C N ops n0 σf σ (L1 ++ (i, ri) :: L2) → (∀ x ∈ L1, indep x.2 ri = true) → Runs P C N ops n0 σf σ ((i, ri) :: (L1 ++ L2))
  | [], σ, h, _ => h
  | (j, rj) :: L1, σ, h, hi => by
    cases h with
    | step _ _ oj _ _ hj hrj hpj h =>
      have := Runs.front L1 h fun x hx => hi x (by simp [hx])
      exact Runs.swap (.step σ j oj rj _ hj hrj hpj this) (hi (j, rj) (by simp))
end
end Go.Ax
