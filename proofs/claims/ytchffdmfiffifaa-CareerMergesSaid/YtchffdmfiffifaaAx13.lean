import Derived.Test.YtchffdmfiffifaaAx12
/- Regions that draw their order: operations that do not see each other change places. -/
namespace Go.Ax
open Go.RowKit

section
variable {P : Program} {N : Nat} {B : Base} {σ σ' : St} {E : Env} {a : Act} {w : World} {C : FuncId → Option CC}

mutual
theorem kill_noUnk (o : Nat) : ∀ v : V, (v.kill o).noUnk = true → v.kill o = v
  | .c _, _ => rfl
  | .agg vs, h => by simp only [V.kill, V.noUnk] at h ⊢; rw [kills_noUnk o vs h]
  | .tup vs, h => by simp only [V.kill, V.noUnk] at h ⊢; rw [kills_noUnk o vs h]
  | .ptr o' k i j, h => by
    rw [V.kill] at h ⊢
    cases hb : Nat.beq o' o
    · rfl
    · rw [hb] at h; simp [V.noUnk] at h
  | .row o' k i j, h => by
    rw [V.kill] at h ⊢
    cases hb : Nat.beq o' o
    · rfl
    · rw [hb] at h; simp [V.noUnk] at h
  | .dptr .., _ => rfl
  | .fn _ vs, h => by simp only [V.kill, V.noUnk] at h ⊢; rw [kills_noUnk o vs h]
theorem kills_noUnk (o : Nat) : ∀ vs : List V, V.noUnks (V.kills o vs) = true → V.kills o vs = vs
  | [], _ => rfl
  | v :: r, h => by
    simp only [V.kills, V.noUnks, Bool.and_eq_true] at h ⊢
    rw [kill_noUnk o v h.1, kills_noUnk o r h.2]
end

theorem killAll_noUnk : ∀ (kl : List Nat) (v : V), (v.killAll kl).noUnk = true → v.killAll kl = v
  | [], _, _ => rfl
  | o :: r, v, h => by
    rw [V.killAll] at h ⊢
    have h1 := killAll_noUnk r _ h
    rw [h1] at h ⊢
    exact kill_noUnk o v h

mutual
theorem kill_norefs (o : Nat) : ∀ v : V, v.refs = [] → v.kill o = v
  | .c _, _ => rfl
  | .agg vs, h => by simp only [V.kill]; rw [kills_norefs o vs h]
  | .tup vs, h => by simp only [V.kill]; rw [kills_norefs o vs h]
  | .ptr o' k i j, h => by simp [V.refs] at h
  | .row o' k i j, h => by simp [V.refs] at h
  | .dptr .., _ => rfl
  | .fn _ vs, h => by simp only [V.kill]; rw [kills_norefs o vs h]
theorem kills_norefs (o : Nat) : ∀ vs : List V, V.refss vs = [] → V.kills o vs = vs
  | [], _ => rfl
  | v :: r, h => by
    simp only [V.refss, List.append_eq_nil_iff] at h
    simp only [V.kills]
    rw [kill_norefs o v h.1, kills_norefs o r h.2]
end

theorem killAll_norefs : ∀ (kl : List Nat) (v : V), v.refs = [] → v.killAll kl = v
  | [], _, _ => rfl
  | o :: r, v, h => by rw [V.killAll, kill_norefs o v h, killAll_norefs r v h]

mutual
theorem kill_disj (o : Nat) : ∀ (v : V), o ∉ v.refs → v.kill o = v
  | .c _, _ => rfl
  | .agg vs, h => by rw [V.kill, kills_disj o vs (by rw [V.refs] at h; exact h)]
  | .tup vs, h => by rw [V.kill, kills_disj o vs (by rw [V.refs] at h; exact h)]
  | .ptr o' k i j, h => by
    rw [V.kill]
    cases hb : Nat.beq o' o with
    | false => rfl
    | true => exact (h (by rw [V.refs, Nat.eq_of_beq_eq_true hb]; simp)).elim
  | .row o' k i j, h => by
    rw [V.kill]
    cases hb : Nat.beq o' o with
    | false => rfl
    | true => exact (h (by rw [V.refs, Nat.eq_of_beq_eq_true hb]; simp)).elim
  | .dptr .., _ => rfl
  | .fn f vs, h => by rw [V.kill, kills_disj o vs (by rw [V.refs] at h; exact h)]
theorem kills_disj (o : Nat) : ∀ (vs : List V), o ∉ V.refss vs → V.kills o vs = vs
  | [], _ => rfl
  | v :: r, h => by
    rw [V.refss, List.mem_append] at h
    rw [V.kills, kill_disj o v (fun e => h (.inl e)), kills_disj o r (fun e => h (.inr e))]
end
theorem killAll_disj : ∀ (kl : List Nat) (v : V), (∀ q ∈ v.refs, q ∉ kl) → v.killAll kl = v
  | [], _, _ => rfl
  | o :: r, v, h => by
    rw [V.killAll, kill_disj o v (fun ho => h o ho (by simp)), killAll_disj r v fun q hq hr => h q hq (by simp [hr])]

theorem disj_spec {a b : List Nat} (h : disj a b = true) : ∀ x ∈ a, x ∉ b := by
  intro x hx hb
  have := List.all_eq_true.1 h x hx
  simp only [Bool.not_eq_true'] at this
  have := List.any_eq_false.1 this x hb
  simp at this

/-! The heap is asked for reachable objects alone. -/

theorem vrow_agree {H H' : Heap} {o k off n : Nat} (h : H.get o = H'.get o) : vrow H o k off n = vrow H' o k off n := by unfold vrow; rw [h]

theorem mem_reach_box {H : Heap} {vs : List V} {o : Nat} {cs : List V} (ho : o ∈ V.refss vs) (hb : H.get o = some (.box cs)) {q : Nat} (hq : q ∈ V.refss cs) : q ∈ reachOf H vs :=
  List.mem_append_right _ (List.mem_flatMap.2 ⟨o, ho, by rw [hb]; exact hq⟩)
theorem mem_reach {H : Heap} {vs : List V} {o : Nat} (ho : o ∈ V.refss vs) : o ∈ reachOf H vs := List.mem_append_left _ ho

theorem restr_congr {H H' : Heap} : ∀ (os : List Nat), (∀ o ∈ os, H.get o = H'.get o) → restr os H = restr os H'
  | [], _ => rfl
  | o :: r, h => by
    unfold restr
    rw [h o (by simp), restr_congr r fun o ho => h o (by simp [ho])]

/-- Two heaps agree on what some references reach. -/
structure Agree (H H' : Heap) (os : List Nat) : Prop where
  one : ∀ o ∈ os, H.get o = H'.get o
  two : ∀ o ∈ os, ∀ cs, H.get o = some (.box cs) → ∀ q ∈ V.refss cs, H.get q = H'.get q

theorem Agree.sub {H H' : Heap} {os os' : List Nat} (h : Agree H H' os) (hs : ∀ o ∈ os', o ∈ os) : Agree H H' os' := ⟨fun o ho => h.one o (hs o ho), fun o ho => h.two o (hs o ho)⟩

theorem agree_reach {H H' : Heap} {vs : List V} (h : ∀ o ∈ reachOf H vs, H.get o = H'.get o) : Agree H H' (V.refss vs) :=
  ⟨fun o ho => h o (mem_reach ho), fun o ho cs hb q hq => h q (mem_reach_box ho hb hq)⟩

theorem reach_agree {H H' : Heap} {vs : List V} (h : Agree H H' (V.refss vs)) : reachOf H vs = reachOf H' vs := by
  unfold reachOf
  congr 1
  have : ∀ (l : List Nat), (∀ o ∈ l, H.get o = H'.get o) → l.flatMap (fun o => match H.get o with | some (.box cs) => V.refss cs | _ => []) = l.flatMap (fun o => match H'.get o with | some (.box cs) => V.refss cs | _ => []) := by
    intro l
    induction l with
    | nil => intro _; rfl
    | cons x l ih =>
      intro hl
      rw [List.flatMap_cons, List.flatMap_cons, hl x (by simp), ih fun o ho => hl o (by simp [ho])]
  exact this _ h.one

theorem agree_get {H H' : Heap} {vs : List V} (h : Agree H H' (V.refss vs)) {o : Nat} (ho : o ∈ reachOf H vs) : H.get o = H'.get o := by
  unfold reachOf at ho
  rcases List.mem_append.1 ho with ho | ho
  · exact h.one o ho
  · obtain ⟨q, hq, ho⟩ := List.mem_flatMap.1 ho
    cases hg : H.get q with
    | none => rw [hg] at ho; simp at ho
    | some b =>
      rw [hg] at ho
      cases b with
      | box cs => exact h.two q hq cs hg o ho
      | row t k n el => simp at ho
      | raw x => simp at ho
theorem solidOf_agree {H H' : Heap} {vs : List V} (h : Agree H H' (V.refss vs)) : solidOf H vs = solidOf H' vs := by
  unfold solidOf
  rw [← reach_agree h]
  have key : ∀ l : List Nat, (∀ o ∈ l, H.get o = H'.get o) → (l.all fun o => solid (H.get o)) = (l.all fun o => solid (H'.get o)) ∧ (l.flatMap fun o => boxRefs (H.get o)) = l.flatMap fun o => boxRefs (H'.get o) := by
    intro l
    induction l with
    | nil => intro _; exact ⟨rfl, rfl⟩
    | cons x l ih =>
      intro h
      obtain ⟨i1, i2⟩ := ih fun o ho => h o (by simp [ho])
      rw [List.all_cons, List.all_cons, List.flatMap_cons, List.flatMap_cons, h x (by simp), i1, i2]
      exact ⟨rfl, rfl⟩
  obtain ⟨k1, k2⟩ := key _ fun o ho => agree_get h ho
  rw [k1, k2]
theorem cellD_agree {H H' : Heap} {v : V} (h : ∀ o ∈ v.refs, H.get o = H'.get o) : cellD H v = cellD H' v := by
  cases v with
  | row o k off n => simp only [cellD, vrow_agree (h o (by simp [V.refs]))]
  | _ => rfl

theorem vptr_agree {H H' : Heap} {o k i j : Nat} (h : Agree H H' [o]) : vptr H o k i j = vptr H' o k i j := by
  unfold vptr
  have h1 := h.one o (by simp)
  cases hg : H.get o with
  | none => rw [← h1, hg]
  | some ob =>
    cases ob with
    | row t k' n el => rw [← h1, hg]
    | raw x => rw [← h1, hg]
    | box cs =>
      have : cs.map (cellD H) = cs.map (cellD H') := List.map_congr_left fun v hv => cellD_agree fun q hq => by
        obtain ⟨i, hi⟩ := List.getElem?_of_mem hv
        exact h.two o (by simp) cs hg q (refss_mem hi hq)
      rw [← h1, hg]
      simp only [this]

mutual
theorem view_agree {H H' : Heap} : ∀ (v : V), Agree H H' v.refs → v.view H = v.view H'
  | .c .nil, _ => rfl
  | .c .unk, _ => rfl
  | .c (.lit _), _ => rfl
  | .c (.opt ..), _ => rfl
  | .c (.sl ..), _ => rfl
  | .agg vs, h => by rw [V.view, V.view, views_agree vs h]
  | .tup vs, h => by rw [V.view, V.view, views_agree vs h]
  | .ptr o k i j, h => by rw [V.view, V.view]; exact vptr_agree h
  | .row o k off n, h => by rw [V.view, V.view]; exact vrow_agree (h.one o (by simp [V.refs]))
  | .dptr .., _ => by rw [V.view, V.view]
  | .fn f vs, h => by rw [V.view, V.view, views_agree vs h]
theorem views_agree {H H' : Heap} : ∀ (vs : List V), Agree H H' (V.refss vs) → V.views H vs = V.views H' vs
  | [], _ => rfl
  | v :: r, h => by
    rw [V.views, V.views, view_agree v (h.sub fun o ho => by simp [V.refss, ho]), views_agree r (h.sub fun o ho => by simp [V.refss, ho])]
end

theorem opV_agree {H H' : Heap} {nid : Nat} {o : Oper} {vs : List V} (h : Agree H H' (V.refss vs)) : opV P C H nid o vs = opV P C H' nid o vs := by
  unfold opV
  split <;> try rfl
  · next t x a _ =>
    unfold loadV
    cases a with
    | ptr q k i j => simp only [h.one q (by simp [V.refss, V.refs])]
    | _ => rfl
  · next t x y a b _ =>
    unfold storeV
    cases a with
    | ptr q k i j => simp only [h.one q (by simp [V.refss, V.refs])]
    | _ => rfl
  · next a b x d _ =>
    have hx : asSl H d = asSl H' d := by
      unfold asSl
      cases d with
      | row q k off n => simp only [h.one q (by simp [V.refss, V.refs])]
      | c d => cases d <;> rfl
      | _ => rfl
    unfold bytesV
    rw [hx]
  · next t x y a b _ =>
    have key : ∀ u : Option TypeDesc, P.underlying t = u → indexAddrV P H t a b = indexAddrV P H' t a b := by
      intro u hu
      unfold indexAddrV
      rw [hu]
      by_cases hb : ∃ kk i, b = .c (.lit (.int kk i))
      · obtain ⟨kk, i, rfl⟩ := hb
        cases u with
        | none => rfl
        | some d =>
          cases a with
          | ptr q k i j =>
            have hq := h.one q (by simp [V.refss, V.refs])
            cases d <;> first | rfl | simp only [hq]
          | c a => cases a <;> cases d <;> rfl
          | _ => cases d <;> rfl
      · split <;> first | rfl | exact (hb ⟨_, _, rfl⟩).elim | (split <;> first | rfl | exact (hb ⟨_, _, rfl⟩).elim)
    exact key _ rfl
  · next x a _ =>
    unfold nextV
    cases a with
    | ptr q k i j => simp only [h.one q (by simp [V.refss, V.refs])]
    | _ => rfl
  · next args ats x _ =>
    have hc : ∀ t, clearV P H t x = clearV P H' t x := by
      intro t
      have key : ∀ u : Option TypeDesc, P.underlying t = u → clearV P H t x = clearV P H' t x := by
        intro u hu
        unfold clearV
        rw [hu]
        cases u with
        | none => rfl
        | some d =>
          cases x with
          | row q k off n =>
            have hq := h.one q (by simp [V.refss, V.refs])
            cases d <;> first | rfl | simp only [hq]
          | _ => cases d <;> rfl
      exact key _ rfl
    simp only [hc]
  · next args ats s x _ =>
    have hx : asSl H x = asSl H' x := by
      unfold asSl
      cases x with
      | row q k off n => simp only [h.one q (by simp [V.refss, V.refs])]
      | c d => cases d <;> rfl
      | _ => rfl
    have ha : ∀ t, appendV P H nid t s x = appendV P H' nid t s x := by
      intro t
      unfold appendV
      rw [hx]
      cases s with
      | row q k off n => simp only [h.one q (by simp [V.refss, V.refs])]
      | c d => cases d <;> rfl
      | _ => rfl
    simp only [ha]
  · next f args ats g caps ds _ =>
    unfold callV
    have hag : Agree H H' (V.refss (ds ++ caps)) := by
      refine h.sub fun q hq => ?_
      have : ∀ (l1 l2 : List V), q ∈ V.refss (l1 ++ l2) → q ∈ V.refss l1 ∨ q ∈ V.refss l2 := by
        intro l1 l2
        induction l1 with
        | nil => intro h; exact .inr h
        | cons x l ih =>
          intro h
          simp only [List.cons_append, V.refss, List.mem_append] at h ⊢
          rcases h with h | h
          · exact .inl (.inl h)
          · exact (ih h).imp .inr id
      simp only [V.refss, V.refs, List.mem_append]
      exact (this _ _ hq).symm
    have hr : restr (reachOf H (ds ++ caps)) H = restr (reachOf H' (ds ++ caps)) H' := by
      rw [← reach_agree hag]
      refine restr_congr _ fun o ho => ?_
      rcases List.mem_append.1 ho with ho | ho
      · exact hag.one o ho
      · obtain ⟨q, hq, ho⟩ := List.mem_flatMap.1 ho
        cases hg : H.get q with
        | none => rw [hg] at ho; simp at ho
        | some b =>
          cases b with
          | box cs => rw [hg] at ho; exact hag.two q hq cs hg o ho
          | row t k n el => rw [hg] at ho; simp at ho
          | raw x => rw [hg] at ho; simp at ho
    rw [views_agree _ hag, hr]
end
end Go.Ax
