import Derived.Test.YtchffdmfiffifaaAx15
/- A region that draws: every order that the model may draw. -/
namespace Go.Ax
open Go.RowKit

section
variable {P : Program} {N : Nat} {B : Base} {σ σ' : St} {E : Env} {a : Act} {w : World} {C : FuncId → Option CC}

/-- Op j comes before op i, by binding edges. -/
inductive Anc (ops : Array Oper) : Nat → Nat → Prop
  | edge (i : Nat) (o : Oper) (e : Edge) (hi : ops[i]? = some o) (he : e ∈ o.after) (hb : Region.binds .any e = true) : Anc ops e.on i
  | trans (i j : Nat) (o : Oper) (e : Edge) (hi : ops[i]? = some o) (he : e ∈ o.after) (hb : Region.binds .any e = true) (h : Anc ops j e.on) : Anc ops j i

theorem maskOf_spec {ops : Array Oper} {acc : List Nat} (hacc : ∀ i j, (acc.getD i 0).testBit j = true → Anc ops j i) {i : Nat} {o : Oper} (hi : ops[i]? = some o) {j : Nat} (h : (maskOf acc o).testBit j = true) : Anc ops j i := by
  unfold maskOf at h
  have key : ∀ (l : List Edge) (s : Nat), (∀ e ∈ l, e ∈ o.after) → (∀ j, s.testBit j = true → Anc ops j i) →
      (l.foldl (fun s e => bif Region.binds .any e then s ||| (2 ^ e.on ||| acc.getD e.on 0) else s) s).testBit j = true → Anc ops j i := by
    intro l
    induction l with
    | nil => intro s _ hs h; exact hs j h
    | cons e l ih =>
      intro s hl hs h
      rw [List.foldl_cons] at h
      refine ih _ (fun x hx => hl x (by simp [hx])) ?_ h
      cases hb : Region.binds .any e with
      | false => simpa [hb] using hs
      | true =>
        intro q hq
        simp only [cond_true, Nat.testBit_or, Bool.or_eq_true] at hq
        rcases hq with hq | hq | hq
        · exact hs q hq
        · rw [Nat.testBit_two_pow] at hq
          have : e.on = q := by simpa using hq
          rw [← this]
          exact .edge i o e hi (hl e (by simp)) hb
        · exact .trans i q o e hi (hl e (by simp)) hb (hacc _ _ hq)
  exact key _ 0 (fun e he => by simpa using he) (fun j hj => by simp at hj) h

theorem masks_spec {ops : Array Oper} : ∀ (rest : List Oper) (acc : List Nat), ops.toList.drop acc.length = rest → (∀ i j, (acc.getD i 0).testBit j = true → Anc ops j i) → ∀ i j, ((masks rest acc).getD i 0).testBit j = true → Anc ops j i
  | [], acc, _, h => h
  | o :: r, acc, hd, h => by
    rw [masks]
    have hi : ops[acc.length]? = some o := by
      have := congrArg (·[0]?) hd
      simpa using this
    refine masks_spec r _ ?_ ?_
    · rw [List.length_append, ← List.drop_drop, hd]; rfl
    · intro i j hij
      rw [List.getD_eq_getElem?_getD, List.getElem?_append] at hij
      split at hij
      · exact h i j (by rw [List.getD_eq_getElem?_getD]; exact hij)
      · next hlt =>
        by_cases he : i = acc.length
        · subst he
          exact maskOf_spec h hi (by simpa using hij)
        · have : i - acc.length ≠ 0 := by omega
          rw [List.getElem?_singleton] at hij
          simp [this] at hij

theorem pairOk_spec {m : Nat} {r : Rec} : ∀ (l : List Rec) (j : Nat), pairOk m r j l = true → ∀ (k : Nat) (q : Rec), l[k]? = some q → m.testBit (j + k) = true ∨ indep q r = true
  | [], j, _, k, q, h => by simp at h
  | x :: l, j, hp, k, q, h => by
    rw [pairOk] at hp
    simp only [Bool.and_eq_true, Bool.or_eq_true] at hp
    match k with
    | 0 => simp at h; subst h; simpa using hp.1
    | k + 1 =>
      have := pairOk_spec l (j + 1) hp.2 k q (by simpa using h)
      rw [show j + (k + 1) = j + 1 + k by omega]
      exact this

theorem drawOk_spec {ms : List Nat} : ∀ (rest done : List Rec), drawOk ms done rest = true → ∀ (i j : Nat) (q r : Rec), j < i → (done ++ rest)[i]? = some r → (done ++ rest)[j]? = some q → done.length ≤ i → (ms.getD i 0).testBit j = true ∨ indep q r = true
  | [], done, _, i, j, q, r, hji, hi, hj, hlt => by
    rw [List.append_nil] at hi
    have := (List.getElem?_eq_some_iff.1 hi).1
    omega
  | x :: l, done, h, i, j, q, r, hji, hi, hj, hlt => by
    rw [drawOk] at h
    simp only [Bool.and_eq_true] at h
    rcases Nat.lt_or_ge done.length i with hlt' | hge
    · refine drawOk_spec l (done ++ [x]) h.2 i j q r hji ?_ ?_ ?_
      · rw [List.append_assoc]; exact hi
      · rw [List.append_assoc]; exact hj
      · simp; omega
    · have he : i = done.length := by omega
      subst he
      rw [List.getElem?_append_right (Nat.le_refl _)] at hi
      simp at hi
      subst hi
      rw [List.getElem?_append_left hji] at hj
      have := pairOk_spec done 0 h.1 j q hj
      simpa using this

theorem edgesAll_spec {ops : Array Oper} : ∀ (rest : List Oper) (n : Nat), ops.toList.drop n = rest → edgesAll n rest = true → ∀ (i : Nat) (o : Oper) (e : Edge), n ≤ i → ops[i]? = some o → e ∈ o.after → Region.binds .any e = true → e.on < i
  | [], n, hd, _, i, o, e, hn, hi, _, _ => by
    have h1 := List.drop_eq_nil_iff.1 hd
    have h2 := (Array.getElem?_eq_some_iff.1 hi).1
    simp at h1
    omega
  | x :: l, n, hd, h, i, o, e, hn, hi, he, hb => by
    rw [edgesAll] at h
    simp only [Bool.and_eq_true] at h
    rcases Nat.lt_or_ge n i with hlt | hge
    · exact edgesAll_spec l (n + 1) (by rw [← List.drop_drop, hd]; rfl) h.2 i o e hlt hi he hb
    · have : i = n := by omega
      subst this
      have hx : ops[i]? = some x := by
        have := congrArg (·[0]?) hd
        simpa using this
      rw [hx] at hi
      cases hi
      have := List.all_eq_true.1 h.1 e (by simpa using he)
      simpa [hb] using this

theorem HeapAt.congr {H H' : Heap} (h : HeapAt E w H) (he : ∀ o, Heap.get H' o = Heap.get H o) : HeapAt E w H' :=
  ⟨fun o ob ho => h.at_ o ob (by rw [← he]; exact ho), h.inj, h.sep, h.lt, h.oklt⟩

theorem Sim.drawn (hs : Sim N B σ E a w) (n : Nat) : Sim N B σ E a { w with drawn := n } := by
  have hS : Step E w [] E { w with drawn := n } := ⟨rfl, rfl, rfl, Nat.le_refl _, fun _ h => h, fun _ _ _ => rfl, fun _ h => h, fun _ h => .inl h, fun _ _ _ => ⟨rfl, rfl, rfl⟩, fun o b h1 h2 => .inl ⟨o, h1, h2⟩⟩
  have hr : ∀ v d, RepV E w v d → RepV E { w with drawn := n } v d := fun v d h => by simpa [V.killAll] using h.step hS hs.heap.sep hs.heap.oklt
  have hd : ∀ v d, RepD E.ok w v d → RepD E.ok { w with drawn := n } v d := fun v d h => RepD.mono (w := w) (w' := { w with drawn := n }) (fun _ h => h) (fun _ _ => rfl) h
  refine ⟨hs.size, hs.small, hs.defers, hs.live, ⟨fun o ob ho => ?_, hs.heap.inj, hs.heap.sep, hs.heap.lt, hs.heap.oklt⟩, fun t s hg => ⟨fun h => hr _ _ ((hs.slots t s hg).1 h), (hs.slots t s hg).2⟩, ⟨hs.base.os, hs.base.tape, hs.base.output, hs.base.size, hs.base.block⟩, hs.own, hs.okold⟩
  have := hs.heap.at_ o ob ho
  exact ⟨this.1, obAt_mono this.2 ⟨rfl, rfl, rfl⟩ (fun _ _ => rfl) hr hd⟩

theorem Eqv.holds (h : Eqv σ σ') (ch : Chain) : holds σ'.tm ch = holds σ.tm ch := holds_congr ch fun x _ => by rw [h.tm]

theorem Sim.eqv (hs : Sim N B σ E a w) (h : Eqv σ σ') (hn : σ.nx ≤ σ'.nx) : Sim N B σ' E a w := by
  refine ⟨hs.size, hs.small, hs.defers, fun q hq => hs.live q (by omega), hs.heap.congr fun o => (h.hp o).symm, fun t s hg => ?_, hs.base, hs.own, hs.okold⟩
  rw [← h.tm] at hg
  have := hs.slots t s hg
  refine slotAt_move (tm := σ.tm) ⟨?_, ?_⟩ ?_
  · exact this.1
  · exact this.2
  · intro x _ _; rw [h.tm]

theorem Sim.weaken_nx (hs : Sim N B σ E a w) {M : Nat} (h : σ.nx ≤ M) : Sim N B { σ with nx := M } E a w :=
  ⟨hs.size, hs.small, hs.defers, fun q hq => hs.live q (Nat.le_trans h hq), hs.heap, hs.slots, hs.base, hs.own, hs.okold⟩

theorem Runs.dom {ops : Array Oper} {n0 : Nat} {σf : St} {L : List (Nat × Rec)} (h : Runs P C N ops n0 σf σ L) : ∀ x ∈ L, x.1 < ops.size := by
  induction h with
  | done => intro x hx; simp at hx
  | step σ i o r L hi hr hp h ih =>
    intro x hx
    rcases List.mem_cons.1 hx with rfl | hx
    · exact (Array.getElem?_eq_some_iff.1 hi).1
    · exact ih x hx

theorem draw_wp (hC : ∀ f con, C f = some con → MeetsC P f con) {ops : Array Oper} {Q : Exit → Act → World → Prop} {σf : St} {M n0 : Nat} (hM : n0 + ops.size ≤ M)
    (hedge : ∀ (i : Nat) (o : Oper) (e : Edge), ops[i]? = some o → e ∈ o.after → Region.binds .any e = true → e.on < i)
    (hQ : ∀ σ' E' a' w', Eqv σ' σf → σ'.nx = M → Sim N B σ' E' a' w' → Q .normal a' w') : ∀ (fuel : Nat) (L : List (Nat × Rec)) (listed : Array Bool) (σ : St) (E : Env) (a : Act) (w : World),
    L.length = fuel → listed.size = ops.size → (∀ i, i < ops.size → (listed.getD i false = false ↔ i ∈ L.map (·.1))) → L.Pairwise (fun x y => x.1 < y.1) →
    L.Pairwise (fun x y => Anc ops x.1 y.1 ∨ indep x.2 y.2 = true) → (∀ i j, Anc ops j i → listed.getD i false = true → listed.getD j false = true) →
    Runs P C N ops n0 σf σ L → σ.nx = M → Sim N B σ E a w → (∀ x ∈ L, ¬ E.live (n0 + x.1)) → wpAny P .any ops Q fuel listed a w := by
  intro fuel
  induction fuel with
  | zero =>
    intro L listed σ E a w hl hsz hmem _ _ _ hr hnx hs _
    have hL : L = [] := List.length_eq_zero_iff.1 hl
    subst hL
    refine ⟨List.eq_nil_iff_forall_not_mem.2 fun i hi => ?_, ?_⟩
    · obtain ⟨h0, o, ho, _⟩ := mem_ready.1 hi
      have hlt := (Array.getElem?_eq_some_iff.1 ho).1
      have : listed.getD i false = false := by
        rw [Array.getD_eq_getD_getElem?] at h0 ⊢
        have : i < listed.size := by omega
        simpa [this] using h0
      simpa using (hmem i hlt).1 this
    · cases hr with
      | done _ h => exact hQ σ E a w h hnx hs
  | succ fuel ih =>
    intro L listed σ E a w hl hsz hmem hlt hpair hclosed hr hnx hs hlive
    have un : ∀ i, i < ops.size → (listed.getD i true = false ↔ listed.getD i false = false) := by
      intro i hi
      rw [Array.getD_eq_getD_getElem?, Array.getD_eq_getD_getElem?]
      have : i < listed.size := by omega
      simp [this]
    refine ⟨fun hnil => ?_, fun i hi => ?_⟩
    · exfalso
      match L, hl with
      | x :: L', _ =>
        have hx : x.1 < ops.size := hr.dom x (by simp)
        have hin : x.1 ∈ Region.ready .any ops listed := by
          refine mem_ready.2 ⟨(un _ hx).2 ((hmem _ hx).2 (by simp)), ops[x.1], Array.getElem?_eq_getElem hx, fun e he hb => ?_⟩
          have hon := hedge x.1 _ e (Array.getElem?_eq_getElem hx) he hb
          cases hc : listed.getD e.on false with
          | true => rfl
          | false =>
            have := (hmem e.on (by omega)).1 hc
            obtain ⟨y, hy, hye⟩ := List.mem_map.1 this
            rcases List.mem_cons.1 hy with rfl | hy
            · omega
            · have := (List.pairwise_cons.1 hlt).1 y hy
              omega
        rw [hnil] at hin
        simp at hin
    · obtain ⟨h0, o, ho, hall⟩ := mem_ready.1 hi
      have hisz := (Array.getElem?_eq_some_iff.1 ho).1
      have hiL := (hmem i hisz).1 ((un i hisz).1 h0)
      obtain ⟨y, hy, hyi⟩ := List.mem_map.1 hiL
      obtain ⟨i', ri⟩ := y
      simp only at hyi
      subst hyi
      obtain ⟨L1, L2, rfl⟩ := List.append_of_mem hy
      have hanc : ∀ j, Anc ops j i' → listed.getD j false = true := by
        intro j hj
        cases hj with
        | edge _ o' e hi' he hb => rw [ho] at hi'; cases hi'; exact hall e he hb
        | trans _ _ o' e hi' he hb h => rw [ho] at hi'; cases hi'; exact hclosed _ _ h (hall e he hb)
      have hind : ∀ x ∈ L1, indep x.2 ri = true := by
        intro x hx
        rcases (List.pairwise_append.1 hpair).2.2 x hx (i', ri) (by simp) with h | h
        · exfalso
          have h1 := hanc _ h
          have h2 := (hmem x.1 (hr.dom x (by simp [hx]))).2 (List.mem_map.2 ⟨x, by simp [hx], rfl⟩)
          rw [h1] at h2
          cases h2
        · exact h
      have hfr := Runs.front L1 hr hind
      cases hfr with
      | step _ _ o' _ _ hi' hrec hpp hrest =>
        refine step_wp (M := M) hC hs hi' (hlive (i', ri) (by simp)) (by omega) (by omega) hrec hpp fun E' a' w' hs' hl' => ?_
        have heq : { after σ ri with nx := M } = after σ ri := by
          rw [← hnx]; rfl
        rw [heq] at hs'
        have hno : ∀ x ∈ L1 ++ L2, x.1 ≠ i' := by
          intro x hx
          rcases List.mem_append.1 hx with hx | hx
          · have := (List.pairwise_append.1 hlt).2.2 x hx (i', ri) (by simp)
            simp only at this; omega
          · have := (List.pairwise_cons.1 (List.pairwise_append.1 hlt).2.1).1 x hx
            simp only at this; omega
        have hsub : (L1 ++ L2).Sublist (L1 ++ (i', ri) :: L2) := List.Sublist.append (List.Sublist.refl _) (List.sublist_cons_self _ _)
        refine ih (L1 ++ L2) _ (after σ ri) E' a' w' ?_ ?_ ?_ (hlt.sublist hsub) (hpair.sublist hsub) ?_ hrest hnx hs' ?_
        · simp only [List.length_append, List.length_cons] at hl ⊢; omega
        · simp [hsz]
        · intro k hk
          by_cases hki : k = i'
          · subst hki
            constructor
            · intro h
              have : k < listed.size := by omega
              simp [this] at h
            · intro h
              obtain ⟨x, hx, hxe⟩ := List.mem_map.1 h
              exact (hno x hx hxe).elim
          · rw [getD_set_ne false (Ne.symm hki), hmem k hk]
            simp only [List.map_append, List.map_cons, List.mem_append, List.mem_cons]
            constructor
            · rintro (h | h | h)
              · exact .inl h
              · exact (hki h).elim
              · exact .inr h
            · rintro (h | h)
              · exact .inl h
              · exact .inr (.inr h)
        · intro p q hpq hp
          by_cases hpi : p = i'
          · subst hpi
            exact getD_set_true (hanc q hpq)
          · rw [getD_set_ne false (Ne.symm hpi)] at hp
            exact getD_set_true (hclosed p q hpq hp)
        · intro x hx hlx
          rcases hl' _ hlx with h | h
          · exact hlive x (hsub.subset hx) h
          · have := hno x hx
            omega

/-- What the checker's run gives. -/
theorem goD_runs {ops : Array Oper} {n0 : Nat} : ∀ (rest : List Oper) (i : Nat) (σ : St) (ps : List Prop) (rcs : List Rec) (σ2 : St), ops.toList.drop i = rest → goD P C N ops.toList rest (n0 + i) σ = some (ps, rcs, σ2) → (∀ p ∈ ps, p) →
    ∃ σf, Runs P C N ops n0 σf σ ((List.range' i rcs.length).zip rcs) ∧ σ2 = { σf with tm := dropCh σf.tm } ∧ σf.nx = σ.nx ∧ rcs.length = rest.length
  | [], i, σ, ps, rcs, σ2, hd, h, hp => by
    simp only [goD, Option.some.injEq, Prod.mk.injEq] at h
    obtain ⟨rfl, rfl, rfl⟩ := h
    exact ⟨σ, .done _ (.refl _), rfl, rfl, rfl⟩
  | o :: r, i, σ, ps, rcs, σ2, hd, h, hp => by
    rw [goD] at h
    split at h
    · next rc h1 =>
      split at h
      · next qs rcs' σ3 h2 =>
        simp only [Option.some.injEq, Prod.mk.injEq] at h
        obtain ⟨rfl, rfl, rfl⟩ := h
        have hi : ops[i]? = some o := by
          have := congrArg (·[0]?) hd
          simpa using this
        obtain ⟨σf, hr, he, hn, hl⟩ := goD_runs r (i + 1) (after σ rc) qs rcs' σ3 (by rw [← List.drop_drop, hd]; rfl) h2 fun p hp' => hp p (List.mem_append_right _ hp')
        refine ⟨σf, ?_, he, hn, by simp [hl]⟩
        rw [List.length_cons, List.range'_succ, List.zip_cons_cons]
        exact .step σ i o rc _ hi h1 (fun p hp' => hp p (List.mem_append_left _ hp')) hr
      · cases h
    · cases h

/-- A region that draws. -/
theorem region_draw_wp (hm : P.follows .mixedOrders = true) (hC : ∀ f con, C f = some con → MeetsC P f con) {id : Nat} {ops : Array Oper} {Q : Exit → Act → World → Prop} {ps : List Prop} {rcs : List Rec}
    (hg : goD P C N ops.toList ops.toList σ.nx { σ with nx := σ.nx + ops.toList.length } = some (ps, rcs, σ')) (he : edgesAll 0 ops.toList = true) (hd : drawOk (masks ops.toList []) [] rcs = true) (hp : ∀ p ∈ ps, p)
    (hs : Sim N B σ E a w) (hQ : ∀ E' a' w', Sim N B σ' E' a' w' → Q .normal a' w') : (Code.region id ops true).wp P Q a w := by
  obtain ⟨σf, hr, e, hn, hl⟩ := goD_runs (n0 := σ.nx) ops.toList 0 _ ps rcs σ' rfl (by simpa using hg) hp
  refine wp_region_any hm ?_
  have hsz : rcs.length = ops.size := by simpa using hl
  have hs1 : Sim N B { σ with nx := σ.nx + ops.toList.length } E a { w with drawn := w.drawn + 1 } := by
    have := hs.weaken_nx (M := σ.nx + ops.toList.length) (Nat.le_add_right _ _)
    exact this.drawn _
  have hget : ∀ (k : Nat) (x : Nat × Rec), ((List.range' 0 rcs.length).zip rcs)[k]? = some x → x.1 = k ∧ rcs[k]? = some x.2 := by
    intro k x hx
    rw [List.getElem?_zip_eq_some] at hx
    obtain ⟨h1, h2⟩ := hx
    rw [List.getElem?_range' (by exact (List.getElem?_eq_some_iff.1 h2).1)] at h1
    first
      | (have h3 : 0 + 1 * k = x.1 := Option.some.inj h1
         exact ⟨by omega, h2⟩)
  refine draw_wp (M := σ.nx + ops.toList.length) (n0 := σ.nx) (σf := σf) hC (by simp) (fun i o e hi hem hb => edgesAll_spec ops.toList 0 rfl he i o e (Nat.zero_le _) hi hem hb) ?_ ops.size ((List.range' 0 rcs.length).zip rcs) _ _ E a _ ?_ ?_ ?_ ?_ ?_ ?_ hr rfl hs1 ?_
  · intro σ2 E' a' w' hev hnx hs2
    refine hQ E' a' w' ?_
    have h3 : Sim N B σf E' a' w' := hs2.eqv hev (by rw [hnx, hn]; exact Nat.le_refl _)
    rw [e]
    exact sim_drop h3
  · simp [hsz]
  · simp
  · intro i hi
    constructor
    · intro _
      have h1 : i < rcs.length := by omega
      refine List.mem_map.2 ⟨(i, rcs[i]), ?_, rfl⟩
      refine List.mem_of_getElem? (i := i) ?_
      rw [List.getElem?_zip_eq_some]
      simp [h1]
    · intro _
      simp [hi]
  · rw [List.pairwise_iff_getElem]
    intro i j hi hj hij
    have h1 := hget i _ (List.getElem?_eq_getElem hi)
    have h2 := hget j _ (List.getElem?_eq_getElem hj)
    rw [h1.1, h2.1]; exact hij
  · rw [List.pairwise_iff_getElem]
    intro i j hi hj hij
    have h1 := hget i _ (List.getElem?_eq_getElem hi)
    have h2 := hget j _ (List.getElem?_eq_getElem hj)
    rw [h1.1, h2.1]
    rcases drawOk_spec rcs [] hd j i _ _ hij h2.2 h1.2 (Nat.zero_le _) with h | h
    · exact .inl (masks_spec ops.toList [] rfl (fun i j h => by simp at h) _ _ h)
    · exact .inr h
  · intro i j hanc h
    exfalso
    rw [Array.getD_eq_getD_getElem?, Array.getElem?_replicate] at h
    split at h <;> simp at h
  · intro x hx
    exact hs.live _ (Nat.le_add_right _ _)
end
end Go.Ax
