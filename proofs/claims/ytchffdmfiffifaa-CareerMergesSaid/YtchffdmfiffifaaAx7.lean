import Derived.Test.YtchffdmfiffifaaAx6
/- Operations that make or write memory. -/
namespace Go.Ax
open Go.RowKit

/-- The environment behind a step that may make one object. -/
def Env.next (E : Env) (nid : Nat) (c : Option Nat) (cap len : Nat) (ok' : Nat → Prop) : Env where
  conc o := if o = nid then c else E.conc o
  cap o := if o = nid then cap else E.cap o
  len o := if o = nid then len else E.len o
  live o := o = nid ∨ E.live o
  ok := ok'

structure Post (E : Env) (w : World) (H : Heap) (nid : Nat) (r : Res) (E' : Env) (w' : World) (v' : Value) : Prop where
  st : Step E w r.kill E' w'
  heap : HeapAt E' w' (r.eff ++ killH r.kill H)
  val : RepV E' w' v' r.val
  live : ∀ q, E'.live q → E.live q ∨ q = nid

section
variable {P : Program} {ρ : Operand → Value} {E : Env} {w w' : World} {o : Oper} {r : Res} {H : Heap} {nid : Nat}

theorem conc_next {c : Option Nat} {cap len : Nat} {ok' : Nat → Prop} {q : Nat} (hf : ¬ E.live nid) (h : E.live q) : (E.next nid c cap len ok').conc q = E.conc q ∧ (E.next nid c cap len ok').cap q = E.cap q ∧ (E.next nid c cap len ok').len q = E.len q := by
  have : q ≠ nid := fun e => hf (e ▸ h)
  simp [Env.next, this]

theorem next_case {c : Option Nat} {cap len : Nat} {ok' : Nat → Prop} {q b : Nat} (hq : (E.next nid c cap len ok').live q) (h : (E.next nid c cap len ok').conc q = some b) : (q ≠ nid ∧ E.live q ∧ E.conc q = some b) ∨ (q = nid ∧ c = some b) := by
  by_cases e : q = nid
  · subst e; simp [Env.next] at h; exact .inr ⟨rfl, h⟩
  · simp [Env.next, e] at hq h; exact .inl ⟨e, hq, h⟩

theorem next_step (hf : ¬ E.live nid) (c : Option Nat) (cap len : Nat) (ok' : Nat → Prop) (hb : Below w.heap.size w w') (hc : ∀ b, c = some b → w.heap.size ≤ b) (hok : ∀ b, E.ok b → ok' b) (hold : ∀ b, ok' b → E.ok b ∨ w.heap.size ≤ b) :
    Step E w [] (E.next nid c cap len ok') w' where
  os := hb.os
  tape := hb.tape
  output := hb.output
  size := hb.size
  live := fun _ h => .inr h
  blk := fun b hlt _ => hb.block b hlt
  ok := hok
  okold := hold
  conc := fun q hq _ => conc_next hf hq
  concnew := fun q b hq h => by
    rcases next_case hq h with ⟨_, h1, h2⟩ | ⟨_, h2⟩
    · exact .inl ⟨_, h1, h2⟩
    · exact .inr (hc b h2)

theorem clean_nil (d : V) : Clean [] d := fun _ _ => by simp

theorem RepL.mono {E' : Env} {vs : List Value} {ds : List V} (h : RepL E w vs ds) (hr : ∀ v d, RepV E w v d → RepV E' w' v d) : RepL E' w' vs ds :=
  ⟨h.1, fun i v d a b => hr v d (h.2 i v d a b)⟩

/-- An object stays, if its block does. -/
theorem obAt_mono {E' : Env} {q : Nat} {ob : Ob} (h : ObAt E w q ob) (hc : E'.conc q = E.conc q ∧ E'.cap q = E.cap q ∧ E'.len q = E.len q) (hb : ∀ b, E.conc q = some b → w'.heap[b]? = w.heap[b]?)
    (hr : ∀ v d, RepV E w v d → RepV E' w' v d) (hd : ∀ v d, RepD E.ok w v d → RepD E'.ok w' v d) : ObAt E' w' q ob := by
  obtain ⟨c1, c2, c3⟩ := hc
  cases ob with
  | box cs =>
    obtain ⟨hl, b, C, t, h1, h2, h3⟩ := h
    exact ⟨c3.trans hl, b, C, t, c1.trans h1, (hb b h1).trans h2, h3.mono hr⟩
  | raw x =>
    obtain ⟨hl, b, h1, h2⟩ := h
    exact ⟨c3.trans hl, b, c1.trans h1, (hb b h1).trans h2⟩
  | row t k n el =>
    obtain ⟨hl, h⟩ := h
    refine ⟨c3.trans hl, ?_⟩
    rcases h with ⟨h1, h2⟩ | ⟨b, C, h1, h2, h3, h4, h5, h6, h7, h8⟩
    · exact .inl ⟨c1.trans h1, h2⟩
    · exact .inr ⟨b, C, c1.trans h1, (hb b h1).trans h2, by rw [c2]; exact h3, by rw [c2]; exact h4, by rw [c2]; exact h5, h6, h7, fun i j d u a b c => hd _ _ (h8 i j d u a b c)⟩

theorem rep_next {c : Option Nat} {cap len : Nat} {ok' : Nat → Prop} (hH : HeapAt E w H) (hS : Step E w [] (E.next nid c cap len ok') w') {v : Value} {d : V} (h : RepV E w v d) : RepV (E.next nid c cap len ok') w' v d :=
  h.step hS hH.sep hH.oklt

theorem repD_next {c : Option Nat} {cap len : Nat} {ok' : Nat → Prop} (hH : HeapAt E w H) (hS : Step E w [] (E.next nid c cap len ok') w') {v : Value} {d : D} (h : RepD E.ok w v d) : RepD (E.next nid c cap len ok').ok w' v d :=
  h.mono hS.ok fun b hb => hS.blk b (hH.oklt b hb) fun o ho hc => hH.sep o b ho hc hb

theorem next_heap (hf : ¬ E.live nid) {c : Option Nat} {cap len : Nat} {ok' : Nat → Prop} (hH : HeapAt E w H) (hb : Below w.heap.size w w') (hc : ∀ b, c = some b → w.heap.size ≤ b ∧ b < w'.heap.size ∧ ¬ ok' b) (hok : ∀ b, E.ok b → ok' b)
    (hold : ∀ b, ok' b → E.ok b ∨ w.heap.size ≤ b) (hlt : ∀ b, ok' b → b < w'.heap.size) : HeapAt (E.next nid c cap len ok') w' H := by
  have hS : Step E w [] (E.next nid c cap len ok') w' := next_step hf c cap len ok' hb (fun b h => (hc b h).1) hok hold
  refine ⟨fun q ob hq => ?_, fun q q' b hq hq' h h' => ?_, fun q b hq h => ?_, fun q b hq h => ?_, hlt⟩
  · obtain ⟨h1, h2⟩ := hH.at_ q ob hq
    refine ⟨.inr h1, obAt_mono h2 (conc_next hf h1) (fun b hb' => hb.block b (hH.lt q b h1 hb')) (fun v d h => rep_next hH hS h) fun v d h => repD_next hH hS h⟩
  · rcases next_case hq h with ⟨_, a1, a2⟩ | ⟨a1, a2⟩ <;> rcases next_case hq' h' with ⟨_, b1, b2⟩ | ⟨b1, b2⟩
    · exact hH.inj q q' b a1 b1 a2 b2
    · have := hH.lt q b a1 a2; have := (hc b b2).1; omega
    · have := hH.lt q' b b1 b2; have := (hc b a2).1; omega
    · omega
  · rcases next_case hq h with ⟨_, a1, a2⟩ | ⟨a1, a2⟩
    · intro hk
      rcases hold b hk with h3 | h3
      · exact hH.sep q b a1 a2 h3
      · have := hH.lt q b a1 a2; omega
    · exact (hc b a2).2.2
  · rcases next_case hq h with ⟨_, a1, a2⟩ | ⟨a1, a2⟩
    · have := hH.lt q b a1 a2; have := hb.size; omega
    · exact (hc b a2).2.1

theorem Heap.get_cons (q q' : Nat) (b : Option Ob) : Heap.get ((q, b) :: H) q' = if q = q' then b else Heap.get H q' := by
  rw [Heap.get]
  by_cases h : q = q'
  · subst h; simp
  · have : Nat.beq q q' = false := by cases hb : Nat.beq q q'; rfl; exact (h (Nat.eq_of_beq_eq_true hb)).elim
    rw [this]; simp [h]

/-- A new fact on one object. -/
theorem heap_cons (hH : HeapAt E w H) {q : Nat} {ob : Ob} (hq : E.live q) (h : ObAt E w q ob) : HeapAt E w ((q, some ob) :: H) := by
  refine ⟨fun p x hp => ?_, hH.inj, hH.sep, hH.lt, hH.oklt⟩
  rw [Heap.get_cons] at hp
  split at hp
  · next e => subst e; cases hp; exact ⟨hq, h⟩
  · exact hH.at_ p x hp

/-- What is live behind a step. -/
theorem next_live {c : Option Nat} {cap len : Nat} {ok' : Nat → Prop} : ∀ q, (E.next nid c cap len ok').live q → E.live q ∨ q = nid := fun _ h => h.symm

/-- A quiet operation. -/
theorem quiet_post (hH : HeapAt E w H) (hf : ¬ E.live nid) (hr : QRes P ρ o E w r) : ∃ v', (execOp ρ o).run P w = .ok (.value v') w ∧ Post E w H nid r (E.next nid none 0 0 E.ok) w v' := by
  obtain ⟨h1, h2, v, h3, h4⟩ := hr
  have hS : Step E w [] (E.next nid none 0 0 E.ok) w := next_step hf none 0 0 E.ok (.refl _ _) (by simp) (fun _ h => h) (fun _ h => .inl h)
  refine ⟨v, h3, ?_, ?_, rep_next hH hS h4, next_live⟩
  · rw [h2]; exact hS
  · rw [h1, h2]
    exact next_heap hf hH (.refl _ _) (by simp) (fun _ h => h) (fun _ h => .inl h) hH.oklt

/-- A new object in the next block. -/
theorem new_post (hH : HeapAt E w H) (hf : ¬ E.live nid) (t : TypeId) (C : Array Value) (cap len : Nat) {ob : Ob} (he : r.eff = [(nid, some ob)]) (hk : r.kill = [])
    (hob : ∀ (E' : Env) (w' : World), E'.ok = E.ok → E'.conc nid = some w.heap.size → E'.cap nid = cap → E'.len nid = len → w'.heap[w.heap.size]? = some (.cells C t (0, 0)) →
      (∀ v d, RepV E w v d → RepV E' w' v d) → (∀ v d, RepD E.ok w v d → RepD E'.ok w' v d) → ObAt E' w' nid ob)
    {v' : Value} (hv : ∀ (E' : Env) (w' : World), E'.live nid → E'.conc nid = some w.heap.size → E'.cap nid = cap → E'.len nid = len → RepV E' w' v' r.val) :
    Post E w H nid r (E.next nid (some w.heap.size) cap len E.ok) (w.alloc (.cells C t)) v' := by
  have hb : Below w.heap.size w (w.alloc (.cells C t)) := (Below.refl _ _).alloc (Nat.le_refl _) _
  have hcc : ∀ b, some w.heap.size = some b → w.heap.size ≤ b ∧ b < (w.alloc (.cells C t)).heap.size ∧ ¬ E.ok b := by
    intro b e; cases e
    exact ⟨Nat.le_refl _, by simp, fun h => by have := hH.oklt _ h; omega⟩
  have hS : Step E w [] (E.next nid (some w.heap.size) cap len E.ok) (w.alloc (.cells C t)) := next_step hf _ cap len E.ok hb (fun b h => (hcc b h).1) (fun _ h => h) (fun _ h => .inl h)
  have hN := next_heap (cap := cap) (len := len) hf hH hb hcc (fun _ h => h) (fun _ h => .inl h) (fun b h => by have := hH.oklt b h; simp; omega)
  have e1 : (E.next nid (some w.heap.size) cap len E.ok).conc nid = some w.heap.size := by simp [Env.next]
  have e2 : (E.next nid (some w.heap.size) cap len E.ok).cap nid = cap := by simp [Env.next]
  have e3 : (E.next nid (some w.heap.size) cap len E.ok).len nid = len := by simp [Env.next]
  refine ⟨by rw [hk]; exact hS, ?_, hv _ _ (.inl rfl) e1 e2 e3, next_live⟩
  rw [he, hk]
  exact heap_cons hN (.inl rfl) (hob _ _ rfl e1 e2 e3 (heap_alloc_new w _) (fun v d h => rep_next hH hS h) fun v d h => repD_next hH hS h)

theorem mapM_toD : ∀ {cs : List V} {ds : List D}, cs.mapM V.toD = some ds → ds.length = cs.length ∧ ∀ (i : Nat) (d : D), ds[i]? = some d → cs[i]? = some (.c d)
  | [], ds, h => by simp at h; subst h; simp
  | v :: cs, ds, h => by
    rw [List.mapM_cons] at h
    simp only [Option.bind_eq_bind, Option.pure_def, Option.bind_eq_some_iff, Option.some.injEq] at h
    obtain ⟨d, hd, ds', hds, rfl⟩ := h
    obtain ⟨h1, h2⟩ := mapM_toD hds
    refine ⟨by simp [h1], fun i e he => ?_⟩
    match i with
    | 0 =>
      simp at he ⊢; subst he
      unfold V.toD at hd
      split at hd <;> simp_all
    | i + 1 => simpa using h2 i e (by simpa using he)

theorem repD_of_mapM {cs : List V} {ds : List D} {vs : List Value} (h : cs.mapM V.toD = some ds) (hr : RepL E w vs cs) {i : Nat} {d : D} {u : Value} (hd : ds[i]? = some d) (hu : vs[i]? = some u) : RepD E.ok w u d := by
  have := hr.2 i u _ hu ((mapM_toD h).2 i d hd)
  cases this with | c _ _ h => exact h

theorem chop_get {α : Type} (ds : List α) (k i j : Nat) (hj : j < k) : ((ds.drop (i * k)).take k)[j]? = ds[i * k + j]? := by
  rw [List.getElem?_take, if_pos hj, List.getElem?_drop]
theorem chop_get_none {α : Type} (ds : List α) (k i j : Nat) (d : α) (h : ((ds.drop (i * k)).take k)[j]? = some d) : j < k ∧ ds[i * k + j]? = some d := by
  rw [List.getElem?_take] at h
  split at h
  · next hj => exact ⟨hj, by rwa [List.getElem?_drop] at h⟩
  · cases h

theorem alloc_post (hH : HeapAt E w H) (hf : ¬ E.live nid) {t : TypeId} {C : Array Value} {v : V} (hc : RepL E w C.toList v.cells) (h1 : ∀ u ∈ C.toList, u.oneCell' = true) (h : allocV P nid t v = some r) :
    ∃ E', Post E w H nid r E' (w.alloc (.cells C t)) (.pointer (some ⟨w.heap.size, 0, none⟩)) := by
  unfold allocV at h
  cases hs : (v.cells.all V.isCell && Nat.beq v.cells.length (sz P t)) with
  | false => simp [hs] at h
  | true =>
    simp only [hs, cond_true] at h
    simp only [Bool.and_eq_true, Nat.beq_eq] at hs
    split at h
    · next len e ds hu hds =>
      cases hs2 : (Nat.beq (len * sz P e) (sz P t) && Nat.blt 0 (sz P e) && Nat.blt 0 len && Nat.ble len 1000000) with
      | false => simp [hs2] at h
      | true =>
        simp only [hs2, cond_true] at h
        simp only [Bool.and_eq_true, Nat.beq_eq, Nat.blt_eq, Nat.ble_eq] at hs2
        obtain ⟨⟨⟨s1, s2⟩, s3⟩, s4⟩ := hs2
        cases h
        have hC : C.size = len * sz P e := by rw [s1, ← hs.2, ← hc.1]; simp
        have hds' := (mapM_toD hds).1
        refine ⟨_, new_post (ob := .row t (sz P e) len fun i => (ds.drop (i * sz P e)).take (sz P e)) hH hf t C len len rfl rfl (fun E' w' hok hco hca hle hh hr hd => ⟨hle, .inr ⟨_, C, hco, hh, by rw [hca, hC], by omega, ?_, ?_, ?_, ?_⟩⟩) fun E' w' hnx hco hca hle => ?_⟩
        · rw [hca]; unfold maxLen; omega
        · intro i hi
          have : (i + 1) * sz P e ≤ len * sz P e := Nat.mul_le_mul_right _ (by omega)
          rw [Nat.add_mul, Nat.one_mul] at this
          have : ds.length = len * sz P e := by rw [hds', ← hc.1]; simpa using hC
          simp; omega
        · intro i j u hi hj hu'
          exact h1 u (by rw [← Array.getElem?_toList] at hu'; exact List.mem_of_getElem? hu')
        · intro i j d u hi hd' hu'
          obtain ⟨_, hd''⟩ := chop_get_none _ _ _ _ _ hd'
          exact hd _ _ (repD_of_mapM hds hc hd'' (by rw [← Array.getElem?_toList] at hu'; exact hu'))
        · have := RepV.ptr (w := w') nid (sz P e) 0 0 w.heap.size hnx hco (by omega)
          simpa using this
    · cases h
      refine ⟨_, new_post (ob := .box v.cells) hH hf t C 1 1 rfl rfl (fun E' w' hok hco hca hle hh hr hd => ⟨hle, _, C, t, hco, hh, hc.mono hr⟩) fun E' w' hnx hco hca hle => ?_⟩
      have := RepV.ptr (w := w') nid v.cells.length 0 0 w.heap.size hnx hco (by omega)
      simpa using this

theorem zero_one {z : V} (v : Value) (hz : z = V.ofValue v) (hn : ∀ vs, v ≠ .tuple vs) (h : z.cells.all V.isCell = true) : ∀ u ∈ v.cells.toList, u.oneCell' = true := by
  subst hz
  have hr := rep_ofValue_cells (E := ⟨fun _ => none, fun _ => 0, fun _ => 0, fun _ => False, fun _ => False⟩) (w := default) v hn
  intro u hu
  obtain ⟨i, hi⟩ := List.getElem?_of_mem hu
  have hlt : i < (V.ofValue v).cells.length := by rw [← hr.1]; exact (List.getElem?_eq_some_iff.1 hi).1
  exact isCell_one (hr.2 i u _ hi (List.getElem?_eq_getElem hlt)) (List.all_eq_true.1 h _ (List.getElem_mem hlt))

theorem allocV_all {t : TypeId} {v : V} (h : allocV P nid t v = some r) : v.cells.all V.isCell = true := by
  unfold allocV at h
  cases hs : v.cells.all V.isCell with
  | true => rfl
  | false => simp [hs] at h

theorem post_alloc (hH : HeapAt E w H) (hf : ¬ E.live nid) {t : TypeId} (ho : o.op = .alloc t) {z : V} (hz : zeroV P t = some z) (h : allocV P nid t z = some r) :
    ∃ E' w' v', (execOp ρ o).run P w = .ok (.value v') w' ∧ Post E w H nid r E' w' v' := by
  obtain ⟨i, v, hi, hz', hzv, hnt⟩ := zero_rep hz
  obtain ⟨E', hp⟩ := alloc_post hH hf (C := v.cells) (by rw [hzv]; exact rep_ofValue_cells v hnt) (zero_one v hzv hnt (allocV_all h)) h
  refine ⟨E', _, _, ?_, hp⟩
  simp [execOp, ho, Instr.alloc, run_zeroValue' hi hz', newVar, newRow]

theorem post_box (hH : HeapAt E w H) (hf : ¬ E.live nid) {t : TypeId} {x : Operand} (ho : o.op = .box t x) {vx : V} (hx : RepV E w (ρ x) vx) (h : allocV P nid t vx = some r) :
    ∃ E' w' v', (execOp ρ o).run P w = .ok (.value v') w' ∧ Post E w H nid r E' w' v' := by
  obtain ⟨h1, h2⟩ := rep_cells hx (allocV_all h)
  obtain ⟨E', hp⟩ := alloc_post hH hf h1 h2 h
  refine ⟨E', _, _, ?_, hp⟩
  simp [execOp, ho, Instr.box, newVar, newRow]

theorem splice_setL {α : Type} (cs xs : List α) (off : Nat) (h : off + xs.length ≤ cs.length) : cs.take off ++ xs ++ cs.drop (off + xs.length) = setL cs off xs := by
  apply List.ext_getElem?
  intro q
  rw [setL_get]
  by_cases h1 : q < off
  · rw [if_neg (by omega), List.append_assoc, List.getElem?_append_left (by simp; omega), List.getElem?_take, if_pos h1]
  · by_cases h2 : q < off + xs.length
    · rw [if_pos ⟨by omega, h2, by omega⟩, List.append_assoc, List.getElem?_append_right (by simp; omega), List.getElem?_append_left (by simp; omega)]
      simp [Nat.min_eq_left (show off ≤ cs.length by omega)]
    · rw [if_neg (by omega), List.getElem?_append_right (by simp; omega), List.getElem?_drop]
      congr 1
      simp
      omega

theorem post_store (hH : HeapAt E w H) (hf : ¬ E.live nid) {t : TypeId} {a x : Operand} (ho : o.op = .store t a x) {va vx : V} (ha : RepV E w (ρ a) va) (hx : RepV E w (ρ x) vx) (h : storeV P H t va vx = some r) :
    ∃ E' w', (execOp ρ o).run P w = .ok .skip w' ∧ Post E w H nid r E' w' undef := by
  unfold storeV at h
  cases hs : (Nat.beq vx.cells.length (sz P t) && vx.cells.all V.isCell && known P t) with
  | false => simp [hs] at h
  | true =>
    simp only [hs, cond_true] at h
    simp only [Bool.and_eq_true, Nat.beq_eq] at hs
    obtain ⟨hs, hkn⟩ := hs
    have hpos := known_some hkn
    obtain ⟨r1, r2⟩ := rep_cells hx hs.2
    have hsz : (ρ x).cells.size = sz P t := by rw [← hs.1, ← r1.1]; simp
    split at h
    · next o' k i j =>
      generalize hv : ρ a = v at ha
      cases ha with
      | ptr _ _ _ _ b hn hb hi =>
        -- what a store into block b does
        have store : ∀ (C : Array Value) (te : TypeId), w.heap[b]? = some (.cells C te (0, 0)) → i * k + j + sz P t ≤ C.size → (∃ d, P.underlying t = some d) →
            ∃ C' : Array Value, (execOp ρ o).run P w = .ok .skip (w.setRow b C') ∧ C'.toList = setL C.toList (i * k + j) (ρ x).cells.toList := by
          intro C te hh hle ⟨d, hd⟩
          have hst := run_storeCells_at P b (i * k + j) te (ρ x).cells.toList 0 C w hh (by simp [hsz]; omega) r2
          rw [Nat.add_zero] at hst
          refine ⟨(C.toList.take (i * k + j) ++ (ρ x).cells.toList ++ C.toList.drop (i * k + j + (ρ x).cells.toList.length)).toArray, ?_, ?_⟩
          · simp only [execOp, ho, hv, Instr.storeAt, Instr.sureAddr, Sem.run_bind, Sem.run_pure, Result.andThen_ok, storeVar, run_sizeOf' hd]
            rw [if_neg (by rw [hsz]; simp)]
            rw [hst]
            rfl
          · rw [splice_setL _ _ _ (by simp [hsz]; omega)]
        -- the new world, with what stays
        have stays : ∀ (C C' : Array Value) (te : TypeId), w.heap[b]? = some (.cells C te (0, 0)) → Step E w [] (E.next nid none 0 0 E.ok) (w.setRow b C') ∧
            (∀ ob, (∀ (E' : Env), E'.ok = E.ok → E'.conc o' = some b → E'.cap o' = E.cap o' → E'.len o' = E.len o' → (∀ v d, RepV E w v d → RepV E' (w.setRow b C') v d) → (∀ v d, RepD E.ok w v d → RepD E'.ok (w.setRow b C') v d) → ObAt E' (w.setRow b C') o' ob) →
              HeapAt (E.next nid none 0 0 E.ok) (w.setRow b C') ([(o', some ob)] ++ H)) := by
          intro C C' te hh
          have hS : Step E w [] (E.next nid none 0 0 E.ok) (w.setRow b C') := by
            refine ⟨rfl, rfl, rfl, by simp, fun _ h => .inr h, fun b' hlt hno => setRow_other w b b' C' (fun e => hno o' hn (by rw [hb, e])), fun _ h => h, fun _ h => .inl h, fun q hq _ => conc_next hf hq, fun q b' hq h' => ?_⟩
            rcases next_case hq h' with ⟨_, h1, h2⟩ | ⟨_, h2⟩
            · exact .inl ⟨_, h1, h2⟩
            · cases h2
          have hr : ∀ v d, RepV E w v d → RepV (E.next nid none 0 0 E.ok) (w.setRow b C') v d := fun v d h => rep_next hH hS h
          have hd : ∀ v d, RepD E.ok w v d → RepD (E.next nid none 0 0 E.ok).ok (w.setRow b C') v d := fun v d h => repD_next hH hS h
          refine ⟨hS, fun ob hob => ?_⟩
          have hcase : ∀ q b, (E.next nid none 0 0 E.ok).live q → (E.next nid none 0 0 E.ok).conc q = some b → E.live q ∧ E.conc q = some b := by
            intro q b hq h
            rcases next_case hq h with ⟨_, h1, h2⟩ | ⟨_, h2⟩
            · exact ⟨h1, h2⟩
            · cases h2
          refine ⟨fun q x hq => ?_, fun q q' b hq hq' h h' => ?_, fun q b hq h => ?_, fun q b' hq h => ?_, fun b' h => by simp; exact hH.oklt b' h⟩
          · rw [List.cons_append, List.nil_append, Heap.get_cons] at hq
            split at hq
            · next e =>
              subst e; cases hq
              obtain ⟨c1, c2, c3⟩ := conc_next (c := none) (cap := 0) (len := 0) (ok' := E.ok) hf hn
              exact ⟨.inr hn, hob _ rfl (c1.trans hb) c2 c3 hr hd⟩
            · next hne =>
              obtain ⟨h1, h2⟩ := hH.at_ q x hq
              refine ⟨.inr h1, obAt_mono h2 (conc_next hf h1) (fun b' hb' => setRow_other w b b' C' fun e => ?_) hr hd⟩
              subst e
              exact hne (hH.inj _ _ _ hn h1 hb hb')
          · obtain ⟨a1, a2⟩ := hcase q b hq h
            obtain ⟨b1, b2⟩ := hcase q' b hq' h'
            exact hH.inj q q' b a1 b1 a2 b2
          · obtain ⟨a1, a2⟩ := hcase q b hq h
            exact hH.sep q b a1 a2
          · obtain ⟨a1, a2⟩ := hcase q b' hq h
            simp; exact hH.lt q b' a1 a2
        split at h
        · next cs hg =>
          cases hs2 : (Nat.beq cs.length k && Nat.ble (j + sz P t) k) with
          | false => simp [hs2] at h
          | true =>
            simp only [hs2, cond_true] at h
            simp only [Bool.and_eq_true, Nat.beq_eq, Nat.ble_eq] at hs2
            cases h
            obtain ⟨_, hlen, b', C, te, h1, h2, h3⟩ := hH.at_ _ _ hg
            rw [h1] at hb; cases hb
            have hi0 : i = 0 := by omega
            subst hi0
            have hCs : C.size = k := by rw [← hs2.1, ← h3.1]; simp
            obtain ⟨C', e1, e2⟩ := store C te h2 (by omega) hpos
            obtain ⟨hS, hN⟩ := stays C C' te h2
            refine ⟨_, _, e1, hS, hN _ fun E' hok hco hca hle hr hd => ⟨hle.trans hlen, b, C', te, hco, setRow_heap w b C C' te _ h2, ?_⟩, .unk _, next_live⟩
            rw [e2, Nat.zero_mul, Nat.zero_add]
            exact (h3.setL r1 j).mono hr
        · next e k' n el hg =>
          split at h
          · next ds hds =>
            cases hs2 : (Nat.beq k' k && Nat.ble (j + sz P t) k) with
            | false => simp [hs2] at h
            | true =>
              simp only [hs2, cond_true] at h
              simp only [Bool.and_eq_true, Nat.beq_eq, Nat.ble_eq] at hs2
              cases h
              obtain ⟨rfl, hle⟩ := hs2
              obtain ⟨C, h2, h3, h4, h6, h7, h8⟩ := row_cell hH hg hb
              obtain ⟨_, hlen, hob⟩ := hH.at_ _ _ hg
              have hcm : E.cap o' ≤ maxLen := by
                rcases hob with ⟨q1, _⟩ | ⟨_, _, _, _, _, _, q6, _⟩
                · rw [q1] at hb; cases hb
                · exact q6
              have him : i < n := by omega
              have hik : (i + 1) * k' ≤ E.cap o' * k' := Nat.mul_le_mul_right _ (by omega)
              rw [Nat.add_mul, Nat.one_mul] at hik
              obtain ⟨C', e1, e2⟩ := store C e h2 (by omega) hpos
              obtain ⟨hS, hN⟩ := stays C C' e h2
              have hdl := (mapM_toD hds).1
              have hxs : (ρ x).cells.toList.length = sz P t := by simpa using hsz
              have hCl : C'.size = C.size := by
                have := congrArg List.length e2
                rw [setL_length] at this
                simpa using this
              have hget : ∀ q, C'[q]? = if i * k' + j ≤ q ∧ q < i * k' + j + sz P t ∧ q < C.size then (ρ x).cells.toList[q - (i * k' + j)]? else C[q]? := by
                intro q
                rw [← Array.getElem?_toList, e2, setL_get, hxs]
                simp
              refine ⟨_, _, e1, hS, hN _ fun E' hok hco hca hle' hr hd => ⟨hle'.trans hlen, .inr ⟨b, C', hco, setRow_heap w b C C' e _ h2, by rw [hca, hCl]; exact h3, by rw [hca]; exact h4, by rw [hca]; exact hcm, ?_, ?_, ?_⟩⟩, .unk _, next_live⟩
              · intro q hq
                cases hqi : Nat.beq q i with
                | true => simp only [hqi, cond_true]; rw [setL_length]; exact h6 i him
                | false => simp only [hqi, cond_false]; exact h6 q hq
              · intro q j' u hq hj hu
                rw [hget] at hu
                split at hu
                · exact r2 u (List.mem_of_getElem? hu)
                · exact h7 q j' u hq hj hu
              · intro q j' d u hq hd' hu
                rw [hget] at hu
                cases hqi : Nat.beq q i with
                | true =>
                  simp only [hqi, cond_true] at hd'
                  have hqi' : q = i := Nat.eq_of_beq_eq_true hqi
                  subst hqi'
                  rw [setL_get, h6 q hq, hdl, hs.1] at hd'
                  have hj' : j' < k' := by
                    split at hd'
                    · next hc => omega
                    · have := (List.getElem?_eq_some_iff.1 hd').1; rw [h6 q hq] at this; exact this
                  split at hd'
                  · next hc =>
                    rw [if_pos (by omega)] at hu
                    rw [show q * k' + j' - (q * k' + j) = j' - j by omega] at hu
                    exact hd _ _ (repD_of_mapM hds r1 hd' hu)
                  · next hc =>
                    rw [if_neg (by omega)] at hu
                    exact hd _ _ (h8 q j' d u hq hd' hu)
                | false =>
                  simp only [hqi, cond_false] at hd'
                  have hqi' : q ≠ i := fun e => by subst e; simp at hqi
                  have hj' : j' < k' := by have := (List.getElem?_eq_some_iff.1 hd').1; rw [h6 q hq] at this; exact this
                  have hne : ¬ (i * k' + j ≤ q * k' + j' ∧ q * k' + j' < i * k' + j + sz P t ∧ q * k' + j' < C.size) := by
                    rcases Nat.lt_or_gt_of_ne hqi' with hlt | hgt
                    · have : (q + 1) * k' ≤ i * k' := Nat.mul_le_mul_right _ hlt
                      rw [Nat.add_mul, Nat.one_mul] at this
                      omega
                    · have : (i + 1) * k' ≤ q * k' := Nat.mul_le_mul_right _ hgt
                      rw [Nat.add_mul, Nat.one_mul] at this
                      omega
                  rw [if_neg hne] at hu
                  exact hd _ _ (h8 q j' d u hq hd' hu)
          · cases h
        · cases h
        · cases h
    · cases h
end
end Go.Ax
