import Derived.Test.YtepnedfnpbakeaaA1
import Derived.Laws.BytesString
import Derived.Laws.RangeString
set_option linter.all false
/- Walks over strings, bytes as strings, parts that are cleared. -/
namespace Go.Ax
open Go.RowKit

section
variable {P : Program} {ρ : Operand → Value} {E : Env} {w w' : World} {o : Oper} {r : Res} {H : Heap} {nid : Nat}

def env00 (ok : Nat → Prop) : Env := ⟨fun _ => none, fun _ => 0, fun _ => 0, fun _ => False, ok⟩
/-- A new object of any kind. -/
theorem new_raw (hH : HeapAt E w H) (hf : ¬ E.live nid) (x : Obj) (he : r.eff = [(nid, some (.raw x))]) (hk : r.kill = []) {v' : Value}
    (hv : ∀ (E' : Env) (w' : World), E'.live nid → E'.conc nid = some w.heap.size → E'.len nid = 1 → RepV E' w' v' r.val) :
    Post E w H nid r (E.next nid (some w.heap.size) 0 1 E.ok) (w.alloc x) v' := by
  have hb : Below w.heap.size w (w.alloc x) := (Below.refl _ _).alloc (Nat.le_refl _) _
  have hcc : ∀ b, some w.heap.size = some b → w.heap.size ≤ b ∧ b < (w.alloc x).heap.size ∧ ¬ E.ok b := by
    intro b e; cases e
    exact ⟨Nat.le_refl _, by simp, fun h => by have := hH.oklt _ h; omega⟩
  have hS : Step E w [] (E.next nid (some w.heap.size) 0 1 E.ok) (w.alloc x) := next_step hf _ 0 1 E.ok hb (fun b h => (hcc b h).1) (fun _ h => h) (fun _ h => .inl h)
  have hN := next_heap (cap := 0) (len := 1) hf hH hb hcc (fun _ h => h) (fun _ h => .inl h) (fun b h => by have := hH.oklt b h; simp; omega)
  have e1 : (E.next nid (some w.heap.size) 0 1 E.ok).conc nid = some w.heap.size := by simp [Env.next]
  have e3 : (E.next nid (some w.heap.size) 0 1 E.ok).len nid = 1 := by simp [Env.next]
  refine ⟨by rw [hk]; exact hS, ?_, hv _ _ (.inl rfl) e1 e3, next_live⟩
  rw [he, hk]
  exact heap_cons hN (.inl rfl) ⟨e3, _, e1, heap_alloc_new w _⟩

def setB (w : World) (b : Nat) (x : Obj) : World := { w with heap := w.heap.setIfInBounds b x }
theorem setB_heap {w : World} {b : Nat} (x : Obj) (h : b < w.heap.size) : (setB w b x).heap[b]? = some x := by
  simp [setB, h]
theorem setB_other {w : World} {b b' : Nat} (x : Obj) (h : b ≠ b') : (setB w b x).heap[b']? = w.heap[b']? := by
  simp [setB, Array.getElem?_setIfInBounds, h]

/-- A block of an own object is written anew. -/
theorem set_post (hH : HeapAt E w H) (hf : ¬ E.live nid) {q b : Nat} (hq : E.live q) (hb : E.conc q = some b) (x : Obj) {ob : Ob} (he : r.eff = [(q, some ob)]) (hk : r.kill = [])
    (hob : ∀ (E' : Env), E'.conc q = some b → E'.cap q = E.cap q → E'.len q = E.len q → (∀ v d, RepV E w v d → RepV E' (setB w b x) v d) → (∀ v d, RepD E.ok w v d → RepD E'.ok (setB w b x) v d) → ObAt E' (setB w b x) q ob)
    {v' : Value} (hv : ∀ (E' : Env) (w' : World), RepV E' w' v' r.val) : Post E w H nid r (E.next nid none 0 0 E.ok) (setB w b x) v' := by
  have hS : Step E w [] (E.next nid none 0 0 E.ok) (setB w b x) := by
    refine ⟨rfl, rfl, rfl, by simp [setB], fun _ h => .inr h, fun b' hlt hno => setB_other x (fun e => hno q hq (by rw [hb, e])), fun _ h => h, fun _ h => .inl h, fun q hq _ => conc_next hf hq, fun q b' hq h' => ?_⟩
    rcases next_case hq h' with ⟨_, h1, h2⟩ | ⟨_, h2⟩
    · exact .inl ⟨_, h1, h2⟩
    · cases h2
  have hr : ∀ v d, RepV E w v d → RepV (E.next nid none 0 0 E.ok) (setB w b x) v d := fun v d h => rep_next hH hS h
  have hd : ∀ v d, RepD E.ok w v d → RepD (E.next nid none 0 0 E.ok).ok (setB w b x) v d := fun v d h => repD_next hH hS h
  have hcase : ∀ q b, (E.next nid none 0 0 E.ok).live q → (E.next nid none 0 0 E.ok).conc q = some b → E.live q ∧ E.conc q = some b := by
    intro q b hq h
    rcases next_case hq h with ⟨_, h1, h2⟩ | ⟨_, h2⟩
    · exact ⟨h1, h2⟩
    · cases h2
  refine ⟨by rw [hk]; exact hS, ?_, hv _ _, next_live⟩
  rw [he, hk]
  refine ⟨fun q' y hq' => ?_, fun q' q2 b' h1 h2 h h' => ?_, fun q' b' h1 h => ?_, fun q' b' h1 h => ?_, fun b' h => by simp [setB]; exact hH.oklt b' h⟩
  · rw [List.cons_append, List.nil_append, Heap.get_cons] at hq'
    split at hq'
    · next e =>
      subst e; cases hq'
      obtain ⟨c1, c2, c3⟩ := conc_next (c := none) (cap := 0) (len := 0) (ok' := E.ok) hf hq
      exact ⟨.inr hq, hob _ (c1.trans hb) c2 c3 hr hd⟩
    · next hne =>
      obtain ⟨h1, h2⟩ := hH.at_ q' y hq'
      refine ⟨.inr h1, obAt_mono h2 (conc_next hf h1) (fun b' hb' => setB_other x fun e => ?_) hr hd⟩
      subst e
      exact hne (hH.inj _ _ _ hq h1 hb hb')
  · obtain ⟨a1, a2⟩ := hcase q' b' h1 h
    obtain ⟨b1, b2⟩ := hcase q2 b' h2 h'
    exact hH.inj q' q2 b' a1 b1 a2 b2
  · obtain ⟨a1, a2⟩ := hcase q' b' h1 h
    exact hH.sep q' b' a1 a2
  · obtain ⟨a1, a2⟩ := hcase q' b' h1 h
    simp [setB]; exact hH.lt q' b' a1 a2

theorem post_range (hH : HeapAt E w H) (hf : ¬ E.live nid) {t : TypeId} {x : Operand} (ho : o.op = .range t x) {vx : V} (hx : RepV E w (ρ x) vx) (h : rangeV P nid t vx = some r) :
    ∃ E' w' v', (execOp ρ o).run P w = .ok (.value v') w' ∧ Post E w H nid r E' w' v' := by
  unfold rangeV at h
  split at h
  · next s hu =>
    cases h
    have ex := hx.lit_inv
    refine ⟨_, w.alloc (.stringIter s 0), .pointer (some ⟨w.heap.size, 0, none⟩), ?_, new_raw hH hf (.stringIter s 0) rfl rfl fun E' w' h1 h2 h3 => ?_⟩
    · have := run_range_string (P := P) w t s hu
      simp only [execOp, ho, ex, Sem.run_bind, this, Result.andThen_ok]
      rfl
    · have := RepV.ptr (E := E') (w := w') nid 1 0 0 w.heap.size h1 h2 (by omega)
      simpa using this
  · cases h

theorem post_next (hH : HeapAt E w H) (hf : ¬ E.live nid) {x : Operand} (ho : o.op = .next x true) {vx : V} (hx : RepV E w (ρ x) vx) (h : nextV H vx = some r) :
    ∃ E' w' v', (execOp ρ o).run P w = .ok (.value v') w' ∧ Post E w H nid r E' w' v' := by
  unfold nextV at h
  split at h
  · next q k i j =>
    split at h
    · next s pos hg =>
      cases hb0 : Nat.beq (i * k + j) 0 with
      | false => simp [hb0] at h
      | true =>
        simp only [hb0, cond_true, Option.some.injEq] at h
        have h0 := Nat.eq_of_beq_eq_true hb0
        obtain ⟨hl, hlen, b, hb, hh⟩ := hH.at_ _ _ hg
        have ex : ρ x = .pointer (some ⟨b, 0, none⟩) := by
          generalize ρ x = v at hx
          cases hx with
          | ptr _ _ _ _ b' g1 g2 g3 => rw [hb] at g2; cases g2; rw [h0]
        subst h
        have hlt := heap_lt hh
        refine ⟨_, setB w b (.stringIter s (bif Nat.blt pos s.size then pos + runeW s pos else pos)), optVal (Nat.blt pos s.size) [.int .i64 pos, .int .i32 (runeAt s pos)], ?_,
          set_post hH hf hl hb _ (ob := .raw (.stringIter s (bif Nat.blt pos s.size then pos + runeW s pos else pos))) rfl rfl (fun E' h1 h2 h3 _ _ => ⟨h3.trans hlen, b, h1, setB_heap _ hlt⟩) fun E' w' => .c _ _ (.opt _ _)⟩
        by_cases hp : pos < s.size
        · have hp' : Nat.blt pos s.size = true := by simpa using hp
          have : (Instr.next (.pointer (some ⟨b, 0, none⟩)) true o.type).run P w = .ok (.tuple #[.bool true, .int .i64 pos, .int .i32 (runeAt s pos)]) (setB w b (.stringIter s (pos + runeW s pos))) := by
            simp [Instr.next, getObj, setObj, Sem.run, hh, hp, goInt, runeAt, runeW, setB]
          rw [hp']
          simp only [execOp, ho, ex, Sem.run_bind, this, Result.andThen_ok]
          rfl
        · have hp' : Nat.blt pos s.size = false := by
            cases hc : Nat.blt pos s.size with
            | false => rfl
            | true => rw [Nat.blt_eq] at hc; exact (hp hc).elim
          have hw : setB w b (.stringIter s pos) = w := by
            unfold setB
            congr 1
            apply Array.ext_getElem?
            intro i
            by_cases e : b = i
            · subst e; rw [Array.getElem?_setIfInBounds, if_pos rfl, if_pos hlt, hh]
            · rw [Array.getElem?_setIfInBounds, if_neg e]
          have : (Instr.next (.pointer (some ⟨b, 0, none⟩)) true o.type).run P w = .ok (.tuple #[.bool false]) w := by
            simp [Instr.next, getObj, Sem.run, hh, hp]
          rw [hp']
          simp only [execOp, ho, ex, Sem.run_bind, this, Result.andThen_ok, cond_false, hw]
          rfl
    · cases h
  · cases h

theorem foldl_bytes : ∀ (ns : List Int) (s : ByteArray), ns.foldl (fun r n => r.push (UInt8.ofNat n.toNat)) s = ⟨s.data ++ (ns.map fun x => UInt8.ofNat x.toNat).toArray⟩
  | [], s => by simp
  | n :: ns, s => by
    rw [List.foldl_cons, foldl_bytes ns]
    congr 1
    simp [ByteArray.push]

theorem quiet_bytes (hH : HeapAt E w H) {s d e : TypeId} (hs : P.underlying s = some (.slice e)) (hd : P.underlying d = some .string) (he : P.underlying e = some (.int .u8)) {x : Operand} (ho : o.op = .convert s d x) {vx : V} (hx : RepV E w (ρ x) vx)
    (h : bytesV H vx = some r) (hp : ∀ p ∈ r.pre, p) : QRes P ρ o E w r := by
  unfold bytesV at h
  split at h
  · next k n el ha =>
    cases h
    have p1 : 0 < n → k = 1 := hp _ (by simp)
    have p2 : ∀ i, i < n → el i = eU8 (dU8 (el i)) := hp _ (by simp)
    obtain ⟨news, hsrc⟩ := src_of hH hx ha
    obtain ⟨a, c, ev, hc, hm, hcell⟩ := hsrc.form
    refine ⟨rfl, rfl, _, ?_, .lit _⟩
    have key : (Conv.bytesToString (ρ x)).run P w = .ok (.string (bytesL (lst dU8 n el))) w := by
      rw [ev]
      cases n with
      | zero =>
        have hl : lst dU8 0 el = [] := rfl
        rw [hl]
        cases a with
        | none => rfl
        | some ad =>
          have := run_bytesToString (P := P) w ad 0 c [] (by have := run_loadCells (P := P) w ad 0 (fun _ => undef) (fun j hj => by omega); simpa using this)
          rw [this]; rfl
      | succ n =>
        obtain ⟨ad, rfl, hcl⟩ := hcell (by omega)
        have hk := p1 (by omega)
        subst hk
        have hlen := hsrc.len
        have hnews : news = (lst dU8 (n + 1) el).map (Value.int .u8) := by
          refine List.ext_getElem? fun i => ?_
          by_cases hi : i < n + 1
          · have h1 : i < news.length := by rw [hlen]; omega
            have hr := hsrc.rep i 0 (.lit (.int .u8 (dU8 (el i)))) (news[i]) hi (by rw [p2 i hi]; rfl) (by rw [Nat.mul_one, Nat.add_zero]; exact List.getElem?_eq_getElem h1)
            rw [List.getElem?_eq_getElem h1, List.getElem?_map]
            unfold lst
            rw [List.getElem?_map, List.getElem?_range hi]
            simp only [Option.map_some, Option.some.injEq]
            generalize news[i] = z at hr
            generalize dU8 (el i) = y at hr
            cases hr with
            | lit => rfl
          · rw [List.getElem?_eq_none (by rw [hlen]; omega), List.getElem?_eq_none (by simp [lst]; omega)]
        have hload : (loadCells ad (n + 1)).run P w = .ok ((lst dU8 (n + 1) el).map (Value.int .u8)).toArray w := by
          have := run_loadCells_list (P := P) w ad news (fun j v hv => hcl j v hv)
          rw [hlen, Nat.mul_one] at this
          rw [this, hnews]
        rw [run_bytesToString w ad (n + 1) c _ hload, foldl_bytes]
        simp [bytesL]
    rw [ev] at key
    simp [execOp, ho, ev, convert, run_underlying hs, run_underlying hd, run_underlying he, key]
  · cases h

theorem zeroD_cells {e : TypeId} {z : List D} (h : zeroD P e = some z) : ∃ (i : TypeInfo) (v : Value), P.info? e = some i ∧ i.zero = some v ∧ v.cells.size = z.length ∧ (∀ u ∈ v.cells.toList, u.oneCell' = true) ∧
    ∀ (ok : Nat → Prop) (w : World) (j : Nat) (d : D) (u : Value), z[j]? = some d → v.cells[j]? = some u → RepD ok w u d := by
  have h0 := h
  unfold zeroD at h0
  split at h0
  · next zv hzv =>
    obtain ⟨i, v, h1, h2, h3, h4⟩ := zero_rep hzv
    obtain ⟨i', v', g1, g2, g3, g4, g5⟩ := zeroD_rep h
    rw [h1] at g1; cases g1
    rw [h2] at g2; cases g2
    refine ⟨i, v, h1, h2, g3, zero_one v h3 h4 (mapM_cell h0), fun ok w j d u hd hu => ?_⟩
    have := (rep_ofValue_cells (E := env00 ok) (w := w) v h4).2 j u (.c d) (by rw [Array.getElem?_toList]; exact hu) (g4 j d hd)
    cases this with
    | c _ _ h => exact h
  · cases h0

theorem post_clear (hH : HeapAt E w H) (hf : ¬ E.live nid) {c : Call} (ho : o.op = .call c) (hcal : c.callee = .builtin .clear) {x : Operand} (hargs : c.args = #[x]) {t : TypeId} (hat : c.argTypes[0]? = some t) {vx : V} (hx : RepV E w (ρ x) vx)
    (h : clearV P H t vx = some r) : ∃ E' w' v', (execOp ρ o).run P w = .ok (.value v') w' ∧ Post E w H nid r E' w' v' := by
  have run : ∀ w', (Builtin.clear_ c.argTypes o.type #[ρ x]).run P w = .ok (.tuple #[]) w' → (execOp ρ o).run P w = .ok (.value (.tuple #[])) w' := by
    intro w' hn
    simp [execOp, ho, resolve, hcal, hargs, invoke, builtin, hn]
  unfold clearV at h
  split at h
  · next e q k off n hu =>
    split at h
    · next e' k' m el z hg hz =>
      cases hs : (Nat.beq e' e && Nat.beq k' k && Nat.beq k (sz P e) && Nat.beq z.length k && Nat.blt 0 k && known P e) with
      | false => simp [hs] at h
      | true =>
        simp only [hs, cond_true, Option.some.injEq] at h
        simp only [Bool.and_eq_true, Nat.beq_eq, Nat.blt_eq] at hs
        obtain ⟨⟨⟨⟨⟨rfl, rfl⟩, hk1⟩, hk2⟩, hk0⟩, hkn⟩ := hs
        obtain ⟨hl, hob⟩ := hH.at_ _ _ hg
        obtain ⟨i, zv, z1, z2, z3, z4, z5⟩ := zeroD_cells hz
        subst h
        generalize hv : ρ x = v at hx run
        cases hx with
        | row _ _ _ _ a cp hn hc hm hle ha h0 =>
        have hlen : off + n ≤ m := by rw [← hob.1]; exact hle
        by_cases hn0 : n = 0
        · subst hn0
          have hel : (fun q => bif Nat.ble off q && Nat.blt q (off + 0) then z else el q) = el := by
            funext q
            have : (Nat.ble off q && Nat.blt q (off + 0)) = false := by
              cases hc : (Nat.ble off q && Nat.blt q (off + 0)) with
              | false => rfl
              | true => rw [Bool.and_eq_true, Nat.ble_eq, Nat.blt_eq] at hc; omega
            rw [this]; rfl
          rw [hel]
          have hS : Step E w [] (E.next nid none 0 0 E.ok) w := next_step hf none 0 0 E.ok (.refl _ _) (by simp) (fun _ h => h) (fun _ h => .inl h)
          have hN : HeapAt (E.next nid none 0 0 E.ok) w H := next_heap hf hH (.refl _ _) (by simp) (fun _ h => h) (fun _ h => .inl h) hH.oklt
          refine ⟨_, w, .tuple #[], run w ?_, hS, ?_, .c _ _ (.unk _), next_live⟩
          · cases a <;> simp [Builtin.clear_, hat, run_underlying hu]
          · exact heap_cons hN (hN.at_ _ _ hg).1 (hN.at_ _ _ hg).2
        · obtain ⟨b, hb, rfl⟩ := ha (by omega)
          obtain ⟨hlen2, hrow⟩ := hob
          obtain ⟨b', C, c1, c2, c3, c4, c5, c6, c7, c8⟩ := hrow.resolve_left (fun h => by rw [hb] at h; cases h.1)
          rw [hb] at c1; cases c1
          have hfit : off * k' + n * k' ≤ C.size := by
            rw [c3, ← Nat.add_mul]
            exact Nat.mul_le_mul_right _ (by omega)
          have hzl : (Builtin.zeroCells zv.cells n).toList.length = n * k' := by simp [Builtin.zeroCells, z3, hk2]
          have hzu : ∀ q u, (Builtin.zeroCells zv.cells n).toList[q]? = some u → q < n * k' ∧ zv.cells[q % k']? = some u := by
            intro q u hq
            have hlt := (List.getElem?_eq_some_iff.1 hq).1
            rw [hzl] at hlt
            refine ⟨hlt, ?_⟩
            have hm : q % k' < zv.cells.size := by rw [z3, hk2]; exact Nat.mod_lt _ hk0
            rw [Array.getElem?_toList] at hq
            unfold Builtin.zeroCells at hq
            rw [Array.getElem?_map, z3, hk2, Array.getElem?_range, if_pos hlt] at hq
            simp only [Option.map_some, Option.some.injEq] at hq
            rw [getElem!_pos zv.cells _ hm] at hq
            rw [Array.getElem?_eq_getElem hm, hq]
          have hone : ∀ u ∈ (Builtin.zeroCells zv.cells n).toList, u.oneCell' = true := by
            intro u hu'
            obtain ⟨q, hq⟩ := List.getElem?_of_mem hu'
            obtain ⟨_, h2⟩ := hzu q u hq
            exact z4 u (List.mem_of_getElem? (by rw [Array.getElem?_toList]; exact h2))
          have hst := run_storeCells_at P b (off * k') e' (Builtin.zeroCells zv.cells n).toList 0 C w c2 (by rw [hzl]; exact hfit) hone
          rw [Nat.add_zero] at hst
          rw [hzl] at hst
          generalize hC' : (C.toList.take (off * k') ++ (Builtin.zeroCells zv.cells n).toList ++ C.toList.drop (off * k' + n * k')).toArray = C' at hst
          have hrow' : w.setRow b C' = setB w b (.cells C' e' (0, 0)) := by
            have hlt := heap_lt c2
            have h1 := setRow_heap w b C C' e' (0, 0) c2
            unfold World.setRow setB
            unfold World.setRow at h1
            congr 1
            apply Array.ext_getElem?
            intro j
            by_cases e : b = j
            · subst e
              rw [Array.getElem?_setIfInBounds, if_pos rfl, if_pos hlt]
              exact h1
            · rw [Array.getElem?_setIfInBounds, if_neg e, Array.getElem?_modify, if_neg e]
          have hget : ∀ q, C'[q]? = if off * k' ≤ q ∧ q < off * k' + n * k' then (Builtin.zeroCells zv.cells n).toList[q - off * k']? else C[q]? := by
            intro q
            rw [← hC', List.getElem?_toArray]
            have ht : (C.toList.take (off * k')).length = off * k' := by rw [List.length_take, Array.length_toList]; omega
            by_cases h1 : q < off * k'
            · rw [if_neg (by omega), List.append_assoc, List.getElem?_append_left (by omega), List.getElem?_take_of_lt h1, Array.getElem?_toList]
            · by_cases h2 : q < off * k' + n * k'
              · rw [if_pos ⟨by omega, h2⟩, List.append_assoc, List.getElem?_append_right (by omega), ht, List.getElem?_append_left (by omega)]
              · rw [if_neg (by omega), List.getElem?_append_right (by rw [List.length_append]; omega), List.length_append, ht, hzl, List.getElem?_drop, Array.getElem?_toList]
                congr 1; omega
          have hsz : C'.size = C.size := by
            rw [← hC']
            simp [hzl]
            omega
          refine ⟨_, setB w b (.cells C' e' (0, 0)), .tuple #[], run _ ?_, set_post hH hf hl hb _ (ob := .row e' k' m fun q => bif Nat.ble off q && Nat.blt q (off + n) then z else el q) rfl rfl (fun E' h1 h2 h3 hr hd => ⟨h3.trans hlen2, .inr ⟨b, C', h1, setB_heap _ (heap_lt c2), by rw [hsz, h2]; exact c3, by rw [h2]; exact c4, by rw [h2]; exact c5, ?_, ?_, ?_⟩⟩) fun E' w' => .c _ _ (.unk _)⟩
          · obtain ⟨n', rfl⟩ : ∃ n', n = n' + 1 := ⟨n - 1, by omega⟩
            have hzv := run_zeroValue' (P := P) (w := w) z1 z2
            simp [Builtin.clear_, hat, run_underlying hu, hzv, hst, hrow']
          · intro q hq
            simp only
            cases hc : (Nat.ble off q && Nat.blt q (off + n)) with
            | true => exact hk2
            | false => exact c6 q hq
          · intro q j u hq hj hu'
            rw [hget] at hu'
            split at hu'
            · exact hone u (List.mem_of_getElem? hu')
            · exact c7 q j u hq hj hu'
          · intro q j d u hq hd' hu'
            rw [hget] at hu'
            simp only at hd'
            cases hc : (Nat.ble off q && Nat.blt q (off + n)) with
            | true =>
              rw [hc, cond_true] at hd'
              rw [Bool.and_eq_true, Nat.ble_eq, Nat.blt_eq] at hc
              have hj : j < k' := by rw [← hk2]; exact (List.getElem?_eq_some_iff.1 hd').1
              have a1 : off * k' ≤ q * k' := Nat.mul_le_mul_right _ hc.1
              have a2 : (q + 1) * k' ≤ (off + n) * k' := Nat.mul_le_mul_right _ hc.2
              rw [Nat.add_mul, Nat.one_mul, Nat.add_mul] at a2
              rw [if_pos ⟨by omega, by omega⟩] at hu'
              obtain ⟨_, h2⟩ := hzu _ _ hu'
              have : (q * k' + j - off * k') % k' = j := by
                obtain ⟨p, rfl⟩ : ∃ p, q = off + p := ⟨q - off, by omega⟩
                rw [Nat.add_mul, show off * k' + p * k' + j - off * k' = j + p * k' by omega, Nat.add_mul_mod_self_right, Nat.mod_eq_of_lt hj]
              rw [this] at h2
              exact z5 _ _ j d u hd' h2
            | false =>
              rw [hc, cond_false] at hd'
              have hj : j < k' := by rw [← c6 q hq]; exact (List.getElem?_eq_some_iff.1 hd').1
              have hno : ¬ (off * k' ≤ q * k' + j ∧ q * k' + j < off * k' + n * k') := by
                rintro ⟨g1, g2⟩
                have g3 : ¬ (off ≤ q ∧ q < off + n) := by
                  rintro ⟨h1, h2⟩
                  have : (Nat.ble off q && Nat.blt q (off + n)) = true := by rw [Bool.and_eq_true, Nat.ble_eq, Nat.blt_eq]; exact ⟨h1, h2⟩
                  rw [this] at hc; cases hc
                by_cases h1 : off ≤ q
                · have h2 : off + n ≤ q := by omega
                  have := Nat.mul_le_mul_right k' h2
                  rw [Nat.add_mul] at this
                  omega
                · have : (q + 1) * k' ≤ off * k' := Nat.mul_le_mul_right _ (by omega)
                  rw [Nat.add_mul, Nat.one_mul] at this
                  omega
              rw [if_neg hno] at hu'
              exact hd _ _ (c8 q j d u hq hd' hu')
    · cases h
  · cases h
end
end Go.Ax

/- Contracts, calls, and all operations together. -/
namespace Go.Ax
open Go.RowKit

/-- An environment without objects. -/
def env0 (ok : Nat → Prop) : Env := ⟨fun _ => none, fun _ => 0, fun _ => 0, fun _ => False, ok⟩

/-- What a contract says of the value that comes back. -/
def OutAt (ok : Nat → Prop) (w w' : World) (v : Value) : Out → Prop
  | .data d => RepV (env0 fun b => ok b ∨ (w.heap.size ≤ b ∧ b < w'.heap.size)) w' v d
  | .new d => RepV (env0 fun b => w.heap.size ≤ b ∧ b < w'.heap.size) w' v d
  | .own fr t k n el => ∃ xs, w'.ownsRow w.heap.size t k v n xs ∧ (∀ i, i < n → (el i).length = k) ∧ (∀ i j u, i < n → j < k → xs[i * k + j]? = some u → u.oneCell' = true) ∧
      ∀ i j d u, i < n → (el i)[j]? = some d → xs[i * k + j]? = some u → RepD (fun b => (fr = false ∧ ok b) ∨ (w.heap.size ≤ b ∧ b < w'.heap.size ∧ v.ownBlock ≠ some b)) w' u d

/-- A call of the function: it is entered and returns, or it gives its value at once. -/
def Does (P : Program) (f : FuncId) (args : Array Value) (w : World) (R : Value → World → Prop) : Prop :=
  ((callFunc f args).run P w = .ok (.enter f args) w ∧ Calls P f args w fun e w' => ∃ v, e = .returned v ∧ R v w') ∨ ∃ v w', (callFunc f args).run P w = .ok (.value v) w' ∧ R v w'

theorem Does.mono {P : Program} {f : FuncId} {args : Array Value} {w : World} {R R' : Value → World → Prop} (h : Does P f args w R) (hr : ∀ v w', R v w' → R' v w') : Does P f args w R' := by
  rcases h with ⟨h1, h2⟩ | ⟨v, w', h1, h2⟩
  · refine .inl ⟨h1, h2.mono ?_⟩
    rintro e w' ⟨v, rfl, h⟩
    exact ⟨v, rfl, hr v w' h⟩
  · exact .inr ⟨v, w', h1, hr v w' h2⟩

/-- The function meets the contract. -/
def Meets (P : Program) (f : FuncId) (con : Con) : Prop :=
  ∀ (ok : Nat → Prop) (w : World) (xs : List Value) (vs : List V) (p : List Prop) (out : Out), RepL (env0 ok) w xs vs → (∀ b, ok b → b < w.heap.size) → con vs = some (p, out) → (∀ q ∈ p, q) →
    Does P f xs.toArray w fun v w' => Below w.heap.size w w' ∧ OutAt ok w w' v out

/-- The function meets the contract, of whatever kind. -/
def MeetsC (P : Program) (f : FuncId) : CC → Prop
  | .pure c => Meets P f c
  | .mut m => ∀ (E : Env) (w : World) (H : Heap) (nid : Nat) (xs : List Value) (args : List V) (r : Res), HeapAt E w H → ¬ E.live nid → RepL E w xs args → m (restr (reachOf H args) H) nid args = some r → (∀ p ∈ r.pre, p) →
    Does P f xs.toArray w fun v w' => ∃ E', Post E w H nid r E' w' v

section
variable {P : Program} {ρ : Operand → Value} {E : Env} {w w' : World} {o : Oper} {r : Res} {H : Heap} {nid : Nat}

theorem views_length (H : Heap) : ∀ vs : List V, (V.views H vs).length = vs.length
  | [] => rfl
  | _ :: r => by simp [V.views, views_length H r]
theorem views_get (H : Heap) : ∀ (vs : List V) (i : Nat), (V.views H vs)[i]? = (vs[i]?).map (V.view H)
  | [], i => by simp [V.views]
  | v :: r, 0 => by simp [V.views]
  | v :: r, i + 1 => by simp [V.views, views_get H r i]

/-- A source, as data. -/
theorem src_rep {ok' : Nat → Prop} (hok : ∀ b, E.ok b → ok' b) (hown : ∀ q b, E.live q → E.conc q = some b → ok' b) {v : Value} {k n : Nat} {el : Nat → List D} {news : List Value} (h : Src E w v k n el news) : RepD ok' w v (.sl k n el) := by
  obtain ⟨a, c, rfl, hc, hm, hcell⟩ := h.form
  have hlt : ∀ i j, i < n → j < k → i * k + j < news.length := by
    intro i j hi hj
    rw [h.len]
    have : (i + 1) * k ≤ n * k := Nat.mul_le_mul_right _ hi
    rw [Nat.add_mul, Nat.one_mul] at this
    omega
  refine .sl a n c k el (fun i j => news.getD (i * k + j) undef) hc hm (fun hn => ?_) (fun i j hi hj => ?_) h.els (fun i j d hi hd => ?_)
  · obtain ⟨ad, rfl, hq⟩ := hcell hn
    refine ⟨ad, rfl, ?_, fun i j hi hj => hq _ _ ?_⟩
    · rcases h.blk ad n c rfl hn with h | ⟨q, h1, h2⟩
      · exact hok _ h
      · exact hown q _ h1 h2
    · rw [List.getD_eq_getElem?_getD, List.getElem?_eq_getElem (hlt i j hi hj)]; rfl
  · refine h.one _ ?_
    show news.getD (i * k + j) undef ∈ news
    rw [List.getD_eq_getElem?_getD, List.getElem?_eq_getElem (hlt i j hi hj)]
    exact List.getElem_mem _
  · have hj : j < k := by rw [← h.els i hi]; exact (List.getElem?_eq_some_iff.1 hd).1
    refine (h.rep i j d (news.getD (i * k + j) undef) hi hd ?_).mono hok (fun _ _ => rfl)
    rw [List.getD_eq_getElem?_getD, List.getElem?_eq_getElem (hlt i j hi hj)]
    rfl

theorem vrow_rep {ok' : Nat → Prop} (hH : HeapAt E w H) (hok : ∀ b, E.ok b → ok' b) (hown : ∀ q b, E.live q → E.conc q = some b → ok' b) {v : Value} {o' k off n : Nat} (h : RepV E w v (.row o' k off n)) :
    ∃ d, vrow H o' k off n = .c d ∧ RepD ok' w v d := by
  unfold vrow
  split
  · next e k' m el hg =>
    cases hs : Nat.beq k' k with
    | false => exact ⟨.unk, rfl, .unk _⟩
    | true =>
      have hkk : k' = k := Nat.eq_of_beq_eq_true hs
      subst hkk
      have ha : asSl H (.row o' k' off n) = some (k', n, fun i => el (off + i)) := by simp [asSl, hg]
      obtain ⟨news, hsrc⟩ := src_of hH h ha
      exact ⟨_, rfl, src_rep hok hown hsrc⟩
  · exact ⟨.unk, rfl, .unk _⟩

theorem cellD_rep {ok' : Nat → Prop} (hH : HeapAt E w H) (hok : ∀ b, E.ok b → ok' b) (hown : ∀ q b, E.live q → E.conc q = some b → ok' b) {v : Value} {d : V} (h : RepV E w v d) : RepD ok' w v (cellD H d) := by
  unfold cellD
  split
  · cases h with | c _ _ h => exact h.mono hok fun _ _ => rfl
  · next o' k off n =>
    obtain ⟨d, hd, hr⟩ := vrow_rep hH hok hown h
    rw [hd]
    exact hr
  · exact .unk _

/-- A value, seen as data. -/
theorem view_rep {ok' : Nat → Prop} (hH : HeapAt E w H) (hok : ∀ b, E.ok b → ok' b) {v : Value} {d : V} (h : RepV E w v d) :
    ((∀ q b, E.live q → E.conc q = some b → ok' b) ∨ d.refs = []) → RepV (env0 ok') w v (d.view H) := by
  induction h with
  | c v d h =>
    intro _
    have h' : RepD ok' w v d := h.mono hok fun _ _ => rfl
    cases d with
    | nil =>
      cases h
      exact .c _ _ (.sl none 0 0 0 _ (fun _ _ => undef) (Nat.le_refl _) (by simp [maxLen]) (fun h => by omega) (fun i j h => by omega) (fun i h => by omega) (fun i j d h => by omega))
    | unk => exact .c _ _ h'
    | lit u => exact .c _ _ h'
    | opt b us => exact .c _ _ h'
    | any => exact .c _ _ h'
    | sl k n el => exact .c _ _ h'
  | agg vs ds hl h ih =>
    intro hd
    rw [V.view]
    refine .agg _ _ (by rw [views_length, hl]) fun i v d hv hd' => ?_
    rw [views_get] at hd'
    cases hx : ds[i]? with
    | none => rw [hx] at hd'; cases hd'
    | some x =>
      rw [hx] at hd'; cases hd'
      exact ih i v x hv hx (hd.imp id fun hr => refs_nil hr hx)
  | tup vs ds hl h ih =>
    intro hd
    rw [V.view]
    refine .tup _ _ (by rw [views_length, hl]) fun i v d hv hd' => ?_
    rw [views_get] at hd'
    cases hx : ds[i]? with
    | none => rw [hx] at hd'; cases hd'
    | some x =>
      rw [hx] at hd'; cases hd'
      exact ih i v x hv hx (hd.imp id fun hr => refs_nil hr hx)
  | ptr o' k i j b hn hb hi =>
    intro hd
    have hown : ∀ q b, E.live q → E.conc q = some b → ok' b := hd.resolve_right (by simp [V.refs])
    rw [V.view]
    unfold vptr
    split
    · next e k' m el hg =>
      cases hs : Nat.beq k' k with
      | false => exact .unk _
      | true =>
        have hkk : k' = k := Nat.eq_of_beq_eq_true hs
        subst hkk
        simp only [cond_true]
        obtain ⟨C, h2, h3, h4, h6, h7, h8⟩ := row_cell hH hg hb
        obtain ⟨_, hlen, _⟩ := hH.at_ _ _ hg
        have him : i < m := by omega
        have hik : (i + 1) * k' ≤ E.cap o' * k' := Nat.mul_le_mul_right _ (by omega)
        rw [Nat.add_mul, Nat.one_mul] at hik
        have hq : ∀ q, q < k' → C[i * k' + q]? = some (C.getD (i * k' + q) undef) := by
          intro q hq
          have : i * k' + q < C.size := by omega
          simp [Array.getD, this]
        have := RepV.dptr (E := env0 ok') (w := w) k' (el i) j ⟨b, i * k', none⟩ (fun q => C.getD (i * k' + q) undef) (hown o' b hn hb)
          (fun q hq' => by rw [add_plain, cell_of_row w b _ C e (0, 0) h2]; exact hq q hq') (h6 i him)
          (fun q d hd' => by
            have hqk : q < k' := by rw [← h6 i him]; exact (List.getElem?_eq_some_iff.1 hd').1
            exact (h8 i q d _ him hd' (hq q hqk)).mono hok fun _ _ => rfl)
        rwa [add_plain] at this
    · next cs hg =>
      cases hs : Nat.beq cs.length k with
      | false => exact .unk _
      | true =>
        have hkk : cs.length = k := Nat.eq_of_beq_eq_true hs
        simp only [cond_true]
        obtain ⟨_, hlen, b', C, te, h1, h2, h3⟩ := hH.at_ _ _ hg
        rw [h1] at hb; cases hb
        have hi0 : i = 0 := by omega
        subst hi0
        have hq : ∀ q, q < k → C[q]? = some (C.getD q undef) := by
          intro q hq
          have : q < C.size := by have := h3.1; simp at this; omega
          simp [Array.getD, this]
        have := RepV.dptr (E := env0 ok') (w := w) k (cs.map (cellD H)) j ⟨b, 0, none⟩ (fun q => C.getD q undef) (hown o' b hn h1)
          (fun q hq' => by rw [add_plain, Nat.zero_add, cell_of_row w b _ C te (0, 0) h2]; exact hq q hq') (by simpa using hkk)
          (fun q d hd' => by
            rw [List.getElem?_map] at hd'
            cases hx : cs[q]? with
            | none => rw [hx] at hd'; cases hd'
            | some x =>
              rw [hx] at hd'; cases hd'
              have hqk : q < k := by rw [← hkk]; exact (List.getElem?_eq_some_iff.1 hx).1
              exact cellD_rep hH hok hown (h3.2 q _ x (by rw [Array.getElem?_toList]; exact hq q hqk) hx))
        rw [add_plain, Nat.zero_add] at this
        simpa using this
    · exact .c _ _ (.unk _)
    · exact .c _ _ (.unk _)
  | row o' k off n a c hn hc hm hl ha h0 =>
    intro hd
    have hown : ∀ q b, E.live q → E.conc q = some b → ok' b := hd.resolve_right (by simp [V.refs])
    rw [V.view]
    obtain ⟨d, hd', hr⟩ := vrow_rep hH hok hown (.row o' k off n a c hn hc hm hl ha h0)
    rw [hd']
    exact .c _ _ hr
  | dptr k cs j ad u hok' hcell hl hu =>
    intro _
    rw [V.view]
    exact .dptr k cs j ad u (hok _ hok') hcell hl fun i d hd => (hu i d hd).mono hok fun _ _ => rfl
  | fn f vs ds hl h ih =>
    intro hd
    rw [V.view]
    refine .fn _ _ _ (by rw [views_length, hl]) fun i v d hv hd' => ?_
    rw [views_get] at hd'
    cases hx : ds[i]? with
    | none => rw [hx] at hd'; cases hd'
    | some x =>
      rw [hx] at hd'; cases hd'
      exact ih i v x hv hx (hd.imp id fun hr => refs_nil hr hx)
where
  refs_nil {ds : List V} {i : Nat} {x : V} (h : V.refss ds = []) (hx : ds[i]? = some x) : x.refs = [] := by
    cases hr : x.refs with
    | nil => rfl
    | cons a l =>
      have : a ∈ V.refss ds := refss_mem hx (by rw [hr]; simp)
      rw [h] at this
      simp at this

theorem refss_nil_of {vs : List V} (h : anyRefs vs = false) : V.refss vs = [] := by
  unfold anyRefs at h
  split at h
  · assumption
  · cases h

mutual
theorem scalar_rep {ok : Nat → Prop} {w w' : World} {E' : Env} : ∀ (d : V) {v : Value}, d.scalar = true → RepV (env0 ok) w v d → RepV E' w' v d
  | .c d, v, hs, h => by
    cases h with
    | c _ _ h =>
      cases h with
      | unk => exact .unk _
      | nil => exact .c _ _ .nil
      | lit => exact .lit _
      | opt => simp [V.scalar] at hs
      | any v h1 => exact .c _ _ (.any v h1)
      | sl => simp [V.scalar] at hs
  | .agg ds, v, hs, h => by
    cases h with
    | agg vs _ hl h => exact .agg _ _ hl fun i v d hv hd => scalars_rep ds (by simpa [V.scalar] using hs) i d v hd (h i v d hv hd)
  | .tup ds, v, hs, h => by
    cases h with
    | tup vs _ hl h => exact .tup _ _ hl fun i v d hv hd => scalars_rep ds (by simpa [V.scalar] using hs) i d v hd (h i v d hv hd)
  | .ptr .., v, hs, h => by simp [V.scalar] at hs
  | .row .., v, hs, h => by simp [V.scalar] at hs
  | .dptr .., v, hs, h => by simp [V.scalar] at hs
  | .fn .., v, hs, h => by simp [V.scalar] at hs
theorem scalars_rep {ok : Nat → Prop} {w w' : World} {E' : Env} : ∀ (ds : List V), V.scalars ds = true → ∀ (i : Nat) (d : V) (v : Value), ds[i]? = some d → RepV (env0 ok) w v d → RepV E' w' v d
  | [], hs, i, d, v, hd, h => by simp at hd
  | x :: r, hs, 0, d, v, hd, h => by
    simp only [V.scalars, Bool.and_eq_true] at hs
    simp at hd; subst hd
    exact scalar_rep x hs.1 h
  | x :: r, hs, i + 1, d, v, hd, h => by
    simp only [V.scalars, Bool.and_eq_true] at hs
    exact scalars_rep r hs.2 i d v (by simpa using hd) h
end

theorem env0_mono {ok : Nat → Prop} {E' : Env} (hok : ∀ b, ok b → E'.ok b) {v : Value} {d : V} (h : RepV (env0 ok) w v d) : RepV E' w v d :=
  h.mono (E := env0 ok) (kl := []) hok (fun _ _ => rfl) (fun o (ho : False) => ho.elim) (fun o (ho : False) => ho.elim) (clean_nil d)

/-- A call behind its contract. -/
theorem call_post (hH : HeapAt E w H) (hf : ¬ E.live nid) {C : FuncId → Option CC} (hC : ∀ f con, C f = some con → MeetsC P f con) {f : FuncId} {args : List V} {xs : List Value} (hx : RepL E w xs args)
    (h : callV C H nid f args = some r) (hp : ∀ p ∈ r.pre, p) :
    Does P f xs.toArray w fun v w' => ∃ E', Post E w H nid r E' w' v := by
  unfold callV at h
  split at h
  · cases h
  · next m hm => exact hC f (.mut m) hm E w H nid xs args r hH hf hx h hp
  · next con hcon =>
    have hmeet : Meets P f con := hC f (.pure con) hcon
    -- the region of data that the callee sees
    have view : ∀ ok' : Nat → Prop, (∀ b, E.ok b → ok' b) → ((∀ q b, E.live q → E.conc q = some b → ok' b) ∨ anyRefs args = false) → RepL (env0 ok') w xs (V.views H args) := by
      intro ok' h1 h2
      refine ⟨by rw [views_length]; exact hx.1, fun i v d hv hd => ?_⟩
      rw [views_get] at hd
      cases hy : args[i]? with
      | none => rw [hy] at hd; cases hd
      | some y =>
        rw [hy] at hd; cases hd
        exact view_rep hH h1 (hx.2 i v y hv hy) (h2.imp id fun h => view_rep.refs_nil (refss_nil_of h) hy)
    -- the world behind the call, when the result is data
    have dat : ∀ (w' : World), Below w.heap.size w w' → Step E w [] (E.next nid none 0 0 fun b => E.ok b ∨ (w.heap.size ≤ b ∧ b < w'.heap.size)) w' ∧ HeapAt (E.next nid none 0 0 fun b => E.ok b ∨ (w.heap.size ≤ b ∧ b < w'.heap.size)) w' H := by
      intro w' hb
      refine ⟨next_step hf none 0 0 _ hb (by simp) (fun _ h => .inl h) (fun b h => h.imp id (·.1)), next_heap hf hH hb (by simp) (fun _ h => .inl h) (fun b h => h.imp id (·.1)) fun b h => ?_⟩
      rcases h with h | h
      · have := hH.oklt b h; have := hb.size; omega
      · exact h.2
    have full : ∀ q b, E.live q → E.conc q = some b → (fun b => E.ok b ∨ ∃ q, E.live q ∧ E.conc q = some b) b := fun q b hq hb => .inr ⟨q, hq, hb⟩
    have fulllt : ∀ b, (fun b => E.ok b ∨ ∃ q, E.live q ∧ E.conc q = some b) b → b < w.heap.size := by
      rintro b (h | ⟨q, h1, h2⟩)
      · exact hH.oklt b h
      · exact hH.lt q b h1 h2
    split at h
    · cases h
    · next p v hcv =>
      cases hs : ((!anyRefs args) || v.scalar) with
      | false => simp [hs] at h
      | true =>
        simp only [hs, cond_true, Option.some.injEq] at h
        subst h
        have hpp : ∀ q ∈ p, q := hp
        cases ha : anyRefs args with
        | false =>
          refine (hmeet E.ok w xs _ p _ (view E.ok (fun _ h => h) (.inr ha)) hH.oklt hcv hpp).mono ?_
          rintro u w' ⟨hb, hout⟩
          obtain ⟨hS, hN⟩ := dat w' hb
          exact ⟨_, hS, hN, env0_mono (fun _ h => h) hout, next_live⟩
        | true =>
          have hsc : v.scalar = true := by simpa [ha] using hs
          refine (hmeet _ w xs _ p _ (view _ (fun _ h => .inl h) (.inl full)) fulllt hcv hpp).mono ?_
          rintro u w' ⟨hb, hout⟩
          obtain ⟨hS, hN⟩ := dat w' hb
          exact ⟨_, hS, hN, scalar_rep v hsc hout, next_live⟩
    · next p v hcv =>
      cases h
      have hpp : ∀ q ∈ p, q := hp
      refine (hmeet _ w xs _ p _ (view _ (fun _ h => .inl h) (.inl full)) fulllt hcv hpp).mono ?_
      rintro u w' ⟨hb, hout⟩
      obtain ⟨hS, hN⟩ := dat w' hb
      exact ⟨_, hS, hN, env0_mono (E' := E.next nid none 0 0 fun b => E.ok b ∨ (w.heap.size ≤ b ∧ b < w'.heap.size)) (fun _ h => Or.inr h) hout, next_live⟩
    · next p fr t k n el hcv =>
      cases hs : ((!anyRefs args) || fr) with
      | false => simp [hs] at h
      | true =>
        simp only [hs, cond_true, Option.some.injEq] at h
        subst h
        have hpp : ∀ q ∈ p, q := hp
        -- the end, from what the contract says
        have fin : ∀ (ok : Nat → Prop) (w' : World) (u : Value), (fr = false → ∀ b, ok b → E.ok b) → Below w.heap.size w w' → OutAt ok w w' u (.own fr t k n el) →
            ∃ E', Post E w H nid { pre := p, val := .row nid k 0 n, eff := [(nid, some (.row t k n el))] } E' w' u := by
          rintro ok w' u hfr hb ⟨ys, hown, h6, h7, h8⟩
          have hlt := hown.lt
          have hown0 : w'.ownsRow 0 t k u n ys := ⟨hown.1, hown.2.imp id fun ⟨g, cap, cur, a, _, c⟩ => ⟨g, cap, cur, a, Nat.zero_le _, c⟩⟩
          let ok' : Nat → Prop := fun b => E.ok b ∨ (w.heap.size ≤ b ∧ b < w'.heap.size ∧ u.ownBlock ≠ some b)
          have h1 : ∀ b, u.ownBlock = some b → w.heap.size ≤ b ∧ b < w'.heap.size ∧ ¬ ok' b := by
            intro b hb'
            obtain ⟨a1, a2⟩ := hlt b hb'
            refine ⟨a1, a2, ?_⟩
            rintro (h | ⟨_, _, h⟩)
            · have := hH.oklt b h; omega
            · exact h hb'
          have h2 : ∀ b, ok' b → E.ok b ∨ w.heap.size ≤ b := fun b h => h.imp id (·.1)
          have h3 : ∀ b, ok' b → b < w'.heap.size := by
            rintro b (h | h)
            · have := hH.oklt b h; have := hb.size; omega
            · exact h.2.1
          have hS : Step E w [] (E.next nid u.ownBlock (capOf u) n ok') w' := next_step hf _ _ _ ok' hb (fun b h => (h1 b h).1) (fun _ h => .inl h) h2
          have hN := next_heap (cap := capOf u) (len := n) hf hH hb h1 (fun _ h => .inl h) h2 h3
          have hob := ob_of_owns (E' := E.next nid u.ownBlock (capOf u) n ok') (q := nid) (el := el) hown0 (by simp [Env.next]) (by simp [Env.next]) (by intro a m c e; simp [Env.next, e, capOf]) h6 h7
            (fun i j d x hi hd hx => (h8 i j d x hi hd hx).mono (fun b hb' => by
              rcases hb' with ⟨h, h'⟩ | h
              · exact .inl (hfr h b h')
              · exact .inr h) fun _ _ => rfl)
          exact ⟨_, hS, heap_cons hN (.inl rfl) hob.1, hob.2 (.inl rfl), next_live⟩
        cases ha : anyRefs args with
        | false =>
          refine (hmeet E.ok w xs _ p _ (view E.ok (fun _ h => h) (.inr ha)) hH.oklt hcv hpp).mono ?_
          rintro u w' ⟨hb, hout⟩
          obtain ⟨E', hP⟩ := fin _ w' u (fun _ _ h => h) hb hout
          exact ⟨E', hP⟩
        | true =>
          have hfr : fr = true := by simpa [ha] using hs
          refine (hmeet _ w xs _ p _ (view _ (fun _ h => .inl h) (.inl full)) fulllt hcv hpp).mono ?_
          rintro u w' ⟨hb, hout⟩
          obtain ⟨E', hP⟩ := fin _ w' u (fun h => by rw [hfr] at h; cases h) hb hout
          exact ⟨E', hP⟩

theorem RepL.cons_inv {x : Value} {xs : List Value} {ds : List V} (h : RepL E w (x :: xs) ds) : ∃ d ds', ds = d :: ds' ∧ RepV E w x d ∧ RepL E w xs ds' := by
  match ds with
  | [] => have := h.1; simp at this
  | d :: ds' => exact ⟨d, ds', rfl, h.2 0 _ _ rfl rfl, by have := h.1; simpa using this, fun i v d a b => h.2 (i + 1) v d a b⟩
theorem RepL.nil_inv {ds : List V} (h : RepL E w [] ds) : ds = [] := List.eq_nil_of_length_eq_zero h.1.symm

/-! ### Own rows that become data -/
def Env.fz (E : Env) (o : Nat) : Env where
  conc q := if q = o then none else E.conc q
  cap := E.cap
  len q := if q = o then 0 else E.len q
  live := E.live
  ok b := E.ok b ∨ E.conc o = some b

theorem fzs_length (o : Nat) (el : Nat → List D) (kk : Nat) : ∀ vs : List V, (V.fzs o el kk vs).length = vs.length
  | [] => rfl
  | _ :: r => by simp [V.fzs, fzs_length o el kk r]
theorem fzs_get (o : Nat) (el : Nat → List D) (kk : Nat) : ∀ (vs : List V) (i : Nat), (V.fzs o el kk vs)[i]? = (vs[i]?).map (V.fz o el kk)
  | [], i => by simp [V.fzs]
  | v :: r, 0 => by simp [V.fzs]
  | v :: r, i + 1 => by simp [V.fzs, fzs_get o el kk r i]

theorem fz_ne {q o : Nat} (h : q ≠ o) : (E.fz o).conc q = E.conc q ∧ (E.fz o).cap q = E.cap q ∧ (E.fz o).len q = E.len q := by simp [Env.fz, h]
theorem fz_conc {q o b : Nat} (h : (E.fz o).conc q = some b) : q ≠ o ∧ E.conc q = some b := by
  by_cases e : q = o
  · simp [Env.fz, e] at h
  · exact ⟨e, by rwa [(fz_ne e).1] at h⟩

theorem fz_step {o : Nat} (ho : E.live o) : Step E w [o] (E.fz o) w :=
  ⟨rfl, rfl, rfl, Nat.le_refl _, fun _ h => h, fun _ _ _ => rfl, fun _ h => .inl h, fun b h => h.elim .inl fun h => .inr (.inr ⟨o, ho, h⟩), fun q _ hq => fz_ne (by simpa using hq), fun q b hq h => .inl ⟨q, hq, (fz_conc h).2⟩⟩

theorem fz_heap {o : Nat} (hH : HeapAt E w H) {e : TypeId} {k n : Nat} {el : Nat → List D} (hg : H.get o = some (.row e k n el)) : HeapAt (E.fz o) w ((o, some (.row e k 0 el)) :: killH [o] H) := by
  have ho := (hH.at_ o _ hg).1
  have hrv : ∀ v d, RepV E w v d → RepV (E.fz o) w v (d.kill o) := fun v d h => RepV.step (fz_step ho) hH.sep hH.oklt h
  have hrd : ∀ v d, RepD E.ok w v d → RepD (E.fz o).ok w v d := fun v d h => h.mono (fun _ h => .inl h) fun _ _ => rfl
  refine ⟨fun q ob hq => ?_, fun q q' b hq hq' h h' => hH.inj q q' b hq hq' (fz_conc h).2 (fz_conc h').2, fun q b hq h => ?_, fun q b hq h => hH.lt q b hq (fz_conc h).2, fun b h => h.elim (hH.oklt b) (hH.lt o b ho)⟩
  · rw [Heap.get_cons] at hq
    split at hq
    · next e1 =>
      subst e1; cases hq
      exact ⟨ho, by simp [Env.fz], .inl ⟨by simp [Env.fz], rfl⟩⟩
    · next hne =>
      rw [get_killH1] at hq
      obtain ⟨y, hy, hky⟩ := killOb_some hq
      obtain ⟨h1, h2⟩ := hH.at_ q y hy
      refine ⟨h1, ?_⟩
      obtain ⟨c1, c2, c3⟩ := fz_ne (E := E) (fun e => hne e.symm : q ≠ o)
      cases y with
      | box cs =>
        cases hky
        obtain ⟨hl, b, C, te, g1, g2, g3⟩ := h2
        refine ⟨c3.trans hl, b, C, te, c1.trans g1, g2, by rw [kills_length]; exact g3.1, fun i v d hv hd => ?_⟩
        rw [kills_get] at hd
        cases hx' : cs[i]? with
        | none => rw [hx'] at hd; cases hd
        | some y => rw [hx'] at hd; cases hd; exact hrv _ _ (g3.2 i v y hv hx')
      | raw x =>
        cases hky
        obtain ⟨hl, b, g1, g2⟩ := h2
        exact ⟨c3.trans hl, b, c1.trans g1, g2⟩
      | row te kk nn ell =>
        cases hky
        obtain ⟨hl, hh⟩ := h2
        refine ⟨c3.trans hl, ?_⟩
        rcases hh with ⟨g1, g2⟩ | ⟨b, C, g1, g2, g3, g4, g5, g6, g7, g8⟩
        · exact .inl ⟨c1.trans g1, g2⟩
        · exact .inr ⟨b, C, c1.trans g1, g2, by rw [c2]; exact g3, by rw [c2]; exact g4, by rw [c2]; exact g5, g6, g7, fun i j d u a b c => hrd _ _ (g8 i j d u a b c)⟩
  · obtain ⟨h1, h2⟩ := fz_conc h
    rintro (h3 | h3)
    · exact hH.sep q b hq h2 h3
    · exact h1 (hH.inj q o b hq ho h2 h3)

theorem fz_rep {o : Nat} (hH : HeapAt E w H) {e : TypeId} {k n : Nat} {el : Nat → List D} (hg : H.get o = some (.row e k n el)) {v : Value} {d : V} (h : RepV E w v d) : RepV (E.fz o) w v (d.fz o el k) := by
  induction h with
  | c v d h => exact .c v d (h.mono (fun _ h => .inl h) fun _ _ => rfl)
  | agg vs ds hl h ih =>
    rw [V.fz]
    refine .agg _ _ (by rw [fzs_length, hl]) fun i v d hv hd => ?_
    rw [fzs_get] at hd
    cases hx : ds[i]? with
    | none => rw [hx] at hd; cases hd
    | some x => rw [hx] at hd; cases hd; exact ih i v x hv hx
  | tup vs ds hl h ih =>
    rw [V.fz]
    refine .tup _ _ (by rw [fzs_length, hl]) fun i v d hv hd => ?_
    rw [fzs_get] at hd
    cases hx : ds[i]? with
    | none => rw [hx] at hd; cases hd
    | some x => rw [hx] at hd; cases hd; exact ih i v x hv hx
  | ptr o' k i j b hn hb hi =>
    rw [V.fz]
    cases hq : Nat.beq o' o
    · have hne : o' ≠ o := fun e => by subst e; simp at hq
      obtain ⟨c1, c2, c3⟩ := fz_ne (E := E) hne
      exact .ptr o' k i j b hn (c1.trans hb) (by rw [c3]; exact hi)
    · exact .c _ _ (.unk _)
  | row o' k' off n' a c hn hc hm hl ha h0 =>
    rw [V.fz]
    cases hq : Nat.beq o' o
    · have hne : o' ≠ o := fun e => by subst e; simp at hq
      obtain ⟨c1, c2, c3⟩ := fz_ne (E := E) hne
      exact .row o' k' off n' a c hn hc hm (by rw [c3]; exact hl) (by rw [c1]; exact ha) (by rw [c1, c2]; exact h0)
    · have := Nat.eq_of_beq_eq_true hq
      subst this
      rw [cond_true]
      cases hk : Nat.beq k k' with
      | false => exact .c _ _ (.unk _)
      | true =>
        have := Nat.eq_of_beq_eq_true hk
        subst this
        rw [cond_true]
        have hr := RepV.row o' k off n' a c hn hc hm hl ha h0 (w := w)
        obtain ⟨news, hsrc⟩ := src_of hH hr (show asSl H (.row o' k off n') = some (k, n', fun i => el (off + i)) by simp [asSl, hg])
        have hsrc' : Src { E with live := fun q => q = o' } w (.slice a n' c) k n' (fun i => el (off + i)) news :=
          ⟨hsrc.form, fun ad n2 c2 he hn2 => by
            cases he
            obtain ⟨b, hb, hab⟩ := ha hn2
            cases hab
            exact .inr ⟨o', rfl, hb⟩, hsrc.len, hsrc.one, hsrc.els, hsrc.rep⟩
        exact .c _ _ (src_rep (E := { E with live := fun q => q = o' }) (ok' := (E.fz o').ok) (fun _ h => .inl h) (fun q b hq hb => by
          have e1 : q = o' := hq
          subst e1; exact .inr hb) hsrc')
  | dptr k' cs j ad u hok hcell hl hu => exact .dptr k' cs j ad u (.inl hok) hcell hl fun i d hd => (hu i d hd).mono (fun _ h => .inl h) fun _ _ => rfl
  | fn f vs ds hl h ih =>
    rw [V.fz]
    refine .fn _ _ _ (by rw [fzs_length, hl]) fun i v d hv hd => ?_
    rw [fzs_get] at hd
    cases hx : ds[i]? with
    | none => rw [hx] at hd; cases hd
    | some x => rw [hx] at hd; cases hd; exact ih i v x hv hx

theorem Step.trans1 {E1 E2 : Env} {o : Nat} {kl : List Nat} {w1 : World} (h : Step E w [o] E1 w) (h' : Step E1 w kl E2 w1) (hl : ∀ q, E1.live q → E.live q) (hc : ∀ q b, E1.conc q = some b → E.conc q = some b) : Step E w (o :: kl) E2 w1 :=
  ⟨h'.os, h'.tape, h'.output, h'.size, fun q hq => h'.live q (h.live q hq), fun b hb hn => h'.blk b hb fun q hq hcq => hn q (hl q hq) (hc q b hcq), fun b hb => h'.ok b (h.ok b hb), fun b hb => by
    rcases h'.okold b hb with g | g | ⟨q, g1, g2⟩
    · exact h.okold b g
    · exact .inr (.inl g)
    · exact .inr (.inr ⟨q, hl q g1, hc q b g2⟩), fun q hq hn => by
    have a1 := h.conc q hq (by simp at hn; simp [hn.1])
    have a2 := h'.conc q (h.live q hq) (by simp at hn; exact hn.2)
    exact ⟨a2.1.trans a1.1, a2.2.1.trans a1.2.1, a2.2.2.trans a1.2.2⟩, fun q b hq hb => by
    rcases h'.concnew q b hq hb with ⟨q', g1, g2⟩ | g
    · exact .inl ⟨q', hl q' g1, hc q' b g2⟩
    · exact .inr g⟩

theorem killH_cons_row (kl : List Nat) (o : Nat) (e k n : Nat) (el : Nat → List D) : ∀ H : Heap, killH kl ((o, some (.row e k n el)) :: H) = (o, some (.row e k n el)) :: killH kl H := by
  induction kl with
  | nil => intro H; rfl
  | cons x r ih => intro H; rw [killH, List.map_cons, killH]; exact ih _

theorem post_buildF {o : Oper} {nid : Nat} {t : TypeId} {len : Nat} {parts : Array (Nat × Operand)} {ρ : Operand → Value} (ho : o.op = .buildSlice t len parts) : ∀ (fl : List Nat) (E : Env) (H : Heap) (vs : List V) (r : Res), HeapAt E w H → ¬ E.live nid → RepL E w (parts.toList.map fun p => ρ p.2) vs →
    buildF P nid t len (parts.toList.map (·.1)) fl H vs = some r → ∃ E' w' v', (execOp ρ o).run P w = .ok (.value v') w' ∧ Post E w H nid r E' w' v'
  | [], E, H, vs, r, hH, hf, hv, h => post_buildSlice hH hf ho hv h
  | q :: fl, E, H, vs, r, hH, hf, hv, h => by
    rw [buildF] at h
    split at h
    · next e k n el hg =>
      have hq := (hH.at_ q _ hg).1
      cases hb : buildF P nid t len (parts.toList.map (·.1)) fl ((q, some (.row e k 0 el)) :: killH [q] H) (V.fzs q el k vs) with
      | none => rw [hb] at h; cases h
      | some r0 =>
        rw [hb] at h; cases h
        obtain ⟨E', w', v', h1, h2⟩ := post_buildF ho fl (E.fz q) _ _ r0 (fz_heap hH hg) hf ⟨by rw [fzs_length]; exact hv.1, fun i v d hi hd => by
          rw [fzs_get] at hd
          cases hx : vs[i]? with
          | none => rw [hx] at hd; cases hd
          | some x => rw [hx] at hd; cases hd; exact fz_rep hH hg (hv.2 i v x hi hx)⟩ hb
        refine ⟨E', w', v', h1, (fz_step hq).trans1 h2.st (fun _ h => h) (fun _ _ h => (fz_conc h).2), ?_, h2.val, h2.live⟩
        have := h2.heap
        rw [killH_cons_row] at this
        rw [List.append_assoc]
        exact this
    · cases h

/-- An operation, whatever follows. -/
theorem op_sound (hH : HeapAt E w H) (hf : ¬ E.live nid) {C : FuncId → Option CC} (hC : ∀ f con, C f = some con → MeetsC P f con) {a : Act} {vs : List V} (hv : RepL E w ((opnds o.op).map a.eval) vs)
    (h : opV P C H nid o vs = some r) (hp : ∀ p ∈ r.pre, p) {K : Act → World → Prop} {Q : Exit → Act → World → Prop} (hK : ∀ E' w' v', Post E w H nid r E' w' v' → K (a.put o.dst v') w') : o.wp P a w K Q := by
  have fin : (∃ E' w' v', (execOp a.eval o).run P w = .ok (.value v') w' ∧ Post E w H nid r E' w' v') → o.wp P a w K Q := by
    rintro ⟨E', w', v', h1, h2⟩
    unfold Oper.wp
    rw [h1]
    exact hK E' w' v' h2
  have finq : QRes P a.eval o E w r → o.wp P a w K Q := fun hq => by
    obtain ⟨v', h1, h2⟩ := quiet_post hH hf hq
    exact fin ⟨_, w, v', h1, h2⟩
  unfold opV at h
  split at h
  · next x d ho =>
    rw [ho] at hv
    cases h
    exact finq ⟨rfl, rfl, quiet_move ho (hv.2 0 _ _ rfl rfl)⟩
  · next x d ho =>
    rw [ho] at hv
    cases h
    exact finq ⟨rfl, rfl, quiet_assign ho (hv.2 0 _ _ rfl rfl)⟩
  · next t ho =>
    split at h
    · next z hz => exact fin (post_alloc hH hf ho hz h)
    · cases h
  · next t x d ho =>
    rw [ho] at hv
    exact fin (post_box hH hf ho (hv.2 0 _ _ rfl rfl) h)
  · next t parts vs ho =>
    rw [ho] at hv
    exact finq (quiet_build ho (by simpa [opnds, Op.operands, List.map_map, Function.comp_def] using hv) h)
  · next t len parts vs ho =>
    rw [ho] at hv
    exact fin (post_buildF ho _ E H _ r hH hf (by simpa [opnds, Op.operands, List.map_map, Function.comp_def] using hv) h)
  · next t x d ho =>
    rw [ho] at hv
    exact finq (quiet_loadX hH ho (hv.2 0 _ _ rfl rfl) h hp)
  · next t x y d e ho =>
    rw [ho] at hv
    obtain ⟨E', w', h1, h2⟩ := post_storeX hH hf ho (hv.2 0 _ _ rfl rfl) (hv.2 1 _ _ rfl rfl) h hp
    unfold Oper.wp
    rw [h1]
    exact hK E' w' undef h2
  · next x d ho =>
    rw [ho] at hv
    exact finq (quiet_nilCheck ho (hv.2 0 _ _ rfl rfl) h)
  · next op t x y ty d e ho =>
    rw [ho] at hv
    exact finq (quiet_bin ho (hv.2 0 _ _ rfl rfl) (hv.2 1 _ _ rfl rfl) h hp)
  · next op t x d ho =>
    rw [ho] at hv
    exact finq (quiet_un ho (hv.2 0 _ _ rfl rfl) h)
  · next s t x d ho =>
    rw [ho] at hv
    split at h
    · next e hs hd =>
      split at h
      · next he => exact finq (quiet_bytes hH hs hd he ho (hv.2 0 _ _ rfl rfl) h hp)
      · cases h
    · exact finq (quiet_conv ho (hv.2 0 _ _ rfl rfl) h)
  · next t x f d ho =>
    rw [ho] at hv
    exact finq (quiet_fieldAddr ho (hv.2 0 _ _ rfl rfl) h)
  · next t x f d ho =>
    rw [ho] at hv
    exact finq (quiet_field ho (hv.2 0 _ _ rfl rfl) h)
  · next t x y d e ho =>
    rw [ho] at hv
    exact finq (quiet_indexAddr hH ho (hv.2 0 _ _ rfl rfl) (hv.2 1 _ _ rfl rfl) h hp)
  · next t x y d e ho =>
    rw [ho] at hv
    exact finq (quiet_index ho (hv.2 0 _ _ rfl rfl) (hv.2 1 _ _ rfl rfl) h hp)
  · next t x d ho =>
    rw [ho] at hv
    exact finq (quiet_slice (dlo := none) (dhi := none) ho (hv.2 0 _ _ rfl rfl) (by simp) (by simp) (by simp) (by simp) h hp)
  · next t x l d e ho =>
    rw [ho] at hv
    exact finq (quiet_slice (dlo := some e) (dhi := none) ho (hv.2 0 _ _ rfl rfl) (fun y hy => by cases hy; exact ⟨_, rfl, hv.2 1 _ _ rfl rfl⟩) (by simp) (by simp) (by simp) h hp)
  · next t x l d e ho =>
    rw [ho] at hv
    exact finq (quiet_slice (dlo := none) (dhi := some e) ho (hv.2 0 _ _ rfl rfl) (by simp) (by simp) (fun y hy => by cases hy; exact ⟨_, rfl, hv.2 1 _ _ rfl rfl⟩) (by simp) h hp)
  · next t x l hh d e g ho =>
    rw [ho] at hv
    exact finq (quiet_slice (dlo := some e) (dhi := some g) ho (hv.2 0 _ _ rfl rfl) (fun y hy => by cases hy; exact ⟨_, rfl, hv.2 1 _ _ rfl rfl⟩) (by simp) (fun y hy => by cases hy; exact ⟨_, rfl, hv.2 2 _ _ rfl rfl⟩) (by simp) h hp)
  · next t l c d e ho =>
    rw [ho] at hv
    exact fin (post_makeSlice hH hf ho (hv.2 0 _ _ rfl rfl) (hv.2 1 _ _ rfl rfl) h hp)
  · next vs f first caps ho =>
    rw [ho] at hv
    cases hf : (first.isEmpty && Nat.blt f 1000000000) with
    | false => rw [hf] at h; cases h
    | true =>
      rw [hf] at h
      simp only [cond_true, Option.some.injEq] at h
      subst h
      rw [Bool.and_eq_true] at hf
      have h0 : first = #[] := by simpa using hf.1
      subst h0
      exact finq ⟨rfl, rfl, quiet_makeFunc ho rfl hf.2 (by simpa [opnds, Op.operands] using hv)⟩
  · next t x d ho =>
    rw [ho] at hv
    split at h
    · next e hu =>
      cases hc : V.isCell d with
      | false => rw [hc] at h; cases h
      | true =>
        rw [hc] at h
        simp only [cond_true, Option.some.injEq] at h
        subst h
        exact finq ⟨rfl, rfl, quiet_makeInterface ho hu (hv.2 0 _ _ rfl rfl)⟩
    · cases h
  · next x ix d ho =>
    rw [ho] at hv
    exact finq (quiet_extract ho (hv.2 0 _ _ rfl rfl) h hp)
  · next t x d ho =>
    rw [ho] at hv
    exact fin (post_range hH hf ho (hv.2 0 _ _ rfl rfl) h)
  · next x d ho =>
    rw [ho] at hv
    exact fin (post_next hH hf ho (hv.2 0 _ _ rfl rfl) h)
  · next args argTypes d ho =>
    rw [ho] at hv
    obtain ⟨x, hx⟩ : ∃ x, args.toList = [x] := by
      have h2 : args.toList.length = 1 := by have := hv.1; simpa [opnds] using this
      match hl : args.toList, h2 with
      | [p], _ => exact ⟨p, rfl⟩
    have hargs : args = #[x] := by rw [← Array.toArray_toList (xs := args), hx]
    subst hargs
    split at h
    · next t ht =>
      cases hu : P.underlying t with
      | none => simp [lenV, hu] at h
      | some dd => exact finq (quiet_len ho rfl rfl ht hu (hv.2 0 _ _ rfl rfl) h)
    · cases h
  · next args argTypes d ho =>
    rw [ho] at hv
    obtain ⟨x, hx⟩ : ∃ x, args.toList = [x] := by
      have h2 : args.toList.length = 1 := by have := hv.1; simpa [opnds] using this
      match hl : args.toList, h2 with
      | [p], _ => exact ⟨p, rfl⟩
    have hargs : args = #[x] := by rw [← Array.toArray_toList (xs := args), hx]
    subst hargs
    split at h
    · next t ht => exact fin (post_clear hH hf ho rfl rfl ht (hv.2 0 _ _ rfl rfl) h)
    · cases h
  · next vs _ _ args argTypes ho =>
    rw [ho] at hv
    cases hm : minV vs with
    | none => simp [hm] at h
    | some m =>
      simp only [hm, Option.map_some, Option.some.injEq] at h
      subst h
      exact finq ⟨rfl, rfl, quiet_min ho rfl (by simpa [opnds] using hv) hm⟩
  · next vs _ _ args argTypes ho =>
    rw [ho] at hv
    cases hm : maxV vs with
    | none => simp [hm] at h
    | some m =>
      simp only [hm, Option.map_some, Option.some.injEq] at h
      subst h
      exact finq ⟨rfl, rfl, quiet_max ho rfl (by simpa [opnds] using hv) hm⟩
  · next args argTypes s x ho =>
    rw [ho] at hv
    obtain ⟨s', x', hsx⟩ : ∃ s' x', args.toList = [s', x'] := by
      have h2 : args.toList.length = 2 := by have := hv.1; simpa [opnds] using this
      match hl : args.toList, h2 with
      | [p, q], _ => exact ⟨p, q, rfl⟩
    have hargs : args = #[s', x'] := by rw [← Array.toArray_toList (xs := args), hsx]
    subst hargs
    split at h
    · next t t' ht =>
      cases hb : Nat.beq t t' with
      | false => simp [hb] at h
      | true =>
        have htt : t = t' := Nat.eq_of_beq_eq_true hb
        subst htt
        simp only [hb, cond_true] at h
        have hat : argTypes = #[t, t] := by rw [← Array.toArray_toList (xs := argTypes), ht]
        exact fin (post_append hH hf ho rfl rfl hat (hv.2 0 _ _ rfl rfl) (hv.2 1 _ _ rfl rfl) h hp)
    · cases h
  · next f args argTypes g caps ds ho =>
    rw [ho] at hv
    obtain ⟨_, _, e, hf, ha⟩ := RepL.cons_inv hv
    cases e
    generalize hfv : a.eval f = fv at hf
    cases hglt : Nat.blt g 1000000000 with
    | false => rw [hglt] at h; cases h
    | true =>
    rw [hglt] at h
    simp only [cond_true] at h
    cases hf with
    | fn _ cs _ hcl hch =>
      rw [fnVal_lt hglt] at hfv
      have hall : RepL E w (args.toList.map a.eval ++ cs) (ds ++ caps) := by
        refine ⟨by rw [List.length_append, List.length_append, ha.1, hcl], fun i v d hv' hd' => ?_⟩
        rw [List.getElem?_append] at hv' hd'
        rw [← ha.1] at hd'
        split at hv'
        · next hlt => rw [if_pos hlt] at hd'; exact ha.2 i v d hv' hd'
        · next hge => rw [if_neg hge] at hd'; exact hch _ v d hv' hd'
      have hcalls := call_post hH hf hC hall h hp
      have hargs : args.map a.eval ++ cs.toArray = (args.toList.map a.eval ++ cs).toArray := by
        rw [← Array.toArray_toList (xs := args.map a.eval ++ cs.toArray)]
        simp
      have hrun : (execOp a.eval o).run P w = (callFunc g (args.toList.map a.eval ++ cs).toArray).run P w := by
        simp only [execOp, ho, resolve, hfv, Deferred.ofValue, invoke, Sem.run_bind, Sem.run_pure, Result.andThen_ok, Array.empty_append, hargs]
      unfold Oper.wp
      rw [hrun]
      rcases hcalls with ⟨h1, h2⟩ | ⟨v, w', h1, E', hP⟩
      · rw [h1]
        refine Calls.mono h2 ?_
        rintro e w' ⟨v, rfl, E', hP⟩
        exact hK E' w' v hP
      · rw [h1]
        exact hK E' w' v hP
  · cases h
end
end Go.Ax

/- States, and regions in the order of the text. -/
namespace Go.Ax
open Go.RowKit

def SlotAt (tm : List (Nat × Slot)) (E : Env) (w : World) (v : Value) (s : Slot) : Prop :=
  (holds tm s.ch = true → RepV E w v s.v) ∧ (s.ch.all (fun x => boolSlot tm x.1) = true → holds tm s.ch = false → v = undef)

/-- What was there at the call's start. -/
structure Base where
  W : World
  ok : Nat → Prop
  /-- blocks of the caller that are handed over -/
  mb : Nat → Prop
  /-- values that the call was handed, by ghost slots from 1000000 on -/
  gh : Nat → Value := fun _ => undef

/-- The value of a slot. -/
def valAt (B : Base) (a : Act) (t : Nat) : Value := if t < 1000000 then a.tmps.getD t undef else B.gh t
theorem valAt_low {B : Base} {a : Act} {t : Nat} (h : t < 1000000) : valAt B a t = a.tmps.getD t undef := if_pos h

/-- Below n the worlds are the same, but for some blocks. -/
structure BelowM (M : Nat → Prop) (n : Nat) (w w' : World) : Prop where
  os : w'.os = w.os
  tape : w'.tape = w.tape
  output : w'.output = w.output
  size : w.heap.size ≤ w'.heap.size
  block : ∀ k, k < n → ¬ M k → w'.heap[k]? = w.heap[k]?
theorem BelowM.refl (M : Nat → Prop) (n : Nat) (w : World) : BelowM M n w w := ⟨rfl, rfl, rfl, Nat.le_refl _, fun _ _ _ => rfl⟩
theorem BelowM.below {n : Nat} {w w' : World} (h : BelowM (fun _ => False) n w w') : Below n w w' := ⟨h.os, h.tape, h.output, h.size, fun k hk => h.block k hk (fun h => h)⟩

structure Sim (N : Nat) (B : Base) (σ : St) (E : Env) (a : Act) (w : World) : Prop where
  size : a.tmps.size = N
  small : N ≤ 1000000
  defers : a.defers = []
  live : ∀ q, σ.nx ≤ q → ¬ E.live q
  heap : HeapAt E w σ.hp
  slots : ∀ t s, getT σ.tm t = some s → SlotAt σ.tm E w (valAt B a t) s
  base : BelowM B.mb B.W.heap.size B.W w
  own : ∀ o b, E.live o → E.conc o = some b → B.W.heap.size ≤ b ∨ B.mb b
  okold : ∀ b, E.ok b → B.ok b ∨ B.W.heap.size ≤ b ∨ B.mb b

section
variable {P : Program} {N : Nat} {B : Base} {σ : St} {E : Env} {a : Act} {w : World}

theorem beq_ne {a b : Nat} (h : a ≠ b) : Nat.beq a b = false := by
  cases hb : Nat.beq a b
  · rfl
  · exact (h (Nat.eq_of_beq_eq_true hb)).elim

theorem getT_cons (t' : Nat) (s : Slot) (r : List (Nat × Slot)) (t : Nat) : getT ((t', s) :: r) t = if t' = t then some s else getT r t := by
  rw [getT]
  by_cases h : t' = t
  · subst h; simp
  · rw [beq_ne h]; simp [h]

theorem getT_putT : ∀ (tm : List (Nat × Slot)) (t : Nat) (s : Slot) (t' : Nat), getT (putT tm t s) t' = if t = t' then some s else getT tm t'
  | [], t, s, t' => by rw [putT, getT_cons]
  | (q, x) :: r, t, s, t' => by
    rw [putT]
    by_cases h : q = t
    · subst h
      rw [show Nat.beq q q = true by simp, cond_true, getT_cons, getT_cons]
      split <;> rfl
    · rw [beq_ne h, cond_false]
      cases Nat.blt t q
      · rw [cond_false, getT_cons, getT_putT r, getT_cons]
        by_cases h1 : q = t'
        · rw [if_pos h1, if_pos h1, if_neg (by omega)]
        · rw [if_neg h1, if_neg h1]
      · rw [cond_true, getT_cons]

theorem getT_map (f : Slot → Slot) : ∀ (tm : List (Nat × Slot)) (t : Nat), getT (tm.map fun x => (x.1, f x.2)) t = (getT tm t).map f
  | [], t => rfl
  | (q, x) :: r, t => by
    rw [List.map_cons, getT_cons, getT_cons, getT_map f r]
    split <;> rfl

theorem getT_killT : ∀ (kl : List Nat) (tm : List (Nat × Slot)) (t : Nat), getT (killT kl tm) t = (getT tm t).map fun s => { ch := s.ch, v := s.v.killAll kl }
  | [], tm, t => by simp [killT, V.killAll]
  | o :: r, tm, t => by
    rw [killT, getT_killT r, getT_map (fun s => { ch := s.ch, v := s.v.kill o })]
    cases getT tm t <;> simp [V.killAll]

/-- What 'holds' sees of a slot. -/
def boolOf : Option Slot → Option Bool
  | some { v := .c (.lit (.bool b)), .. } => some b
  | _ => none

theorem boolOf_some {s : Option Slot} {b : Bool} (h : boolOf s = some b) : ∃ ch, s = some { ch, v := .c (.lit (.bool b)) } := by
  unfold boolOf at h
  split at h
  · next ch b' => cases h; exact ⟨ch, rfl⟩
  · cases h

theorem holds_cons (tm : List (Nat × Slot)) (t : Nat) (w : Bool) (r : Chain) : holds tm ((t, w) :: r) = ((match boolOf (getT tm t) with | some b => (b == w) | none => false) && holds tm r) := by
  rw [holds]
  congr 1
  cases hb : boolOf (getT tm t) with
  | some b =>
    obtain ⟨ch, e⟩ := boolOf_some hb
    rw [e]
    cases w <;> cases b <;> rfl
  | none =>
    split
    · next h => rw [h] at hb; simp [boolOf] at hb
    · rfl

theorem holds_congr {tm tm' : List (Nat × Slot)} : ∀ (ch : Chain), (∀ x ∈ ch, boolOf (getT tm' x.1) = boolOf (getT tm x.1)) → holds tm' ch = holds tm ch
  | [], _ => rfl
  | (t, w) :: r, h => by
    rw [holds_cons, holds_cons, h (t, w) (by simp), holds_congr r fun x hx => h x (by simp [hx])]

theorem killAll_bool : ∀ (kl : List Nat) (b : Bool), (V.c (.lit (.bool b))).killAll kl = .c (.lit (.bool b))
  | [], _ => rfl
  | o :: r, b => by rw [V.killAll, V.kill, killAll_bool r]

theorem kill_not_bool (o : Nat) (v : V) (b : Bool) (h : v.kill o = .c (.lit (.bool b))) : v = .c (.lit (.bool b)) := by
  cases v with
  | c d => simpa [V.kill] using h
  | agg vs => simp [V.kill] at h
  | tup vs => simp [V.kill] at h
  | ptr o' k i j => rw [V.kill] at h; cases hb : Nat.beq o' o <;> simp [hb] at h
  | row o' k i j => rw [V.kill] at h; cases hb : Nat.beq o' o <;> simp [hb] at h
  | dptr k cs j => simp [V.kill] at h
  | fn f vs => simp [V.kill] at h

theorem killAll_not_bool : ∀ (kl : List Nat) (v : V) (b : Bool), v.killAll kl = .c (.lit (.bool b)) → v = .c (.lit (.bool b))
  | [], v, b, h => h
  | o :: r, v, b, h => kill_not_bool o v b (killAll_not_bool r _ b h)

theorem boolOf_kill (kl : List Nat) (s : Option Slot) : boolOf (s.map fun s => { ch := s.ch, v := s.v.killAll kl }) = boolOf s := by
  cases s with
  | none => rfl
  | some s =>
    obtain ⟨ch, v⟩ := s
    by_cases h : ∃ b, v = .c (.lit (.bool b))
    · obtain ⟨b, rfl⟩ := h
      simp [boolOf, killAll_bool]
    · have h2 : boolOf (some { ch, v }) = none := by
        cases hb : boolOf (some { ch, v }) with
        | none => rfl
        | some b => obtain ⟨ch', e⟩ := boolOf_some hb; cases e; exact (h ⟨b, rfl⟩).elim
      rw [h2]
      cases hb : boolOf (Option.map (fun s : Slot => { ch := s.ch, v := s.v.killAll kl }) (some { ch, v })) with
      | none => rfl
      | some b =>
        obtain ⟨ch', e⟩ := boolOf_some hb
        simp only [Option.map_some, Option.some.injEq, Slot.mk.injEq] at e
        exact (h ⟨b, killAll_not_bool kl v b e.2⟩).elim

theorem holds_killT (kl : List Nat) (tm : List (Nat × Slot)) (ch : Chain) : holds (killT kl tm) ch = holds tm ch :=
  holds_congr ch fun x _ => by rw [getT_killT, boolOf_kill]

theorem holds_putT {tm : List (Nat × Slot)} {t : Nat} {s : Slot} {ch : Chain} (h : ∀ x ∈ ch, x.1 ≠ t) : holds (putT tm t s) ch = holds tm ch :=
  holds_congr ch fun x hx => by rw [getT_putT, if_neg (fun e => h x hx e.symm)]

theorem holds_sub {tm : List (Nat × Slot)} {ch' : Chain} (h' : holds tm ch' = true) : ∀ (ch : Chain), subCh ch ch' = true → holds tm ch = true
  | [], _ => rfl
  | (t, w) :: r, h => by
    simp only [subCh, List.all_cons, Bool.and_eq_true] at h
    obtain ⟨h1, h2⟩ := h
    rw [holds_cons, Bool.and_eq_true]
    refine ⟨?_, holds_sub h' r h2⟩
    unfold inCh at h1
    obtain ⟨y, hy, hyt⟩ := List.any_eq_true.1 h1
    simp only [Bool.and_eq_true, Nat.beq_eq, beq_iff_eq] at hyt
    obtain ⟨e1, e2⟩ := hyt
    have key : ∀ (ch' : Chain), y ∈ ch' → holds tm ch' = true → (match boolOf (getT tm y.1) with | some b => (b == y.2) | none => false) = true := by
      intro ch'
      induction ch' with
      | nil => intro hy; simp at hy
      | cons z l ih =>
        intro hy hh
        obtain ⟨zt, zw⟩ := z
        rw [holds_cons, Bool.and_eq_true] at hh
        rcases List.mem_cons.1 hy with rfl | hy
        · exact hh.1
        · exact ih hy hh.2
    have := key ch' hy h'
    rw [← e1, ← e2] at this
    exact this

theorem rep_func (f : FuncId) (hlt : Nat.blt f 1000000000 = true) : RepV E w (.func (.func f) #[] #[]) (.fn f []) := by
  have e : fnVal f [] = .func (.func f) #[] #[] := fnVal_lt hlt []
  rw [← e]
  exact .fn f [] [] rfl fun i v d h => by simp at h

theorem rep_ofConst (v : Value) : RepV E w v (V.ofValue v) := rep_ofValue v

theorem opnd_sound (hs : Sim N B σ E a w) {ch : Chain} (hh : holds σ.tm ch = true) {x : Operand} {v : V} (h : opndV σ ch x = some v) : RepV E w (a.eval x) v := by
  unfold opndV at h
  split at h
  · next t =>
    cases hlow : Nat.blt t 1000000 with
    | false => simp [hlow] at h
    | true =>
    rw [hlow, cond_true] at h
    split at h
    · next s hg =>
      cases hc : subCh s.ch ch with
      | false => simp [hc] at h
      | true =>
        simp only [hc, cond_true, Option.some.injEq] at h
        subst h
        have := (hs.slots t s hg).1 (holds_sub hh _ hc)
        rw [valAt_low (by simpa using hlow)] at this
        exact this
    · cases h
  · cases h; exact rep_ofValue _
  · next f =>
    cases hlt : Nat.blt f 1000000000 with
    | false => rw [hlt] at h; cases h
    | true => rw [hlt] at h; cases h; exact rep_func _ hlt
  · cases h

theorem opnds_sound (hs : Sim N B σ E a w) {ch : Chain} (hh : holds σ.tm ch = true) : ∀ {xs : List Operand} {vs : List V}, opndsV σ ch xs = some vs → RepL E w (xs.map a.eval) vs
  | [], vs, h => by simp [opndsV] at h; subst h; exact .nil
  | x :: xs, vs, h => by
    unfold opndsV at h
    rw [List.mapM_cons] at h
    simp only [Option.bind_eq_bind, Option.pure_def, Option.bind_eq_some_iff, Option.some.injEq] at h
    obtain ⟨d, hd, ds, hds, rfl⟩ := h
    have ih := opnds_sound hs hh (xs := xs) hds
    refine ⟨by simp [ih.1], fun i v d' hv hd' => ?_⟩
    match i with
    | 0 => simp at hv hd'; subst hv; subst hd'; exact opnd_sound hs hh hd
    | i + 1 => exact ih.2 i v d' (by simpa using hv) (by simpa using hd')

/-- The guard of an operation. -/
theorem guard_sound {ops : Array Oper} (hs : Sim N B σ E a w) {o : Oper} {ch : Chain} (h : guardCh ops.toList σ.tm o.guard = some ch) (hb : ch.all (fun x => boolSlot σ.tm x.1) = true) : Region.wanted o (yielded ops a.tmps) = holds σ.tm ch := by
  unfold guardCh at h
  split at h
  · next hg => cases h; simp [Region.wanted, hg, holds]
  · next j wt hg =>
    split at h
    · next oj hj =>
      split at h
      · next t ht =>
        cases hlow : Nat.blt t 1000000 with
        | false => simp [hlow] at h
        | true =>
        rw [hlow, cond_true] at h
        split at h
        · next ch' b hgt =>
          cases h
          have hj' : ops[j]? = some oj := by rw [← Array.getElem?_toList]; exact hj
          rw [holds_cons, hgt]
          simp only [boolOf, Region.wanted, hg, yielded, hj', Option.bind_some, ht]
          have hsl := hs.slots t _ hgt
          rw [valAt_low (by simpa using hlow)] at hsl
          cases hh : holds σ.tm ch' with
          | true =>
            have hr := (hsl.1 hh).lit_inv
            have : a.tmps[t]? = some (.bool b) := by
              rw [Array.getD_eq_getD_getElem?] at hr
              cases hx : a.tmps[t]? with
              | none => rw [hx] at hr; simp [undef] at hr
              | some x => rw [hx] at hr; simpa using hr
            rw [this]
            cases b <;> cases wt <;> rfl
          | false =>
            have hr := hsl.2 (by simp only [List.all_cons, Bool.and_eq_true] at hb; exact hb.2) hh
            rw [Bool.and_false]
            rw [Array.getD_eq_getD_getElem?] at hr
            cases hx : a.tmps[t]? with
            | none => rfl
            | some x => rw [hx] at hr; simp at hr; subst hr; rfl
        · cases h
      · cases h
    · cases h

theorem pick_sound (hs : Sim N B σ E a w) {ch : Chain} (hh : holds σ.tm ch = true) {c x y : Operand} {v : V} (h : pickV σ ch c x y = some v) :
    ∃ b : Bool, a.eval c = .bool b ∧ RepV E w (if b then a.eval x else a.eval y) v := by
  unfold pickV at h
  split at h
  · next b hc =>
    have hcb := (opnd_sound hs hh hc).lit_inv
    refine ⟨b, hcb, ?_⟩
    split at h
    · next p q hx hy =>
      cases h
      -- the chain that holds in the branch taken
      have key : ∀ (want : Bool), b = want → ∀ (z : Operand) (u : V), opndV σ (chFor c want ch) z = some u → RepV E w (a.eval z) u := by
        intro want hw z u hz
        cases c with
        | tmp t =>
          have : holds σ.tm ((t, want) :: ch) = true := by
            rw [holds_cons, hh, Bool.and_true]
            cases hg : getT σ.tm t with
            | none => simp [opndV, hg] at hc
            | some s =>
              cases hsc : subCh s.ch ch with
              | false => simp [opndV, hg, hsc] at hc
              | true =>
                have hl : Nat.blt t 1000000 = true := by
                  cases hl : Nat.blt t 1000000 with
                  | true => rfl
                  | false => simp [opndV, hl] at hc
                simp only [opndV, hg, hsc, hl, cond_true, Option.some.injEq] at hc
                have : boolOf (some s) = some b := by obtain ⟨sc, sv⟩ := s; simp only at hc; subst hc; rfl
                rw [this, hw]
                cases want <;> rfl
          exact opnd_sound hs this hz
        | const _ => exact opnd_sound hs hh hz
        | global _ => exact opnd_sound hs hh hz
        | func _ => exact opnd_sound hs hh hz
      cases hb : b with
      | true =>
        subst hb
        have := key true rfl x _ hx
        simpa using this
      | false =>
        subst hb
        have := key false rfl y _ hy
        simpa using this
    · cases h
  · cases h

/-- The value of an operation, as the world sees it; the next state. -/
theorem put_getD {t t' : Nat} {v : Value} (ht : t < a.tmps.size) : (a.put (some t) v).tmps.getD t' undef = if t = t' then v else a.tmps.getD t' undef := by
  simp only [Act.put, Array.getD_eq_getD_getElem?, Array.getElem?_setIfInBounds]
  by_cases h : t = t'
  · subst h; simp [ht]
  · simp [h]

theorem valAt_put {t t' : Nat} {v : Value} (ht : t < a.tmps.size) (hl : t < 1000000) : valAt B (a.put (some t) v) t' = if t = t' then v else valAt B a t' := by
  unfold valAt
  rw [put_getD ht]
  by_cases h : t = t'
  · subst h; rw [if_pos hl, if_pos rfl, if_pos rfl]
  · simp only [if_neg h]

theorem getT_clearCh (d : Nat) (tm : List (Nat × Slot)) (t : Nat) : getT (clearCh d tm) t = (getT tm t).map fun s => bif s.ch.any (fun y => Nat.beq y.1 d) then ⟨[], .c .unk⟩ else s :=
  getT_map (fun s => bif s.ch.any (fun y => Nat.beq y.1 d) then ⟨[], .c .unk⟩ else s) tm t

theorem not_any {d : Nat} {ch : Chain} (h : ch.any (fun y => Nat.beq y.1 d) = false) : ∀ x ∈ ch, x.1 ≠ d := by
  intro x hx e
  have := List.any_eq_false.1 h x hx
  rw [e] at this
  simp at this

theorem notIn_ne {d : Nat} {ch : Chain} (h : notIn (some d) ch = true) : ∀ x ∈ ch, x.1 ≠ d := by
  intro x hx e
  have := List.all_eq_true.1 h x hx
  rw [e] at this
  simp at this

theorem boolSlot_of {tm : List (Nat × Slot)} {t : Nat} : boolSlot tm t = (boolOf (getT tm t)).isSome := by
  unfold boolSlot
  cases h : getT tm t with
  | none => rfl
  | some s =>
    obtain ⟨ch, v⟩ := s
    simp only
    unfold V.isBool boolOf
    split <;> simp_all

theorem holds_bools {tm : List (Nat × Slot)} : ∀ (ch : Chain), holds tm ch = true → ch.all (fun x => boolSlot tm x.1) = true
  | [], _ => rfl
  | (t, w) :: r, h => by
    rw [holds_cons, Bool.and_eq_true] at h
    simp only [List.all_cons, Bool.and_eq_true]
    refine ⟨?_, holds_bools r h.2⟩
    rw [boolSlot_of]
    cases hb : boolOf (getT tm t) with
    | none => rw [hb] at h; simp at h
    | some b => rfl

/-- Slots go from one state to another: bools that are left are as they were. -/
theorem slotAt_move {tm tm' : List (Nat × Slot)} {E' : Env} {w' : World} {v : Value} {s : Slot} (h : SlotAt tm E' w' v s) (hb : ∀ x ∈ s.ch, boolSlot tm' x.1 = true → boolOf (getT tm' x.1) = boolOf (getT tm x.1)) : SlotAt tm' E' w' v s := by
  have key : s.ch.all (fun x => boolSlot tm' x.1) = true → holds tm' s.ch = holds tm s.ch ∧ s.ch.all (fun x => boolSlot tm x.1) = true := by
    intro ha
    have h1 : ∀ x ∈ s.ch, boolOf (getT tm' x.1) = boolOf (getT tm x.1) := fun x hx => hb x hx (List.all_eq_true.1 ha x hx)
    refine ⟨holds_congr _ h1, List.all_eq_true.2 fun x hx => ?_⟩
    have := List.all_eq_true.1 ha x hx
    rw [boolSlot_of] at this ⊢
    rw [← h1 x hx]; exact this
  refine ⟨fun hh => ?_, fun ha hh => ?_⟩
  · have := key (holds_bools _ hh)
    exact h.1 (by rw [← this.1]; exact hh)
  · have := key ha
    exact h.2 this.2 (by rw [← this.1]; exact hh)

theorem boolOf_clear {d : Nat} {tm : List (Nat × Slot)} {t : Nat} (h : boolSlot (clearCh d tm) t = true) : boolOf (getT (clearCh d tm) t) = boolOf (getT tm t) := by
  rw [boolSlot_of] at h
  rw [getT_clearCh] at h ⊢
  cases hx : getT tm t with
  | none => rfl
  | some s =>
    rw [hx] at h
    simp only [Option.map_some] at h ⊢
    cases hc : s.ch.any (fun y => Nat.beq y.1 d) with
    | false => rfl
    | true => rw [hc] at h; simp [boolOf] at h

/-- The slots behind a put, whatever the rest. -/
theorem slots_put {tm : List (Nat × Slot)} {E' : Env} {w' : World} {ch : Chain} {d : Nat} {v : V} {v' : Value} (hlt : d < a.tmps.size) (hlow : d < 1000000) (hsl : ∀ t s, getT tm t = some s → SlotAt tm E' w' (valAt B a t) s)
    (hcd : ∀ x ∈ ch, x.1 ≠ d) (hv : SlotAt tm E' w' v' { ch, v }) : ∀ t s, getT (putT (clearCh d tm) d { ch, v }) t = some s → SlotAt (putT (clearCh d tm) d { ch, v }) E' w' (valAt B (a.put (some d) v') t) s := by
  have hb : ∀ c : Chain, (∀ x ∈ c, x.1 ≠ d) → ∀ x ∈ c, boolSlot (putT (clearCh d tm) d { ch, v }) x.1 = true → boolOf (getT (putT (clearCh d tm) d { ch, v }) x.1) = boolOf (getT tm x.1) := by
    intro c hc x hx h
    rw [boolSlot_of, getT_putT, if_neg (fun e => hc x hx e.symm)] at h
    rw [getT_putT, if_neg (fun e => hc x hx e.symm)]
    exact boolOf_clear (by rw [boolSlot_of]; exact h)
  intro t s hg
  rw [getT_putT] at hg
  rw [valAt_put hlt hlow]
  split at hg
  · next e =>
    subst e; cases hg
    rw [if_pos rfl]
    exact slotAt_move hv (hb ch hcd)
  · next e =>
    rw [if_neg e]
    rw [getT_clearCh] at hg
    cases hx : getT tm t with
    | none => rw [hx] at hg; cases hg
    | some y =>
      rw [hx] at hg
      simp only [Option.map_some, Option.some.injEq] at hg
      cases hc : y.ch.any (fun y => Nat.beq y.1 d) with
      | true =>
        rw [hc, cond_true] at hg; subst hg
        exact ⟨fun _ => .unk _, fun _ h => by simp [holds] at h⟩
      | false =>
        rw [hc, cond_false] at hg; subst hg
        exact slotAt_move (hsl t _ hx) (hb _ (not_any hc))

theorem slots_kill {kl : List Nat} {tm : List (Nat × Slot)} {E' : Env} {w' : World} (hr : ∀ v d, RepV E w v d → RepV E' w' v (d.killAll kl)) (hsl : ∀ t s, getT tm t = some s → SlotAt tm E w (valAt B a t) s) :
    ∀ t s, getT (killT kl tm) t = some s → SlotAt (killT kl tm) E' w' (valAt B a t) s := by
  intro t s hg
  rw [getT_killT] at hg
  cases hx : getT tm t with
  | none => rw [hx] at hg; cases hg
  | some y =>
    rw [hx] at hg; cases hg
    refine slotAt_move (tm := tm) ⟨fun h => hr _ _ ((hsl t y hx).1 h), (hsl t y hx).2⟩ fun x _ _ => ?_
    rw [getT_killT, boolOf_kill]

theorem sim_after (hs : Sim N B σ E a w) {rc : Rec} {E' : Env} {w' : World} {v' : Value} {M : Nat} (hM : σ.nx ≤ M) (hnid : rc.nid < M) (hP : Post E w σ.hp rc.nid rc.res E' w' v') (hh : holds σ.tm rc.ch = true)
    (hd : dstOk N rc.dst = true) (hn : rc.ch.isEmpty = true ∨ notIn rc.dst rc.ch = true) : Sim N B { after σ rc with nx := M } E' (a.put rc.dst v') w' := by
  have hlive : ∀ q, M ≤ q → ¬ E'.live q := by
    intro q hq h
    rcases hP.live q h with h | h
    · exact hs.live q (by omega) h
    · omega
  have hown : ∀ o b, E'.live o → E'.conc o = some b → B.W.heap.size ≤ b ∨ B.mb b := by
    intro o b ho h
    rcases hP.st.concnew o b ho h with ⟨o, h1, h2⟩ | h
    · exact hs.own o b h1 h2
    · have := hs.base.size; exact .inl (by omega)
  have hold : ∀ b, E'.ok b → B.ok b ∨ B.W.heap.size ≤ b ∨ B.mb b := by
    intro b hb
    rcases hP.st.okold b hb with h | h | ⟨o, h1, h2⟩
    · exact hs.okold b h
    · have := hs.base.size; exact .inr (.inl (by omega))
    · exact .inr (hs.own o b h1 h2)
  have hbase : BelowM B.mb B.W.heap.size B.W w' := by
    refine ⟨hP.st.os.trans hs.base.os, hP.st.tape.trans hs.base.tape, hP.st.output.trans hs.base.output, Nat.le_trans hs.base.size hP.st.size, fun k hk hm => ?_⟩
    rw [hP.st.blk k (by have := hs.base.size; omega) fun o ho h => by
      rcases hs.own o k ho h with h | h
      · omega
      · exact hm h]
    exact hs.base.block k hk hm
  have hkill := slots_kill (kl := rc.res.kill) (E' := E') (w' := w') (fun v d h => h.step hP.st hs.heap.sep hs.heap.oklt) hs.slots
  cases hdst : rc.dst with
  | none =>
    refine ⟨hs.size, hs.small, hs.defers, hlive, hP.heap, fun t s hg => ?_, hbase, hown, hold⟩
    simp only [after, hdst] at hg ⊢
    exact hkill t s hg
  | some d =>
    rw [hdst] at hd hn
    simp only [dstOk, Nat.blt_eq] at hd
    have hlt : d < a.tmps.size := by rw [hs.size]; exact hd
    have hcd : ∀ x ∈ rc.ch, x.1 ≠ d := by
      rcases hn with hn | hn
      · intro x hx; rw [List.isEmpty_iff.1 hn] at hx; simp at hx
      · exact notIn_ne hn
    refine ⟨by simp [Act.put, hs.size], hs.small, hs.defers, hlive, hP.heap, ?_, hbase, hown, hold⟩
    simp only [after, hdst]
    refine slots_put hlt (by have := hs.small; omega) hkill hcd ⟨fun _ => hP.val, fun _ h => ?_⟩
    rw [holds_killT, hh] at h
    cases h
end
end Go.Ax

/- Regions that run in the order of the text. -/
namespace Go.Ax
open Go.RowKit

section
variable {P : Program} {N : Nat} {B : Base} {σ σ' : St} {E : Env} {a : Act} {w : World} {C : FuncId → Option CC}

/-- An operation whose guard says no. -/
theorem sim_skip (hs : Sim N B σ E a w) {rc : Rec} {M : Nat} (hf : ¬ E.live rc.nid) (hM : σ.nx ≤ M) (hnid : rc.nid < M) (hh : holds σ.tm rc.ch = false) (he : rc.res.eff = []) (hk : rc.res.kill = []) (hn : notIn rc.dst rc.ch = true)
    (hd : dstOk N rc.dst = true) : Sim N B { after σ rc with nx := M } (E.next rc.nid none 0 0 E.ok) (a.put rc.dst undef) w := by
  have hS : Step E w [] (E.next rc.nid none 0 0 E.ok) w := next_step hf none 0 0 E.ok (.refl _ _) (by simp) (fun _ h => h) (fun _ h => .inl h)
  have hN : HeapAt (E.next rc.nid none 0 0 E.ok) w σ.hp := next_heap hf hs.heap (.refl _ _) (by simp) (fun _ h => h) (fun _ h => .inl h) hs.heap.oklt
  have hown : ∀ o b, (E.next rc.nid none 0 0 E.ok).live o → (E.next rc.nid none 0 0 E.ok).conc o = some b → B.W.heap.size ≤ b ∨ B.mb b := by
    intro o b ho h
    rcases hS.concnew o b ho h with ⟨o, h1, h2⟩ | h
    · exact hs.own o b h1 h2
    · have := hs.base.size; exact .inl (by omega)
  have hlive : ∀ q, M ≤ q → ¬ (E.next rc.nid none 0 0 E.ok).live q := by
    rintro q hq (h | h)
    · omega
    · exact hs.live q (by omega) h
  have hslot : ∀ t s, getT σ.tm t = some s → SlotAt σ.tm (E.next rc.nid none 0 0 E.ok) w (valAt B a t) s := fun t s hg =>
    ⟨fun h => rep_next hs.heap hS ((hs.slots t s hg).1 h), (hs.slots t s hg).2⟩
  have hkT : killT rc.res.kill σ.tm = σ.tm := by rw [hk]; rfl
  have hkH : rc.res.eff ++ killH rc.res.kill σ.hp = σ.hp := by rw [he, hk]; rfl
  cases hdst : rc.dst with
  | none =>
    refine ⟨hs.size, hs.small, hs.defers, hlive, by simp only [after]; rw [hkH]; exact hN, fun t s hg => ?_, hs.base, hown, hs.okold⟩
    simp only [after, hdst] at hg ⊢
    rw [hkT] at hg ⊢
    exact hslot t s hg
  | some d =>
    rw [hdst] at hd hn
    simp only [dstOk, Nat.blt_eq] at hd
    have hlt : d < a.tmps.size := by rw [hs.size]; exact hd
    refine ⟨by simp [Act.put, hs.size], hs.small, hs.defers, hlive, by simp only [after]; rw [hkH]; exact hN, ?_, hs.base, hown, hs.okold⟩
    simp only [after, hdst]
    rw [hkT]
    refine slots_put hlt (by have := hs.small; omega) hslot (notIn_ne hn) ⟨fun h => ?_, fun _ _ => rfl⟩
    have h' : holds σ.tm rc.ch = true := h
    rw [hh] at h'
    cases h'

theorem imps_out {tm : List (Nat × Slot)} {ch : Chain} {ps : List Prop} (h : ∀ p ∈ imps tm ch ps, p) (hh : holds tm ch = true) : ∀ p ∈ ps, p := by
  intro p hp
  cases ch with
  | nil => exact h p hp
  | cons x l => exact h _ (List.mem_map.2 ⟨p, hp, rfl⟩) hh

theorem guardOk_bools {tm : List (Nat × Slot)} {c ch : Chain} (h : ch.all (fun x => guardOk tm c x.1) = true) : ch.all (fun x => boolSlot tm x.1) = true := by
  refine List.all_eq_true.2 fun x hx => ?_
  have := List.all_eq_true.1 h x hx
  unfold guardOk at this
  unfold boolSlot
  split at this
  · simp only [Bool.and_eq_true] at this; exact this.1
  · cases this

/-- What a record says of its making. -/
theorem recOf_some {ops : List Oper} {nid : Nat} {o : Oper} {rc : Rec} (h : recOf P C N ops σ nid o = some rc) :
    dstOk N o.dst = true ∧ guardCh ops σ.tm o.guard = some rc.ch ∧ rc.ch.all (fun x => guardOk σ.tm rc.ch x.1) = true ∧ evalOp P C σ nid rc.ch o = some (rc.vs, rc.res) ∧
      (rc.ch.isEmpty || (rc.res.eff.isEmpty && rc.res.kill.isEmpty && notIn o.dst rc.ch)) = true ∧ rc.dst = o.dst ∧ rc.nid = nid ∧ rc.rds = opTmps (opnds o.op) ++ rc.ch.map (·.1) ∧ rc.reach = reachOf σ.hp rc.vs ∧ rc.rws = solidOf σ.hp rc.vs := by
  unfold recOf at h
  cases hd : dstOk N o.dst with
  | false => simp [hd] at h
  | true =>
    simp only [hd, cond_true] at h
    split at h
    · next ch hch =>
      cases hb : ch.all (fun x => guardOk σ.tm ch x.1) with
      | false => simp [hb] at h
      | true =>
        simp only [hb, cond_true] at h
        split at h
        · next vs r hr =>
          cases hc : (ch.isEmpty || (r.eff.isEmpty && r.kill.isEmpty && notIn o.dst ch)) with
          | false => simp [hc] at h
          | true =>
            simp only [hc, cond_true, Option.some.injEq] at h
            subst h
            exact ⟨rfl, hch, hb, hr, hc, rfl, rfl, rfl, rfl, rfl⟩
        · cases h
    · cases h

/-- One operation of a region. -/
theorem step_wp (hC : ∀ f con, C f = some con → MeetsC P f con) (hs : Sim N B σ E a w) {ops : Array Oper} {i : Nat} {o : Oper} (hi : ops[i]? = some o) {nid M : Nat} (hf : ¬ E.live nid) (hM : σ.nx ≤ M) (hnid : nid < M)
    {rc : Rec} (h : recOf P C N ops.toList σ nid o = some rc) (hp : ∀ p ∈ imps σ.tm rc.ch rc.res.pre, p) {K : Act → World → Prop} {Q : Exit → Act → World → Prop}
    (hK : ∀ E' a' w', Sim N B { after σ rc with nx := M } E' a' w' → (∀ q, E'.live q → E.live q ∨ q = nid) → K a' w') : wpOp P ops Q i K a w := by
  obtain ⟨hd, hch, hb, hr, hc, e1, e2, _, _⟩ := recOf_some h
  rw [← e1] at hd hc
  rw [← e2] at hnid hf hK
  unfold wpOp
  rw [hi]
  simp only
  rw [guard_sound hs hch (guardOk_bools hb), ← e1]
  cases hh : holds σ.tm rc.ch with
  | false =>
    rw [if_neg (by simp)]
    have hne : rc.ch.isEmpty = false := by
      cases hx : rc.ch with
      | nil => rw [hx] at hh; simp [holds] at hh
      | cons => rfl
    rw [hne, Bool.false_or] at hc
    simp only [Bool.and_eq_true, List.isEmpty_iff] at hc
    exact hK _ _ _ (sim_skip hs hf hM hnid hh hc.1.1 hc.1.2 hc.2 hd) next_live
  | true =>
    rw [if_pos rfl]
    left
    have hpp := imps_out hp hh
    have hn : rc.ch.isEmpty = true ∨ notIn rc.dst rc.ch = true := by
      simp only [Bool.or_eq_true, Bool.and_eq_true] at hc
      exact hc.imp id (·.2)
    unfold evalOp at hr
    split at hr
    · next c x y ho =>
      cases hv : pickV σ rc.ch c x y with
      | none => simp [hv] at hr
      | some v =>
        simp only [hv, Option.map_some, Option.some.injEq, Prod.mk.injEq] at hr
        obtain ⟨b, hb, hrep⟩ := pick_sound hs hh hv
        unfold Oper.wp
        have hrun : (execOp a.eval o).run P w = .ok (.value (if b then a.eval x else a.eval y)) w := by
          simp [execOp, ho, hb, asBool]
        rw [hrun]
        have hP : Post E w σ.hp rc.nid rc.res (E.next rc.nid none 0 0 E.ok) w (if b then a.eval x else a.eval y) := by
          have hS : Step E w [] (E.next rc.nid none 0 0 E.ok) w := next_step hf none 0 0 E.ok (.refl _ _) (by simp) (fun _ h => h) (fun _ h => .inl h)
          rw [← hr.2]
          exact ⟨hS, next_heap hf hs.heap (.refl _ _) (by simp) (fun _ h => h) (fun _ h => .inl h) hs.heap.oklt, rep_next hs.heap hS hrep, next_live⟩
        have hfin := hK _ _ _ (sim_after hs hM hnid hP hh hd hn) hP.live
        rw [e1] at hfin
        exact hfin
    · next op hnp =>
      split at hr
      · next vs hvs =>
        cases hov : opV P C σ.hp nid o vs with
        | none => simp [hov] at hr
        | some r =>
          simp only [hov, Option.map_some, Option.some.injEq, Prod.mk.injEq] at hr
          obtain ⟨rfl, rfl⟩ := hr
          rw [← e2] at hov
          refine op_sound hs.heap hf hC (opnds_sound hs hh hvs) hov hpp fun E' w' v' hP => ?_
          have hfin := hK _ _ _ (sim_after hs hM hnid hP hh hd hn) hP.live
          rw [e1] at hfin
          exact hfin
      · cases hr

theorem getT_dropCh (tm : List (Nat × Slot)) (t : Nat) : getT (dropCh tm) t = (getT tm t).map fun s => bif s.ch.isEmpty then s else ⟨[], .c .unk⟩ :=
  getT_map (fun s => bif s.ch.isEmpty then s else ⟨[], .c .unk⟩) tm t

theorem sim_drop (hs : Sim N B σ E a w) : Sim N B { σ with tm := dropCh σ.tm } E a w := by
  refine ⟨hs.size, hs.small, hs.defers, hs.live, hs.heap, fun t s hg => ?_, hs.base, hs.own, hs.okold⟩
  simp only at hg ⊢
  rw [getT_dropCh] at hg
  cases hx : getT σ.tm t with
  | none => rw [hx] at hg; cases hg
  | some y =>
    rw [hx] at hg
    simp only [Option.map_some, Option.some.injEq] at hg
    cases hc : y.ch.isEmpty with
    | false =>
      rw [hc, cond_false] at hg; subst hg
      exact ⟨fun _ => .unk _, fun _ h => by simp [holds] at h⟩
    | true =>
      rw [hc, cond_true] at hg; subst hg
      have hch : y.ch = [] := List.isEmpty_iff.1 hc
      have := hs.slots t y hx
      exact ⟨fun _ => this.1 (by rw [hch]; rfl), fun _ h => by rw [hch] at h; simp [holds] at h⟩

theorem goOps_wp (hC : ∀ f con, C f = some con → MeetsC P f con) {ops : Array Oper} {Q : Exit → Act → World → Prop} : ∀ (rest : List Oper) (i : Nat) (σ σ' : St) (ps : List Prop) (E : Env) (a : Act) (w : World),
    ops.toList.drop i = rest → goOps P C N ops.toList rest σ = some (ps, σ') → (∀ p ∈ ps, p) → Sim N B σ E a w → (∀ E' a' w', Sim N B σ' E' a' w' → Q .normal a' w') → wpOps P ops Q (List.range' i rest.length) a w
  | [], i, σ, σ', ps, E, a, w, hd, hg, hp, hs, hQ => by
    simp only [goOps, Option.some.injEq, Prod.mk.injEq] at hg
    obtain ⟨rfl, rfl⟩ := hg
    exact hQ _ _ _ (sim_drop hs)
  | o :: rest, i, σ, σ', ps, E, a, w, hd, hg, hp, hs, hQ => by
    rw [goOps] at hg
    split at hg
    · next rc h1 =>
      split at hg
      · next qs σ2 h2 =>
        simp only [Option.some.injEq, Prod.mk.injEq] at hg
        obtain ⟨rfl, rfl⟩ := hg
        have hi : ops[i]? = some o := by
          have := congrArg (·[0]?) hd
          simpa using this
        rw [List.length_cons, List.range'_succ, wpOps_cons]
        refine step_wp (M := σ.nx + 1) hC hs hi (hs.live _ (Nat.le_refl _)) (Nat.le_succ _) (Nat.lt_succ_self _) h1 (fun p hp' => hp p (List.mem_append_left _ hp')) fun E' a' w' hs' _ => ?_
        refine goOps_wp hC rest (i + 1) { after σ rc with nx := σ.nx + 1 } _ qs E' a' w' ?_ h2 (fun p hp' => hp p (List.mem_append_right _ hp')) hs' hQ
        rw [← List.drop_drop, hd]
        rfl
      · cases hg
    · cases hg

theorem region_wp (hC : ∀ f con, C f = some con → MeetsC P f con) {id : Nat} {ops : Array Oper} {Q : Exit → Act → World → Prop} {ps : List Prop} (hg : goOps P C N ops.toList ops.toList σ = some (ps, σ')) (hp : ∀ p ∈ ps, p)
    (hs : Sim N B σ E a w) (hQ : ∀ E' a' w', Sim N B σ' E' a' w' → Q .normal a' w') : (Code.region id ops false).wp P Q a w := by
  refine wp_region ?_
  have := goOps_wp hC (Q := Q) ops.toList 0 σ σ' ps E a w rfl hg hp hs hQ
  rw [List.range_eq_range']
  simpa using this
end
end Go.Ax

/- Regions that run in the order of the text, parted at their guards. -/
namespace Go.Ax
open Go.RowKit

section
variable {P : Program} {N : Nat} {B : Base} {σ σ' : St} {E : Env} {a : Act} {w : World} {C : FuncId → Option CC}

theorem allP_split : ∀ {ps : List Prop} {Q : Prop}, allP ps Q → (∀ p ∈ ps, p) ∧ Q
  | [], _, h => ⟨fun p hp => by simp at hp, h⟩
  | p :: ps, Q, h => by
    obtain ⟨h1, h2⟩ := allP_split h.2
    refine ⟨fun q hq => ?_, h2⟩
    rcases List.mem_cons.1 hq with rfl | hq
    · exact h.1
    · exact h1 q hq
theorem allP_mono {ps : List Prop} {Q Q' : Prop} (hq : Q → Q') : allP ps Q → allP ps Q' := by
  induction ps with
  | nil => exact hq
  | cons p ps ih => exact fun h => ⟨h.1, ih h.2⟩

/-- A slot's value, written anew. -/
theorem sim_setT (hs : Sim N B σ E a w) {t : Nat} {s : Slot} (hg : getT σ.tm t = some s) : Sim N B { σ with tm := putT σ.tm t s } E a w := by
  have hx : ∀ x, getT (putT σ.tm t s) x = getT σ.tm x := by
    intro x
    rw [getT_putT]
    split
    · next e => subst e; exact hg.symm
    · rfl
  refine ⟨hs.size, hs.small, hs.defers, hs.live, hs.heap, fun q y hq => ?_, hs.base, hs.own, hs.okold⟩
  simp only at hq ⊢
  rw [hx] at hq
  exact slotAt_move (tm := σ.tm) (hs.slots q y hq) fun z _ _ => by rw [hx]

theorem run_wp (hC : ∀ f con, C f = some con → MeetsC P f con) (hs : Sim N B σ E a w) {ops : Array Oper} {i : Nat} {o : Oper} (hi : ops[i]? = some o) {ch : Chain} (hch : guardCh ops.toList σ.tm o.guard = some ch)
    (hb : ch.all (fun x => boolSlot σ.tm x.1) = true) (hh : holds σ.tm ch = true) {k : St → Prop} (h : stepS P C N ops.toList σ o k) {K : Act → World → Prop} {Q : Exit → Act → World → Prop}
    (hK : ∀ σ' E' a' w', k σ' → Sim N B σ' E' a' w' → K a' w') : wpOp P ops Q i K a w := by
  unfold stepS at h
  split at h
  · next rc hr =>
    obtain ⟨hp, hk⟩ := allP_split h
    have hr' : recOf P C N (#[{ o with guard := none }] : Array Oper).toList σ σ.nx { o with guard := none } = some rc := hr
    have hch0 : rc.ch = [] := by
      obtain ⟨_, h1, _⟩ := recOf_some hr
      have : guardCh ops.toList σ.tm none = some rc.ch := h1
      simpa [guardCh] using this.symm
    have := step_wp (Q := Q) (M := σ.nx + 1) hC hs (ops := #[{ o with guard := none }]) (i := 0) rfl (hs.live _ (Nat.le_refl _)) (Nat.le_succ _) (Nat.lt_succ_self _) hr' (by rw [hch0]; exact hp)
      (K := K) fun E' a' w' hs' _ => hK _ E' a' w' hk hs'
    unfold wpOp at this ⊢
    rw [hi]
    simp only
    rw [guard_sound hs hch hb, hh, if_pos rfl]
    have e : (#[{ o with guard := none }] : Array Oper)[0]? = some { o with guard := none } := rfl
    rw [e] at this
    simp only [Region.wanted, if_true] at this
    exact this
  · exact h.elim

theorem skip_wp (hs : Sim N B σ E a w) {ops : Array Oper} {i : Nat} {o : Oper} (hi : ops[i]? = some o) {ch : Chain} (hch : guardCh ops.toList σ.tm o.guard = some ch)
    (hb : ch.all (fun x => boolSlot σ.tm x.1) = true) (hh : holds σ.tm ch = false) {k : St → Prop} (h : skipS N σ o ch k) {K : Act → World → Prop} {Q : Exit → Act → World → Prop}
    (hK : ∀ σ' E' a' w', k σ' → Sim N B σ' E' a' w' → K a' w') : wpOp P ops Q i K a w := by
  unfold skipS at h
  cases hc : (dstOk N o.dst && notIn o.dst ch) with
  | false => rw [hc] at h; exact h.elim
  | true =>
    rw [hc, cond_true] at h
    rw [Bool.and_eq_true] at hc
    unfold wpOp
    rw [hi]
    simp only
    rw [guard_sound hs hch hb, hh, if_neg (by simp)]
    exact hK _ _ _ _ h (sim_skip hs (rc := skipRec o ch σ.nx) (hs.live _ (Nat.le_refl _)) (Nat.le_succ _) (Nat.lt_succ_self _) hh rfl rfl hc.2 hc.1)

theorem goS_wp (hC : ∀ f con, C f = some con → MeetsC P f con) {ops : Array Oper} {Q : Exit → Act → World → Prop} : ∀ (rest : List Oper) (i : Nat) (σ : St) (K : St → Prop) (E : Env) (a : Act) (w : World),
    ops.toList.drop i = rest → goS P C N ops.toList rest σ K → Sim N B σ E a w → (∀ σ' E' a' w', K σ' → Sim N B σ' E' a' w' → Q .normal a' w') → wpOps P ops Q (List.range' i rest.length) a w
  | [], i, σ, K, E, a, w, hd, hg, hs, hQ => by
    rw [goS] at hg
    exact hQ _ _ _ _ hg (sim_drop hs)
  | o :: rest, i, σ, K, E, a, w, hd, hg, hs, hQ => by
    have hi : ops[i]? = some o := by
      have := congrArg (·[0]?) hd
      simpa using this
    have hd' : ops.toList.drop (i + 1) = rest := by
      rw [← List.drop_drop, hd]; rfl
    have next : ∀ σ' E' a' w', goS P C N ops.toList rest σ' K → Sim N B σ' E' a' w' → wpOps P ops Q (List.range' (i + 1) rest.length) a' w' :=
      fun σ' E' a' w' h hs' => goS_wp hC rest (i + 1) σ' K E' a' w' hd' h hs' hQ
    rw [List.length_cons, List.range'_succ, wpOps_cons]
    rw [goS] at hg
    split at hg
    · next hgn => exact run_wp hC hs hi (ch := []) (by rw [hgn]; rfl) rfl rfl hg next
    · next g hgn =>
      split at hg
      · next t wt ch hch =>
        cases hb : ((t, wt) :: ch).all (fun x => guardOk σ.tm ((t, wt) :: ch) x.1) with
        | false => rw [hb] at hg; exact hg.elim
        | true =>
          rw [hb, cond_true] at hg
          have hbs := guardOk_bools hb
          rw [← hgn] at hch
          split at hg
          · next c0 b hgt =>
            cases hh : holds σ.tm ch with
            | false =>
              rw [hh, cond_false] at hg
              exact skip_wp hs hi hch hbs (by rw [holds_cons, hh, Bool.and_false]) hg next
            | true =>
              rw [hh, cond_true] at hg
              have hhold : holds σ.tm ((t, wt) :: ch) = (b == wt) := by rw [holds_cons, hh, Bool.and_true, hgt]; rfl
              -- the state with the guard's value written out
              have hsame : ∀ b', b = b' → (∀ x, getT (putT σ.tm t ⟨c0, bl b'⟩) x = getT σ.tm x) := by
                intro b' e x
                subst e
                rw [getT_putT]
                split
                · next e => subst e; exact hgt.symm
                · rfl
              have hgc : ∀ b', b = b' → guardCh ops.toList (putT σ.tm t ⟨c0, bl b'⟩) o.guard = some ((t, wt) :: ch) := by
                intro b' e
                rw [← hch]
                unfold guardCh
                split
                · rfl
                · split
                  · split
                    · rw [hsame b' e]
                    · rfl
                  · rfl
              have hbc : ∀ b', b = b' → ((t, wt) :: ch).all (fun x => boolSlot (putT σ.tm t ⟨c0, bl b'⟩) x.1) = true := by
                intro b' e
                rw [← hbs]
                congr 1
                funext x
                unfold boolSlot
                rw [hsame b' e]
              have hho : ∀ b', b = b' → holds (putT σ.tm t ⟨c0, bl b'⟩) ((t, wt) :: ch) = (b' == wt) := by
                intro b' e
                rw [holds_congr (tm := σ.tm) _ fun x _ => by rw [hsame b' e], hhold, e]
              cases hbv : b with
              | true =>
                rw [hbv, cond_true] at hg
                have hs' := sim_setT hs hgt
                rw [hbv] at hs'
                cases wt with
                | true => rw [cond_true] at hg; exact run_wp hC hs' hi (hgc true hbv) (hbc true hbv) (hho true hbv) hg next
                | false => rw [cond_false] at hg; exact skip_wp hs' hi (hgc true hbv) (hbc true hbv) (hho true hbv) hg next
              | false =>
                rw [hbv, cond_false] at hg
                have hs' := sim_setT hs hgt
                rw [hbv] at hs'
                cases wt with
                | true => rw [cond_true] at hg; exact skip_wp hs' hi (hgc false hbv) (hbc false hbv) (hho false hbv) hg next
                | false => rw [cond_false] at hg; exact run_wp hC hs' hi (hgc false hbv) (hbc false hbv) (hho false hbv) hg next
          · exact hg.elim
      · exact hg.elim

theorem regionS_wp (hC : ∀ f con, C f = some con → MeetsC P f con) {id : Nat} {ops : Array Oper} {Q : Exit → Act → World → Prop} {K : St → Prop} (hg : goS P C N ops.toList ops.toList σ K)
    (hs : Sim N B σ E a w) (hQ : ∀ σ' E' a' w', K σ' → Sim N B σ' E' a' w' → Q .normal a' w') : (Code.region id ops false).wp P Q a w := by
  refine wp_region ?_
  have := goS_wp hC (Q := Q) ops.toList 0 σ K E a w rfl hg hs hQ
  rw [List.range_eq_range']
  simpa using this

theorem stepS_mono {all : List Oper} {o : Oper} {k k' : St → Prop} (hk : ∀ σ, k σ → k' σ) (h : stepS P C N all σ o k) : stepS P C N all σ o k' := by
  unfold stepS at h ⊢
  split at h
  · next rc hr => exact allP_mono (hk _) h
  · exact h.elim
theorem skipS_mono {o : Oper} {ch : Chain} {k k' : St → Prop} (hk : ∀ σ, k σ → k' σ) (h : skipS N σ o ch k) : skipS N σ o ch k' := by
  unfold skipS at h ⊢
  cases hc : (dstOk N o.dst && notIn o.dst ch) with
  | false => rw [hc] at h; exact h.elim
  | true => rw [hc, cond_true] at h; rw [cond_true]; exact hk _ h
theorem goS_mono {all : List Oper} {K K' : St → Prop} (hk : ∀ σ, K σ → K' σ) : ∀ (rest : List Oper) (σ : St), goS P C N all rest σ K → goS P C N all rest σ K'
  | [], σ, h => by rw [goS] at h ⊢; exact hk _ h
  | o :: r, σ, h => by
    have ih : ∀ σ, goS P C N all r σ K → goS P C N all r σ K' := goS_mono hk r
    rw [goS] at h ⊢
    split
    · next hg => rw [hg] at h; exact stepS_mono ih h
    · next g hg =>
      rw [hg] at h
      simp only at h
      split
      · next t w ch hch =>
        rw [hch] at h
        simp only at h
        cases hb : ((t, w) :: ch).all (fun x => guardOk σ.tm ((t, w) :: ch) x.1) with
        | false => rw [hb] at h; exact h.elim
        | true =>
          rw [hb, cond_true] at h
          rw [cond_true]
          split
          · next c0 b hgt =>
            rw [hgt] at h
            simp only at h
            cases hh : holds σ.tm ch with
            | false => rw [hh, cond_false] at h; rw [cond_false]; exact skipS_mono ih h
            | true =>
              rw [hh, cond_true] at h
              rw [cond_true]
              cases b with
              | true =>
                cases w with
                | true => exact stepS_mono ih h
                | false => exact skipS_mono ih h
              | false =>
                cases w with
                | true => exact skipS_mono ih h
                | false => exact stepS_mono ih h
          · next hgt =>
            split at h
            · next c0 b hgt' => exact (hgt c0 b hgt').elim
            · exact h.elim
      · next hch =>
        split at h
        · next t w ch hch' => exact (hch t w ch hch').elim
        · exact h.elim
end
end Go.Ax

/- Regions that draw their order: operations that do not see each other change places. -/
namespace Go.Ax
open Go.RowKit

section
variable {P : Program} {N : Nat} {B : Base} {σ σ' : St} {E : Env} {a : Act} {w : World} {C : FuncId → Option CC}

mutual
theorem kill_noUnk (o : Nat) : ∀ v : V, (v.kill o).noUnk = true → v.kill o = v
  | .c _, _ => rfl
  | .agg vs, h => by simp only [V.kill, V.noUnk] at h ⊢; rw [kills_noUnk o vs h]
  | .tup vs, h => by simp only [V.kill, V.noUnk] at h ⊢; rw [kills_noUnk o vs h]
  | .ptr o' k i j, h => by
    rw [V.kill] at h ⊢
    cases hb : Nat.beq o' o
    · rfl
    · rw [hb] at h; simp [V.noUnk] at h
  | .row o' k i j, h => by
    rw [V.kill] at h ⊢
    cases hb : Nat.beq o' o
    · rfl
    · rw [hb] at h; simp [V.noUnk] at h
  | .dptr .., _ => rfl
  | .fn _ vs, h => by simp only [V.kill, V.noUnk] at h ⊢; rw [kills_noUnk o vs h]
theorem kills_noUnk (o : Nat) : ∀ vs : List V, V.noUnks (V.kills o vs) = true → V.kills o vs = vs
  | [], _ => rfl
  | v :: r, h => by
    simp only [V.kills, V.noUnks, Bool.and_eq_true] at h ⊢
    rw [kill_noUnk o v h.1, kills_noUnk o r h.2]
end

theorem killAll_noUnk : ∀ (kl : List Nat) (v : V), (v.killAll kl).noUnk = true → v.killAll kl = v
  | [], _, _ => rfl
  | o :: r, v, h => by
    rw [V.killAll] at h ⊢
    have h1 := killAll_noUnk r _ h
    rw [h1] at h ⊢
    exact kill_noUnk o v h

mutual
theorem kill_norefs (o : Nat) : ∀ v : V, v.refs = [] → v.kill o = v
  | .c _, _ => rfl
  | .agg vs, h => by simp only [V.kill]; rw [kills_norefs o vs h]
  | .tup vs, h => by simp only [V.kill]; rw [kills_norefs o vs h]
  | .ptr o' k i j, h => by simp [V.refs] at h
  | .row o' k i j, h => by simp [V.refs] at h
  | .dptr .., _ => rfl
  | .fn _ vs, h => by simp only [V.kill]; rw [kills_norefs o vs h]
theorem kills_norefs (o : Nat) : ∀ vs : List V, V.refss vs = [] → V.kills o vs = vs
  | [], _ => rfl
  | v :: r, h => by
    simp only [V.refss, List.append_eq_nil_iff] at h
    simp only [V.kills]
    rw [kill_norefs o v h.1, kills_norefs o r h.2]
end

theorem killAll_norefs : ∀ (kl : List Nat) (v : V), v.refs = [] → v.killAll kl = v
  | [], _, _ => rfl
  | o :: r, v, h => by rw [V.killAll, kill_norefs o v h, killAll_norefs r v h]

mutual
theorem kill_disj (o : Nat) : ∀ (v : V), o ∉ v.refs → v.kill o = v
  | .c _, _ => rfl
  | .agg vs, h => by rw [V.kill, kills_disj o vs (by rw [V.refs] at h; exact h)]
  | .tup vs, h => by rw [V.kill, kills_disj o vs (by rw [V.refs] at h; exact h)]
  | .ptr o' k i j, h => by
    rw [V.kill]
    cases hb : Nat.beq o' o with
    | false => rfl
    | true => exact (h (by rw [V.refs, Nat.eq_of_beq_eq_true hb]; simp)).elim
  | .row o' k i j, h => by
    rw [V.kill]
    cases hb : Nat.beq o' o with
    | false => rfl
    | true => exact (h (by rw [V.refs, Nat.eq_of_beq_eq_true hb]; simp)).elim
  | .dptr .., _ => rfl
  | .fn f vs, h => by rw [V.kill, kills_disj o vs (by rw [V.refs] at h; exact h)]
theorem kills_disj (o : Nat) : ∀ (vs : List V), o ∉ V.refss vs → V.kills o vs = vs
  | [], _ => rfl
  | v :: r, h => by
    rw [V.refss, List.mem_append] at h
    rw [V.kills, kill_disj o v (fun e => h (.inl e)), kills_disj o r (fun e => h (.inr e))]
end
theorem killAll_disj : ∀ (kl : List Nat) (v : V), (∀ q ∈ v.refs, q ∉ kl) → v.killAll kl = v
  | [], _, _ => rfl
  | o :: r, v, h => by
    rw [V.killAll, kill_disj o v (fun ho => h o ho (by simp)), killAll_disj r v fun q hq hr => h q hq (by simp [hr])]

theorem disj_spec {a b : List Nat} (h : disj a b = true) : ∀ x ∈ a, x ∉ b := by
  intro x hx hb
  have := List.all_eq_true.1 h x hx
  simp only [Bool.not_eq_true'] at this
  have := List.any_eq_false.1 this x hb
  simp at this

/-! The heap is asked for reachable objects alone. -/

theorem vrow_agree {H H' : Heap} {o k off n : Nat} (h : H.get o = H'.get o) : vrow H o k off n = vrow H' o k off n := by unfold vrow; rw [h]

theorem mem_reach_box {H : Heap} {vs : List V} {o : Nat} {cs : List V} (ho : o ∈ V.refss vs) (hb : H.get o = some (.box cs)) {q : Nat} (hq : q ∈ V.refss cs) : q ∈ reachOf H vs :=
  List.mem_append_right _ (List.mem_flatMap.2 ⟨o, ho, by rw [hb]; exact hq⟩)
theorem mem_reach {H : Heap} {vs : List V} {o : Nat} (ho : o ∈ V.refss vs) : o ∈ reachOf H vs := List.mem_append_left _ ho

theorem restr_congr {H H' : Heap} : ∀ (os : List Nat), (∀ o ∈ os, H.get o = H'.get o) → restr os H = restr os H'
  | [], _ => rfl
  | o :: r, h => by
    unfold restr
    rw [h o (by simp), restr_congr r fun o ho => h o (by simp [ho])]

/-- Two heaps agree on what some references reach. -/
structure Agree (H H' : Heap) (os : List Nat) : Prop where
  one : ∀ o ∈ os, H.get o = H'.get o
  two : ∀ o ∈ os, ∀ cs, H.get o = some (.box cs) → ∀ q ∈ V.refss cs, H.get q = H'.get q

theorem Agree.sub {H H' : Heap} {os os' : List Nat} (h : Agree H H' os) (hs : ∀ o ∈ os', o ∈ os) : Agree H H' os' := ⟨fun o ho => h.one o (hs o ho), fun o ho => h.two o (hs o ho)⟩

theorem agree_reach {H H' : Heap} {vs : List V} (h : ∀ o ∈ reachOf H vs, H.get o = H'.get o) : Agree H H' (V.refss vs) :=
  ⟨fun o ho => h o (mem_reach ho), fun o ho cs hb q hq => h q (mem_reach_box ho hb hq)⟩

theorem reach_agree {H H' : Heap} {vs : List V} (h : Agree H H' (V.refss vs)) : reachOf H vs = reachOf H' vs := by
  unfold reachOf
  congr 1
  have : ∀ (l : List Nat), (∀ o ∈ l, H.get o = H'.get o) → l.flatMap (fun o => match H.get o with | some (.box cs) => V.refss cs | _ => []) = l.flatMap (fun o => match H'.get o with | some (.box cs) => V.refss cs | _ => []) := by
    intro l
    induction l with
    | nil => intro _; rfl
    | cons x l ih =>
      intro hl
      rw [List.flatMap_cons, List.flatMap_cons, hl x (by simp), ih fun o ho => hl o (by simp [ho])]
  exact this _ h.one

theorem agree_get {H H' : Heap} {vs : List V} (h : Agree H H' (V.refss vs)) {o : Nat} (ho : o ∈ reachOf H vs) : H.get o = H'.get o := by
  unfold reachOf at ho
  rcases List.mem_append.1 ho with ho | ho
  · exact h.one o ho
  · obtain ⟨q, hq, ho⟩ := List.mem_flatMap.1 ho
    cases hg : H.get q with
    | none => rw [hg] at ho; simp at ho
    | some b =>
      rw [hg] at ho
      cases b with
      | box cs => exact h.two q hq cs hg o ho
      | row t k n el => simp at ho
      | raw x => simp at ho
theorem solidOf_agree {H H' : Heap} {vs : List V} (h : Agree H H' (V.refss vs)) : solidOf H vs = solidOf H' vs := by
  unfold solidOf
  rw [← reach_agree h]
  have key : ∀ l : List Nat, (∀ o ∈ l, H.get o = H'.get o) → (l.all fun o => solid (H.get o)) = (l.all fun o => solid (H'.get o)) ∧ (l.flatMap fun o => boxRefs (H.get o)) = l.flatMap fun o => boxRefs (H'.get o) := by
    intro l
    induction l with
    | nil => intro _; exact ⟨rfl, rfl⟩
    | cons x l ih =>
      intro h
      obtain ⟨i1, i2⟩ := ih fun o ho => h o (by simp [ho])
      rw [List.all_cons, List.all_cons, List.flatMap_cons, List.flatMap_cons, h x (by simp), i1, i2]
      exact ⟨rfl, rfl⟩
  obtain ⟨k1, k2⟩ := key _ fun o ho => agree_get h ho
  rw [k1, k2]
theorem cellD_agree {H H' : Heap} {v : V} (h : ∀ o ∈ v.refs, H.get o = H'.get o) : cellD H v = cellD H' v := by
  cases v with
  | row o k off n => simp only [cellD, vrow_agree (h o (by simp [V.refs]))]
  | _ => rfl

theorem vptr_agree {H H' : Heap} {o k i j : Nat} (h : Agree H H' [o]) : vptr H o k i j = vptr H' o k i j := by
  unfold vptr
  have h1 := h.one o (by simp)
  cases hg : H.get o with
  | none => rw [← h1, hg]
  | some ob =>
    cases ob with
    | row t k' n el => rw [← h1, hg]
    | raw x => rw [← h1, hg]
    | box cs =>
      have : cs.map (cellD H) = cs.map (cellD H') := List.map_congr_left fun v hv => cellD_agree fun q hq => by
        obtain ⟨i, hi⟩ := List.getElem?_of_mem hv
        exact h.two o (by simp) cs hg q (refss_mem hi hq)
      rw [← h1, hg]
      simp only [this]

mutual
theorem view_agree {H H' : Heap} : ∀ (v : V), Agree H H' v.refs → v.view H = v.view H'
  | .c .nil, _ => rfl
  | .c .unk, _ => rfl
  | .c (.lit _), _ => rfl
  | .c (.opt ..), _ => rfl
  | .c .any, _ => rfl
  | .c (.sl ..), _ => rfl
  | .agg vs, h => by rw [V.view, V.view, views_agree vs h]
  | .tup vs, h => by rw [V.view, V.view, views_agree vs h]
  | .ptr o k i j, h => by rw [V.view, V.view]; exact vptr_agree h
  | .row o k off n, h => by rw [V.view, V.view]; exact vrow_agree (h.one o (by simp [V.refs]))
  | .dptr .., _ => by rw [V.view, V.view]
  | .fn f vs, h => by rw [V.view, V.view, views_agree vs h]
theorem views_agree {H H' : Heap} : ∀ (vs : List V), Agree H H' (V.refss vs) → V.views H vs = V.views H' vs
  | [], _ => rfl
  | v :: r, h => by
    rw [V.views, V.views, view_agree v (h.sub fun o ho => by simp [V.refss, ho]), views_agree r (h.sub fun o ho => by simp [V.refss, ho])]
end

theorem buildF_agree {nid : Nat} {t : TypeId} {len : Nat} {ps : List Nat} : ∀ (fl : List Nat) (H H' : Heap) (vs : List V), (∀ o ∈ fl, H.get o = H'.get o) → buildF P nid t len ps fl H vs = buildF P nid t len ps fl H' vs
  | [], _, _, _, _ => rfl
  | q :: fl, H, H', vs, h => by
    rw [buildF, buildF, ← h q (by simp)]
    split
    · exact congrArg _ (buildF_agree fl _ _ _ fun o ho => by simp only [Heap.get_cons, get_killH1, h o (by simp [ho])])
    · rfl

theorem opV_agree {H H' : Heap} {nid : Nat} {o : Oper} {vs : List V} (h : Agree H H' (V.refss vs)) : opV P C H nid o vs = opV P C H' nid o vs := by
  unfold opV
  split <;> try rfl
  · exact buildF_agree _ _ _ _ fun o ho => h.one o ho
  · next t x a _ =>
    have key : ∀ a, (∀ q ∈ a.refs, H.get q = H'.get q) → loadV P H t a = loadV P H' t a := by
      intro a h
      unfold loadV
      cases a with
      | ptr q k i j => simp only [h q (by simp [V.refs])]
      | _ => rfl
    unfold loadX
    split
    · next f q k i j kk ix kn n => simp only [h.one q (by simp [V.refss, V.refs])]
    · exact key _ fun q hq => h.one q (by simp [V.refss, hq])
  · next t x y a b _ =>
    have key : ∀ a, (∀ q ∈ a.refs, H.get q = H'.get q) → storeV P H t a b = storeV P H' t a b := by
      intro a h
      unfold storeV
      cases a with
      | ptr q k i j => simp only [h q (by simp [V.refs])]
      | _ => rfl
    unfold storeX
    split
    · next f q k i j kk ix kn n => simp only [h.one q (by simp [V.refss, V.refs])]
    · exact key _ fun q hq => h.one q (by simp [V.refss, hq])
  · next a b x d _ =>
    have hx : asSl H d = asSl H' d := by
      unfold asSl
      cases d with
      | row q k off n => simp only [h.one q (by simp [V.refss, V.refs])]
      | c d => cases d <;> rfl
      | _ => rfl
    unfold bytesV
    rw [hx]
  · next t x y a b _ =>
    have key : ∀ u : Option TypeDesc, P.underlying t = u → indexAddrV P H t a b = indexAddrV P H' t a b := by
      intro u hu
      unfold indexAddrV
      rw [hu]
      by_cases hb : ∃ kk i, b = .c (.lit (.int kk i))
      · obtain ⟨kk, i, rfl⟩ := hb
        cases u with
        | none => rfl
        | some d =>
          cases a with
          | ptr q k i j =>
            have hq := h.one q (by simp [V.refss, V.refs])
            cases d <;> first | rfl | simp only [hq]
          | c a => cases a <;> cases d <;> rfl
          | _ => cases d <;> rfl
      · split <;> first | rfl | exact (hb ⟨_, _, rfl⟩).elim | (split <;> first | rfl | exact (hb ⟨_, _, rfl⟩).elim)
    exact key _ rfl
  · next x a _ =>
    unfold nextV
    cases a with
    | ptr q k i j => simp only [h.one q (by simp [V.refss, V.refs])]
    | _ => rfl
  · next args ats x _ =>
    have hc : ∀ t, clearV P H t x = clearV P H' t x := by
      intro t
      have key : ∀ u : Option TypeDesc, P.underlying t = u → clearV P H t x = clearV P H' t x := by
        intro u hu
        unfold clearV
        rw [hu]
        cases u with
        | none => rfl
        | some d =>
          cases x with
          | row q k off n =>
            have hq := h.one q (by simp [V.refss, V.refs])
            cases d <;> first | rfl | simp only [hq]
          | _ => cases d <;> rfl
      exact key _ rfl
    simp only [hc]
  · next args ats s x _ =>
    have hx : asSl H x = asSl H' x := by
      unfold asSl
      cases x with
      | row q k off n => simp only [h.one q (by simp [V.refss, V.refs])]
      | c d => cases d <;> rfl
      | _ => rfl
    have ha : ∀ t, appendV P H nid t s x = appendV P H' nid t s x := by
      intro t
      unfold appendV
      rw [hx]
      cases s with
      | row q k off n => simp only [h.one q (by simp [V.refss, V.refs])]
      | c d => cases d <;> rfl
      | _ => rfl
    simp only [ha]
  · next f args ats g caps ds _ =>
    unfold callV
    have hag : Agree H H' (V.refss (ds ++ caps)) := by
      refine h.sub fun q hq => ?_
      have : ∀ (l1 l2 : List V), q ∈ V.refss (l1 ++ l2) → q ∈ V.refss l1 ∨ q ∈ V.refss l2 := by
        intro l1 l2
        induction l1 with
        | nil => intro h; exact .inr h
        | cons x l ih =>
          intro h
          simp only [List.cons_append, V.refss, List.mem_append] at h ⊢
          rcases h with h | h
          · exact .inl (.inl h)
          · exact (ih h).imp .inr id
      simp only [V.refss, V.refs, List.mem_append]
      exact (this _ _ hq).symm
    have hr : restr (reachOf H (ds ++ caps)) H = restr (reachOf H' (ds ++ caps)) H' := by
      rw [← reach_agree hag]
      refine restr_congr _ fun o ho => ?_
      rcases List.mem_append.1 ho with ho | ho
      · exact hag.one o ho
      · obtain ⟨q, hq, ho⟩ := List.mem_flatMap.1 ho
        cases hg : H.get q with
        | none => rw [hg] at ho; simp at ho
        | some b =>
          cases b with
          | box cs => rw [hg] at ho; exact hag.two q hq cs hg o ho
          | row t k n el => rw [hg] at ho; simp at ho
          | raw x => rw [hg] at ho; simp at ho
    rw [views_agree _ hag, hr]
end
end Go.Ax

/- Two operations that do not see each other change places. -/
namespace Go.Ax
open Go.RowKit

section
variable {P : Program} {N : Nat} {B : Base} {σ σ' : St} {E : Env} {a : Act} {w : World} {C : FuncId → Option CC} {all : List Oper}

def killObs : List Nat → Option Ob → Option Ob
  | [], b => b
  | o :: r, b => killObs r (killOb o b)

theorem get_killH : ∀ (kl : List Nat) (H : Heap) (q : Nat), Heap.get (killH kl H) q = killObs kl (Heap.get H q)
  | [], H, q => rfl
  | o :: r, H, q => by
    have h1 := get_killH1 o H q
    rw [killH, get_killH r, killObs]
    simp only [killH] at h1
    rw [h1]

theorem get_append : ∀ (A H : Heap) (q : Nat), Heap.get (A ++ H) q = if q ∈ keysOf A then Heap.get A q else Heap.get H q
  | [], H, q => by simp [keysOf]
  | (p, b) :: A, H, q => by
    rw [List.cons_append, Heap.get_cons, Heap.get_cons, get_append A H q]
    by_cases h : p = q
    · subst h; simp [keysOf]
    · simp only [if_neg h, keysOf, List.map_cons, List.mem_cons]
      have : ¬ q = p := fun e => h e.symm
      simp only [this, false_or]
      rfl

theorem get_after (r : Rec) (q : Nat) : Heap.get (after σ r).hp q = if q ∈ keysOf r.res.eff then Heap.get r.res.eff q else killObs r.res.kill (Heap.get σ.hp q) := by
  rw [after, get_append, get_killH]

def clr (dst : Option Nat) (s : Slot) : Slot := match dst with | some d => bif s.ch.any (fun y => Nat.beq y.1 d) then ⟨[], .c .unk⟩ else s | none => s

theorem getT_after (r : Rec) (t : Nat) : getT (after σ r).tm t = if r.dst = some t then some ⟨r.ch, r.res.val⟩ else (getT σ.tm t).map fun s => clr r.dst ⟨s.ch, s.v.killAll r.res.kill⟩ := by
  unfold after clr
  cases hd : r.dst with
  | none => simp only [reduceCtorEq, if_false]; rw [getT_killT]
  | some d =>
    simp only [Option.some.injEq]
    rw [getT_putT]
    split
    · rfl
    · rw [getT_clearCh, getT_killT]
      cases getT σ.tm t <;> rfl

theorem mem_dstL {d : Option Nat} {t : Nat} : t ∈ dstL d ↔ d = some t := by
  cases d with
  | none => simp [dstL]
  | some x => simp [dstL, eq_comm]

theorem slot_back {r : Rec} {t : Nat} {s : Slot} (h : getT (after σ r).tm t = some s) (ht : t ∉ dstL r.dst) (hn : s.v.noUnk = true) : getT σ.tm t = some s := by
  rw [getT_after, if_neg (fun e => ht (mem_dstL.2 e))] at h
  cases hx : getT σ.tm t with
  | none => rw [hx] at h; cases h
  | some y =>
    rw [hx] at h
    simp only [Option.map_some, Option.some.injEq] at h
    have : clr r.dst ⟨y.ch, y.v.killAll r.res.kill⟩ = ⟨y.ch, y.v.killAll r.res.kill⟩ := by
      unfold clr
      cases hd : r.dst with
      | none => rfl
      | some d =>
        simp only
        cases hc : y.ch.any (fun z => Nat.beq z.1 d) with
        | false => rfl
        | true =>
          simp only [clr, hd, hc, cond_true] at h
          subst h
          simp [V.noUnk] at hn
    rw [this] at h
    subst h
    have := killAll_noUnk _ _ hn
    obtain ⟨ych, yv⟩ := y
    simp only at this ⊢
    rw [this]

theorem slot_forth {r : Rec} {t : Nat} {s : Slot} (h : getT σ.tm t = some s) (ht : t ∉ dstL r.dst) (hk : ∀ q ∈ s.v.refs, q ∉ r.res.kill) (hc : ∀ x ∈ s.ch, x.1 ∉ dstL r.dst) : getT (after σ r).tm t = some s := by
  rw [getT_after, if_neg (fun e => ht (mem_dstL.2 e)), h]
  simp only [Option.map_some, Option.some.injEq]
  have e1 : s.v.killAll r.res.kill = s.v := killAll_disj _ _ hk
  rw [e1]
  unfold clr
  cases hd : r.dst with
  | none => rfl
  | some d =>
    simp only
    have : s.ch.any (fun z => Nat.beq z.1 d) = false := by
      refine List.any_eq_false.2 fun x hx => ?_
      have := hc x hx
      rw [hd] at this
      intro hb
      exact this (by simp [dstL, Nat.eq_of_beq_eq_true hb])
    rw [this]
    rfl

theorem mem_opTmps : ∀ {xs : List Operand} {t : Nat}, t ∈ opTmps xs ↔ Operand.tmp t ∈ xs
  | [], t => by simp [opTmps]
  | .tmp q :: r, t => by simp [opTmps, mem_opTmps (xs := r)]
  | .const v :: r, t => by simp [opTmps, mem_opTmps (xs := r)]
  | .global g :: r, t => by simp [opTmps, mem_opTmps (xs := r)]
  | .func f :: r, t => by simp [opTmps, mem_opTmps (xs := r)]

theorem subCh_ids {c ch : Chain} (h : subCh c ch = true) : ∀ x ∈ c, x.1 ∈ ch.map (·.1) := by
  intro x hx
  have := List.all_eq_true.1 h x hx
  unfold inCh at this
  obtain ⟨y, hy, hyx⟩ := List.any_eq_true.1 this
  simp only [Bool.and_eq_true, Nat.beq_eq] at hyx
  rw [hyx.1]
  exact List.mem_map.2 ⟨y, hy, rfl⟩

theorem noUnks_mem : ∀ {vs : List V} {v : V}, V.noUnks vs = true → v ∈ vs → v.noUnk = true
  | x :: r, v, h, hv => by
    simp only [V.noUnks, Bool.and_eq_true] at h
    rcases List.mem_cons.1 hv with rfl | hv
    · exact h.1
    · exact noUnks_mem h.2 hv

/-- What an operand that is a slot says. -/
theorem opndV_tmp {ch : Chain} {t : Nat} {v : V} (h : opndV σ ch (.tmp t) = some v) : ∃ s, getT σ.tm t = some s ∧ subCh s.ch ch = true ∧ s.v = v := by
  unfold opndV at h
  cases hl : Nat.blt t 1000000 with
  | false => simp [hl] at h
  | true =>
    simp only [hl, cond_true] at h
    split at h
    · next s hg =>
      cases hc : subCh s.ch ch with
      | false => simp [hc] at h
      | true => simp only [hc, cond_true, Option.some.injEq] at h; exact ⟨s, hg, hc, h⟩
    · cases h

theorem opndsV_mem {ch : Chain} : ∀ {xs : List Operand} {vs : List V}, opndsV σ ch xs = some vs → ∀ x ∈ xs, ∃ v ∈ vs, opndV σ ch x = some v
  | [], vs, h, x, hx => by simp at hx
  | y :: xs, vs, h, x, hx => by
    unfold opndsV at h
    rw [List.mapM_cons] at h
    simp only [Option.bind_eq_bind, Option.pure_def, Option.bind_eq_some_iff, Option.some.injEq] at h
    obtain ⟨d, hd, ds, hds, rfl⟩ := h
    rcases List.mem_cons.1 hx with rfl | hx
    · exact ⟨d, by simp, hd⟩
    · obtain ⟨v, hv, h⟩ := opndsV_mem (xs := xs) hds x hx
      exact ⟨v, by simp [hv], h⟩

theorem pickV_slots {ch : Chain} {c x y : Operand} {v : V} (h : pickV σ ch c x y = some v) :
    ∃ b p q : Bool, opndV σ ch c = some (bl b) ∧ opndV σ (chFor c true ch) x = some (bl p) ∧ opndV σ (chFor c false ch) y = some (bl q) ∧ v = bl (bif b then p else q) := by
  unfold pickV at h
  split at h
  · next b hc =>
    split at h
    · next p q hx hy => cases h; exact ⟨b, p, q, hc, hx, hy, rfl⟩
    · cases h
  · cases h

theorem chFor_ids {c : Operand} {wt : Bool} {ch : Chain} {i : Nat} (h : i ∈ (chFor c wt ch).map (·.1)) : i ∈ ch.map (·.1) ∨ c = .tmp i := by
  unfold chFor at h
  split at h
  · simp only [List.map_cons, List.mem_cons] at h
    rcases h with rfl | h
    · exact .inr rfl
    · exact .inl h
  · exact .inl h

/-- Every slot that a record read. -/
theorem rds_slots {nid : Nat} {o : Oper} {rc : Rec} (h : recOf P C N all σ nid o = some rc) (hn : V.noUnks rc.vs = true) {t : Nat} (ht : t ∈ rc.rds) :
    ∃ s, getT σ.tm t = some s ∧ s.v.noUnk = true ∧ (∀ x ∈ s.ch, x.1 ∈ rc.rds) ∧ ∀ q ∈ s.v.refs, q ∈ V.refss rc.vs := by
  obtain ⟨hd, hch, hb, hr, hc, e1, e2, e3, e4, e5⟩ := recOf_some h
  have hids : ∀ i, i ∈ rc.ch.map (·.1) → i ∈ rc.rds := fun i hi => by rw [e3]; exact List.mem_append_right _ hi
  have hbool : ∀ {s : Slot} {b : Bool}, s.v = bl b → s.v.noUnk = true ∧ ∀ q ∈ s.v.refs, q ∈ V.refss rc.vs := by
    intro s b e; rw [e]; exact ⟨rfl, fun q hq => by simp [V.refs] at hq⟩
  rw [e3, List.mem_append] at ht
  rcases ht with ht | ht
  · have hto := mem_opTmps.1 ht
    unfold evalOp at hr
    split at hr
    · next c x y ho =>
      cases hv : pickV σ rc.ch c x y with
      | none => simp [hv] at hr
      | some v =>
        obtain ⟨b, p, q, h1, h2, h3, _⟩ := pickV_slots hv
        have hcr : ∀ i, c = .tmp i → i ∈ rc.rds := fun i hi => by rw [e3, ho]; exact List.mem_append_left _ (mem_opTmps.2 (by simp [opnds, Op.operands, hi]))
        rw [ho] at hto
        have hto' : Operand.tmp t = c ∨ Operand.tmp t = x ∨ Operand.tmp t = y := by simpa [opnds, Op.operands] using hto
        rcases hto' with rfl | rfl | rfl
        · obtain ⟨s, g1, g2, g3⟩ := opndV_tmp h1
          exact ⟨s, g1, (hbool g3).1, fun z hz => hids _ (subCh_ids g2 z hz), (hbool g3).2⟩
        · obtain ⟨s, g1, g2, g3⟩ := opndV_tmp h2
          exact ⟨s, g1, (hbool g3).1, fun z hz => (chFor_ids (subCh_ids g2 z hz)).elim (hids _) (hcr _), (hbool g3).2⟩
        · obtain ⟨s, g1, g2, g3⟩ := opndV_tmp h3
          exact ⟨s, g1, (hbool g3).1, fun z hz => (chFor_ids (subCh_ids g2 z hz)).elim (hids _) (hcr _), (hbool g3).2⟩
    · next op hnp =>
      split at hr
      · next vs hvs =>
        cases hov : opV P C σ.hp nid o vs with
        | none => simp [hov] at hr
        | some r =>
          simp only [hov, Option.map_some, Option.some.injEq, Prod.mk.injEq] at hr
          obtain ⟨rfl, _⟩ := hr
          obtain ⟨v, hv, hov'⟩ := opndsV_mem hvs _ hto
          obtain ⟨s, g1, g2, rfl⟩ := opndV_tmp hov'
          refine ⟨s, g1, noUnks_mem hn hv, fun z hz => hids _ (subCh_ids g2 z hz), fun q hq => ?_⟩
          obtain ⟨i, hi⟩ := List.getElem?_of_mem hv
          exact refss_mem hi hq
      · cases hr
  · obtain ⟨x, hx, rfl⟩ := List.mem_map.1 ht
    have hg := List.all_eq_true.1 hb x hx
    unfold guardOk at hg
    split at hg
    · next s hs =>
      simp only [Bool.and_eq_true] at hg
      have : ∃ b, s.v = bl b := by
        have := hg.1
        unfold V.isBool at this
        split at this
        · next b e => exact ⟨b, e⟩
        · cases this
      obtain ⟨b, hbv⟩ := this
      exact ⟨s, hs, (hbool hbv).1, fun z hz => hids _ (subCh_ids hg.2 z hz), (hbool hbv).2⟩
    · cases hg

/-- A record depends on what it read alone. -/
theorem recOf_congr {nid : Nat} {o : Oper} {rc : Rec} (h : recOf P C N all σ nid o = some rc) (hA : ∀ t ∈ rc.rds, getT σ'.tm t = getT σ.tm t) (hB : Agree σ.hp σ'.hp (V.refss rc.vs)) :
    recOf P C N all σ' nid o = some rc ∧ holds σ'.tm rc.ch = holds σ.tm rc.ch := by
  obtain ⟨hd, hch, hb, hr, hc, e1, e2, e3, e4, e5⟩ := recOf_some h
  have hid : ∀ x ∈ rc.ch, getT σ'.tm x.1 = getT σ.tm x.1 := fun x hx => hA _ (by rw [e3]; exact List.mem_append_right _ (List.mem_map.2 ⟨x, hx, rfl⟩))
  have hop : ∀ (x : Operand), x ∈ opnds o.op → ∀ ch, opndV σ' ch x = opndV σ ch x := by
    intro x hx ch
    cases x with
    | tmp t => unfold opndV; simp only [hA t (by rw [e3]; exact List.mem_append_left _ (mem_opTmps.2 hx))]
    | _ => rfl
  have g1 : guardCh all σ'.tm o.guard = some rc.ch := by
    have hch' := hch
    unfold guardCh at hch ⊢
    split at hch
    · exact hch
    · next j wt _ =>
      split at hch
      · next oj hj =>
        split at hch
        · next t ht =>
          cases hl : Nat.blt t 1000000 with
          | false => simp [hl] at hch
          | true =>
            simp only [hl, cond_true] at hch ⊢
            split at hch
            · next ch' b hg =>
              simp only [Option.some.injEq] at hch
              have := hid (t, wt) (by rw [← hch]; simp)
              rw [this, hg]
              simp only [hch]
            · cases hch
        · cases hch
      · cases hch
  have g2 : rc.ch.all (fun x => guardOk σ'.tm rc.ch x.1) = true := by
    refine List.all_eq_true.2 fun x hx => ?_
    have := List.all_eq_true.1 hb x hx
    unfold guardOk at this ⊢
    rw [hid x hx]
    exact this
  have g3 : evalOp P C σ' nid rc.ch o = some (rc.vs, rc.res) := by
    rw [← hr]
    unfold evalOp at hr ⊢
    split
    · next c x y ho =>
      rw [ho] at hop
      have : pickV σ' rc.ch c x y = pickV σ rc.ch c x y := by
        unfold pickV
        rw [hop c (by simp [opnds, Op.operands]), hop x (by simp [opnds, Op.operands]), hop y (by simp [opnds, Op.operands])]
      rw [this]
    · next op hnp =>
      have : ∀ (xs : List Operand), (∀ x ∈ xs, x ∈ opnds o.op) → opndsV σ' rc.ch xs = opndsV σ rc.ch xs := by
        intro xs
        induction xs with
        | nil => intro _; rfl
        | cons x l ih =>
          intro hx
          unfold opndsV at ih ⊢
          rw [List.mapM_cons, List.mapM_cons, hop x (hx x (by simp)), ih fun z hz => hx z (by simp [hz])]
      rw [this _ fun x hx => hx]
      split at hr
      · next c x y ho => exact (hnp c x y ho).elim
      · split at hr
        · next vs hvs =>
          cases hov : opV P C σ.hp nid o vs with
          | none => simp [hov] at hr
          | some r =>
            simp only [hov, Option.map_some, Option.some.injEq, Prod.mk.injEq] at hr
            obtain ⟨rfl, _⟩ := hr
            rw [← opV_agree hB, hov]
        · cases hr
  have hreach : reachOf σ'.hp rc.vs = rc.reach := by rw [e4]; exact (reach_agree hB).symm
  have hrows : solidOf σ'.hp rc.vs = rc.rws := by rw [e5]; exact (solidOf_agree hB).symm
  refine ⟨?_, holds_congr _ fun x hx => by rw [hid x hx]⟩
  unfold recOf
  rw [hd, cond_true, g1]
  simp only
  rw [g2, cond_true, g3]
  simp only
  rw [hc, cond_true, hreach, hrows]
  rw [← e1, ← e2, ← e3]
end
end Go.Ax
