import Derived.Test.YtchffdmfiffifaaAx9
import Derived.Laws.BytesString
import Derived.Laws.RangeString
/- Walks over strings, bytes as strings, parts that are cleared. -/
namespace Go.Ax
open Go.RowKit

section
variable {P : Program} {ρ : Operand → Value} {E : Env} {w w' : World} {o : Oper} {r : Res} {H : Heap} {nid : Nat}

def env00 (ok : Nat → Prop) : Env := ⟨fun _ => none, fun _ => 0, fun _ => 0, fun _ => False, ok⟩
/-- A new object of any kind. -/
theorem new_raw (hH : HeapAt E w H) (hf : ¬ E.live nid) (x : Obj) (he : r.eff = [(nid, some (.raw x))]) (hk : r.kill = []) {v' : Value}
    (hv : ∀ (E' : Env) (w' : World), E'.live nid → E'.conc nid = some w.heap.size → E'.len nid = 1 → RepV E' w' v' r.val) :
    Post E w H nid r (E.next nid (some w.heap.size) 0 1 E.ok) (w.alloc x) v' := by
  have hb : Below w.heap.size w (w.alloc x) := (Below.refl _ _).alloc (Nat.le_refl _) _
  have hcc : ∀ b, some w.heap.size = some b → w.heap.size ≤ b ∧ b < (w.alloc x).heap.size ∧ ¬ E.ok b := by
    intro b e; cases e
    exact ⟨Nat.le_refl _, by simp, fun h => by have := hH.oklt _ h; omega⟩
  have hS : Step E w [] (E.next nid (some w.heap.size) 0 1 E.ok) (w.alloc x) := next_step hf _ 0 1 E.ok hb (fun b h => (hcc b h).1) (fun _ h => h) (fun _ h => .inl h)
  have hN := next_heap (cap := 0) (len := 1) hf hH hb hcc (fun _ h => h) (fun _ h => .inl h) (fun b h => by have := hH.oklt b h; simp; omega)
  have e1 : (E.next nid (some w.heap.size) 0 1 E.ok).conc nid = some w.heap.size := by simp [Env.next]
  have e3 : (E.next nid (some w.heap.size) 0 1 E.ok).len nid = 1 := by simp [Env.next]
  refine ⟨by rw [hk]; exact hS, ?_, hv _ _ (.inl rfl) e1 e3, next_live⟩
  rw [he, hk]
  exact heap_cons hN (.inl rfl) ⟨e3, _, e1, heap_alloc_new w _⟩

def setB (w : World) (b : Nat) (x : Obj) : World := { w with heap := w.heap.setIfInBounds b x }
theorem setB_heap {w : World} {b : Nat} (x : Obj) (h : b < w.heap.size) : (setB w b x).heap[b]? = some x := by
  simp [setB, h]
theorem setB_other {w : World} {b b' : Nat} (x : Obj) (h : b ≠ b') : (setB w b x).heap[b']? = w.heap[b']? := by
  simp [setB, Array.getElem?_setIfInBounds, h]

/-- A block of an own object is written anew. -/
theorem set_post (hH : HeapAt E w H) (hf : ¬ E.live nid) {q b : Nat} (hq : E.live q) (hb : E.conc q = some b) (x : Obj) {ob : Ob} (he : r.eff = [(q, some ob)]) (hk : r.kill = [])
    (hob : ∀ (E' : Env), E'.conc q = some b → E'.cap q = E.cap q → E'.len q = E.len q → (∀ v d, RepV E w v d → RepV E' (setB w b x) v d) → (∀ v d, RepD E.ok w v d → RepD E'.ok (setB w b x) v d) → ObAt E' (setB w b x) q ob)
    {v' : Value} (hv : ∀ (E' : Env) (w' : World), RepV E' w' v' r.val) : Post E w H nid r (E.next nid none 0 0 E.ok) (setB w b x) v' := by
  have hS : Step E w [] (E.next nid none 0 0 E.ok) (setB w b x) := by
    refine ⟨rfl, rfl, rfl, by simp [setB], fun _ h => .inr h, fun b' hlt hno => setB_other x (fun e => hno q hq (by rw [hb, e])), fun _ h => h, fun _ h => .inl h, fun q hq _ => conc_next hf hq, fun q b' hq h' => ?_⟩
    rcases next_case hq h' with ⟨_, h1, h2⟩ | ⟨_, h2⟩
    · exact .inl ⟨_, h1, h2⟩
    · cases h2
  have hr : ∀ v d, RepV E w v d → RepV (E.next nid none 0 0 E.ok) (setB w b x) v d := fun v d h => rep_next hH hS h
  have hd : ∀ v d, RepD E.ok w v d → RepD (E.next nid none 0 0 E.ok).ok (setB w b x) v d := fun v d h => repD_next hH hS h
  have hcase : ∀ q b, (E.next nid none 0 0 E.ok).live q → (E.next nid none 0 0 E.ok).conc q = some b → E.live q ∧ E.conc q = some b := by
    intro q b hq h
    rcases next_case hq h with ⟨_, h1, h2⟩ | ⟨_, h2⟩
    · exact ⟨h1, h2⟩
    · cases h2
  refine ⟨by rw [hk]; exact hS, ?_, hv _ _, next_live⟩
  rw [he, hk]
  refine ⟨fun q' y hq' => ?_, fun q' q2 b' h1 h2 h h' => ?_, fun q' b' h1 h => ?_, fun q' b' h1 h => ?_, fun b' h => by simp [setB]; exact hH.oklt b' h⟩
  · rw [List.cons_append, List.nil_append, Heap.get_cons] at hq'
    split at hq'
    · next e =>
      subst e; cases hq'
      obtain ⟨c1, c2, c3⟩ := conc_next (c := none) (cap := 0) (len := 0) (ok' := E.ok) hf hq
      exact ⟨.inr hq, hob _ (c1.trans hb) c2 c3 hr hd⟩
    · next hne =>
      obtain ⟨h1, h2⟩ := hH.at_ q' y hq'
      refine ⟨.inr h1, obAt_mono h2 (conc_next hf h1) (fun b' hb' => setB_other x fun e => ?_) hr hd⟩
      subst e
      exact hne (hH.inj _ _ _ hq h1 hb hb')
  · obtain ⟨a1, a2⟩ := hcase q' b' h1 h
    obtain ⟨b1, b2⟩ := hcase q2 b' h2 h'
    exact hH.inj q' q2 b' a1 b1 a2 b2
  · obtain ⟨a1, a2⟩ := hcase q' b' h1 h
    exact hH.sep q' b' a1 a2
  · obtain ⟨a1, a2⟩ := hcase q' b' h1 h
    simp [setB]; exact hH.lt q' b' a1 a2

theorem post_range (hH : HeapAt E w H) (hf : ¬ E.live nid) {t : TypeId} {x : Operand} (ho : o.op = .range t x) {vx : V} (hx : RepV E w (ρ x) vx) (h : rangeV P nid t vx = some r) :
    ∃ E' w' v', (execOp ρ o).run P w = .ok (.value v') w' ∧ Post E w H nid r E' w' v' := by
  unfold rangeV at h
  split at h
  · next s hu =>
    cases h
    have ex := hx.lit_inv
    refine ⟨_, w.alloc (.stringIter s 0), .pointer (some ⟨w.heap.size, 0, none⟩), ?_, new_raw hH hf (.stringIter s 0) rfl rfl fun E' w' h1 h2 h3 => ?_⟩
    · have := run_range_string (P := P) w t s hu
      simp only [execOp, ho, ex, Sem.run_bind, this, Result.andThen_ok]
      rfl
    · have := RepV.ptr (E := E') (w := w') nid 1 0 0 w.heap.size h1 h2 (by omega)
      simpa using this
  · cases h

theorem post_next (hH : HeapAt E w H) (hf : ¬ E.live nid) {x : Operand} (ho : o.op = .next x true) {vx : V} (hx : RepV E w (ρ x) vx) (h : nextV H vx = some r) :
    ∃ E' w' v', (execOp ρ o).run P w = .ok (.value v') w' ∧ Post E w H nid r E' w' v' := by
  unfold nextV at h
  split at h
  · next q k i j =>
    split at h
    · next s pos hg =>
      cases hb0 : Nat.beq (i * k + j) 0 with
      | false => simp [hb0] at h
      | true =>
        simp only [hb0, cond_true, Option.some.injEq] at h
        have h0 := Nat.eq_of_beq_eq_true hb0
        obtain ⟨hl, hlen, b, hb, hh⟩ := hH.at_ _ _ hg
        have ex : ρ x = .pointer (some ⟨b, 0, none⟩) := by
          generalize ρ x = v at hx
          cases hx with
          | ptr _ _ _ _ b' g1 g2 g3 => rw [hb] at g2; cases g2; rw [h0]
        subst h
        have hlt := heap_lt hh
        refine ⟨_, setB w b (.stringIter s (bif Nat.blt pos s.size then pos + runeW s pos else pos)), optVal (Nat.blt pos s.size) [.int .i64 pos, .int .i32 (runeAt s pos)], ?_,
          set_post hH hf hl hb _ (ob := .raw (.stringIter s (bif Nat.blt pos s.size then pos + runeW s pos else pos))) rfl rfl (fun E' h1 h2 h3 _ _ => ⟨h3.trans hlen, b, h1, setB_heap _ hlt⟩) fun E' w' => .c _ _ (.opt _ _)⟩
        by_cases hp : pos < s.size
        · have hp' : Nat.blt pos s.size = true := by simpa using hp
          have : (Instr.next (.pointer (some ⟨b, 0, none⟩)) true o.type).run P w = .ok (.tuple #[.bool true, .int .i64 pos, .int .i32 (runeAt s pos)]) (setB w b (.stringIter s (pos + runeW s pos))) := by
            simp [Instr.next, getObj, setObj, Sem.run, hh, hp, goInt, runeAt, runeW, setB]
          rw [hp']
          simp only [execOp, ho, ex, Sem.run_bind, this, Result.andThen_ok]
          rfl
        · have hp' : Nat.blt pos s.size = false := by
            cases hc : Nat.blt pos s.size with
            | false => rfl
            | true => rw [Nat.blt_eq] at hc; exact (hp hc).elim
          have hw : setB w b (.stringIter s pos) = w := by
            unfold setB
            congr 1
            apply Array.ext_getElem?
            intro i
            by_cases e : b = i
            · subst e; rw [Array.getElem?_setIfInBounds, if_pos rfl, if_pos hlt, hh]
            · rw [Array.getElem?_setIfInBounds, if_neg e]
          have : (Instr.next (.pointer (some ⟨b, 0, none⟩)) true o.type).run P w = .ok (.tuple #[.bool false]) w := by
            simp [Instr.next, getObj, Sem.run, hh, hp]
          rw [hp']
          simp only [execOp, ho, ex, Sem.run_bind, this, Result.andThen_ok, cond_false, hw]
          rfl
    · cases h
  · cases h

theorem foldl_bytes : ∀ (ns : List Int) (s : ByteArray), ns.foldl (fun r n => r.push (UInt8.ofNat n.toNat)) s = ⟨s.data ++ (ns.map fun x => UInt8.ofNat x.toNat).toArray⟩
  | [], s => by simp
  | n :: ns, s => by
    rw [List.foldl_cons, foldl_bytes ns]
    congr 1
    simp [ByteArray.push]

theorem quiet_bytes (hH : HeapAt E w H) {s d e : TypeId} (hs : P.underlying s = some (.slice e)) (hd : P.underlying d = some .string) (he : P.underlying e = some (.int .u8)) {x : Operand} (ho : o.op = .convert s d x) {vx : V} (hx : RepV E w (ρ x) vx)
    (h : bytesV H vx = some r) (hp : ∀ p ∈ r.pre, p) : QRes P ρ o E w r := by
  unfold bytesV at h
  split at h
  · next k n el ha =>
    cases h
    have p1 : 0 < n → k = 1 := hp _ (by simp)
    have p2 : ∀ i, i < n → el i = eU8 (dU8 (el i)) := hp _ (by simp)
    obtain ⟨news, hsrc⟩ := src_of hH hx ha
    obtain ⟨a, c, ev, hc, hm, hcell⟩ := hsrc.form
    refine ⟨rfl, rfl, _, ?_, .lit _⟩
    have key : (Conv.bytesToString (ρ x)).run P w = .ok (.string (bytesL (lst dU8 n el))) w := by
      rw [ev]
      cases n with
      | zero =>
        have hl : lst dU8 0 el = [] := rfl
        rw [hl]
        cases a with
        | none => rfl
        | some ad =>
          have := run_bytesToString (P := P) w ad 0 c [] (by have := run_loadCells (P := P) w ad 0 (fun _ => undef) (fun j hj => by omega); simpa using this)
          rw [this]; rfl
      | succ n =>
        obtain ⟨ad, rfl, hcl⟩ := hcell (by omega)
        have hk := p1 (by omega)
        subst hk
        have hlen := hsrc.len
        have hnews : news = (lst dU8 (n + 1) el).map (Value.int .u8) := by
          refine List.ext_getElem? fun i => ?_
          by_cases hi : i < n + 1
          · have h1 : i < news.length := by rw [hlen]; omega
            have hr := hsrc.rep i 0 (.lit (.int .u8 (dU8 (el i)))) (news[i]) hi (by rw [p2 i hi]; rfl) (by rw [Nat.mul_one, Nat.add_zero]; exact List.getElem?_eq_getElem h1)
            rw [List.getElem?_eq_getElem h1, List.getElem?_map]
            unfold lst
            rw [List.getElem?_map, List.getElem?_range hi]
            simp only [Option.map_some, Option.some.injEq]
            generalize news[i] = z at hr
            generalize dU8 (el i) = y at hr
            cases hr with
            | lit => rfl
          · rw [List.getElem?_eq_none (by rw [hlen]; omega), List.getElem?_eq_none (by simp [lst]; omega)]
        have hload : (loadCells ad (n + 1)).run P w = .ok ((lst dU8 (n + 1) el).map (Value.int .u8)).toArray w := by
          have := run_loadCells_list (P := P) w ad news (fun j v hv => hcl j v hv)
          rw [hlen, Nat.mul_one] at this
          rw [this, hnews]
        rw [run_bytesToString w ad (n + 1) c _ hload, foldl_bytes]
        simp [bytesL]
    rw [ev] at key
    simp [execOp, ho, ev, convert, run_underlying hs, run_underlying hd, run_underlying he, key]
  · cases h

theorem zeroD_cells {e : TypeId} {z : List D} (h : zeroD P e = some z) : ∃ (i : TypeInfo) (v : Value), P.info? e = some i ∧ i.zero = some v ∧ v.cells.size = z.length ∧ (∀ u ∈ v.cells.toList, u.oneCell' = true) ∧
    ∀ (ok : Nat → Prop) (w : World) (j : Nat) (d : D) (u : Value), z[j]? = some d → v.cells[j]? = some u → RepD ok w u d := by
  have h0 := h
  unfold zeroD at h0
  split at h0
  · next zv hzv =>
    obtain ⟨i, v, h1, h2, h3, h4⟩ := zero_rep hzv
    obtain ⟨i', v', g1, g2, g3, g4, g5⟩ := zeroD_rep h
    rw [h1] at g1; cases g1
    rw [h2] at g2; cases g2
    refine ⟨i, v, h1, h2, g3, zero_one v h3 h4 (mapM_cell h0), fun ok w j d u hd hu => ?_⟩
    have := (rep_ofValue_cells (E := env00 ok) (w := w) v h4).2 j u (.c d) (by rw [Array.getElem?_toList]; exact hu) (g4 j d hd)
    cases this with
    | c _ _ h => exact h
  · cases h0

theorem post_clear (hH : HeapAt E w H) (hf : ¬ E.live nid) {c : Call} (ho : o.op = .call c) (hcal : c.callee = .builtin .clear) {x : Operand} (hargs : c.args = #[x]) {t : TypeId} (hat : c.argTypes[0]? = some t) {vx : V} (hx : RepV E w (ρ x) vx)
    (h : clearV P H t vx = some r) : ∃ E' w' v', (execOp ρ o).run P w = .ok (.value v') w' ∧ Post E w H nid r E' w' v' := by
  have run : ∀ w', (Builtin.clear_ c.argTypes o.type #[ρ x]).run P w = .ok (.tuple #[]) w' → (execOp ρ o).run P w = .ok (.value (.tuple #[])) w' := by
    intro w' hn
    simp [execOp, ho, resolve, hcal, hargs, invoke, builtin, hn]
  unfold clearV at h
  split at h
  · next e q k off n hu =>
    split at h
    · next e' k' m el z hg hz =>
      cases hs : (Nat.beq e' e && Nat.beq k' k && Nat.beq k (sz P e) && Nat.beq z.length k && Nat.blt 0 k && known P e) with
      | false => simp [hs] at h
      | true =>
        simp only [hs, cond_true, Option.some.injEq] at h
        simp only [Bool.and_eq_true, Nat.beq_eq, Nat.blt_eq] at hs
        obtain ⟨⟨⟨⟨⟨rfl, rfl⟩, hk1⟩, hk2⟩, hk0⟩, hkn⟩ := hs
        obtain ⟨hl, hob⟩ := hH.at_ _ _ hg
        obtain ⟨i, zv, z1, z2, z3, z4, z5⟩ := zeroD_cells hz
        subst h
        generalize hv : ρ x = v at hx run
        cases hx with
        | row _ _ _ _ a cp hn hc hm hle ha h0 =>
        have hlen : off + n ≤ m := by rw [← hob.1]; exact hle
        by_cases hn0 : n = 0
        · subst hn0
          have hel : (fun q => bif Nat.ble off q && Nat.blt q (off + 0) then z else el q) = el := by
            funext q
            have : (Nat.ble off q && Nat.blt q (off + 0)) = false := by
              cases hc : (Nat.ble off q && Nat.blt q (off + 0)) with
              | false => rfl
              | true => rw [Bool.and_eq_true, Nat.ble_eq, Nat.blt_eq] at hc; omega
            rw [this]; rfl
          rw [hel]
          have hS : Step E w [] (E.next nid none 0 0 E.ok) w := next_step hf none 0 0 E.ok (.refl _ _) (by simp) (fun _ h => h) (fun _ h => .inl h)
          have hN : HeapAt (E.next nid none 0 0 E.ok) w H := next_heap hf hH (.refl _ _) (by simp) (fun _ h => h) (fun _ h => .inl h) hH.oklt
          refine ⟨_, w, .tuple #[], run w ?_, hS, ?_, .c _ _ (.unk _), next_live⟩
          · cases a <;> simp [Builtin.clear_, hat, run_underlying hu]
          · exact heap_cons hN (hN.at_ _ _ hg).1 (hN.at_ _ _ hg).2
        · obtain ⟨b, hb, rfl⟩ := ha (by omega)
          obtain ⟨hlen2, hrow⟩ := hob
          obtain ⟨b', C, c1, c2, c3, c4, c5, c6, c7, c8⟩ := hrow.resolve_left (fun h => by rw [hb] at h; cases h.1)
          rw [hb] at c1; cases c1
          have hfit : off * k' + n * k' ≤ C.size := by
            rw [c3, ← Nat.add_mul]
            exact Nat.mul_le_mul_right _ (by omega)
          have hzl : (Builtin.zeroCells zv.cells n).toList.length = n * k' := by simp [Builtin.zeroCells, z3, hk2]
          have hzu : ∀ q u, (Builtin.zeroCells zv.cells n).toList[q]? = some u → q < n * k' ∧ zv.cells[q % k']? = some u := by
            intro q u hq
            have hlt := (List.getElem?_eq_some_iff.1 hq).1
            rw [hzl] at hlt
            refine ⟨hlt, ?_⟩
            have hm : q % k' < zv.cells.size := by rw [z3, hk2]; exact Nat.mod_lt _ hk0
            rw [Array.getElem?_toList] at hq
            unfold Builtin.zeroCells at hq
            rw [Array.getElem?_map, z3, hk2, Array.getElem?_range, if_pos hlt] at hq
            simp only [Option.map_some, Option.some.injEq] at hq
            rw [getElem!_pos zv.cells _ hm] at hq
            rw [Array.getElem?_eq_getElem hm, hq]
          have hone : ∀ u ∈ (Builtin.zeroCells zv.cells n).toList, u.oneCell' = true := by
            intro u hu'
            obtain ⟨q, hq⟩ := List.getElem?_of_mem hu'
            obtain ⟨_, h2⟩ := hzu q u hq
            exact z4 u (List.mem_of_getElem? (by rw [Array.getElem?_toList]; exact h2))
          have hst := run_storeCells_at P b (off * k') e' (Builtin.zeroCells zv.cells n).toList 0 C w c2 (by rw [hzl]; exact hfit) hone
          rw [Nat.add_zero] at hst
          rw [hzl] at hst
          generalize hC' : (C.toList.take (off * k') ++ (Builtin.zeroCells zv.cells n).toList ++ C.toList.drop (off * k' + n * k')).toArray = C' at hst
          have hrow' : w.setRow b C' = setB w b (.cells C' e' (0, 0)) := by
            have hlt := heap_lt c2
            have h1 := setRow_heap w b C C' e' (0, 0) c2
            unfold World.setRow setB
            unfold World.setRow at h1
            congr 1
            apply Array.ext_getElem?
            intro j
            by_cases e : b = j
            · subst e
              rw [Array.getElem?_setIfInBounds, if_pos rfl, if_pos hlt]
              exact h1
            · rw [Array.getElem?_setIfInBounds, if_neg e, Array.getElem?_modify, if_neg e]
          have hget : ∀ q, C'[q]? = if off * k' ≤ q ∧ q < off * k' + n * k' then (Builtin.zeroCells zv.cells n).toList[q - off * k']? else C[q]? := by
            intro q
            rw [← hC', List.getElem?_toArray]
            have ht : (C.toList.take (off * k')).length = off * k' := by rw [List.length_take, Array.length_toList]; omega
            by_cases h1 : q < off * k'
            · rw [if_neg (by omega), List.append_assoc, List.getElem?_append_left (by omega), List.getElem?_take_of_lt h1, Array.getElem?_toList]
            · by_cases h2 : q < off * k' + n * k'
              · rw [if_pos ⟨by omega, h2⟩, List.append_assoc, List.getElem?_append_right (by omega), ht, List.getElem?_append_left (by omega)]
              · rw [if_neg (by omega), List.getElem?_append_right (by rw [List.length_append]; omega), List.length_append, ht, hzl, List.getElem?_drop, Array.getElem?_toList]
                congr 1; omega
          have hsz : C'.size = C.size := by
            rw [← hC']
            simp [hzl]
            omega
          refine ⟨_, setB w b (.cells C' e' (0, 0)), .tuple #[], run _ ?_, set_post hH hf hl hb _ (ob := .row e' k' m fun q => bif Nat.ble off q && Nat.blt q (off + n) then z else el q) rfl rfl (fun E' h1 h2 h3 hr hd => ⟨h3.trans hlen2, .inr ⟨b, C', h1, setB_heap _ (heap_lt c2), by rw [hsz, h2]; exact c3, by rw [h2]; exact c4, by rw [h2]; exact c5, ?_, ?_, ?_⟩⟩) fun E' w' => .c _ _ (.unk _)⟩
          · obtain ⟨n', rfl⟩ : ∃ n', n = n' + 1 := ⟨n - 1, by omega⟩
            have hzv := run_zeroValue' (P := P) (w := w) z1 z2
            simp [Builtin.clear_, hat, run_underlying hu, hzv, hst, hrow']
          · intro q hq
            simp only
            cases hc : (Nat.ble off q && Nat.blt q (off + n)) with
            | true => exact hk2
            | false => exact c6 q hq
          · intro q j u hq hj hu'
            rw [hget] at hu'
            split at hu'
            · exact hone u (List.mem_of_getElem? hu')
            · exact c7 q j u hq hj hu'
          · intro q j d u hq hd' hu'
            rw [hget] at hu'
            simp only at hd'
            cases hc : (Nat.ble off q && Nat.blt q (off + n)) with
            | true =>
              rw [hc, cond_true] at hd'
              rw [Bool.and_eq_true, Nat.ble_eq, Nat.blt_eq] at hc
              have hj : j < k' := by rw [← hk2]; exact (List.getElem?_eq_some_iff.1 hd').1
              have a1 : off * k' ≤ q * k' := Nat.mul_le_mul_right _ hc.1
              have a2 : (q + 1) * k' ≤ (off + n) * k' := Nat.mul_le_mul_right _ hc.2
              rw [Nat.add_mul, Nat.one_mul, Nat.add_mul] at a2
              rw [if_pos ⟨by omega, by omega⟩] at hu'
              obtain ⟨_, h2⟩ := hzu _ _ hu'
              have : (q * k' + j - off * k') % k' = j := by
                obtain ⟨p, rfl⟩ : ∃ p, q = off + p := ⟨q - off, by omega⟩
                rw [Nat.add_mul, show off * k' + p * k' + j - off * k' = j + p * k' by omega, Nat.add_mul_mod_self_right, Nat.mod_eq_of_lt hj]
              rw [this] at h2
              exact z5 _ _ j d u hd' h2
            | false =>
              rw [hc, cond_false] at hd'
              have hj : j < k' := by rw [← c6 q hq]; exact (List.getElem?_eq_some_iff.1 hd').1
              have hno : ¬ (off * k' ≤ q * k' + j ∧ q * k' + j < off * k' + n * k') := by
                rintro ⟨g1, g2⟩
                have g3 : ¬ (off ≤ q ∧ q < off + n) := by
                  rintro ⟨h1, h2⟩
                  have : (Nat.ble off q && Nat.blt q (off + n)) = true := by rw [Bool.and_eq_true, Nat.ble_eq, Nat.blt_eq]; exact ⟨h1, h2⟩
                  rw [this] at hc; cases hc
                by_cases h1 : off ≤ q
                · have h2 : off + n ≤ q := by omega
                  have := Nat.mul_le_mul_right k' h2
                  rw [Nat.add_mul] at this
                  omega
                · have : (q + 1) * k' ≤ off * k' := Nat.mul_le_mul_right _ (by omega)
                  rw [Nat.add_mul, Nat.one_mul] at this
                  omega
              rw [if_neg hno] at hu'
              exact hd _ _ (c8 q j d u hq hd' hu')
    · cases h
  · cases h
end
end Go.Ax
