import Derived.Test.YtchffdmfiffifaaAx7
/- Slices that are made, and append. -/
namespace Go.Ax
open Go.RowKit

section
variable {P : Program} {ρ : Operand → Value} {E : Env} {w w' : World} {o : Oper} {r : Res} {H : Heap} {nid : Nat}

/-- A slice that is read: where its cells lie, and what they hold. -/
structure Src (E : Env) (w : World) (v : Value) (k n : Nat) (el : Nat → List D) (news : List Value) : Prop where
  form : ∃ a c, v = .slice a n c ∧ n ≤ c ∧ c ≤ maxLen ∧ (0 < n → ∃ ad, a = some ad ∧ ∀ q u, news[q]? = some u → w.cell? (ad.add q) = some u)
  blk : ∀ ad n' c, v = .slice (some ad) n' c → 0 < n → E.ok ad.block ∨ ∃ q, E.live q ∧ E.conc q = some ad.block
  len : news.length = n * k
  one : ∀ u ∈ news, u.oneCell' = true
  els : ∀ i, i < n → (el i).length = k
  rep : ∀ i j d u, i < n → (el i)[j]? = some d → news[i * k + j]? = some u → RepD E.ok w u d

theorem ext_news {k n : Nat} (u : Nat → Nat → Value) {q : Nat} {x : Value} (h : ((List.range (n * k)).map fun q => u (q / k) (q % k))[q]? = some x) : q < n * k ∧ x = u (q / k) (q % k) ∧ q / k < n ∧ q % k < k := by
  rw [List.getElem?_map] at h
  cases hr : (List.range (n * k))[q]? with
  | none => rw [hr] at h; cases h
  | some p =>
    rw [hr] at h; cases h
    obtain ⟨h1, h2⟩ := List.getElem?_eq_some_iff.1 hr
    simp at h1 h2; subst h2
    have hk : 0 < k := by
      rcases Nat.eq_zero_or_pos k with h0 | h0
      · subst h0; simp at h1
      · exact h0
    exact ⟨h1, rfl, Nat.div_lt_of_lt_mul (by rw [Nat.mul_comm]; exact h1), Nat.mod_lt _ hk⟩

theorem split_ij {k i j : Nat} (hj : j < k) : (i * k + j) / k = i ∧ (i * k + j) % k = j := by
  constructor
  · rw [Nat.mul_comm, Nat.mul_add_div (by omega), Nat.div_eq_of_lt hj]; rfl
  · rw [Nat.mul_comm, Nat.mul_add_mod, Nat.mod_eq_of_lt hj]

theorem src_of (hH : HeapAt E w H) {v : Value} {x : V} {k n : Nat} {el : Nat → List D} (hx : RepV E w v x) (h : asSl H x = some (k, n, el)) : ∃ news, Src E w v k n el news := by
  have key : (x = .c .nil ∧ k = 0 ∧ n = 0 ∧ el = fun _ => []) ∨ x = .c (.sl k n el) ∨ ∃ o' off e' m el', x = .row o' k off n ∧ H.get o' = some (.row e' k m el') ∧ el = fun i => el' (off + i) := by
    cases x with
    | c d => cases d <;> simp [asSl] at h <;> obtain ⟨rfl, rfl, rfl⟩ := h <;> simp
    | row o' k0 off n0 =>
      cases hg : H.get o' with
      | none => simp [asSl, hg] at h
      | some ob =>
        cases ob with
        | box cs => simp [asSl, hg] at h
        | raw x => simp [asSl, hg] at h
        | row e' k' m el' =>
          cases hs : Nat.beq k' k0 with
          | false => simp [asSl, hg, hs] at h
          | true =>
            have hkk : k' = k0 := Nat.eq_of_beq_eq_true hs
            subst hkk
            simp only [asSl, hg, hs, cond_true, Option.some.injEq, Prod.mk.injEq] at h
            obtain ⟨rfl, rfl, rfl⟩ := h
            exact .inr (.inr ⟨o', off, e', m, el', rfl, hg, rfl⟩)
    | _ => simp [asSl] at h
  clear h
  rcases key with ⟨rfl, rfl, rfl, rfl⟩ | rfl | ⟨o', off, e', m, el', rfl, hg, rfl⟩
  · have e := hx.nil_inv
    subst e
    exact ⟨[], ⟨none, 0, rfl, Nat.le_refl _, by simp [maxLen], fun h => by omega⟩, (fun _ _ _ _ h => by omega), by simp, by simp, fun i hi => by omega, fun i j d u hi => by omega⟩
  · cases hx with
    | c _ _ hx =>
      cases hx with
      | sl a _ c _ _ u hc hm ha hone hl hu =>
        refine ⟨(List.range (n * k)).map fun q => u (q / k) (q % k), ⟨a, c, rfl, hc, hm, fun hn => ?_⟩, (fun ad n' c' e hn => by cases e; obtain ⟨ad', e1, e2, _⟩ := ha hn; cases e1; exact .inl e2), by simp, fun x hx => ?_, hl, fun i j d x hi hd hx => ?_⟩
        · obtain ⟨ad, rfl, hok, hcell⟩ := ha hn
          refine ⟨ad, rfl, fun q x hq => ?_⟩
          obtain ⟨h1, rfl, h2, h3⟩ := ext_news u hq
          have := hcell (q / k) (q % k) h2 h3
          rwa [Nat.div_add_mod' q k] at this
        · obtain ⟨q, hq⟩ := List.getElem?_of_mem hx
          obtain ⟨h1, rfl, h2, h3⟩ := ext_news u hq
          exact hone _ _ h2 h3
        · obtain ⟨h1, rfl, h2, h3⟩ := ext_news u hx
          have hj : j < k := by rw [← hl i hi]; exact (List.getElem?_eq_some_iff.1 hd).1
          obtain ⟨e1, e2⟩ := split_ij (i := i) hj
          rw [e1, e2]
          exact hu i j d hi hd
  · cases hx with
    | row _ _ _ _ a c hn hc hm hl ha h0 =>
      obtain ⟨_, hlen, hob⟩ := hH.at_ _ _ hg
      by_cases hn : n = 0
      · subst hn
        exact ⟨[], ⟨a, c, rfl, hc, hm, fun h => by omega⟩, (fun _ _ _ _ h => by omega), by simp, by simp, fun i hi => by omega, fun i j d u hi => by omega⟩
      · obtain ⟨b, hb, rfl⟩ := ha (by omega)
        obtain ⟨C, h2, h3, h4, h6, h7, h8⟩ := row_cell hH hg hb
        have hle : (off + n) * k ≤ C.size := by rw [h3]; exact Nat.mul_le_mul_right _ (by omega)
        rw [Nat.add_mul] at hle
        have hget : ∀ q, ((C.toList.drop (off * k)).take (n * k))[q]? = if q < n * k then C[off * k + q]? else none := by
          intro q
          rw [List.getElem?_take]
          split
          · rw [List.getElem?_drop, Array.getElem?_toList]
          · rfl
        refine ⟨(C.toList.drop (off * k)).take (n * k), ⟨_, c, rfl, hc, hm, fun _ => ⟨_, rfl, fun q u hq => ?_⟩⟩, (fun ad n' c' e _ => by cases e; exact .inr ⟨_, (hH.at_ _ _ hg).1, hb⟩), by simp; omega, fun u hu => ?_, fun i hi => h6 _ (by omega), fun i j d u hi hd hu => ?_⟩
        · rw [hget] at hq
          split at hq
          · rw [add_plain, cell_of_row w b _ C e' (0, 0) h2]; exact hq
          · cases hq
        · obtain ⟨q, hq⟩ := List.getElem?_of_mem hu
          rw [hget] at hq
          split at hq
          · next hlt =>
            have hk : 0 < k := by
              rcases Nat.eq_zero_or_pos k with h0 | h0
              · subst h0; simp at hlt
              · exact h0
            have hd : q / k < n := Nat.div_lt_of_lt_mul (by rw [Nat.mul_comm]; exact hlt)
            refine h7 (off + q / k) (q % k) u (by omega) (Nat.mod_lt _ hk) ?_
            rw [Nat.add_mul, Nat.add_assoc, Nat.div_add_mod' q k]
            exact hq
          · cases hq
        · rw [hget] at hu
          split at hu
          · refine h8 (off + i) j d u (by omega) hd ?_
            rw [Nat.add_mul, Nat.add_assoc]; exact hu
          · cases hu

/-- append, with the place of the new row. -/
theorem run_append_at (t ty e : TypeId) (i : TypeInfo) (z : Value) (size bytes : Nat) (ht : P.underlying t = some (.slice e)) (hi : P.info? e = some i) (hz : i.zero = some z)
    (hsize : i.size = size) (hby : i.bytes = bytes) (hzs : z.cells.size = size) (hsz : 0 < size)
    (v : Value) (n : Nat) (xs : List Value) (hown : w.ownsRow 0 e size v n xs)
    (a : Option Addr) (m c : Nat) (news : List Value) (hl : news.length = m * size) (hnews : 0 < m → ∃ ad, a = some ad ∧ ∀ j u, news[j]? = some u → w.cell? (ad.add j) = some u) (h1 : ∀ u ∈ news, u.oneCell' = true)
    (h63 : n + m ≤ maxLen) (hbytes : (n + m) * bytes ≤ 140737488355328) :
    ∃ v' w', (Builtin.append_ #[t, t] ty #[v, .slice a m c]).run P w = .ok v' w' ∧ w'.ownsRow 0 e size v' (n + m) (xs ++ news) ∧ w.grownBy w' v.ownBlock ∧
      (v'.ownBlock = v.ownBlock ∨ (v'.ownBlock = some w.heap.size ∧ w.heap.size < w'.heap.size)) := by
  by_cases hm0 : m = 0
  · subst hm0
    have hn : news = [] := List.eq_nil_of_length_eq_zero (by simpa using hl)
    subst hn
    refine ⟨v, w, ?_, by simpa using hown, ⟨rfl, rfl, rfl, Nat.le_refl _, fun _ _ _ => rfl⟩, .inl rfl⟩
    rcases hown.2 with ⟨rfl, rfl⟩ | ⟨g, cap, cur, rfl, _, hg, hnc, _⟩
    · cases a <;> simp [Builtin.append_, run_underlying ht, sizeOf, typeInfo, hi, Builtin.lenOf, Builtin.firstCells, loadCells, loadCellsFrom]
    · cases a <;> simp [Builtin.append_, run_underlying ht, sizeOf, typeInfo, hi, Builtin.lenOf, Builtin.firstCells, hnc, storeCells, loadCells, loadCellsFrom]
  obtain ⟨ad, rfl, hnews'⟩ := hnews (by omega)
  subst hsize
  subst hby
  have hsmall : n + m ≤ 9223372036854775807 := by simp only [maxLen] at h63; omega
  have hlen : (xs ++ news).length = (n + m) * i.size := by rw [List.length_append, hown.1, hl, Nat.add_mul]
  have grown : ∀ (old : Nat), old < n + m → ∀ (row : Option Nat),
      (w.drew.alloc (.cells (xs.toArray ++ news.toArray ++ Builtin.zeroCells z.cells (grownCap w (n + m) old e - (n + m))) e)).ownsRow 0 e i.size
        (.slice (some ⟨w.heap.size, 0, none⟩) (n + m) (grownCap w (n + m) old e)) (n + m) (xs ++ news) ∧
      w.grownBy (w.drew.alloc (.cells (xs.toArray ++ news.toArray ++ Builtin.zeroCells z.cells (grownCap w (n + m) old e - (n + m))) e)) row := by
    intro old ho row
    have hge := grownCap_ge w (n + m) old e
    have hcm : grownCap w (n + m) old e ≤ maxLen := grownCap_le_maxLen w (n + m) old e h63
    refine ⟨⟨hlen, .inr ⟨w.heap.size, _, _, rfl, Nat.zero_le _, heap_alloc_new w.drew _, hge, hcm, ?_, ?_⟩⟩, ⟨rfl, rfl, rfl, by simp, fun k hk _ => Below.heap_alloc w.drew _ k hk⟩⟩
    · simp only [Array.size_append, List.size_toArray, size_zeroCells, hzs, hown.1, hl, ← Nat.add_mul]
      congr 1
      omega
    · simp only [Array.toList_append, List.append_assoc]
      rw [← List.append_assoc, ← hlen]
      exact List.take_left
  rcases hown.2 with ⟨rfl, rfl⟩ | ⟨g, cap, cur, rfl, hbg, hg, hnc, hcm, hcs, htake⟩
  · have hx : xs = [] := List.eq_nil_of_length_eq_zero (by simpa using hown.1)
    subst hx
    have hr := run_append_nil (P := P) w t ty e i z ht hi hz ad m c news hl hnews' (by omega) (by omega) (by have hb := hbytes; simp only [Nat.zero_add] at hb; omega)
    have hgr := grown 0 (by omega) (Value.ownBlock (.slice none 0 0))
    simp only [Nat.zero_add, List.nil_append, Array.empty_append] at hgr ⊢
    exact ⟨_, _, hr, hgr.1, hgr.2, .inr ⟨rfl, by simp⟩⟩
  · by_cases hroom : n + m ≤ cap
    · have hfit : n * i.size + news.length ≤ cur.size := by rw [hl, hcs, ← Nat.add_mul]; exact Nat.mul_le_mul_right _ hroom
      have hr := run_append_room (P := P) w t ty e i ht hi g n cap cur hg ad m c news hl hnews' h1 hroom hfit
      refine ⟨_, _, hr, ⟨hlen, .inr ⟨g, cap, _, rfl, hbg, setRow_heap w g cur _ e _ hg, hroom, hcm, ?_, ?_⟩⟩, ⟨rfl, rfl, rfl, by simp, fun k _ hk => setRow_other w g k _ (fun e => hk (by simp [Value.ownBlock, e]))⟩, .inl rfl⟩
      · simp only [List.size_toArray, List.length_append, List.length_take, List.length_drop, Array.length_toList]
        omega
      · rw [htake, ← hlen]
        exact List.take_left
    · have holds : ∀ j u, xs[j]? = some u → w.cell? ((⟨g, 0, none⟩ : Addr).add j) = some u := hown.cells (g := g) rfl
      have hr := run_append_grow (P := P) w t ty e i z ht hi hz ⟨g, 0, none⟩ n cap xs hown.1 holds ad m c news hl hnews' (by omega) (by omega) (growslice_fits (by omega) hbytes)
      have hgr := grown cap (by omega) (Value.ownBlock (.slice (some ⟨g, 0, none⟩) n cap))
      exact ⟨_, _, hr, hgr.1, hgr.2, .inr ⟨rfl, by simp⟩⟩

/-- The owned row of an object. -/
theorem owns_of (hH : HeapAt E w H) {o' : Nat} {e : TypeId} {k n : Nat} {el : Nat → List D} (hg : H.get o' = some (.row e k n el)) {v : Value} (hx : RepV E w v (.row o' k 0 n)) :
    ∃ xs, w.ownsRow 0 e k v n xs ∧ v.ownBlock = E.conc o' ∧ (∀ i, i < n → (el i).length = k) ∧ (∀ i j u, i < n → j < k → xs[i * k + j]? = some u → u.oneCell' = true) ∧
      ∀ i j d u, i < n → (el i)[j]? = some d → xs[i * k + j]? = some u → RepD E.ok w u d := by
  obtain ⟨_, hlen, hob⟩ := hH.at_ _ _ hg
  cases hx with
  | row _ _ _ _ a c hn hc hm hl ha h0 =>
    rcases h0 rfl with ⟨rfl, rfl, h3⟩ | ⟨b, hb, rfl, rfl⟩
    · have : n = 0 := by omega
      subst this
      exact ⟨[], ⟨by simp, .inl ⟨rfl, rfl⟩⟩, by simp [Value.ownBlock, h3], fun i hi => by omega, fun i j u hi => by omega, fun i j d u hi => by omega⟩
    · obtain ⟨C, h2, h3, h4, h6, h7, h8⟩ := row_cell hH hg hb
      have hle : n * k ≤ C.size := by rw [h3]; exact Nat.mul_le_mul_right _ h4
      have hget : ∀ (q : Nat) (u : Value), (C.toList.take (n * k))[q]? = some u → C[q]? = some u := by
        intro q u hq
        rw [List.getElem?_take] at hq
        split at hq
        · rwa [Array.getElem?_toList] at hq
        · cases hq
      exact ⟨C.toList.take (n * k), ⟨by simp; omega, .inr ⟨b, _, C, rfl, Nat.zero_le _, h2, h4, hm, h3, rfl⟩⟩, by simp [Value.ownBlock, hb], h6, fun i j u hi hj hu => h7 i j u hi hj (hget _ _ hu), fun i j d u hi hd hu => h8 i j d u hi hd (hget _ _ hu)⟩

/-- An owned row, as an object. -/
theorem ob_of_owns {E' : Env} {w' : World} {q : Nat} {e : TypeId} {k n : Nat} {el : Nat → List D} {v : Value} {xs : List Value} (hown : w'.ownsRow 0 e k v n xs) (hc : E'.conc q = v.ownBlock) (hl : E'.len q = n)
    (hcap : ∀ a m c, v = .slice a m c → E'.cap q = c) (h6 : ∀ i, i < n → (el i).length = k) (h7 : ∀ i j u, i < n → j < k → xs[i * k + j]? = some u → u.oneCell' = true)
    (h8 : ∀ i j d u, i < n → (el i)[j]? = some d → xs[i * k + j]? = some u → RepD E'.ok w' u d) :
    ObAt E' w' q (.row e k n el) ∧ ((hq : E'.live q) → RepV E' w' v (.row q k 0 n)) := by
  rcases hown.2 with ⟨rfl, rfl⟩ | ⟨g, cap, cur, rfl, _, hg, hnc, hcm, hcs, htake⟩
  · refine ⟨⟨hl, .inl ⟨by simpa [Value.ownBlock] using hc, rfl⟩⟩, fun hq => ?_⟩
    exact .row q k 0 0 none 0 hq (Nat.le_refl _) (by simp [maxLen]) (by omega) (fun h => by omega) fun _ => .inl ⟨rfl, rfl, by simpa [Value.ownBlock] using hc⟩
  · have hcq : E'.conc q = some g := by simpa [Value.ownBlock] using hc
    have hca : E'.cap q = cap := hcap _ _ _ rfl
    have hget : ∀ i j u, i < n → j < k → cur[i * k + j]? = some u → xs[i * k + j]? = some u := by
      intro i j u hi hj hu
      have hlt : i * k + j < n * k := by
        have : (i + 1) * k ≤ n * k := Nat.mul_le_mul_right _ hi
        rw [Nat.add_mul, Nat.one_mul] at this
        omega
      rw [← htake, List.getElem?_take, if_pos hlt, Array.getElem?_toList]
      exact hu
    refine ⟨⟨hl, .inr ⟨g, cur, hcq, hg, by rw [hca]; exact hcs, by rw [hca]; exact hnc, by rw [hca]; exact hcm, h6, fun i j u hi hj hu => h7 i j u hi hj (hget i j u hi hj hu), fun i j d u hi hd hu => ?_⟩⟩, fun hq => ?_⟩
    · have hj : j < k := by rw [← h6 i hi]; exact (List.getElem?_eq_some_iff.1 hd).1
      exact h8 i j d u hi hd (hget i j u hi hj hu)
    · exact .row q k 0 n _ cap hq hnc hcm (by omega) (fun _ => ⟨g, hcq, by simp⟩) fun _ => .inr ⟨g, hcq, rfl, hca.symm⟩

def capOf : Value → Nat
  | .slice _ _ c => c
  | _ => 0

theorem zeroD_rep {e : TypeId} {z : List D} (h : zeroD P e = some z) : ∃ (i : TypeInfo) (v : Value), P.info? e = some i ∧ i.zero = some v ∧ v.cells.size = z.length ∧ (∀ (j : Nat) (d : D), z[j]? = some d → (V.ofValue v).cells[j]? = some (.c d)) ∧ (∀ vs, v ≠ .tuple vs) := by
  unfold zeroD at h
  split at h
  · next zv hz =>
    obtain ⟨i, v, hi, hz', rfl, hnt⟩ := zero_rep hz
    obtain ⟨h1, h2⟩ := mapM_toD h
    refine ⟨i, v, hi, hz', ?_, h2, hnt⟩
    have := (rep_ofValue_cells (E := ⟨fun _ => none, fun _ => 0, fun _ => 0, fun _ => False, fun _ => False⟩) (w := default) v hnt).1
    rw [h1, ← this]; simp
  · cases h

theorem sz_info {e : TypeId} {i : TypeInfo} (hi : P.info? e = some i) (h : 0 < sz P e) : i.size = sz P e := by
  obtain ⟨d, hd⟩ := sz_pos (P := P) (t := e) (by omega)
  exact (sz_eq hd hi).symm

theorem byt_info {e : TypeId} {i : TypeInfo} (hi : P.info? e = some i) : i.bytes = byt P e := by simp [byt, hi]

theorem get_killH1 (q' : Nat) : ∀ (H : Heap) (q : Nat), Heap.get (killH [q'] H) q = killOb q' (Heap.get H q)
  | [], q => by simp [killH, Heap.get, killOb]
  | (p, b) :: H, q => by
    have ih := get_killH1 q' H q
    simp only [killH, List.map_cons] at ih ⊢
    rw [Heap.get_cons, Heap.get_cons]
    split
    · rfl
    · exact ih

theorem killOb_some {q : Nat} {b : Option Ob} {x : Ob} (h : killOb q b = some x) : ∃ y, b = some y ∧ killOb q (some y) = some x := by
  cases b with
  | none => simp [killOb] at h
  | some y => exact ⟨y, rfl, h⟩

/-- What an append leaves: the row has moved to a new place, or stays. -/
theorem post_append (hH : HeapAt E w H) (hf : ¬ E.live nid) {c : Call} (ho : o.op = .call c) (hcal : c.callee = .builtin .append) {s x : Operand} (hargs : c.args = #[s, x]) {t : TypeId} (hat : c.argTypes = #[t, t])
    {vs vx : V} (hs : RepV E w (ρ s) vs) (hx : RepV E w (ρ x) vx) (h : appendV P H nid t vs vx = some r) (hp : ∀ p ∈ r.pre, p) :
    ∃ E' w' v', (execOp ρ o).run P w = .ok (.value v') w' ∧ Post E w H nid r E' w' v' := by
  have key : ∀ v' w', (Builtin.append_ #[t, t] o.type #[ρ s, ρ x]).run P w = .ok v' w' → (execOp ρ o).run P w = .ok (.value v') w' := by
    intro v' w' hr
    simp [execOp, ho, resolve, hcal, hargs, hat, invoke, builtin, hr]
  unfold appendV at h
  split at h
  · next e k2 n2 el2 hu hsl =>
    split at h
    · next z hz =>
      cases hs1 : (Nat.beq z.length (sz P e) && Nat.blt 0 (sz P e) && (Nat.beq k2 (sz P e) || Nat.beq k2 0 && Nat.beq n2 0)) with
      | false => simp [hs1] at h
      | true =>
        simp only [hs1, cond_true] at h
        simp only [Bool.and_eq_true, Bool.or_eq_true, Nat.beq_eq, Nat.blt_eq] at hs1
        obtain ⟨⟨hzl, hk0⟩, hk2⟩ := hs1
        obtain ⟨i, zv, hi, hz', hzs, _, _⟩ := zeroD_rep hz
        obtain ⟨news, hsrc⟩ := src_of hH hx hsl
        obtain ⟨a2, c2, hxv, hc2, hm2, hcell2⟩ := hsrc.form
        have hnl : news.length = n2 * sz P e := by
          rcases hk2 with h | ⟨_, h⟩
          · rw [hsrc.len, h]
          · rw [hsrc.len, h]; simp
        have hels : ∀ i, i < n2 → (el2 i).length = sz P e := by
          intro i hi
          rcases hk2 with h | ⟨_, h⟩
          · rw [hsrc.els i hi, h]
          · omega
        have hrep : ∀ i j d u, i < n2 → (el2 i)[j]? = some d → news[i * sz P e + j]? = some u → RepD E.ok w u d := by
          intro i j d u hi hd hu
          rcases hk2 with h | ⟨_, h⟩
          · rw [← h] at hu; exact hsrc.rep i j d u hi hd hu
          · omega
        split at h
        · cases h
          have p1 : n2 * byt P e ≤ 70368744177664 := hp _ (by simp)
          have p2 : n2 ≤ 70368744177664 := hp _ (by simp)
          have hsv := hs.nil_inv
          obtain ⟨v', w', hr, hown, hgr, hpl⟩ := run_append_at (P := P) (w := w) t o.type e i zv (sz P e) (byt P e) hu hi hz' (sz_info hi hk0) (byt_info hi) (hzs.trans hzl) hk0 (.slice none 0 0) 0 []
            (World.ownsRow_nil w 0 e _) a2 n2 c2 news hnl hcell2 hsrc.one (by unfold maxLen; omega) (by rw [Nat.zero_add]; omega)
          have hb : Below w.heap.size w w' := ⟨hgr.os, hgr.tape, hgr.output, hgr.size, fun k hk => hgr.block k hk (by simp [Value.ownBlock])⟩
          simp only [Nat.zero_add, List.nil_append] at hown
          have hpl' : ∀ b, v'.ownBlock = some b → w.heap.size ≤ b ∧ b < w'.heap.size ∧ ¬ E.ok b := by
            intro b hb'
            rcases hpl with h | ⟨h, h2⟩
            · rw [h] at hb'; simp [Value.ownBlock] at hb'
            · rw [h] at hb'; cases hb'
              exact ⟨Nat.le_refl _, h2, fun hk => by have := hH.oklt _ hk; omega⟩
          have hS : Step E w [] (E.next nid v'.ownBlock (capOf v') n2 E.ok) w' := next_step hf _ _ _ E.ok hb (fun b h => (hpl' b h).1) (fun _ h => h) (fun _ h => .inl h)
          have hN := next_heap (cap := capOf v') (len := n2) hf hH hb hpl' (fun _ h => h) (fun _ h => .inl h) (fun b h => by have := hH.oklt b h; have := hb.size; omega)
          have hob := ob_of_owns (E' := E.next nid v'.ownBlock (capOf v') n2 E.ok) (q := nid) (el := el2) hown (by simp [Env.next]) (by simp [Env.next]) (by intro a m c e; simp [Env.next, e, capOf]) hels
            (fun i j u hi hj hu => hsrc.one u (List.mem_of_getElem? hu)) (fun i j d u hi hd hu => repD_next hH hS (hrep i j d u hi hd hu))
          exact ⟨_, w', v', key v' w' (by rw [hsv, hxv]; exact hr), hS, heap_cons hN (.inl rfl) hob.1, hob.2 (.inl rfl), next_live⟩
        · next o' k off n =>
          split at h
          · next e' k' m el hg =>
            cases hs2 : (Nat.beq off 0 && Nat.beq e' e && Nat.beq k' k && Nat.beq k (sz P e)) with
            | false => simp [hs2] at h
            | true =>
              simp only [hs2, cond_true] at h
              simp only [Bool.and_eq_true, Nat.beq_eq] at hs2
              obtain ⟨⟨⟨rfl, rfl⟩, rfl⟩, hksz⟩ := hs2
              cases h
              have p1 : n = m := hp _ (by simp)
              have p2 : (n + n2) * byt P e' ≤ 70368744177664 := hp _ (by simp)
              have p3 : n + n2 ≤ 70368744177664 := hp _ (by simp)
              subst p1
              subst hksz
              obtain ⟨xs, hown0, hbl, h6, h7, h8⟩ := owns_of hH hg hs
              have hnq := (hH.at_ _ _ hg).1
              obtain ⟨v', w', hr, hown, hgr, hpl⟩ := run_append_at (P := P) (w := w) t o.type e' i zv (sz P e') (byt P e') hu hi hz' (sz_info hi hk0) (byt_info hi) (hzs.trans hzl) hk0 (ρ s) n xs
                hown0 a2 n2 c2 news hnl hcell2 hsrc.one (by unfold maxLen; omega) (by omega)
              have hblk : ∀ b, b < w.heap.size → E.conc o' ≠ some b → w'.heap[b]? = w.heap[b]? := fun b hb hne => hgr.block b hb (by rw [hbl]; exact fun e => hne e.symm)
              let E' : Env := ⟨fun q => if q = o' then v'.ownBlock else E.conc q, fun q => if q = o' then capOf v' else E.cap q, fun q => if q = o' then n + n2 else E.len q, E.live, E.ok⟩
              have hc0 : ∀ q, E.live q → q ≠ o' → E'.conc q = E.conc q ∧ E'.cap q = E.cap q ∧ E'.len q = E.len q := by
                intro q hq hne
                simp [E', hne]
              have hcase : ∀ q b, E.live q → E'.conc q = some b → (E.live q ∧ q ≠ o' ∧ E.conc q = some b) ∨ (q = o' ∧ v'.ownBlock = some b) := by
                intro q b hq h
                by_cases e1 : q = o'
                · subst e1; simp [E'] at h; exact .inr ⟨rfl, h⟩
                · exact .inl ⟨hq, e1, by rw [(hc0 q hq e1).1] at h; exact h⟩
              have hvb : ∀ b, v'.ownBlock = some b → (E.conc o' = some b ∨ w.heap.size ≤ b) ∧ b < w'.heap.size ∧ ¬ E.ok b := by
                intro b hb
                rcases hpl with h | ⟨h, h2⟩
                · rw [h, hbl] at hb
                  exact ⟨.inl hb, by have := hH.lt _ _ hnq hb; have := hgr.size; omega, hH.sep _ _ hnq hb⟩
                · rw [h] at hb; cases hb
                  exact ⟨.inr (Nat.le_refl _), h2, fun hk => by have := hH.oklt _ hk; omega⟩
              have hS : Step E w [o'] E' w' := by
                refine ⟨hgr.os, hgr.tape, hgr.output, hgr.size, fun _ h => h, fun b hb hno => hblk b hb (hno o' hnq), fun _ h => h, fun _ h => .inl h, fun q hq hne => hc0 q hq (by simpa using hne), fun q b hq h => ?_⟩
                rcases hcase q b hq h with ⟨a1, _, a2⟩ | ⟨rfl, a2⟩
                · exact .inl ⟨_, a1, a2⟩
                · rcases (hvb b a2).1 with h | h
                  · exact .inl ⟨_, hnq, h⟩
                  · exact .inr h
              have hrd : ∀ v d, RepD E.ok w v d → RepD E'.ok w' v d := fun v d h => h.mono (fun _ h => h) fun b hb => hblk b (hH.oklt b hb) fun hc => hH.sep _ _ hnq hc hb
              have hob := ob_of_owns (E' := E') (q := o') (el := fun i => bif Nat.blt i n then el i else el2 (i - n)) hown (by simp [E']) (by simp [E']) (by intro a m c e; simp [E', e, capOf])
                (fun i hi => by
                  cases hlt : Nat.blt i n with
                  | true => simp only [cond_true]; exact h6 i (by simpa using hlt)
                  | false =>
                    simp only [cond_false]
                    have : ¬ i < n := fun h => by rw [← Nat.blt_eq] at h; rw [h] at hlt; cases hlt
                    exact hels _ (by omega))
                (fun i j u hi hj hu => by
                  rw [List.getElem?_append] at hu
                  split at hu
                  · next hlt =>
                    have : i < n := by
                      rw [hown0.1] at hlt
                      rcases Nat.lt_or_ge i n with h | h
                      · exact h
                      · have := Nat.mul_le_mul_right (sz P e') h; omega
                    exact h7 i j u this hj hu
                  · exact hsrc.one u (List.mem_of_getElem? hu))
                (fun i j d u hi hd hu => by
                  refine hrd _ _ ?_
                  rw [List.getElem?_append] at hu
                  cases hlt : Nat.blt i n with
                  | true =>
                    have hin : i < n := by simpa using hlt
                    simp only [hlt, cond_true] at hd
                    have hj : j < sz P e' := by rw [← h6 i hin]; exact (List.getElem?_eq_some_iff.1 hd).1
                    have : i * sz P e' + j < xs.length := by
                      rw [hown0.1]
                      have : (i + 1) * sz P e' ≤ n * sz P e' := Nat.mul_le_mul_right _ hin
                      rw [Nat.add_mul, Nat.one_mul] at this
                      omega
                    rw [if_pos this] at hu
                    exact h8 i j d u hin hd hu
                  | false =>
                    have hin : ¬ i < n := fun h => by rw [← Nat.blt_eq] at h; rw [h] at hlt; cases hlt
                    simp only [hlt, cond_false] at hd
                    have : n * sz P e' ≤ i * sz P e' := Nat.mul_le_mul_right _ (by omega)
                    rw [if_neg (by rw [hown0.1]; omega), hown0.1] at hu
                    refine hrep (i - n) j d u (by omega) hd ?_
                    rw [Nat.sub_mul, show i * sz P e' - n * sz P e' + j = i * sz P e' + j - n * sz P e' by omega]
                    exact hu)
              have hrv : ∀ v d, RepV E w v d → RepV E' w' v (d.kill o') := fun v d h => h.step hS hH.sep hH.oklt
              refine ⟨E', w', v', key v' w' (by rw [hxv]; exact hr), hS, ?_, hob.2 hnq, fun _ h => .inl h⟩
              refine ⟨fun q x hq => ?_, fun q q' b hq hq' h h' => ?_, fun q b hq h => ?_, fun q b hq h => ?_, fun b h => by have := hH.oklt b h; have := hgr.size; omega⟩
              · rw [List.cons_append, List.nil_append, Heap.get_cons] at hq
                split at hq
                · next e1 => subst e1; cases hq; exact ⟨hnq, hob.1⟩
                · next hne =>
                  rw [get_killH1] at hq
                  obtain ⟨y, hy, hky⟩ := killOb_some hq
                  obtain ⟨h1, h2⟩ := hH.at_ q y hy
                  have hqb : ∀ b, E.conc q = some b → w'.heap[b]? = w.heap[b]? := fun b hb => hblk b (hH.lt q b h1 hb) fun hc => hne (hH.inj _ _ _ hnq h1 hc hb)
                  refine ⟨h1, ?_⟩
                  obtain ⟨c1, c2, c3⟩ := hc0 q h1 (fun e => hne e.symm)
                  cases y with
                  | box cs =>
                    cases hky
                    obtain ⟨hl, b, C, te, g1, g2, g3⟩ := h2
                    refine ⟨c3.trans hl, b, C, te, c1.trans g1, (hqb b g1).trans g2, by rw [kills_length]; exact g3.1, fun i v d hv hd => ?_⟩
                    rw [kills_get] at hd
                    cases hx' : cs[i]? with
                    | none => rw [hx'] at hd; cases hd
                    | some y => rw [hx'] at hd; cases hd; exact hrv _ _ (g3.2 i v y hv hx')
                  | raw x =>
                    cases hky
                    obtain ⟨hl, b, g1, g2⟩ := h2
                    exact ⟨c3.trans hl, b, c1.trans g1, (hqb b g1).trans g2⟩
                  | row te kk nn ell =>
                    cases hky
                    obtain ⟨hl, hh⟩ := h2
                    refine ⟨c3.trans hl, ?_⟩
                    rcases hh with ⟨g1, g2⟩ | ⟨b, C, g1, g2, g3, g4, g5, g6, g7, g8⟩
                    · exact .inl ⟨c1.trans g1, g2⟩
                    · exact .inr ⟨b, C, c1.trans g1, (hqb b g1).trans g2, by rw [c2]; exact g3, by rw [c2]; exact g4, by rw [c2]; exact g5, g6, g7, fun i j d u a b c => hrd _ _ (g8 i j d u a b c)⟩
              · rcases hcase q b hq h with ⟨a1, a3, a2⟩ | ⟨rfl, a2⟩ <;> rcases hcase q' b hq' h' with ⟨b1, b3, b2⟩ | ⟨rfl, b2⟩
                · exact hH.inj q q' b a1 b1 a2 b2
                · rcases (hvb b b2).1 with h | h
                  · exact hH.inj _ _ _ a1 hnq a2 h
                  · have := hH.lt q b a1 a2; omega
                · rcases (hvb b a2).1 with h | h
                  · exact hH.inj _ _ _ hnq b1 h b2
                  · have := hH.lt q' b b1 b2; omega
                · rfl
              · rcases hcase q b hq h with ⟨a1, _, a2⟩ | ⟨rfl, a2⟩
                · exact hH.sep q b a1 a2
                · exact (hvb b a2).2.2
              · rcases hcase q b hq h with ⟨a1, _, a2⟩ | ⟨rfl, a2⟩
                · have := hH.lt q b a1 a2; have := hgr.size; omega
                · exact (hvb b a2).2.1
          · cases h
        · cases h
    · cases h
  · cases h
end
end Go.Ax
