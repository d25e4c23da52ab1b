import Derived.Test.YtefjkielgagknaaGreatA9
import Derived.Shelf.Sort.Plain
import Derived.Shelf.Slices.In.SortNone
import Derived.Shelf.Slices.CompactI
import Derived.Lib.RowBridge
set_option linter.all false
/- A library function at one own row of ints: sorted where it lies, or cut and handed back. -/
namespace Go.Ax
open Go.RowKit Go.Sort Go.Proofs

/-- What a call leaves of a row of ints. -/
def IntsRun (P : Program) (f : FuncId) (e : TypeId) (back : Bool) (G : List Int → List Int) : Prop :=
  ∀ (w : World) (v : Value) (l : List Int), w.ownsRow 0 e 1 v l.length (l.map (Value.int .i64)) → l.length < 4611686018427387904 → Does P f #[v] w fun v' w' =>
    ∃ v2, v' = (bif back then v2 else .tuple #[]) ∧ w'.ownsRow 0 e 1 v2 (G l).length ((G l).map (Value.int .i64)) ∧ w.grownBy w' v.ownBlock ∧ v2.ownBlock = v.ownBlock ∧ (back = false → v2 = v ∧ (G l).length = l.length)

noncomputable def keptC (enc : Int → List D) (dec : List D → Int) (e : Nat) (F : List Int → Option (List Int)) : Heap → Nat → List V → Option Res := fun H nid args => match args with
  | [.row o_ k_ f_ n_] => (match Heap.get H o_ with
    | some (.row e_ k2_ m_ el_) => bif Nat.beq e_ e && Nat.beq k2_ 1 && Nat.beq k_ 1 && Nat.beq f_ 0 then
        some { pre := [n_ = m_, LstOk enc dec 1 1 m_ el_, (F (lst dec m_ el_)).isSome = true], val := .tup [], eff := [(o_, some (.row e 1 ((F (lst dec m_ el_)).getD []).length (lsEl enc (0 : Int) ((F (lst dec m_ el_)).getD []))))], kill := [] } else none
    | _ => none)
  | _ => none
/-- It may be handed a row whose object has more elements than it is shown. -/
noncomputable def backC (enc : Int → List D) (dec : List D → Int) (e : Nat) (F : List Int → Option (List Int)) : Heap → Nat → List V → Option Res := fun H nid args => match args with
  | [.row o_ k_ f_ n_] => (match Heap.get H o_ with
    | some (.row e_ k2_ m_ el_) => bif Nat.beq e_ e && Nat.beq k2_ 1 && Nat.beq k_ 1 && Nat.beq f_ 0 then
        some { pre := [(0 : Int) ≤ (0 : Int), (0 : Int) ≤ ((n_ : Nat) : Int), ((n_ : Nat) : Int) ≤ ((m_ : Nat) : Int), LstOk enc dec 1 1 n_ (fun i => el_ (f_ + i)), (F (lst dec n_ (fun i => el_ (f_ + i)))).isSome = true], val := .row o_ 1 0 ((F (lst dec n_ (fun i => el_ (f_ + i)))).getD []).length, eff := [(o_, some (.row e 1 ((F (lst dec n_ (fun i => el_ (f_ + i)))).getD []).length (lsEl enc (0 : Int) ((F (lst dec n_ (fun i => el_ (f_ + i)))).getD []))))], kill := [o_] } else none
    | _ => none)
  | _ => none

section
variable {P : Program} {E : Env} {w : World} {H : Heap}
theorem ints_cells {enc : Int → List D} {dec : List D → Int} (henc : ∀ x, enc x = [.lit (.int .i64 x)]) {n : Nat} {el : Nat → List D} (hl : LstOk enc dec 1 1 n el) {xs : List Value} (hx : xs.length = n * 1)
    (h8 : ∀ i j d u, i < n → (el i)[j]? = some d → xs[i * 1 + j]? = some u → RepD E.ok w u d) : xs = (lst dec n el).map (Value.int .i64) := by
  apply List.ext_getElem
  · simp [lst_length, hx]
  · intro i h1 h2
    have hi : i < n := by omega
    have e1 : el i = [.lit (.int .i64 (dec (el i)))] := by
      have := hl.2 i hi
      rw [henc] at this
      exact this
    have hd : (el i)[0]? = some (.lit (.int .i64 (dec (el i)))) := by
      generalize dec (el i) = X at e1 ⊢
      rw [e1]; rfl
    have h3 := h8 i 0 (.lit (.int .i64 (dec (el i)))) xs[i] hi hd (by rw [Nat.mul_one, Nat.add_zero]; exact List.getElem?_eq_getElem h1)
    have h4 := (RepV.c (E := E) (w := w) _ _ h3).lit_inv
    rw [h4]
    simp [lst]
theorem owns_part (hH : HeapAt E w H) {o' : Nat} {e : TypeId} {k n n' : Nat} {el : Nat → List D} (hg : H.get o' = some (.row e k n el)) (hnn : n' ≤ n) {v : Value} (hx : RepV E w v (.row o' k 0 n')) :
    ∃ xs, w.ownsRow 0 e k v n' xs ∧ v.ownBlock = E.conc o' ∧ ∀ i j d u, i < n' → (el i)[j]? = some d → xs[i * k + j]? = some u → RepD E.ok w u d := by
  obtain ⟨_, hlen, hob⟩ := hH.at_ _ _ hg
  cases hx with
  | row _ _ _ _ a c hn hc hm hl ha h0 =>
    rcases h0 rfl with ⟨rfl, rfl, h3⟩ | ⟨b, hb, rfl, rfl⟩
    · have : n' = 0 := by omega
      subst this
      exact ⟨[], ⟨by simp, .inl ⟨rfl, rfl⟩⟩, by simp [Value.ownBlock, h3], fun i j d u hi => by omega⟩
    · obtain ⟨C, h2, h3, h4, h6, h7, h8⟩ := row_cell hH hg hb
      have hle : n' * k ≤ C.size := by rw [h3]; exact Nat.mul_le_mul_right _ (by omega)
      have hget : ∀ (q : Nat) (u : Value), (C.toList.take (n' * k))[q]? = some u → C[q]? = some u := by
        intro q u hq
        rw [List.getElem?_take] at hq
        split at hq
        · rwa [Array.getElem?_toList] at hq
        · cases hq
      exact ⟨C.toList.take (n' * k), ⟨by simp; omega, .inr ⟨b, _, C, rfl, Nat.zero_le _, h2, hc, hm, h3, rfl⟩⟩, by simp [Value.ownBlock, hb], fun i j d u hi hd hu => h8 i j d u (by omega) hd (hget _ _ hu)⟩
theorem kept_meets {enc : Int → List D} {dec : List D → Int} {e : Nat} {F : List Int → Option (List Int)} {G : List Int → List Int} {f : FuncId} (henc : ∀ x, enc x = [.lit (.int .i64 x)]) (hF : ∀ l x, F l = some x → l.length < 4611686018427387904 ∧ x = G l)
    (hR : IntsRun P f e false G) : MeetsC P f (.mut (keptC enc dec e F)) := by
  intro E w H0 nid xs args r hH0 hfn hx hmc hp
  have hH := heapAt_restr hH0 (reachOf H0 args)
  have hres : ∀ o ob, Heap.get (restr (reachOf H0 args) H0) o = some ob → Heap.get H0 o = some ob := fun o ob h => (get_restr h).1
  generalize restr (reachOf H0 args) H0 = H at hmc hH hres
  unfold keptC at hmc
  split at hmc
  · next o_ k_ f_ n_ =>
    split at hmc
    · next e_ k2_ m_ el_ hg =>
      cases hb : (Nat.beq e_ e && Nat.beq k2_ 1 && Nat.beq k_ 1 && Nat.beq f_ 0) with
      | false => rw [hb] at hmc; cases hmc
      | true =>
        rw [hb] at hmc
        simp only [Bool.and_eq_true, Nat.beq_eq] at hb
        obtain ⟨⟨⟨rfl, rfl⟩, rfl⟩, rfl⟩ := hb
        cases hmc
        obtain ⟨rfl, hp⟩ := allq hp
        obtain ⟨g0, hp⟩ := allq hp
        obtain ⟨gs, hp⟩ := allq hp
        obtain ⟨x, hFx⟩ := Option.isSome_iff_exists.1 gs
        obtain ⟨hsm, rfl⟩ := hF _ _ hFx
        rw [hFx, Option.getD_some]
        obtain ⟨u0, rfl⟩ : ∃ u0, xs = [u0] := by
          match xs, hx.1 with
          | [u0], _ => exact ⟨u0, rfl⟩
        have h0 := hx.2 0 u0 _ rfl rfl
        obtain ⟨xs0, hown, hbl, q6, q7, q8⟩ := owns_of hH hg h0
        have hxs := ints_cells henc g0 hown.1 q8
        subst hxs
        have hll : (lst dec n_ el_).length = n_ := lst_length
        have hown2 : w.ownsRow 0 e_ 1 u0 (lst dec n_ el_).length ((lst dec n_ el_).map (Value.int .i64)) := by
          generalize (lst dec n_ el_).map (Value.int .i64) = Z at hown ⊢
          rw [hll]; exact hown
        refine (hR w u0 _ hown2 hsm).mono fun v' w' hw => ?_
        obtain ⟨v2, rfl, h1, h2, h3, h4⟩ := hw
        obtain ⟨rfl, h5⟩ := h4 rfl
        rw [hll] at h5
        rw [h5] at h1 ⊢
        refine post_inplace hH0 hfn (hres _ _ hg) (by rw [← hbl]; exact h2) (fun b C hb hC => ?_) (fun i hi => by rw [lsEl, henc]; rfl) rfl rfl (fun E' => .tup [] [] rfl fun i v d h => by simp at h)
        rw [hbl] at h3
        rcases h1.2 with ⟨hn, _⟩ | ⟨g, cap, cur, hv, _, hc, hc2, _, hc4, hc5⟩
        · rw [hn] at hbl; rw [← hbl] at hb; cases hb
        · rw [hv] at hbl
          have : g = b := by rw [← hbl] at hb; cases hb; rfl
          subst this
          have hCs : C.size = cur.size := by
            rcases hown.2 with ⟨hn, _⟩ | ⟨g', cap', cur', hv', _, hc', hc2', _, hc4', hc5'⟩
            · rw [hn] at hv; cases hv
            · rw [hv] at hv'
              cases hv'
              rw [hC] at hc'
              cases hc'
              rw [hc4, hc4']
          have hcell : ∀ i u, i < n_ → cur[i]? = some u → u = .int .i64 ((G (lst dec n_ el_)).getD i 0) := by
            intro i u hi hu
            have h6 : (cur.toList.take (n_ * 1))[i]? = some u := by
              rw [List.getElem?_take, if_pos (by omega), Array.getElem?_toList]; exact hu
            rw [hc5, List.getElem?_map, List.getElem?_eq_getElem (by omega)] at h6
            have := Option.some.inj h6
            rw [← this, List.getD_eq_getElem?_getD, List.getElem?_eq_getElem (by omega)]
            rfl
          refine ⟨cur, hc, hCs.symm, fun i j u hi hj hu => ?_, fun i j d u hi hd hu => ?_⟩
          · have : j = 0 := by omega
            subst this
            rw [hcell i u hi (by simpa using hu)]
            rfl
          · rw [lsEl, henc] at hd
            have hj : j = 0 := by
              have := (List.getElem?_eq_some_iff.1 hd).1
              simp at this
              exact this
            subst hj
            cases hd
            rw [hcell i u hi (by simpa using hu)]
            exact .lit _
    · cases hmc
  · cases hmc
theorem back_meets {enc : Int → List D} {dec : List D → Int} {e : Nat} {F : List Int → Option (List Int)} {G : List Int → List Int} {f : FuncId} (henc : ∀ x, enc x = [.lit (.int .i64 x)]) (hF : ∀ l x, F l = some x → l.length < 4611686018427387904 ∧ x = G l)
    (hR : IntsRun P f e true G) : MeetsC P f (.mut (backC enc dec e F)) := by
  intro E w H0 nid xs args r hH0 hfn hx hmc hp
  have hH := heapAt_restr hH0 (reachOf H0 args)
  have hres : ∀ o ob, Heap.get (restr (reachOf H0 args) H0) o = some ob → Heap.get H0 o = some ob := fun o ob h => (get_restr h).1
  generalize restr (reachOf H0 args) H0 = H at hmc hH hres
  unfold backC at hmc
  split at hmc
  · next o_ k_ f_ n_ =>
    split at hmc
    · next e_ k2_ m_ el_ hg =>
      cases hb : (Nat.beq e_ e && Nat.beq k2_ 1 && Nat.beq k_ 1 && Nat.beq f_ 0) with
      | false => rw [hb] at hmc; cases hmc
      | true =>
        rw [hb] at hmc
        simp only [Bool.and_eq_true, Nat.beq_eq] at hb
        obtain ⟨⟨⟨rfl, rfl⟩, rfl⟩, rfl⟩ := hb
        cases hmc
        obtain ⟨_, hp⟩ := allq hp
        obtain ⟨_, hp⟩ := allq hp
        obtain ⟨gle, hp⟩ := allq hp
        obtain ⟨g0, hp⟩ := allq hp
        obtain ⟨gs, hp⟩ := allq hp
        have e0 : (fun i => el_ (0 + i)) = el_ := by funext i; rw [Nat.zero_add]
        rw [e0] at g0 gs ⊢
        obtain ⟨x, hFx⟩ := Option.isSome_iff_exists.1 gs
        obtain ⟨hsm, rfl⟩ := hF _ _ hFx
        rw [hFx, Option.getD_some]
        obtain ⟨u0, rfl⟩ : ∃ u0, xs = [u0] := by
          match xs, hx.1 with
          | [u0], _ => exact ⟨u0, rfl⟩
        have h0 := hx.2 0 u0 _ rfl rfl
        obtain ⟨xs0, hown, hbl, q8⟩ := owns_part hH hg (by omega) h0
        have hxs := ints_cells henc g0 hown.1 q8
        subst hxs
        have hll : (lst dec n_ el_).length = n_ := lst_length
        have hown2 : w.ownsRow 0 e_ 1 u0 (lst dec n_ el_).length ((lst dec n_ el_).map (Value.int .i64)) := by
          generalize (lst dec n_ el_).map (Value.int .i64) = Z at hown ⊢
          rw [hll]; exact hown
        refine (hR w u0 _ hown2 hsm).mono fun v' w' hw => ?_
        obtain ⟨v2, rfl, h1, h2, h3, _⟩ := hw
        have hcell : ∀ i u, i < (G (lst dec n_ el_)).length → ((G (lst dec n_ el_)).map (Value.int .i64))[i]? = some u → u = .int .i64 ((G (lst dec n_ el_)).getD i 0) := by
          intro i u hi hu
          rw [List.getElem?_map, List.getElem?_eq_getElem hi] at hu
          have := Option.some.inj hu
          rw [← this, List.getD_eq_getElem?_getD, List.getElem?_eq_getElem hi]
          rfl
        refine post_moved hH0 (hres _ _ hg) hbl h1 h2 (.inl h3) (fun i hi => by rw [lsEl, henc]; rfl) (fun i j u hi hj hu => ?_) (fun i j d u hi hd hu => ?_) rfl rfl rfl
        · have : j = 0 := by omega
          subst this
          rw [hcell i u hi (by simpa using hu)]
          rfl
        · rw [lsEl, henc] at hd
          have hj : j = 0 := by
            have := (List.getElem?_eq_some_iff.1 hd).1
            simp at this
            exact this
          subst hj
          cases hd
          rw [hcell i u hi (by simpa using hu)]
          exact .lit _
    · cases hmc
  · cases hmc
end

section
open Go.Shelf Go.Lib
variable {P : Program}
theorem put_heap {enc : Int → Value} {w : World} {n blk : Nat} {d : Array Int} {os : Array Obj} {C : Array Value} {t : TypeId} (h : w.heap[blk]? = some (.cells C t (0, 0))) :
    (Sort.grow (putRow enc (Sort.ahead w n) blk 0 d) os).heap[blk]? = some (.cells (putCells enc 0 d C) t (0, 0)) ∧ w.grownBy (Sort.grow (putRow enc (Sort.ahead w n) blk 0 d) os) (some blk) := by
  have hlt := heap_lt h
  have hsz : (putRow enc (Sort.ahead w n) blk 0 d).heap.size = w.heap.size := by simp [putRow, mapBlock, Sort.ahead]
  constructor
  · show ((putRow enc (Sort.ahead w n) blk 0 d).heap ++ os)[blk]? = _
    rw [Array.getElem?_append_left (by omega)]
    show (w.heap.modify blk _)[blk]? = _
    rw [Array.getElem?_modify, if_pos rfl, h]
    rfl
  · refine ⟨rfl, rfl, rfl, by show _ ≤ ((putRow enc (Sort.ahead w n) blk 0 d).heap ++ os).size; rw [Array.size_append]; omega, fun q hq hne => ?_⟩
    show ((putRow enc (Sort.ahead w n) blk 0 d).heap ++ os)[q]? = _
    rw [Array.getElem?_append_left (by omega)]
    show (w.heap.modify blk _)[q]? = _
    rw [Array.getElem?_modify, if_neg (fun e => hne (by rw [e]))]
theorem after_put {w : World} {g cap : Nat} {cur : Array Value} {e : TypeId} (l r : List Int) (hc : w.heap[g]? = some (.cells cur e (0, 0))) (hlen : r.length = l.length) (hcur : cur.size = cap * 1) (hle : l.length ≤ cap) (hcap : cap ≤ maxLen) (m : Nat) (hm : m ≤ l.length) (n : Nat) (os : Array Obj) :
    (Sort.grow (putRow (Value.int .i64) (Sort.ahead w n) g 0 r.toArray) os).ownsRow 0 e 1 (.slice (some ⟨g, 0, none⟩) m cap) m ((r.take m).map (Value.int .i64)) ∧ w.grownBy (Sort.grow (putRow (Value.int .i64) (Sort.ahead w n) g 0 r.toArray) os) (some g) := by
  obtain ⟨h1, h2⟩ := put_heap (enc := Value.int .i64) (n := n) (d := r.toArray) (os := os) hc
  refine ⟨⟨by simp; omega, .inr ⟨g, cap, _, rfl, Nat.zero_le _, h1, by omega, hcap, by simp [putCells, hcur], ?_⟩⟩, h2⟩
  apply List.ext_getElem?
  intro i
  rw [List.getElem?_take]
  by_cases hi : i < m
  · rw [if_pos (by omega), Array.getElem?_toList]
    simp only [putCells, Array.getElem?_mapIdx]
    rw [Array.getElem?_eq_getElem (show i < cur.size by omega), Option.map_some, if_pos ⟨Nat.zero_le _, by rw [List.size_toArray]; omega⟩, List.getElem?_map, List.getElem?_take, if_pos hi, List.getElem?_eq_getElem (by omega)]
    simp only [Nat.sub_zero, Option.map_some]
    rw [getElem!_pos r.toArray i (by rw [List.size_toArray]; omega)]
    simp
  · rw [if_neg (by omega), List.getElem?_eq_none (by rw [List.length_map, List.length_take]; omega)]
theorem ints_hold {w : World} {g cap : Nat} {cur : Array Value} {e : TypeId} {l : List Int} (hc : w.heap[g]? = some (.cells cur e (0, 0))) (h5 : cur.toList.take (l.length * 1) = l.map (Value.int .i64)) : Holds (Value.int .i64) w g 0 l.toArray := by
  intro j hj
  have hj' : j < l.length := by simpa using hj
  refine ⟨?_, by simp [World.frozen?, hc]⟩
  rw [Nat.zero_add, cell_of_row w g j cur e (0, 0) hc]
  have : (cur.toList.take (l.length * 1))[j]? = some (.int .i64 l[j]) := by rw [h5, List.getElem?_map, List.getElem?_eq_getElem hj']; rfl
  rw [List.getElem?_take, if_pos (by omega), Array.getElem?_toList] at this
  rw [this, getElem!_pos l.toArray j hj]
  simp
def sortI (l : List Int) : List Int := l.mergeSort fun x y => decide (x ≤ y)
theorem sortInts_run {ρ : Ren} {f e : Nat} (L : Lays.n189 P ρ) (hf : f = ρ.f 189) (eS : ∀ args w, (callFunc f args).run P w = .ok (.enter f args) w) : IntsRun P f e false sortI := by
  subst hf
  intro w v l hown hsz
  rcases hown.2 with ⟨rfl, hn⟩ | ⟨g, cap, cur, rfl, _, hc, hc2, hc3, hc4, hc5⟩
  · have : l = [] := List.length_eq_zero_iff.1 hn
    subst this
    refine .inl ⟨eS _ _, (Any.slices_Sort_int_none L none 0 w).mono ?_⟩
    rintro e' w' ⟨rfl, rfl⟩
    have e0 : sortI [] = [] := by simp [sortI]
    rw [e0]
    exact ⟨_, rfl, .slice none 0 0, rfl, ⟨rfl, .inl ⟨rfl, rfl⟩⟩, ⟨rfl, rfl, rfl, Nat.le_refl _, fun _ _ _ => rfl⟩, rfl, fun _ => ⟨rfl, rfl⟩⟩
  · refine .inl ⟨eS _ _, (Any.slices_Sort_int L g 0 cap l w (ints_hold (cap := cap) hc hc5) (heap_lt hc) hsz).mono ?_⟩
    rintro e' w' ⟨rfl, n, os, rfl⟩
    have hl : (sortI l).length = l.length := List.length_mergeSort _
    obtain ⟨a1, a2⟩ := after_put l (sortI l) hc hl hc4 hc2 hc3 l.length (Nat.le_refl _) n os
    rw [List.take_of_length_le (by omega)] at a1
    rw [hl]
    exact ⟨_, rfl, _, rfl, a1, a2, rfl, fun _ => ⟨rfl, rfl⟩⟩
theorem compactInts_run {ρ : Ren} {f e : Nat} (L : Lays2.n20 P ρ) (hf : f = ρ.f 20) (eS : ∀ args w, (callFunc f args).run P w = .ok (.enter f args) w) : IntsRun P f e true Lib.compact := by
  subst hf
  intro w v l hown hsz
  rcases hown.2 with ⟨rfl, hn⟩ | ⟨g, cap, cur, rfl, _, hc, hc2, hc3, hc4, hc5⟩
  · have : l = [] := List.length_eq_zero_iff.1 hn
    subst this
    refine .inl ⟨eS _ _, (Any.slices_Compact_int_empty L none 0 w).mono ?_⟩
    rintro e' w' ⟨rfl, rfl⟩
    exact ⟨_, rfl, .slice none 0 0, rfl, ⟨rfl, .inl ⟨rfl, rfl⟩⟩, ⟨rfl, rfl, rfl, Nat.le_refl _, fun _ _ _ => rfl⟩, rfl, fun h => by cases h⟩
  · refine .inl ⟨eS _ _, (Any.slices_Compact_int L g 0 cap l w (ints_hold (cap := cap) hc hc5) (by omega) hc2).mono ?_⟩
    rintro e' w' ⟨rfl, q, rfl⟩
    have hle := Lib.compact_length_le l
    obtain ⟨a1, a2⟩ := after_put l (Lib.compact l ++ List.replicate (l.length - (Lib.compact l).length) 0) hc (by simp; omega) hc4 hc2 hc3 (Lib.compact l).length hle q #[]
    have e0 : ∀ W : World, Sort.grow W #[] = W := fun W => by simp [Sort.grow]
    rw [e0] at a1 a2
    rw [List.take_left] at a1
    exact ⟨_, rfl, _, rfl, a1, a2, rfl, fun h => by cases h⟩
end
end Go.Ax
