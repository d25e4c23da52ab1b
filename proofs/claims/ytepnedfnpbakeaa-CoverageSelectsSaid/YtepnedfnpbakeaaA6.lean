import Derived.Test.YtepnedfnpbakeaaA4
import Derived.Lib.Overlaps
import Derived.Lib.AppendZerosOnto
import Derived.Shelf.RegionOpenPlain
import Derived.Laws.Externs
set_option linter.all false
/- slices.Insert at elements of any size: what its run leaves, and its contract. -/
namespace Go.Ax
open Go.RowKit

/-- Cells laid over a list's part. -/
def spl {α : Type} (l xs : List α) (o : Nat) : List α := l.take o ++ xs ++ l.drop (o + xs.length)

/-- copy between slices, the target's block known. -/
theorem run_copy_wide {P : Program} (w : World) (dT sT ty e : TypeId) (i : TypeInfo) (ht : P.underlying dT = some (.slice e)) (hi : P.info? e = some i) (g o dLen dCap : Nat) (a : Addr) (sLen sCap : Nat) (cs : List Value) (C : Array Value) (te : TypeId)
    (hg : w.heap[g]? = some (.cells C te (0, 0))) (hl : cs.length = Nat.min sLen dLen * i.size) (hsrc : ∀ j v, cs[j]? = some v → w.cell? (a.add j) = some v) (hfit : o + cs.length ≤ C.size) (h1 : ∀ v ∈ cs, v.oneCell' = true) :
    (Builtin.copy_ #[dT, sT] ty #[.slice (some ⟨g, o, none⟩) dLen dCap, .slice (some a) sLen sCap]).run P w = .ok (goInt (Nat.min sLen dLen)) (w.setRow g (spl C.toList cs o).toArray) := by
  have hld := run_loadCells_list (P := P) w a cs hsrc
  have hst := run_storeCells_at P g o te cs 0 C w hg (by simpa using hfit) h1
  rw [Nat.add_zero] at hst
  simp [Builtin.copy_, run_underlying ht, Builtin.lenOf, Builtin.firstCells, sizeOf, typeInfo, hi, ← hl, hld, hst, spl]

/-- What a call of slices.Insert leaves: an owned row with the new elements. -/
structure InsAt (w : World) (e k : Nat) (v : Value) (n m i : Nat) (xs news : List Value) (v' : Value) (w' : World) : Prop where
  own : w'.ownsRow 0 e k v' (n + m) (xs.take (i * k) ++ news ++ xs.drop (i * k))
  gr : w.grownBy w' v.ownBlock
  at_ : v'.ownBlock = v.ownBlock ∨ (v'.ownBlock = some w.heap.size ∧ w.heap.size < w'.heap.size)

/-- slices.Insert, as it runs. -/
def InsRun (P : Program) (f : FuncId) (e k b : Nat) : Prop :=
  ∀ (w : World) (v : Value) (n i : Nat) (xs : List Value) (a2 : Option Addr) (m c2 : Nat) (news : List Value), w.ownsRow 0 e k v n xs → (∀ u ∈ xs, u.oneCell' = true) → i ≤ n → m ≤ c2 → c2 ≤ maxLen →
    (0 < m → ∃ g2 o2 C2 e2, a2 = some ⟨g2, o2, none⟩ ∧ w.heap[g2]? = some (.cells C2 e2 (0, 0)) ∧ v.ownBlock ≠ some g2 ∧ ∀ j u, news[j]? = some u → C2[o2 + j]? = some u) →
    news.length = m * k → (∀ u ∈ news, u.oneCell' = true) → (n + m) * b ≤ 140737488355328 → n + m ≤ 140737488355328 →
    Does P f #[v, .int .i64 i, .slice a2 m c2] w fun v' w' => InsAt w e k v n m i xs news v' w'

section
variable {P : Program} {E : Env} {w w' : World} {r : Res} {H : Heap} {nid : Nat}

/-- A row that has moved, or grown. -/
theorem post_moved (hH : HeapAt E w H) {o' : Nat} {e : TypeId} {k n : Nat} {el : Nat → List D} (hg : H.get o' = some (.row e k n el)) {v : Value} (hbl : v.ownBlock = E.conc o') {v' : Value} {n' : Nat} {xs : List Value} {el' : Nat → List D}
    (hown : w'.ownsRow 0 e k v' n' xs) (hgr : w.grownBy w' v.ownBlock) (hpl : v'.ownBlock = v.ownBlock ∨ (v'.ownBlock = some w.heap.size ∧ w.heap.size < w'.heap.size))
    (h6 : ∀ i, i < n' → (el' i).length = k) (h7 : ∀ i j u, i < n' → j < k → xs[i * k + j]? = some u → u.oneCell' = true) (h8 : ∀ i j d u, i < n' → (el' i)[j]? = some d → xs[i * k + j]? = some u → RepD E.ok w u d)
    (he : r.eff = [(o', some (.row e k n' el'))]) (hk : r.kill = [o']) (hv : r.val = .row o' k 0 n') : ∃ E', Post E w H nid r E' w' v' := by
  have hnq := (hH.at_ _ _ hg).1
  have hblk : ∀ b, b < w.heap.size → E.conc o' ≠ some b → w'.heap[b]? = w.heap[b]? := fun b hb hne => hgr.block b hb (by rw [hbl]; exact fun e => hne e.symm)
  let E' : Env := ⟨fun q => if q = o' then v'.ownBlock else E.conc q, fun q => if q = o' then capOf v' else E.cap q, fun q => if q = o' then n' else E.len q, E.live, E.ok⟩
  have hc0 : ∀ q, E.live q → q ≠ o' → E'.conc q = E.conc q ∧ E'.cap q = E.cap q ∧ E'.len q = E.len q := by
    intro q hq hne
    simp [E', hne]
  have hcase : ∀ q b, E.live q → E'.conc q = some b → (E.live q ∧ q ≠ o' ∧ E.conc q = some b) ∨ (q = o' ∧ v'.ownBlock = some b) := by
    intro q b hq h
    by_cases e1 : q = o'
    · subst e1; simp [E'] at h; exact .inr ⟨rfl, h⟩
    · exact .inl ⟨hq, e1, by rw [(hc0 q hq e1).1] at h; exact h⟩
  have hvb : ∀ b, v'.ownBlock = some b → (E.conc o' = some b ∨ w.heap.size ≤ b) ∧ b < w'.heap.size ∧ ¬ E.ok b := by
    intro b hb
    rcases hpl with h | ⟨h, h2⟩
    · rw [h, hbl] at hb
      exact ⟨.inl hb, by have := hH.lt _ _ hnq hb; have := hgr.size; omega, hH.sep _ _ hnq hb⟩
    · rw [h] at hb; cases hb
      exact ⟨.inr (Nat.le_refl _), h2, fun hk => by have := hH.oklt _ hk; omega⟩
  have hS : Step E w [o'] E' w' := by
    refine ⟨hgr.os, hgr.tape, hgr.output, hgr.size, fun _ h => h, fun b hb hno => hblk b hb (hno o' hnq), fun _ h => h, fun _ h => .inl h, fun q hq hne => hc0 q hq (by simpa using hne), fun q b hq h => ?_⟩
    rcases hcase q b hq h with ⟨a1, _, a2⟩ | ⟨rfl, a2⟩
    · exact .inl ⟨_, a1, a2⟩
    · rcases (hvb b a2).1 with h | h
      · exact .inl ⟨_, hnq, h⟩
      · exact .inr h
  have hrd : ∀ v d, RepD E.ok w v d → RepD E'.ok w' v d := fun v d h => h.mono (fun _ h => h) fun b hb => hblk b (hH.oklt b hb) fun hc => hH.sep _ _ hnq hc hb
  have hob := ob_of_owns (E' := E') (q := o') (el := el') hown (by simp [E']) (by simp [E']) (by intro a m c e; simp [E', e, capOf]) h6 h7 (fun i j d u hi hd hu => hrd _ _ (h8 i j d u hi hd hu))
  have hrv : ∀ v d, RepV E w v d → RepV E' w' v (d.kill o') := fun v d h => h.step hS hH.sep hH.oklt
  refine ⟨E', by rw [hk]; exact hS, ?_, by rw [hv]; exact hob.2 hnq, fun _ h => .inl h⟩
  rw [he, hk]
  refine ⟨fun q x hq => ?_, fun q q' b hq hq' h h' => ?_, fun q b hq h => ?_, fun q b hq h => ?_, fun b h => by have := hH.oklt b h; have := hgr.size; omega⟩
  · rw [List.cons_append, List.nil_append, Heap.get_cons] at hq
    split at hq
    · next e1 => subst e1; cases hq; exact ⟨hnq, hob.1⟩
    · next hne =>
      rw [get_killH1] at hq
      obtain ⟨y, hy, hky⟩ := killOb_some hq
      obtain ⟨h1, h2⟩ := hH.at_ q y hy
      have hqb : ∀ b, E.conc q = some b → w'.heap[b]? = w.heap[b]? := fun b hb => hblk b (hH.lt q b h1 hb) fun hc => hne (hH.inj _ _ _ hnq h1 hc hb)
      refine ⟨h1, ?_⟩
      obtain ⟨c1, c2, c3⟩ := hc0 q h1 (fun e => hne e.symm)
      cases y with
      | box cs =>
        cases hky
        obtain ⟨hl, b, C, te, g1, g2, g3⟩ := h2
        refine ⟨c3.trans hl, b, C, te, c1.trans g1, (hqb b g1).trans g2, by rw [kills_length]; exact g3.1, fun i v d hv hd => ?_⟩
        rw [kills_get] at hd
        cases hx' : cs[i]? with
        | none => rw [hx'] at hd; cases hd
        | some y => rw [hx'] at hd; cases hd; exact hrv _ _ (g3.2 i v y hv hx')
      | raw x =>
        cases hky
        obtain ⟨hl, b, g1, g2⟩ := h2
        exact ⟨c3.trans hl, b, c1.trans g1, (hqb b g1).trans g2⟩
      | row te kk nn ell =>
        cases hky
        obtain ⟨hl, hh⟩ := h2
        refine ⟨c3.trans hl, ?_⟩
        rcases hh with ⟨g1, g2⟩ | ⟨b, C, g1, g2, g3, g4, g5, g6, g7, g8⟩
        · exact .inl ⟨c1.trans g1, g2⟩
        · exact .inr ⟨b, C, c1.trans g1, (hqb b g1).trans g2, by rw [c2]; exact g3, by rw [c2]; exact g4, by rw [c2]; exact g5, g6, g7, fun i j d u a b c => hrd _ _ (g8 i j d u a b c)⟩
  · rcases hcase q b hq h with ⟨a1, a3, a2⟩ | ⟨rfl, a2⟩ <;> rcases hcase q' b hq' h' with ⟨b1, b3, b2⟩ | ⟨rfl, b2⟩
    · exact hH.inj q q' b a1 b1 a2 b2
    · rcases (hvb b b2).1 with h | h
      · exact hH.inj _ _ _ a1 hnq a2 h
      · have := hH.lt q b a1 a2; omega
    · rcases (hvb b a2).1 with h | h
      · exact hH.inj _ _ _ hnq b1 h b2
      · have := hH.lt q' b b1 b2; omega
    · rfl
  · rcases hcase q b hq h with ⟨a1, _, a2⟩ | ⟨rfl, a2⟩
    · exact hH.sep q b a1 a2
    · exact (hvb b a2).2.2
  · rcases hcase q b hq h with ⟨a1, _, a2⟩ | ⟨rfl, a2⟩
    · have := hH.lt q b a1 a2; have := hgr.size; omega
    · exact (hvb b a2).2.1

/-- A row that is new. -/
theorem post_fresh (hH : HeapAt E w H) (hf : ¬ E.live nid) {e : TypeId} {k : Nat} {v' : Value} {n' : Nat} {xs : List Value} {el' : Nat → List D}
    (hown : w'.ownsRow 0 e k v' n' xs) (hgr : w.grownBy w' none) (hpl : v'.ownBlock = none ∨ (v'.ownBlock = some w.heap.size ∧ w.heap.size < w'.heap.size))
    (h6 : ∀ i, i < n' → (el' i).length = k) (h7 : ∀ i j u, i < n' → j < k → xs[i * k + j]? = some u → u.oneCell' = true) (h8 : ∀ i j d u, i < n' → (el' i)[j]? = some d → xs[i * k + j]? = some u → RepD E.ok w u d)
    (he : r.eff = [(nid, some (.row e k n' el'))]) (hk : r.kill = []) (hv : r.val = .row nid k 0 n') : ∃ E', Post E w H nid r E' w' v' := by
  have hb : Below w.heap.size w w' := ⟨hgr.os, hgr.tape, hgr.output, hgr.size, fun k hk => hgr.block k hk (by simp)⟩
  have hpl' : ∀ b, v'.ownBlock = some b → w.heap.size ≤ b ∧ b < w'.heap.size ∧ ¬ E.ok b := by
    intro b hb'
    rcases hpl with h | ⟨h, h2⟩
    · rw [h] at hb'; cases hb'
    · rw [h] at hb'; cases hb'
      exact ⟨Nat.le_refl _, h2, fun hk => by have := hH.oklt _ hk; omega⟩
  have hS : Step E w [] (E.next nid v'.ownBlock (capOf v') n' E.ok) w' := next_step hf _ _ _ E.ok hb (fun b h => (hpl' b h).1) (fun _ h => h) (fun _ h => .inl h)
  have hN := next_heap (cap := capOf v') (len := n') hf hH hb hpl' (fun _ h => h) (fun _ h => .inl h) (fun b h => by have := hH.oklt b h; have := hb.size; omega)
  have hob := ob_of_owns (E' := E.next nid v'.ownBlock (capOf v') n' E.ok) (q := nid) (el := el') hown (by simp [Env.next]) (by simp [Env.next]) (by intro a m c e; simp [Env.next, e, capOf]) h6 h7 (fun i j d u hi hd hu => repD_next hH hS (h8 i j d u hi hd hu))
  exact ⟨_, by rw [hk]; exact hS, by rw [he, hk]; exact heap_cons hN (.inl rfl) hob.1, by rw [hv]; exact hob.2 (.inl rfl), next_live⟩

def isRw2 : List V → Bool
  | [_, _, .row ..] => true
  | _ => false

/-- The contract of slices.Insert: an own row, or nil; the new elements stand in another own row. -/
noncomputable def insC {T : Type} (enc : T → List D) (dec : List D → T) (z : T) (e k : Nat) (F : List T → Int → List T → Option (List T)) : Heap → Nat → List V → Option Res := fun H nid args =>
  match viewF H [true, false, false] args with
  | [.row o_ k_ f_ n_, .c (.lit (.int .i64 a1)), .c (.sl k1 n1 e1)] => (match Heap.get H o_ with
    | some (.row t_ k2_ m_ e_) => bif Nat.beq t_ e && Nat.beq k2_ k && Nat.beq k_ k && Nat.beq f_ 0 && handOk [o_] H false [true, false, false] args && isRw2 args then
        some { pre := [n_ = m_, LstOk enc dec k k m_ e_, LstOk enc dec k k1 n1 e1, (F (lst dec m_ e_) a1 (lst dec n1 e1)).isSome = true], val := .row o_ k 0 ((F (lst dec m_ e_) a1 (lst dec n1 e1)).getD []).length, eff := [(o_, some (.row e k ((F (lst dec m_ e_) a1 (lst dec n1 e1)).getD []).length (lsEl enc z ((F (lst dec m_ e_) a1 (lst dec n1 e1)).getD []))))], kill := [o_] } else none
    | _ => none)
  | [.c .nil, .c (.lit (.int .i64 a1)), .c (.sl k1 n1 e1)] => bif handOk [] H false [true, false, false] args && isRw2 args then
        some { pre := [LstOk enc dec k k1 n1 e1, (F ([] : List T) a1 (lst dec n1 e1)).isSome = true], val := .row nid k 0 ((F ([] : List T) a1 (lst dec n1 e1)).getD []).length, eff := [(nid, some (.row e k ((F ([] : List T) a1 (lst dec n1 e1)).getD []).length (lsEl enc z ((F ([] : List T) a1 (lst dec n1 e1)).getD []))))], kill := [] } else none
  | _ => none

theorem view_lit {v : V} {x : Value} (h : V.view H v = .c (.lit x)) : v = .c (.lit x) := by
  cases v with
  | c d => cases d <;> simp [V.view] at h ⊢ <;> exact h
  | ptr o k i j => rw [V.view] at h; unfold vptr at h; split at h <;> first | cases h | (split at h <;> cases h) | (next k' _ _ _ => cases hb : Nat.beq k' k <;> rw [hb] at h <;> cases h) | (next cs _ => cases hb : Nat.beq cs.length k <;> rw [hb] at h <;> cases h)
  | row o k off n => rw [V.view] at h; unfold vrow at h; split at h <;> first | cases h | (next k' _ _ _ => cases hb : Nat.beq k' k <;> rw [hb] at h <;> cases h)
  | _ => simp [V.view] at h

theorem viewF3 {a b c : V} {args : List V} (h : viewF H [true, false, false] args = [a, b, c]) : ∃ b' c', args = [a, b', c'] ∧ b'.view H = b ∧ c'.view H = c := by
  match args, h with
  | [], h => simp [viewF] at h
  | [_], h => simp [viewF] at h
  | [_, _], h => simp [viewF] at h
  | [x, y, z], h => simp [viewF] at h; obtain ⟨rfl, h1, h2⟩ := h; exact ⟨y, z, rfl, h1, h2⟩
  | _ :: _ :: _ :: _ :: _, h => simp [viewF] at h

theorem isRw2_inv {a b c : V} (h : isRw2 [a, b, c] = true) : ∃ o k f n, c = .row o k f n := by
  unfold isRw2 at h
  split at h
  · next e => cases e; exact ⟨_, _, _, _, rfl⟩
  · cases h

theorem view_row_inv {o k off n k1 n1 : Nat} {e1 : Nat → List D} (h : V.view H (.row o k off n) = .c (.sl k1 n1 e1)) : ∃ t m el, Heap.get H o = some (.row t k m el) ∧ k1 = k ∧ n1 = n ∧ e1 = fun i => el (off + i) := by
  rw [V.view] at h; unfold vrow at h
  split at h
  · next t k' m el hg =>
    cases hb : Nat.beq k' k with
    | false => rw [hb] at h; cases h
    | true =>
      have hkk : k' = k := Nat.eq_of_beq_eq_true hb
      subst hkk
      rw [hb] at h
      cases h
      exact ⟨t, m, el, hg, rfl, rfl, rfl⟩
  · cases h

/-- The cells of a list with an insertion. -/
theorem ins_cells {T : Type} {enc : T → List D} {dec : List D → T} {z : T} {k n m i : Nat} (hk0 : 0 < k) (henc : ∀ x, (enc x).length = k) {e0 e1 : Nat → List D} {xs news : List Value} (hin : i ≤ n) (hxs : xs.length = n * k) (hnews : news.length = m * k)
    (h0 : ∀ j, j < n → e0 j = enc (dec (e0 j))) (h1 : ∀ j, j < m → e1 j = enc (dec (e1 j)))
    (r0 : ∀ q j d u, q < n → (e0 q)[j]? = some d → xs[q * k + j]? = some u → RepD E.ok w u d) (r1 : ∀ q j d u, q < m → (e1 q)[j]? = some d → news[q * k + j]? = some u → RepD E.ok w u d) :
    ∀ q j d u, q < n + m → (lsEl enc z ((lst dec n e0).take i ++ lst dec m e1 ++ (lst dec n e0).drop i) q)[j]? = some d → (xs.take (i * k) ++ news ++ xs.drop (i * k))[q * k + j]? = some u → RepD E.ok w u d := by
  intro q j d u hq hd hu
  have hj : j < k := by
    have := (List.getElem?_eq_some_iff.1 hd).1
    rw [lsEl, henc] at this; exact this
  have hik : i * k ≤ n * k := Nat.mul_le_mul_right _ hin
  have l1 : (xs.take (i * k)).length = i * k := by rw [List.length_take, hxs]; omega
  have l2 : ((lst dec n e0).take i).length = i := by rw [List.length_take, lst_length]; omega
  rw [lsEl, List.append_assoc, List.getD_eq_getElem?_getD, List.getElem?_append] at hd
  rw [List.append_assoc, List.getElem?_append] at hu
  rw [l1] at hu
  rw [l2] at hd
  by_cases c1 : q < i
  · have : q * k + k ≤ i * k := by have := Nat.mul_le_mul_right k (show q + 1 ≤ i by omega); rwa [Nat.add_mul, Nat.one_mul] at this
    rw [if_pos c1, List.getElem?_take, if_pos c1, ← List.getD_eq_getElem?_getD, lst_getD (by omega), ← h0 q (by omega)] at hd
    rw [if_pos (by omega), List.getElem?_take, if_pos (by omega)] at hu
    exact r0 q j d u (by omega) hd hu
  · have hiq : i * k ≤ q * k := Nat.mul_le_mul_right _ (by omega)
    rw [if_neg c1, List.getElem?_append, lst_length] at hd
    rw [if_neg (by omega), List.getElem?_append, hnews] at hu
    by_cases c2 : q - i < m
    · have : (q - i) * k + k ≤ m * k := by have := Nat.mul_le_mul_right k (show (q - i) + 1 ≤ m by omega); rwa [Nat.add_mul, Nat.one_mul] at this
      have e : q * k + j - i * k = (q - i) * k + j := by rw [Nat.sub_mul]; omega
      rw [if_pos c2, ← List.getD_eq_getElem?_getD, lst_getD c2, ← h1 _ c2] at hd
      rw [if_pos (by omega), e] at hu
      exact r1 (q - i) j d u c2 hd hu
    · have hm : m * k ≤ (q - i) * k := Nat.mul_le_mul_right _ (by omega)
      have e : q * k + j - i * k = (q - i) * k + j := by rw [Nat.sub_mul]; omega
      have e2 : i * k + (q * k + j - i * k - m * k) = (q - m) * k + j := by
        have : (q - m) * k = q * k - m * k := Nat.sub_mul _ _ _
        have : (i + m) * k ≤ q * k := Nat.mul_le_mul_right _ (by omega)
        rw [Nat.add_mul] at this
        omega
      rw [if_neg c2, List.getElem?_drop, show i + (q - i - m) = q - m by omega, ← List.getD_eq_getElem?_getD, lst_getD (by omega), ← h0 _ (by omega)] at hd
      rw [if_neg (by omega), List.getElem?_drop, e2] at hu
      exact r0 (q - m) j d u (by omega) hd hu

/-- An owned row that is read: its cells. -/
theorem own_news (hH : HeapAt E w H) {o2 k2 f2 n2 : Nat} {t m : Nat} {el : Nat → List D} (hg : Heap.get H o2 = some (.row t k2 m el)) {v : Value} (h : RepV E w v (.row o2 k2 f2 n2)) :
    ∃ (a : Option Addr) (c : Nat) (news : List Value), v = .slice a n2 c ∧ n2 ≤ c ∧ c ≤ maxLen ∧ (0 < n2 → ∃ g2 p2 C2 e2, a = some ⟨g2, p2, none⟩ ∧ w.heap[g2]? = some (.cells C2 e2 (0, 0)) ∧ E.conc o2 = some g2 ∧ ∀ j u, news[j]? = some u → C2[p2 + j]? = some u) ∧
      news.length = n2 * k2 ∧ (∀ u ∈ news, u.oneCell' = true) ∧ ∀ i j d u, i < n2 → (el (f2 + i))[j]? = some d → news[i * k2 + j]? = some u → RepD E.ok w u d := by
  have ha : asSl H (.row o2 k2 f2 n2) = some (k2, n2, fun i => el (f2 + i)) := by simp [asSl, hg]
  obtain ⟨news, hs⟩ := src_of hH h ha
  obtain ⟨a, c, hv, hc, hm, hcell⟩ := hs.form
  refine ⟨a, c, news, hv, hc, hm, fun hn => ?_, hs.len, hs.one, hs.rep⟩
  cases h with
  | row _ _ _ _ a' c' hq _ _ hl ha' h0 =>
    obtain ⟨b, hb, rfl⟩ := ha' hn
    cases hv
    obtain ⟨C, h2, h3, h4, h6, h7, h8⟩ := row_cell hH hg hb
    refine ⟨b, f2 * k2, C, t, rfl, h2, hb, fun j u hj => ?_⟩
    obtain ⟨ad, e, hq'⟩ := hcell hn
    cases e
    have := hq' j u hj
    rwa [add_plain, cell_of_row w b _ C t (0, 0) h2] at this

theorem insC_meets {T : Type} {enc : T → List D} {dec : List D → T} {z : T} {e k b : Nat} {F : List T → Int → List T → Option (List T)} {f : FuncId} (hk0 : 0 < k) (henc : ∀ x, (enc x).length = k)
    (hF : ∀ l i v x, F l i v = some x → ((0 : Int) ≤ i ∧ i ≤ ((l.length : Nat) : Int) ∧ capB (l.length + v.length) b) ∧ x = l.take i.toNat ++ v ++ l.drop i.toNat) (hR : InsRun P f e k b) (hfl : ∀ x, (enc x).all D.isLit = true := by intro _; rfl) : MeetsC P f (.mut (insC enc dec z e k F)) := by
  intro E w H0 nid xs args r hH0 hfn hx hmc hp
  have hH := heapAt_restr hH0 (reachOf H0 args)
  have hres : ∀ o ob, Heap.get (restr (reachOf H0 args) H0) o = some ob → Heap.get H0 o = some ob := fun o ob h => (get_restr h).1
  generalize restr (reachOf H0 args) H0 = H at hmc hH hres
  unfold insC at hmc
  split at hmc
  · next o_ k_ f_ n_ a1 k1 n1 e1 hv =>
    obtain ⟨b', c', rfl, hb', hc'⟩ := viewF3 hv
    split at hmc
    · next t_ k2_ m_ e_ hg =>
      cases hb : (Nat.beq t_ e && Nat.beq k2_ k && Nat.beq k_ k && Nat.beq f_ 0 && handOk [o_] H false [true, false, false] [.row o_ k_ f_ n_, b', c'] && isRw2 [.row o_ k_ f_ n_, b', c']) with
      | false => rw [hb] at hmc; cases hmc
      | true =>
        rw [hb] at hmc
        simp only [Bool.and_eq_true, Nat.beq_eq] at hb
        obtain ⟨⟨⟨⟨⟨rfl, rfl⟩, rfl⟩, rfl⟩, hk⟩, hrw⟩ := hb
        cases hmc
        obtain ⟨rfl, hp⟩ := allq hp
        obtain ⟨g0, hp⟩ := allq hp
        obtain ⟨g1, hp⟩ := allq hp
        obtain ⟨gs, hp⟩ := allq hp
        obtain ⟨x, hFx⟩ := Option.isSome_iff_exists.1 gs
        obtain ⟨⟨i0, i1, hcap⟩, rfl⟩ := hF _ _ _ _ hFx
        obtain ⟨o2, k2, f2, n2, rfl⟩ := isRw2_inv hrw
        obtain ⟨t2, m2, el2, hg2, rfl, rfl, rfl⟩ := view_row_inv hc'
        have hlit := view_lit hb'
        subst hlit
        have hne : o2 ≠ o_ := by
          rintro rfl
          simp [handOk, asData, V.refs, memB] at hk
        obtain ⟨u0, u1, u2, rfl⟩ : ∃ u0 u1 u2, xs = [u0, u1, u2] := by
          match xs, hx.1 with
          | [u0, u1, u2], _ => exact ⟨u0, u1, u2, rfl⟩
        have h0 := hx.2 0 u0 _ rfl rfl
        have h1 := (hx.2 1 u1 _ rfl rfl).lit_inv
        have h2 := hx.2 2 u2 _ rfl rfl
        subst h1
        obtain ⟨xs0, hown, hbl, q6, q7, q8⟩ := owns_of hH hg h0
        obtain ⟨a, c, news, rfl, hc, hm, hcell, hnl, hone, hrep⟩ := own_news hH hg2 h2
        obtain ⟨hlo, hlo2⟩ := (hH.at_ _ _ hg)
        have hlo3 := (hH.at_ _ _ hg2).1
        rw [lst_length] at i1 hcap
        rw [lst_length] at hcap
        obtain ⟨hc1, hc2⟩ := hcap
        obtain ⟨i, rfl⟩ : ∃ i : Nat, a1 = i := ⟨a1.toNat, by omega⟩
        rw [Int.toNat_natCast] at *
        have hin : i ≤ n_ := by omega
        have hnk : news.length = n1 * k_ := by
          by_cases hz : 0 < n1
          · rw [hnl, g1.1 hz]
          · have : n1 = 0 := by omega
            rw [hnl, this]; simp
        refine (hR w u0 n_ i xs0 a n1 c news hown (fun u hu => ?_) hin hc hm (fun hz => ?_) hnk hone hc1 hc2).mono fun v' w' hI => ?_
        · obtain ⟨q, hq⟩ := List.getElem?_of_mem hu
          have hlt := (List.getElem?_eq_some_iff.1 hq).1
          rw [hown.1] at hlt
          have hd : q / k_ < n_ := Nat.div_lt_of_lt_mul (by rw [Nat.mul_comm]; exact hlt)
          exact q7 (q / k_) (q % k_) u hd (Nat.mod_lt _ hk0) (by rw [Nat.div_add_mod' q k_]; exact hq)
        · obtain ⟨g2, p2, C2, e2, j1, j2, j3, j4⟩ := hcell hz
          exact ⟨g2, p2, C2, e2, j1, j2, fun hh => hne (hH.inj _ _ _ hlo3 hlo j3 (by rw [← hbl]; exact hh)), j4⟩
        · have hlen : ((lst dec n_ e_).take i ++ lst dec n1 (fun i => el2 (f2 + i)) ++ (lst dec n_ e_).drop i).length = n_ + n1 := by simp [lst_length]; omega
          rw [hFx, Option.getD_some, hlen]
          refine post_moved hH0 (hres _ _ hg) hbl hI.own hI.gr hI.at_ (fun q hq => by rw [lsEl, henc]) (fun q j u hq hj hu => ?_) (ins_cells hk0 henc hin hown.1 hnk (LstOk.eq g0 hfl) (LstOk.eq g1 hfl) q8 (fun q j d u hq hd hu => hrep q j d u hq hd (by rw [g1.1 (by omega)]; exact hu))) rfl rfl rfl
          have hmem := List.mem_of_getElem? hu
          rw [List.mem_append, List.mem_append] at hmem
          have hxo : ∀ u ∈ xs0, u.oneCell' = true := by
            intro u hu
            obtain ⟨q, hq⟩ := List.getElem?_of_mem hu
            have hlt := (List.getElem?_eq_some_iff.1 hq).1
            rw [hown.1] at hlt
            have hd : q / k_ < n_ := Nat.div_lt_of_lt_mul (by rw [Nat.mul_comm]; exact hlt)
            exact q7 (q / k_) (q % k_) u hd (Nat.mod_lt _ hk0) (by rw [Nat.div_add_mod' q k_]; exact hq)
          rcases hmem with (h | h) | h
          · exact hxo u (List.mem_of_mem_take h)
          · exact hone u h
          · exact hxo u (List.mem_of_mem_drop h)
    · cases hmc
  · next a1 k1 n1 e1 hv =>
    obtain ⟨b', c', rfl, hb', hc'⟩ := viewF3 hv
    cases hb : (handOk [] H false [true, false, false] [.c .nil, b', c'] && isRw2 [.c .nil, b', c']) with
    | false => rw [hb] at hmc; cases hmc
    | true =>
      rw [hb] at hmc
      simp only [Bool.and_eq_true] at hb
      obtain ⟨hk, hrw⟩ := hb
      cases hmc
      obtain ⟨g1, hp⟩ := allq hp
      obtain ⟨gs, hp⟩ := allq hp
      obtain ⟨x, hFx⟩ := Option.isSome_iff_exists.1 gs
      obtain ⟨⟨i0, i1, hcap⟩, rfl⟩ := hF _ _ _ _ hFx
      obtain ⟨o2, k2, f2, n2, rfl⟩ := isRw2_inv hrw
      obtain ⟨t2, m2, el2, hg2, rfl, rfl, rfl⟩ := view_row_inv hc'
      have hlit := view_lit hb'
      subst hlit
      obtain ⟨u0, u1, u2, rfl⟩ : ∃ u0 u1 u2, xs = [u0, u1, u2] := by
        match xs, hx.1 with
        | [u0, u1, u2], _ => exact ⟨u0, u1, u2, rfl⟩
      have h0 := (hx.2 0 u0 _ rfl rfl).nil_inv
      have h1 := (hx.2 1 u1 _ rfl rfl).lit_inv
      have h2 := hx.2 2 u2 _ rfl rfl
      subst h0 h1
      obtain ⟨a, c, news, rfl, hc, hm, hcell, hnl, hone, hrep⟩ := own_news hH hg2 h2
      rw [List.length_nil] at i1 hcap
      rw [lst_length] at hcap
      obtain ⟨hc1, hc2⟩ := hcap
      have : a1 = ((0 : Nat) : Int) := by simp at i1; omega
      subst this
      have hnk : news.length = n1 * k := by
        by_cases hz : 0 < n1
        · rw [hnl, g1.1 hz]
        · have : n1 = 0 := by omega
          rw [hnl, this]; simp
      refine (hR w (.slice none 0 0) 0 0 [] a n1 c news (World.ownsRow_nil w 0 e _) (by simp) (Nat.le_refl _) hc hm (fun hz => ?_) hnk hone hc1 hc2).mono fun v' w' hI => ?_
      · obtain ⟨g2, p2, C2, e2, j1, j2, j3, j4⟩ := hcell hz
        exact ⟨g2, p2, C2, e2, j1, j2, by simp [Value.ownBlock], j4⟩
      · have hown := hI.own
        simp only [Nat.zero_add, List.take_nil, List.drop_nil, List.nil_append, List.append_nil] at hown
        rw [hFx, Option.getD_some]
        simp only [List.take_nil, List.drop_nil, List.nil_append, List.append_nil, lst_length]
        refine post_fresh hH0 hfn hown hI.gr hI.at_ (fun q hq => by rw [lsEl, henc]) (fun q j u hq hj hu => hone u (List.mem_of_getElem? hu)) (fun q j d u hq hd hu => ?_) rfl rfl rfl
        rw [lsEl, lst_getD hq, ← LstOk.eq g1 hfl q hq] at hd
        exact hrep q j d u hq hd (by rw [g1.1 (by omega)]; exact hu)
  · cases hmc
end
end Go.Ax

/- From the walk of its body to what a run leaves. -/
namespace Go.Ax
open Go.RowKit

theorem step_copy_wide {P : Program} {ops : Array Oper} {o : Oper} {a : Act} {w : World} {K : Act → World → Prop} {Q : Exit → Act → World → Prop} {E : Prop}
    (hg : o.guard = none) (d x : Operand) (dT sT : TypeId) (hop : o.op = Op.call { callee := Callee.builtin Builtin.copy, args := #[d, x], argTypes := #[dT, sT] })
    (v u : Value) (hd : a.eval d = v) (hx : a.eval x = u) {v' : Value} {w' : World} (hr : (Builtin.copy_ #[dT, sT] o.type #[v, u]).run P w = .ok v' w') (hK : K (a.put o.dst v') w') :
    if Region.wanted o (yielded ops a.tmps) = true then Oper.wp P o a w K Q else E := by
  have hw : Region.wanted o (yielded ops a.tmps) = true := by simp [Region.wanted, hg]
  rw [if_pos hw]
  unfold Oper.wp
  simp [execOp, hop, resolve, invoke, builtin, hd, hx, hr, Result.andThen]
  exact hK

theorem wpList_copy_wide {P : Program} (w : World) {ops : Array Oper} {rest : List Oper} {o : Oper} {a : Act} {Q : Exit → Act → World → Prop} (hgd : o.guard = none) (d s : Operand) (t t' : TypeId)
    (ho : o.op = .call { callee := .builtin .copy, args := #[d, s], argTypes := #[t, t'] }) (v u : Value) (hd : a.eval d = v) (hs : a.eval s = u) {v' : Value} {w' : World}
    (hr : (Builtin.copy_ #[t, t'] o.type #[v, u]).run P w = .ok v' w') (h : wpList P ops Q rest (a.put o.dst v') w') : wpList P ops Q (o :: rest) a w :=
  wpList_plain hgd fun _ hK => by
    unfold Oper.wp execOp
    simp only [ho, resolve, invoke, builtin, Sem.run_bind, Sem.run_pure, Result.andThen_ok, List.map_toArray, List.map_cons, List.map_nil, hd, hs, hr]
    exact hK _ _ h

/-- slices.overlaps at two own rows. -/
theorem overlaps_false {P : Program} {fo tS tR e k : Nat} {fn : Func} (hf : P.funcs[fo]? = some fn) (h1 : (fn.name == "runtime.NumGoroutine") = false) (h2 : fn.body.isNone = true) (h3 : Extern.findNext fn = none) (h4 : Extern.find fn = some (Extern.SlicesOverlaps.overlaps #[tS, tS] #[tR]))
    (ht : P.underlying tS = some (.slice e)) (hz : ∀ w, (Go.sizeOf e).run P w = .ok k w) (w : World) (vb voff m vc g o lb cb : Nat) (tA tB : TypeId) (CA CB : Array Value) (hne : vb ≠ g) (ha : w.heap[vb]? = some (.cells CA tA (0, 0))) (hb : w.heap[g]? = some (.cells CB tB (0, 0))) (hs : CB.size ≠ 0) :
    (callFunc fo #[.slice (some ⟨vb, voff, none⟩) m vc, .slice (some ⟨g, o, none⟩) lb cb]).run P w = .ok (.value (.bool false)) w := by
  rw [run_callFunc_extern hf h1 h2 h3 h4, Lib.run_overlaps_apart w tS tR e ht k hz ⟨vb, voff, none⟩ ⟨g, o, none⟩ m vc lb cb hne tA tB CA.size CB.size (by simp [World.shape?, ha]) (by simp [World.shape?, hb]) hs (by simp [World.frozen?, ha]) (by simp [World.frozen?, ha])]
  rfl

/-- What the walk of slices.Insert gives, road by road. -/
structure InsWalk (P : Program) (f : FuncId) (tS tI fo k : Nat) : Prop where
  none_ : ∀ (w : World) (ad a2 : Option Addr) (n c i vc : Nat), i ≤ n → n ≤ c → (ad = none → n = 0 ∧ c = 0) →
    Calls P f #[.slice ad n c, .int .i64 i, .slice a2 0 vc] w fun e w' => e = .returned (.slice ad n c) ∧ w' = w
  end_ : ∀ (w : World) (ad a2 : Option Addr) (n c m vc : Nat) (v' : Value) (w1 : World), 0 < m → n ≤ c → (ad = none → n = 0 ∧ c = 0) →
    (∀ ty, (Builtin.append_ #[tS, tS] ty #[.slice ad n c, .slice a2 m vc]).run P w = .ok v' w1) →
    Calls P f #[.slice ad n c, .int .i64 n, .slice a2 m vc] w fun e w' => e = .returned v' ∧ w' = w1
  grow : ∀ (w : World) (g n c i vb voff m vc N G : Nat) (W1 W2 W3 : World), i < n → 0 < m → n ≤ c → c < n + m → n + m ≤ G → G ≤ 9223372036854775807 → n + m ≤ 140737488355328 →
    (∀ ty, (Builtin.append_ #[tS, tI] ty #[.slice (some ⟨g, 0, none⟩) i c, .int .i64 ((n : Int) + (m : Int) - (i : Int))]).run P w = .ok (.slice (some ⟨N, 0, none⟩) (n + m) G) W1) →
    (∀ ty dc, (Builtin.copy_ #[tS, tS] ty #[.slice (some ⟨N, i * k, none⟩) (n + m - i) dc, .slice (some ⟨vb, voff, none⟩) m vc]).run P W1 = .ok (goInt m) W2) →
    (∀ ty dc sc, (Builtin.copy_ #[tS, tS] ty #[.slice (some ⟨N, (i + m) * k, none⟩) (n + m - (i + m)) dc, .slice (some ⟨g, i * k, none⟩) (n - i) sc]).run P W2.drew = .ok (goInt ((n - i : Nat) : Int)) W3) →
    Calls P f #[.slice (some ⟨g, 0, none⟩) n c, .int .i64 i, .slice (some ⟨vb, voff, none⟩) m vc] w fun e w' => e = .returned (.slice (some ⟨N, 0, none⟩) (n + m) G) ∧ w' = W3
  room : ∀ (w : World) (g n c i vb voff m vc : Nat) (W1 W2 : World), i < n → 0 < m → n + m ≤ c → c ≤ 9223372036854775807 → vb ≠ g →
    (∀ lb cb, (callFunc fo #[.slice (some ⟨vb, voff, none⟩) m vc, .slice (some ⟨g, (i + m) * k, none⟩) lb cb]).run P w = .ok (.value (.bool false)) w) →
    (∀ ty dc sc, (Builtin.copy_ #[tS, tS] ty #[.slice (some ⟨g, (i + m) * k, none⟩) (n + m - (i + m)) dc, .slice (some ⟨g, i * k, none⟩) (n + m - i) sc]).run P w.drew = .ok (goInt ((n - i : Nat) : Int)) W1) →
    (∀ ty dc, (Builtin.copy_ #[tS, tS] ty #[.slice (some ⟨g, i * k, none⟩) (n + m - i) dc, .slice (some ⟨vb, voff, none⟩) m vc]).run P W1 = .ok (goInt m) W2) →
    Calls P f #[.slice (some ⟨g, 0, none⟩) n c, .int .i64 i, .slice (some ⟨vb, voff, none⟩) m vc] w fun e w' => e = .returned (.slice (some ⟨g, 0, none⟩) (n + m) c) ∧ w' = W2

theorem spl_get {α : Type} {l xs : List α} {o : Nat} (h : o + xs.length ≤ l.length) (q : Nat) : (spl l xs o)[q]? = if o ≤ q ∧ q < o + xs.length then xs[q - o]? else l[q]? := by
  rw [spl, splice_setL l xs o h, setL_get]
  by_cases h1 : o ≤ q ∧ q < o + xs.length
  · rw [if_pos ⟨h1.1, h1.2, by omega⟩, if_pos h1]
  · rw [if_neg (by omega), if_neg h1]
theorem spl_len {α : Type} {l xs : List α} {o : Nat} (h : o + xs.length ≤ l.length) : (spl l xs o).length = l.length := by
  rw [spl]; simp; omega

theorem app3_get {α : Type} (xs news : List α) (a : Nat) (h : a ≤ xs.length) (q : Nat) : (xs.take a ++ news ++ xs.drop a)[q]? = if q < a then xs[q]? else if q < a + news.length then news[q - a]? else xs[q - news.length]? := by
  have h1 : (xs.take a).length = a := by rw [List.length_take]; omega
  rw [List.append_assoc, List.getElem?_append, h1]
  split
  · next hq => rw [List.getElem?_take, if_pos hq]
  · next hq =>
    rw [List.getElem?_append]
    split
    · next h2 => rw [if_pos (by omega)]
    · next h2 => rw [if_neg (by omega), List.getElem?_drop]; congr 1; omega

/-- The row behind a shift in place. -/
theorem room_list {α : Type} {cur xs news : List α} {a b c : Nat} (hx : cur.take c = xs) (hl : xs.length = c) (ha : a ≤ c) (hb : b = a + news.length) (hc : c + news.length ≤ cur.length) :
    (spl (spl cur (xs.drop a) b) news a).take (c + news.length) = xs.take a ++ news ++ xs.drop a := by
  have hd : (xs.drop a).length = c - a := by rw [List.length_drop, hl]
  have f1 : b + (xs.drop a).length ≤ cur.length := by omega
  apply List.ext_getElem?
  intro q
  rw [app3_get _ _ _ (by omega), List.getElem?_take]
  have hxq : ∀ q, q < c → cur[q]? = xs[q]? := by
    intro q hq
    rw [← hx, List.getElem?_take, if_pos hq]
  by_cases hq : q < c + news.length
  · rw [if_pos hq, spl_get (by rw [spl_len f1]; omega), spl_get f1]
    by_cases c1 : q < a
    · rw [if_neg (by omega), if_neg (by omega), if_pos c1, hxq q (by omega)]
    · rw [if_neg c1]
      by_cases c2 : q < a + news.length
      · rw [if_pos ⟨by omega, c2⟩, if_pos c2]
      · rw [if_neg (by omega), if_neg c2, if_pos ⟨by omega, by omega⟩, List.getElem?_drop]
        congr 1; omega
  · rw [if_neg hq, if_neg (by omega), if_neg (by omega), List.getElem?_eq_none (by omega)]

/-- The row behind an insertion into a new row. -/
theorem grow_list {α : Type} {row xs news : List α} {a b c : Nat} (hx : row.take a = xs.take a) (hl : xs.length = c) (ha : a ≤ c) (hb : b = a + news.length) (hc : c + news.length ≤ row.length) :
    (spl (spl row news a) (xs.drop a) b).take (c + news.length) = xs.take a ++ news ++ xs.drop a := by
  have hd : (xs.drop a).length = c - a := by rw [List.length_drop, hl]
  have f1 : a + news.length ≤ row.length := by omega
  apply List.ext_getElem?
  intro q
  rw [app3_get _ _ _ (by omega), List.getElem?_take]
  have hxq : ∀ q, q < a → row[q]? = xs[q]? := by
    intro q hq
    have := congrArg (fun l => l[q]?) hx
    simpa [List.getElem?_take, hq] using this
  by_cases hq : q < c + news.length
  · rw [if_pos hq, spl_get (by rw [spl_len f1]; omega), spl_get f1]
    by_cases c1 : q < a
    · rw [if_neg (by omega), if_neg (by omega), if_pos c1, hxq q c1]
    · rw [if_neg c1]
      by_cases c2 : q < a + news.length
      · rw [if_neg (by omega), if_pos ⟨by omega, c2⟩, if_pos c2]
      · rw [if_neg c2, if_pos ⟨by omega, by omega⟩, List.getElem?_drop]
        congr 1; omega
  · rw [if_neg hq, if_neg (by omega), if_neg (by omega), List.getElem?_eq_none (by omega)]

theorem InsWalk.run {P : Program} {f : FuncId} {tS tI fo k e b : Nat} {z : Value} {ti : TypeInfo} (L : InsWalk P f tS tI fo k) (ht : P.underlying tS = some (.slice e)) (htI : P.underlying tI = some (.int .i64)) (hi : P.info? e = some ti) (hz : ti.zero = some z)
    (hsz : ti.size = k) (hby : ti.bytes = b) (hzs : z.cells.size = k) (hk : 0 < k) (hent : ∀ args w, (callFunc f args).run P w = .ok (.enter f args) w)
    (hov : ∀ (w : World) (vb voff m vc g o lb cb : Nat) (tA tB : TypeId) (CA CB : Array Value), vb ≠ g → w.heap[vb]? = some (.cells CA tA (0, 0)) → w.heap[g]? = some (.cells CB tB (0, 0)) → CB.size ≠ 0 →
      (callFunc fo #[.slice (some ⟨vb, voff, none⟩) m vc, .slice (some ⟨g, o, none⟩) lb cb]).run P w = .ok (.value (.bool false)) w) : InsRun P f e k b := by
  intro w v n i xs a2 m c2 news hown h1x hin hmc hcm ha2 hnl h1n hb1 hb2
  subst hsz hby
  refine .inl ⟨hent _ _, ?_⟩
  by_cases hm : m = 0
  · subst hm
    have hn0 : news = [] := List.eq_nil_of_length_eq_zero (by simpa using hnl)
    subst hn0
    have hI : InsAt w e ti.size v n 0 i xs [] v w := ⟨by simpa using hown, ⟨rfl, rfl, rfl, Nat.le_refl _, fun _ _ _ => rfl⟩, .inl rfl⟩
    rcases hown.2 with ⟨rfl, rfl⟩ | ⟨g, cap, cur, rfl, _, hg, hnc, hcap, hcs, htk⟩
    · refine (L.none_ w none a2 0 0 i c2 hin (Nat.le_refl _) (fun _ => ⟨rfl, rfl⟩)).mono ?_
      rintro _ _ ⟨rfl, rfl⟩
      exact ⟨_, rfl, hI⟩
    · refine (L.none_ w (some ⟨g, 0, none⟩) a2 n cap i c2 hin hnc (fun h => by cases h)).mono ?_
      rintro _ _ ⟨rfl, rfl⟩
      exact ⟨_, rfl, hI⟩
  have hm : 0 < m := by omega
  obtain ⟨g2, o2, C2, e2, rfl, hg2, hvne, hc2⟩ := ha2 hm
  have hcell2 : ∀ (j : Nat) (u : Value), news[j]? = some u → w.cell? ((⟨g2, o2, none⟩ : Addr).add j) = some u := by
    intro j u hj
    rw [add_plain, cell_of_row w g2 _ C2 e2 (0, 0) hg2]
    exact hc2 j u hj
  by_cases hie : i = n
  · subst hie
    obtain ⟨v', w', hr, hown', hgr, hat⟩ := run_append_at (P := P) (w := w) tS 0 e ti z ti.size ti.bytes ht hi hz rfl rfl hzs hk v i xs hown (some ⟨g2, o2, none⟩) m c2 news hnl (fun _ => ⟨_, rfl, hcell2⟩) h1n (by unfold maxLen; omega) (by omega)
    have hr' : ∀ ty, (Builtin.append_ #[tS, tS] ty #[v, .slice (some ⟨g2, o2, none⟩) m c2]).run P w = .ok v' w' := fun ty => hr
    have hI : InsAt w e ti.size v i m i xs news v' w' := by
      refine ⟨?_, hgr, hat⟩
      rw [← hown.1, List.take_length, List.drop_length, List.append_nil]
      exact hown'
    rcases hown.2 with ⟨rfl, rfl⟩ | ⟨g, cap, cur, rfl, _, hg, hnc, hcap, hcs, htk⟩
    · refine (L.end_ w none _ 0 0 m c2 v' w' hm (Nat.le_refl _) (fun _ => ⟨rfl, rfl⟩) hr').mono ?_
      rintro _ _ ⟨rfl, rfl⟩
      exact ⟨_, rfl, hI⟩
    · refine (L.end_ w (some ⟨g, 0, none⟩) _ i cap m c2 v' w' hm hnc (fun h => by cases h) hr').mono ?_
      rintro _ _ ⟨rfl, rfl⟩
      exact ⟨_, rfl, hI⟩
  have hlt : i < n := by omega
  rcases hown.2 with ⟨rfl, rfl⟩ | ⟨g, cap, cur, rfl, _, hg, hnc, hcap, hcs, htk⟩
  · omega
  have hgne : g2 ≠ g := fun h => hvne (by rw [h]; rfl)
  have e1 : (i + m) * ti.size = i * ti.size + news.length := by rw [hnl, Nat.add_mul]
  have e2' : (n + m) * ti.size = n * ti.size + news.length := by rw [hnl, Nat.add_mul]
  have e3 : i * ti.size ≤ n * ti.size := Nat.mul_le_mul_right _ hin
  have e4 : n * ti.size ≤ cap * ti.size := Nat.mul_le_mul_right _ hnc
  have hdl : (xs.drop (i * ti.size)).length = (n - i) * ti.size := by rw [List.length_drop, hown.1, Nat.sub_mul]
  have hxc : ∀ (q : Nat) (u : Value), xs[q]? = some u → cur[q]? = some u := by
    intro q u hq
    rw [← htk, List.getElem?_take] at hq
    split at hq
    · rwa [Array.getElem?_toList] at hq
    · cases hq
  have hsrcx : ∀ (W : World), W.heap[g]? = w.heap[g]? → ∀ j u, (xs.drop (i * ti.size))[j]? = some u → W.cell? ((⟨g, i * ti.size, none⟩ : Addr).add j) = some u := by
    intro W hW j u hj
    rw [add_plain, cell_of_row W g _ cur e (0, 0) (hW.trans hg)]
    rw [List.getElem?_drop] at hj
    exact hxc _ u hj
  have hcl : cur.toList.length = cap * ti.size := by simpa using hcs
  by_cases hroom : n + m ≤ cap
  · have e5 : n * ti.size + news.length ≤ cap * ti.size := by rw [← e2']; exact Nat.mul_le_mul_right _ hroom
    have fit1 : (i + m) * ti.size + (xs.drop (i * ti.size)).length ≤ cur.toList.length := by rw [hdl, hcl, e1, Nat.sub_mul]; omega
    have hcp1 : ∀ ty dc sc, (Builtin.copy_ #[tS, tS] ty #[.slice (some ⟨g, (i + m) * ti.size, none⟩) (n + m - (i + m)) dc, .slice (some ⟨g, i * ti.size, none⟩) (n + m - i) sc]).run P w.drew = .ok (goInt ((n - i : Nat) : Int)) (w.drew.setRow g (spl cur.toList (xs.drop (i * ti.size)) ((i + m) * ti.size)).toArray) := by
      intro ty dc sc
      have hmin : Nat.min (n + m - i) (n + m - (i + m)) = n - i := by simp only [Nat.min_def]; split <;> omega
      have := run_copy_wide (P := P) w.drew tS tS ty e ti ht hi g ((i + m) * ti.size) (n + m - (i + m)) dc ⟨g, i * ti.size, none⟩ (n + m - i) sc (xs.drop (i * ti.size)) cur e hg (by rw [hmin, hdl]) (hsrcx w.drew rfl) (by simpa using fit1) (fun u hu => h1x u (List.mem_of_mem_drop hu))
      rwa [hmin] at this
    have hg1 : (w.drew.setRow g (spl cur.toList (xs.drop (i * ti.size)) ((i + m) * ti.size)).toArray).heap[g]? = some (.cells (spl cur.toList (xs.drop (i * ti.size)) ((i + m) * ti.size)).toArray e (0, 0)) := setRow_heap w.drew g cur _ e (0, 0) hg
    have fit2 : i * ti.size + news.length ≤ (spl cur.toList (xs.drop (i * ti.size)) ((i + m) * ti.size)).length := by rw [spl_len fit1, hcl]; omega
    have hcp2 : ∀ ty dc, (Builtin.copy_ #[tS, tS] ty #[.slice (some ⟨g, i * ti.size, none⟩) (n + m - i) dc, .slice (some ⟨g2, o2, none⟩) m c2]).run P (w.drew.setRow g (spl cur.toList (xs.drop (i * ti.size)) ((i + m) * ti.size)).toArray) =
        .ok (goInt m) ((w.drew.setRow g (spl cur.toList (xs.drop (i * ti.size)) ((i + m) * ti.size)).toArray).setRow g (spl (spl cur.toList (xs.drop (i * ti.size)) ((i + m) * ti.size)) news (i * ti.size)).toArray) := by
      intro ty dc
      have hmin : Nat.min m (n + m - i) = m := by simp only [Nat.min_def]; split <;> omega
      have := run_copy_wide (P := P) (w.drew.setRow g (spl cur.toList (xs.drop (i * ti.size)) ((i + m) * ti.size)).toArray) tS tS ty e ti ht hi g (i * ti.size) (n + m - i) dc ⟨g2, o2, none⟩ m c2 news _ e hg1 (by rw [hmin, hnl])
        (fun j u hj => by
          rw [cell_of_heap (w := w) (by rw [add_block]; exact setRow_other w.drew g g2 _ hgne)]
          exact hcell2 j u hj) (by simpa using fit2) h1n
      rwa [hmin] at this
    refine (L.room w g n cap i g2 o2 m c2 _ _ hlt hm hroom (by unfold maxLen at hcap; omega) hgne (fun lb cb => hov w g2 o2 m c2 g _ lb cb e2 e C2 cur hgne hg2 hg ?_) hcp1 hcp2).mono ?_
    · rw [hcs]; exact Nat.mul_ne_zero (by omega) (by omega)
    · rintro _ _ ⟨rfl, rfl⟩
      refine ⟨_, rfl, ⟨?_, .inr ⟨g, cap, _, rfl, Nat.zero_le _, setRow_heap _ g _ _ e (0, 0) hg1, hroom, hcap, ?_, ?_⟩⟩, ⟨rfl, rfl, rfl, by simp, fun q hq hne => ?_⟩, .inl rfl⟩
      · simp only [List.length_append, List.length_take, List.length_drop, hown.1, e2']; omega
      · rw [List.size_toArray, spl_len fit2, spl_len fit1, hcl]
      · rw [e2']
        exact room_list htk hown.1 e3 e1 (by rw [hcl]; exact e5)
      · have hqg : q ≠ g := fun h => hne (by rw [h]; rfl)
        rw [setRow_other _ g q _ hqg, setRow_other _ g q _ hqg]; rfl
  · -- a new row
    have hgrown := grownCap_ge w (n + m) cap e
    have hgm := grownCap_le_maxLen w (n + m) cap e (by unfold maxLen; omega)
    obtain ⟨ROW, hROW⟩ : ∃ ROW : Array Value, ROW = (xs.take (i * ti.size)).toArray ++ Builtin.zeroCells z.cells (n + m - i) ++ Builtin.zeroCells z.cells (grownCap w (n + m) cap e - (n + m)) := ⟨_, rfl⟩
    have hRs : ROW.size = grownCap w (n + m) cap e * ti.size := by
      rw [hROW]
      simp only [Array.size_append, List.size_toArray, size_zeroCells, hzs, List.length_take, hown.1]
      rw [Nat.min_eq_left e3, ← Nat.add_mul, ← Nat.add_mul]
      congr 1; omega
    have hRl : ROW.toList.length = grownCap w (n + m) cap e * ti.size := by simpa using hRs
    have e6 : n * ti.size + news.length ≤ ROW.size := by rw [hRs, ← e2']; exact Nat.mul_le_mul_right _ hgrown
    have hkk : (n : Int) + (m : Int) - (i : Int) = ((n + m - i : Nat) : Int) := by omega
    have hap : ∀ ty, (Builtin.append_ #[tS, tI] ty #[.slice (some ⟨g, 0, none⟩) i cap, .int .i64 ((n : Int) + (m : Int) - (i : Int))]).run P w = .ok (.slice (some ⟨w.heap.size, 0, none⟩) (n + m) (grownCap w (n + m) cap e)) (w.drew.alloc (.cells ROW e)) := by
      intro ty
      have hik : i + (n + m - i) = n + m := by omega
      have hfit : Builtin.nextslicecap (n + m) cap * ti.bytes ≤ 281474976710656 := growslice_fits (by omega) (by omega)
      have hsm : (n + m - i) * ti.bytes ≤ (n + m) * ti.bytes := Nat.mul_le_mul_right _ (by omega)
      have h := Lib.run_append_grow_zeros w tS tI ty e ti z .i64 .i64 ht htI hi hz (some ⟨g, 0, none⟩) i cap (xs.take (i * ti.size))
        (run_firstCells_some w.drew ti.size i ⟨g, 0, none⟩ i cap _ (by rw [List.length_take, hown.1]; omega) (fun j u hj => by
          rw [add_plain, Nat.zero_add, cell_of_row w.drew g _ cur e (0, 0) hg]
          rw [List.getElem?_take] at hj
          split at hj
          · exact hxc _ u hj
          · cases hj)) (n + m - i) (by omega) (by omega) (by omega) (by rw [hik]; omega) (by omega) (by rw [hik]; exact hfit)
      rw [hik] at h
      rw [hkk, hROW]
      exact h
    have hgN : g ≠ w.heap.size := by have := heap_lt hg; omega
    have hg2N : g2 ≠ w.heap.size := by have := heap_lt hg2; omega
    have hW1 : (w.drew.alloc (.cells ROW e)).heap[w.heap.size]? = some (.cells ROW e (0, 0)) := heap_alloc_new w.drew _
    have hold : ∀ q, q < w.heap.size → (w.drew.alloc (.cells ROW e)).heap[q]? = w.heap[q]? := fun q hq => Below.heap_alloc w.drew _ q hq
    have fit1 : i * ti.size + news.length ≤ ROW.toList.length := by rw [hRl, ← hRs]; omega
    have hcp1 : ∀ ty dc, (Builtin.copy_ #[tS, tS] ty #[.slice (some ⟨w.heap.size, i * ti.size, none⟩) (n + m - i) dc, .slice (some ⟨g2, o2, none⟩) m c2]).run P (w.drew.alloc (.cells ROW e)) = .ok (goInt m) ((w.drew.alloc (.cells ROW e)).setRow w.heap.size (spl ROW.toList news (i * ti.size)).toArray) := by
      intro ty dc
      have hmin : Nat.min m (n + m - i) = m := by simp only [Nat.min_def]; split <;> omega
      have := run_copy_wide (P := P) (w.drew.alloc (.cells ROW e)) tS tS ty e ti ht hi w.heap.size (i * ti.size) (n + m - i) dc ⟨g2, o2, none⟩ m c2 news ROW e hW1 (by rw [hmin, hnl])
        (fun j u hj => by
          rw [cell_of_heap (w := w) (by rw [add_block]; exact hold g2 (heap_lt hg2))]
          exact hcell2 j u hj) (by simpa using fit1) h1n
      rwa [hmin] at this
    have hW2 := setRow_heap (w.drew.alloc (.cells ROW e)) w.heap.size ROW (spl ROW.toList news (i * ti.size)).toArray e (0, 0) hW1
    have fit2 : (i + m) * ti.size + (xs.drop (i * ti.size)).length ≤ (spl ROW.toList news (i * ti.size)).length := by rw [spl_len fit1, hdl, hRl, ← hRs, e1, Nat.sub_mul]; omega
    have hcp2 : ∀ ty dc sc, (Builtin.copy_ #[tS, tS] ty #[.slice (some ⟨w.heap.size, (i + m) * ti.size, none⟩) (n + m - (i + m)) dc, .slice (some ⟨g, i * ti.size, none⟩) (n - i) sc]).run P ((w.drew.alloc (.cells ROW e)).setRow w.heap.size (spl ROW.toList news (i * ti.size)).toArray).drew =
        .ok (goInt ((n - i : Nat) : Int)) (((w.drew.alloc (.cells ROW e)).setRow w.heap.size (spl ROW.toList news (i * ti.size)).toArray).drew.setRow w.heap.size (spl (spl ROW.toList news (i * ti.size)) (xs.drop (i * ti.size)) ((i + m) * ti.size)).toArray) := by
      intro ty dc sc
      have hmin : Nat.min (n - i) (n + m - (i + m)) = n - i := by simp only [Nat.min_def]; split <;> omega
      have := run_copy_wide (P := P) ((w.drew.alloc (.cells ROW e)).setRow w.heap.size (spl ROW.toList news (i * ti.size)).toArray).drew tS tS ty e ti ht hi w.heap.size ((i + m) * ti.size) (n + m - (i + m)) dc ⟨g, i * ti.size, none⟩ (n - i) sc (xs.drop (i * ti.size)) _ e hW2 (by rw [hmin, hdl])
        (hsrcx _ ((setRow_other (w.drew.alloc (.cells ROW e)) w.heap.size g _ hgN).trans (hold g (heap_lt hg)))) (by simpa using fit2) (fun u hu => h1x u (List.mem_of_mem_drop hu))
      rwa [hmin] at this
    refine (L.grow w g n cap i g2 o2 m c2 w.heap.size _ _ _ _ hlt hm hnc (by omega) hgrown (by unfold maxLen at hgm; omega) hb2 hap hcp1 hcp2).mono ?_
    rintro _ _ ⟨rfl, rfl⟩
    refine ⟨_, rfl, ⟨?_, .inr ⟨w.heap.size, _, _, rfl, Nat.zero_le _, setRow_heap _ w.heap.size _ _ e (0, 0) hW2, hgrown, hgm, ?_, ?_⟩⟩, ⟨rfl, rfl, rfl, by simp, fun q hq hne => ?_⟩, .inr ⟨rfl, by simp⟩⟩
    · simp only [List.length_append, List.length_take, List.length_drop, hown.1, e2']; omega
    · rw [List.size_toArray, spl_len fit2, spl_len fit1, hRl]
    · rw [e2']
      refine grow_list ?_ hown.1 e3 e1 (by rw [hRl, ← hRs]; exact e6)
      rw [hROW]
      simp only [Array.toList_append, List.append_assoc]
      rw [List.take_append_of_le_length (by rw [List.length_take, hown.1]; omega)]
      rw [List.take_take, Nat.min_self]
    · have hqN : q ≠ w.heap.size := by omega
      rw [setRow_other _ w.heap.size q _ hqN]
      exact (setRow_other (w.drew.alloc (.cells ROW e)) w.heap.size q _ hqN).trans (hold q hq)
end Go.Ax
