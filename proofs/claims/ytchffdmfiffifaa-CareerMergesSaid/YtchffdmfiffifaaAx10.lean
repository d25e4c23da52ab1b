import Derived.Test.YtchffdmfiffifaaAy1
/- Contracts, calls, and all operations together. -/
namespace Go.Ax
open Go.RowKit

/-- An environment without objects. -/
def env0 (ok : Nat → Prop) : Env := ⟨fun _ => none, fun _ => 0, fun _ => 0, fun _ => False, ok⟩

/-- What a contract says of the value that comes back. -/
def OutAt (ok : Nat → Prop) (w w' : World) (v : Value) : Out → Prop
  | .data d => RepV (env0 fun b => ok b ∨ (w.heap.size ≤ b ∧ b < w'.heap.size)) w' v d
  | .new d => RepV (env0 fun b => w.heap.size ≤ b ∧ b < w'.heap.size) w' v d
  | .own fr t k n el => ∃ xs, w'.ownsRow w.heap.size t k v n xs ∧ (∀ i, i < n → (el i).length = k) ∧ (∀ i j u, i < n → j < k → xs[i * k + j]? = some u → u.oneCell' = true) ∧
      ∀ i j d u, i < n → (el i)[j]? = some d → xs[i * k + j]? = some u → RepD (fun b => (fr = false ∧ ok b) ∨ (w.heap.size ≤ b ∧ b < w'.heap.size ∧ v.ownBlock ≠ some b)) w' u d

/-- A call of the function: it is entered and returns, or it gives its value at once. -/
def Does (P : Program) (f : FuncId) (args : Array Value) (w : World) (R : Value → World → Prop) : Prop :=
  ((callFunc f args).run P w = .ok (.enter f args) w ∧ Calls P f args w fun e w' => ∃ v, e = .returned v ∧ R v w') ∨ ∃ v w', (callFunc f args).run P w = .ok (.value v) w' ∧ R v w'

theorem Does.mono {P : Program} {f : FuncId} {args : Array Value} {w : World} {R R' : Value → World → Prop} (h : Does P f args w R) (hr : ∀ v w', R v w' → R' v w') : Does P f args w R' := by
  rcases h with ⟨h1, h2⟩ | ⟨v, w', h1, h2⟩
  · refine .inl ⟨h1, h2.mono ?_⟩
    rintro e w' ⟨v, rfl, h⟩
    exact ⟨v, rfl, hr v w' h⟩
  · exact .inr ⟨v, w', h1, hr v w' h2⟩

/-- The function meets the contract. -/
def Meets (P : Program) (f : FuncId) (con : Con) : Prop :=
  ∀ (ok : Nat → Prop) (w : World) (xs : List Value) (vs : List V) (p : List Prop) (out : Out), RepL (env0 ok) w xs vs → (∀ b, ok b → b < w.heap.size) → con vs = some (p, out) → (∀ q ∈ p, q) →
    Does P f xs.toArray w fun v w' => Below w.heap.size w w' ∧ OutAt ok w w' v out

/-- The function meets the contract, of whatever kind. -/
def MeetsC (P : Program) (f : FuncId) : CC → Prop
  | .pure c => Meets P f c
  | .mut m => ∀ (E : Env) (w : World) (H : Heap) (nid : Nat) (xs : List Value) (args : List V) (r : Res), HeapAt E w H → ¬ E.live nid → RepL E w xs args → m (restr (reachOf H args) H) nid args = some r → (∀ p ∈ r.pre, p) →
    Does P f xs.toArray w fun v w' => ∃ E', Post E w H nid r E' w' v

section
variable {P : Program} {ρ : Operand → Value} {E : Env} {w w' : World} {o : Oper} {r : Res} {H : Heap} {nid : Nat}

theorem views_length (H : Heap) : ∀ vs : List V, (V.views H vs).length = vs.length
  | [] => rfl
  | _ :: r => by simp [V.views, views_length H r]
theorem views_get (H : Heap) : ∀ (vs : List V) (i : Nat), (V.views H vs)[i]? = (vs[i]?).map (V.view H)
  | [], i => by simp [V.views]
  | v :: r, 0 => by simp [V.views]
  | v :: r, i + 1 => by simp [V.views, views_get H r i]

/-- A source, as data. -/
theorem src_rep {ok' : Nat → Prop} (hok : ∀ b, E.ok b → ok' b) (hown : ∀ q b, E.live q → E.conc q = some b → ok' b) {v : Value} {k n : Nat} {el : Nat → List D} {news : List Value} (h : Src E w v k n el news) : RepD ok' w v (.sl k n el) := by
  obtain ⟨a, c, rfl, hc, hm, hcell⟩ := h.form
  have hlt : ∀ i j, i < n → j < k → i * k + j < news.length := by
    intro i j hi hj
    rw [h.len]
    have : (i + 1) * k ≤ n * k := Nat.mul_le_mul_right _ hi
    rw [Nat.add_mul, Nat.one_mul] at this
    omega
  refine .sl a n c k el (fun i j => news.getD (i * k + j) undef) hc hm (fun hn => ?_) (fun i j hi hj => ?_) h.els (fun i j d hi hd => ?_)
  · obtain ⟨ad, rfl, hq⟩ := hcell hn
    refine ⟨ad, rfl, ?_, fun i j hi hj => hq _ _ ?_⟩
    · rcases h.blk ad n c rfl hn with h | ⟨q, h1, h2⟩
      · exact hok _ h
      · exact hown q _ h1 h2
    · rw [List.getD_eq_getElem?_getD, List.getElem?_eq_getElem (hlt i j hi hj)]; rfl
  · refine h.one _ ?_
    show news.getD (i * k + j) undef ∈ news
    rw [List.getD_eq_getElem?_getD, List.getElem?_eq_getElem (hlt i j hi hj)]
    exact List.getElem_mem _
  · have hj : j < k := by rw [← h.els i hi]; exact (List.getElem?_eq_some_iff.1 hd).1
    refine (h.rep i j d (news.getD (i * k + j) undef) hi hd ?_).mono hok (fun _ _ => rfl)
    rw [List.getD_eq_getElem?_getD, List.getElem?_eq_getElem (hlt i j hi hj)]
    rfl

theorem vrow_rep {ok' : Nat → Prop} (hH : HeapAt E w H) (hok : ∀ b, E.ok b → ok' b) (hown : ∀ q b, E.live q → E.conc q = some b → ok' b) {v : Value} {o' k off n : Nat} (h : RepV E w v (.row o' k off n)) :
    ∃ d, vrow H o' k off n = .c d ∧ RepD ok' w v d := by
  unfold vrow
  split
  · next e k' m el hg =>
    cases hs : Nat.beq k' k with
    | false => exact ⟨.unk, rfl, .unk _⟩
    | true =>
      have hkk : k' = k := Nat.eq_of_beq_eq_true hs
      subst hkk
      have ha : asSl H (.row o' k' off n) = some (k', n, fun i => el (off + i)) := by simp [asSl, hg]
      obtain ⟨news, hsrc⟩ := src_of hH h ha
      exact ⟨_, rfl, src_rep hok hown hsrc⟩
  · exact ⟨.unk, rfl, .unk _⟩

theorem cellD_rep {ok' : Nat → Prop} (hH : HeapAt E w H) (hok : ∀ b, E.ok b → ok' b) (hown : ∀ q b, E.live q → E.conc q = some b → ok' b) {v : Value} {d : V} (h : RepV E w v d) : RepD ok' w v (cellD H d) := by
  unfold cellD
  split
  · cases h with | c _ _ h => exact h.mono hok fun _ _ => rfl
  · next o' k off n =>
    obtain ⟨d, hd, hr⟩ := vrow_rep hH hok hown h
    rw [hd]
    exact hr
  · exact .unk _

/-- A value, seen as data. -/
theorem view_rep {ok' : Nat → Prop} (hH : HeapAt E w H) (hok : ∀ b, E.ok b → ok' b) {v : Value} {d : V} (h : RepV E w v d) :
    ((∀ q b, E.live q → E.conc q = some b → ok' b) ∨ d.refs = []) → RepV (env0 ok') w v (d.view H) := by
  induction h with
  | c v d h =>
    intro _
    have h' : RepD ok' w v d := h.mono hok fun _ _ => rfl
    cases d with
    | nil =>
      cases h
      exact .c _ _ (.sl none 0 0 0 _ (fun _ _ => undef) (Nat.le_refl _) (by simp [maxLen]) (fun h => by omega) (fun i j h => by omega) (fun i h => by omega) (fun i j d h => by omega))
    | unk => exact .c _ _ h'
    | lit u => exact .c _ _ h'
    | opt b us => exact .c _ _ h'
    | sl k n el => exact .c _ _ h'
  | agg vs ds hl h ih =>
    intro hd
    rw [V.view]
    refine .agg _ _ (by rw [views_length, hl]) fun i v d hv hd' => ?_
    rw [views_get] at hd'
    cases hx : ds[i]? with
    | none => rw [hx] at hd'; cases hd'
    | some x =>
      rw [hx] at hd'; cases hd'
      exact ih i v x hv hx (hd.imp id fun hr => refs_nil hr hx)
  | tup vs ds hl h ih =>
    intro hd
    rw [V.view]
    refine .tup _ _ (by rw [views_length, hl]) fun i v d hv hd' => ?_
    rw [views_get] at hd'
    cases hx : ds[i]? with
    | none => rw [hx] at hd'; cases hd'
    | some x =>
      rw [hx] at hd'; cases hd'
      exact ih i v x hv hx (hd.imp id fun hr => refs_nil hr hx)
  | ptr o' k i j b hn hb hi =>
    intro hd
    have hown : ∀ q b, E.live q → E.conc q = some b → ok' b := hd.resolve_right (by simp [V.refs])
    rw [V.view]
    unfold vptr
    split
    · next e k' m el hg =>
      cases hs : Nat.beq k' k with
      | false => exact .unk _
      | true =>
        have hkk : k' = k := Nat.eq_of_beq_eq_true hs
        subst hkk
        simp only [cond_true]
        obtain ⟨C, h2, h3, h4, h6, h7, h8⟩ := row_cell hH hg hb
        obtain ⟨_, hlen, _⟩ := hH.at_ _ _ hg
        have him : i < m := by omega
        have hik : (i + 1) * k' ≤ E.cap o' * k' := Nat.mul_le_mul_right _ (by omega)
        rw [Nat.add_mul, Nat.one_mul] at hik
        have hq : ∀ q, q < k' → C[i * k' + q]? = some (C.getD (i * k' + q) undef) := by
          intro q hq
          have : i * k' + q < C.size := by omega
          simp [Array.getD, this]
        have := RepV.dptr (E := env0 ok') (w := w) k' (el i) j ⟨b, i * k', none⟩ (fun q => C.getD (i * k' + q) undef) (hown o' b hn hb)
          (fun q hq' => by rw [add_plain, cell_of_row w b _ C e (0, 0) h2]; exact hq q hq') (h6 i him)
          (fun q d hd' => by
            have hqk : q < k' := by rw [← h6 i him]; exact (List.getElem?_eq_some_iff.1 hd').1
            exact (h8 i q d _ him hd' (hq q hqk)).mono hok fun _ _ => rfl)
        rwa [add_plain] at this
    · next cs hg =>
      cases hs : Nat.beq cs.length k with
      | false => exact .unk _
      | true =>
        have hkk : cs.length = k := Nat.eq_of_beq_eq_true hs
        simp only [cond_true]
        obtain ⟨_, hlen, b', C, te, h1, h2, h3⟩ := hH.at_ _ _ hg
        rw [h1] at hb; cases hb
        have hi0 : i = 0 := by omega
        subst hi0
        have hq : ∀ q, q < k → C[q]? = some (C.getD q undef) := by
          intro q hq
          have : q < C.size := by have := h3.1; simp at this; omega
          simp [Array.getD, this]
        have := RepV.dptr (E := env0 ok') (w := w) k (cs.map (cellD H)) j ⟨b, 0, none⟩ (fun q => C.getD q undef) (hown o' b hn h1)
          (fun q hq' => by rw [add_plain, Nat.zero_add, cell_of_row w b _ C te (0, 0) h2]; exact hq q hq') (by simpa using hkk)
          (fun q d hd' => by
            rw [List.getElem?_map] at hd'
            cases hx : cs[q]? with
            | none => rw [hx] at hd'; cases hd'
            | some x =>
              rw [hx] at hd'; cases hd'
              have hqk : q < k := by rw [← hkk]; exact (List.getElem?_eq_some_iff.1 hx).1
              exact cellD_rep hH hok hown (h3.2 q _ x (by rw [Array.getElem?_toList]; exact hq q hqk) hx))
        rw [add_plain, Nat.zero_add] at this
        simpa using this
    · exact .c _ _ (.unk _)
    · exact .c _ _ (.unk _)
  | row o' k off n a c hn hc hm hl ha h0 =>
    intro hd
    have hown : ∀ q b, E.live q → E.conc q = some b → ok' b := hd.resolve_right (by simp [V.refs])
    rw [V.view]
    obtain ⟨d, hd', hr⟩ := vrow_rep hH hok hown (.row o' k off n a c hn hc hm hl ha h0)
    rw [hd']
    exact .c _ _ hr
  | dptr k cs j ad u hok' hcell hl hu =>
    intro _
    rw [V.view]
    exact .dptr k cs j ad u (hok _ hok') hcell hl fun i d hd => (hu i d hd).mono hok fun _ _ => rfl
  | fn f vs ds hl h ih =>
    intro hd
    rw [V.view]
    refine .fn _ _ _ (by rw [views_length, hl]) fun i v d hv hd' => ?_
    rw [views_get] at hd'
    cases hx : ds[i]? with
    | none => rw [hx] at hd'; cases hd'
    | some x =>
      rw [hx] at hd'; cases hd'
      exact ih i v x hv hx (hd.imp id fun hr => refs_nil hr hx)
where
  refs_nil {ds : List V} {i : Nat} {x : V} (h : V.refss ds = []) (hx : ds[i]? = some x) : x.refs = [] := by
    cases hr : x.refs with
    | nil => rfl
    | cons a l =>
      have : a ∈ V.refss ds := refss_mem hx (by rw [hr]; simp)
      rw [h] at this
      simp at this

theorem refss_nil_of {vs : List V} (h : anyRefs vs = false) : V.refss vs = [] := by
  unfold anyRefs at h
  split at h
  · assumption
  · cases h

mutual
theorem scalar_rep {ok : Nat → Prop} {w w' : World} {E' : Env} : ∀ (d : V) {v : Value}, d.scalar = true → RepV (env0 ok) w v d → RepV E' w' v d
  | .c d, v, hs, h => by
    cases h with
    | c _ _ h =>
      cases h with
      | unk => exact .unk _
      | nil => exact .c _ _ .nil
      | lit => exact .lit _
      | opt => simp [V.scalar] at hs
      | sl => simp [V.scalar] at hs
  | .agg ds, v, hs, h => by
    cases h with
    | agg vs _ hl h => exact .agg _ _ hl fun i v d hv hd => scalars_rep ds (by simpa [V.scalar] using hs) i d v hd (h i v d hv hd)
  | .tup ds, v, hs, h => by
    cases h with
    | tup vs _ hl h => exact .tup _ _ hl fun i v d hv hd => scalars_rep ds (by simpa [V.scalar] using hs) i d v hd (h i v d hv hd)
  | .ptr .., v, hs, h => by simp [V.scalar] at hs
  | .row .., v, hs, h => by simp [V.scalar] at hs
  | .dptr .., v, hs, h => by simp [V.scalar] at hs
  | .fn .., v, hs, h => by simp [V.scalar] at hs
theorem scalars_rep {ok : Nat → Prop} {w w' : World} {E' : Env} : ∀ (ds : List V), V.scalars ds = true → ∀ (i : Nat) (d : V) (v : Value), ds[i]? = some d → RepV (env0 ok) w v d → RepV E' w' v d
  | [], hs, i, d, v, hd, h => by simp at hd
  | x :: r, hs, 0, d, v, hd, h => by
    simp only [V.scalars, Bool.and_eq_true] at hs
    simp at hd; subst hd
    exact scalar_rep x hs.1 h
  | x :: r, hs, i + 1, d, v, hd, h => by
    simp only [V.scalars, Bool.and_eq_true] at hs
    exact scalars_rep r hs.2 i d v (by simpa using hd) h
end

theorem env0_mono {ok : Nat → Prop} {E' : Env} (hok : ∀ b, ok b → E'.ok b) {v : Value} {d : V} (h : RepV (env0 ok) w v d) : RepV E' w v d :=
  h.mono (E := env0 ok) (kl := []) hok (fun _ _ => rfl) (fun o (ho : False) => ho.elim) (fun o (ho : False) => ho.elim) (clean_nil d)

/-- A call behind its contract. -/
theorem call_post (hH : HeapAt E w H) (hf : ¬ E.live nid) {C : FuncId → Option CC} (hC : ∀ f con, C f = some con → MeetsC P f con) {f : FuncId} {args : List V} {xs : List Value} (hx : RepL E w xs args)
    (h : callV C H nid f args = some r) (hp : ∀ p ∈ r.pre, p) :
    Does P f xs.toArray w fun v w' => ∃ E', Post E w H nid r E' w' v := by
  unfold callV at h
  split at h
  · cases h
  · next m hm => exact hC f (.mut m) hm E w H nid xs args r hH hf hx h hp
  · next con hcon =>
    have hmeet : Meets P f con := hC f (.pure con) hcon
    -- the region of data that the callee sees
    have view : ∀ ok' : Nat → Prop, (∀ b, E.ok b → ok' b) → ((∀ q b, E.live q → E.conc q = some b → ok' b) ∨ anyRefs args = false) → RepL (env0 ok') w xs (V.views H args) := by
      intro ok' h1 h2
      refine ⟨by rw [views_length]; exact hx.1, fun i v d hv hd => ?_⟩
      rw [views_get] at hd
      cases hy : args[i]? with
      | none => rw [hy] at hd; cases hd
      | some y =>
        rw [hy] at hd; cases hd
        exact view_rep hH h1 (hx.2 i v y hv hy) (h2.imp id fun h => view_rep.refs_nil (refss_nil_of h) hy)
    -- the world behind the call, when the result is data
    have dat : ∀ (w' : World), Below w.heap.size w w' → Step E w [] (E.next nid none 0 0 fun b => E.ok b ∨ (w.heap.size ≤ b ∧ b < w'.heap.size)) w' ∧ HeapAt (E.next nid none 0 0 fun b => E.ok b ∨ (w.heap.size ≤ b ∧ b < w'.heap.size)) w' H := by
      intro w' hb
      refine ⟨next_step hf none 0 0 _ hb (by simp) (fun _ h => .inl h) (fun b h => h.imp id (·.1)), next_heap hf hH hb (by simp) (fun _ h => .inl h) (fun b h => h.imp id (·.1)) fun b h => ?_⟩
      rcases h with h | h
      · have := hH.oklt b h; have := hb.size; omega
      · exact h.2
    have full : ∀ q b, E.live q → E.conc q = some b → (fun b => E.ok b ∨ ∃ q, E.live q ∧ E.conc q = some b) b := fun q b hq hb => .inr ⟨q, hq, hb⟩
    have fulllt : ∀ b, (fun b => E.ok b ∨ ∃ q, E.live q ∧ E.conc q = some b) b → b < w.heap.size := by
      rintro b (h | ⟨q, h1, h2⟩)
      · exact hH.oklt b h
      · exact hH.lt q b h1 h2
    split at h
    · cases h
    · next p v hcv =>
      cases hs : ((!anyRefs args) || v.scalar) with
      | false => simp [hs] at h
      | true =>
        simp only [hs, cond_true, Option.some.injEq] at h
        subst h
        have hpp : ∀ q ∈ p, q := hp
        cases ha : anyRefs args with
        | false =>
          refine (hmeet E.ok w xs _ p _ (view E.ok (fun _ h => h) (.inr ha)) hH.oklt hcv hpp).mono ?_
          rintro u w' ⟨hb, hout⟩
          obtain ⟨hS, hN⟩ := dat w' hb
          exact ⟨_, hS, hN, env0_mono (fun _ h => h) hout, next_live⟩
        | true =>
          have hsc : v.scalar = true := by simpa [ha] using hs
          refine (hmeet _ w xs _ p _ (view _ (fun _ h => .inl h) (.inl full)) fulllt hcv hpp).mono ?_
          rintro u w' ⟨hb, hout⟩
          obtain ⟨hS, hN⟩ := dat w' hb
          exact ⟨_, hS, hN, scalar_rep v hsc hout, next_live⟩
    · next p v hcv =>
      cases h
      have hpp : ∀ q ∈ p, q := hp
      refine (hmeet _ w xs _ p _ (view _ (fun _ h => .inl h) (.inl full)) fulllt hcv hpp).mono ?_
      rintro u w' ⟨hb, hout⟩
      obtain ⟨hS, hN⟩ := dat w' hb
      exact ⟨_, hS, hN, env0_mono (E' := E.next nid none 0 0 fun b => E.ok b ∨ (w.heap.size ≤ b ∧ b < w'.heap.size)) (fun _ h => Or.inr h) hout, next_live⟩
    · next p fr t k n el hcv =>
      cases hs : ((!anyRefs args) || fr) with
      | false => simp [hs] at h
      | true =>
        simp only [hs, cond_true, Option.some.injEq] at h
        subst h
        have hpp : ∀ q ∈ p, q := hp
        -- the end, from what the contract says
        have fin : ∀ (ok : Nat → Prop) (w' : World) (u : Value), (fr = false → ∀ b, ok b → E.ok b) → Below w.heap.size w w' → OutAt ok w w' u (.own fr t k n el) →
            ∃ E', Post E w H nid { pre := p, val := .row nid k 0 n, eff := [(nid, some (.row t k n el))] } E' w' u := by
          rintro ok w' u hfr hb ⟨ys, hown, h6, h7, h8⟩
          have hlt := hown.lt
          have hown0 : w'.ownsRow 0 t k u n ys := ⟨hown.1, hown.2.imp id fun ⟨g, cap, cur, a, _, c⟩ => ⟨g, cap, cur, a, Nat.zero_le _, c⟩⟩
          let ok' : Nat → Prop := fun b => E.ok b ∨ (w.heap.size ≤ b ∧ b < w'.heap.size ∧ u.ownBlock ≠ some b)
          have h1 : ∀ b, u.ownBlock = some b → w.heap.size ≤ b ∧ b < w'.heap.size ∧ ¬ ok' b := by
            intro b hb'
            obtain ⟨a1, a2⟩ := hlt b hb'
            refine ⟨a1, a2, ?_⟩
            rintro (h | ⟨_, _, h⟩)
            · have := hH.oklt b h; omega
            · exact h hb'
          have h2 : ∀ b, ok' b → E.ok b ∨ w.heap.size ≤ b := fun b h => h.imp id (·.1)
          have h3 : ∀ b, ok' b → b < w'.heap.size := by
            rintro b (h | h)
            · have := hH.oklt b h; have := hb.size; omega
            · exact h.2.1
          have hS : Step E w [] (E.next nid u.ownBlock (capOf u) n ok') w' := next_step hf _ _ _ ok' hb (fun b h => (h1 b h).1) (fun _ h => .inl h) h2
          have hN := next_heap (cap := capOf u) (len := n) hf hH hb h1 (fun _ h => .inl h) h2 h3
          have hob := ob_of_owns (E' := E.next nid u.ownBlock (capOf u) n ok') (q := nid) (el := el) hown0 (by simp [Env.next]) (by simp [Env.next]) (by intro a m c e; simp [Env.next, e, capOf]) h6 h7
            (fun i j d x hi hd hx => (h8 i j d x hi hd hx).mono (fun b hb' => by
              rcases hb' with ⟨h, h'⟩ | h
              · exact .inl (hfr h b h')
              · exact .inr h) fun _ _ => rfl)
          exact ⟨_, hS, heap_cons hN (.inl rfl) hob.1, hob.2 (.inl rfl), next_live⟩
        cases ha : anyRefs args with
        | false =>
          refine (hmeet E.ok w xs _ p _ (view E.ok (fun _ h => h) (.inr ha)) hH.oklt hcv hpp).mono ?_
          rintro u w' ⟨hb, hout⟩
          obtain ⟨E', hP⟩ := fin _ w' u (fun _ _ h => h) hb hout
          exact ⟨E', hP⟩
        | true =>
          have hfr : fr = true := by simpa [ha] using hs
          refine (hmeet _ w xs _ p _ (view _ (fun _ h => .inl h) (.inl full)) fulllt hcv hpp).mono ?_
          rintro u w' ⟨hb, hout⟩
          obtain ⟨E', hP⟩ := fin _ w' u (fun h => by rw [hfr] at h; cases h) hb hout
          exact ⟨E', hP⟩

theorem RepL.cons_inv {x : Value} {xs : List Value} {ds : List V} (h : RepL E w (x :: xs) ds) : ∃ d ds', ds = d :: ds' ∧ RepV E w x d ∧ RepL E w xs ds' := by
  match ds with
  | [] => have := h.1; simp at this
  | d :: ds' => exact ⟨d, ds', rfl, h.2 0 _ _ rfl rfl, by have := h.1; simpa using this, fun i v d a b => h.2 (i + 1) v d a b⟩
theorem RepL.nil_inv {ds : List V} (h : RepL E w [] ds) : ds = [] := List.eq_nil_of_length_eq_zero h.1.symm

/-- An operation, whatever follows. -/
theorem op_sound (hH : HeapAt E w H) (hf : ¬ E.live nid) {C : FuncId → Option CC} (hC : ∀ f con, C f = some con → MeetsC P f con) {a : Act} {vs : List V} (hv : RepL E w ((opnds o.op).map a.eval) vs)
    (h : opV P C H nid o vs = some r) (hp : ∀ p ∈ r.pre, p) {K : Act → World → Prop} {Q : Exit → Act → World → Prop} (hK : ∀ E' w' v', Post E w H nid r E' w' v' → K (a.put o.dst v') w') : o.wp P a w K Q := by
  have fin : (∃ E' w' v', (execOp a.eval o).run P w = .ok (.value v') w' ∧ Post E w H nid r E' w' v') → o.wp P a w K Q := by
    rintro ⟨E', w', v', h1, h2⟩
    unfold Oper.wp
    rw [h1]
    exact hK E' w' v' h2
  have finq : QRes P a.eval o E w r → o.wp P a w K Q := fun hq => by
    obtain ⟨v', h1, h2⟩ := quiet_post hH hf hq
    exact fin ⟨_, w, v', h1, h2⟩
  unfold opV at h
  split at h
  · next x d ho =>
    rw [ho] at hv
    cases h
    exact finq ⟨rfl, rfl, quiet_move ho (hv.2 0 _ _ rfl rfl)⟩
  · next x d ho =>
    rw [ho] at hv
    cases h
    exact finq ⟨rfl, rfl, quiet_assign ho (hv.2 0 _ _ rfl rfl)⟩
  · next t ho =>
    split at h
    · next z hz => exact fin (post_alloc hH hf ho hz h)
    · cases h
  · next t x d ho =>
    rw [ho] at hv
    exact fin (post_box hH hf ho (hv.2 0 _ _ rfl rfl) h)
  · next t parts vs ho =>
    rw [ho] at hv
    exact finq (quiet_build ho (by simpa [opnds, Op.operands, List.map_map, Function.comp_def] using hv) h)
  · next t len parts vs ho =>
    rw [ho] at hv
    exact fin (post_buildSlice hH hf ho (by simpa [opnds, Op.operands, List.map_map, Function.comp_def] using hv) h)
  · next t x d ho =>
    rw [ho] at hv
    exact finq (quiet_load hH ho (hv.2 0 _ _ rfl rfl) h)
  · next t x y d e ho =>
    rw [ho] at hv
    obtain ⟨E', w', h1, h2⟩ := post_store hH hf ho (hv.2 0 _ _ rfl rfl) (hv.2 1 _ _ rfl rfl) h
    unfold Oper.wp
    rw [h1]
    exact hK E' w' undef h2
  · next x d ho =>
    rw [ho] at hv
    exact finq (quiet_nilCheck ho (hv.2 0 _ _ rfl rfl) h)
  · next op t x y ty d e ho =>
    rw [ho] at hv
    exact finq (quiet_bin ho (hv.2 0 _ _ rfl rfl) (hv.2 1 _ _ rfl rfl) h hp)
  · next op t x d ho =>
    rw [ho] at hv
    exact finq (quiet_un ho (hv.2 0 _ _ rfl rfl) h)
  · next s t x d ho =>
    rw [ho] at hv
    split at h
    · next e hs hd =>
      split at h
      · next he => exact finq (quiet_bytes hH hs hd he ho (hv.2 0 _ _ rfl rfl) h hp)
      · cases h
    · exact finq (quiet_conv ho (hv.2 0 _ _ rfl rfl) h)
  · next t x f d ho =>
    rw [ho] at hv
    exact finq (quiet_fieldAddr ho (hv.2 0 _ _ rfl rfl) h)
  · next t x f d ho =>
    rw [ho] at hv
    exact finq (quiet_field ho (hv.2 0 _ _ rfl rfl) h)
  · next t x y d e ho =>
    rw [ho] at hv
    exact finq (quiet_indexAddr hH ho (hv.2 0 _ _ rfl rfl) (hv.2 1 _ _ rfl rfl) h hp)
  · next t x y d e ho =>
    rw [ho] at hv
    exact finq (quiet_index ho (hv.2 0 _ _ rfl rfl) (hv.2 1 _ _ rfl rfl) h hp)
  · next t x d ho =>
    rw [ho] at hv
    exact finq (quiet_slice (dlo := none) (dhi := none) ho (hv.2 0 _ _ rfl rfl) (by simp) (by simp) (by simp) (by simp) h hp)
  · next t x l d e ho =>
    rw [ho] at hv
    exact finq (quiet_slice (dlo := some e) (dhi := none) ho (hv.2 0 _ _ rfl rfl) (fun y hy => by cases hy; exact ⟨_, rfl, hv.2 1 _ _ rfl rfl⟩) (by simp) (by simp) (by simp) h hp)
  · next t x l d e ho =>
    rw [ho] at hv
    exact finq (quiet_slice (dlo := none) (dhi := some e) ho (hv.2 0 _ _ rfl rfl) (by simp) (by simp) (fun y hy => by cases hy; exact ⟨_, rfl, hv.2 1 _ _ rfl rfl⟩) (by simp) h hp)
  · next t x l hh d e g ho =>
    rw [ho] at hv
    exact finq (quiet_slice (dlo := some e) (dhi := some g) ho (hv.2 0 _ _ rfl rfl) (fun y hy => by cases hy; exact ⟨_, rfl, hv.2 1 _ _ rfl rfl⟩) (by simp) (fun y hy => by cases hy; exact ⟨_, rfl, hv.2 2 _ _ rfl rfl⟩) (by simp) h hp)
  · next t l c d e ho =>
    rw [ho] at hv
    exact fin (post_makeSlice hH hf ho (hv.2 0 _ _ rfl rfl) (hv.2 1 _ _ rfl rfl) h hp)
  · next vs f first caps ho =>
    rw [ho] at hv
    cases hf : first.isEmpty with
    | false => simp [hf] at h
    | true =>
      simp only [hf, cond_true, Option.some.injEq] at h
      subst h
      have h0 : first = #[] := by simpa using hf
      subst h0
      exact finq ⟨rfl, rfl, quiet_makeFunc ho rfl (by simpa [opnds, Op.operands] using hv)⟩
  · next x ix d ho =>
    rw [ho] at hv
    exact finq (quiet_extract ho (hv.2 0 _ _ rfl rfl) h hp)
  · next t x d ho =>
    rw [ho] at hv
    exact fin (post_range hH hf ho (hv.2 0 _ _ rfl rfl) h)
  · next x d ho =>
    rw [ho] at hv
    exact fin (post_next hH hf ho (hv.2 0 _ _ rfl rfl) h)
  · next args argTypes d ho =>
    rw [ho] at hv
    obtain ⟨x, hx⟩ : ∃ x, args.toList = [x] := by
      have h2 : args.toList.length = 1 := by have := hv.1; simpa [opnds] using this
      match hl : args.toList, h2 with
      | [p], _ => exact ⟨p, rfl⟩
    have hargs : args = #[x] := by rw [← Array.toArray_toList (xs := args), hx]
    subst hargs
    split at h
    · next t ht =>
      cases hu : P.underlying t with
      | none => simp [lenV, hu] at h
      | some dd => exact finq (quiet_len ho rfl rfl ht hu (hv.2 0 _ _ rfl rfl) h)
    · cases h
  · next args argTypes d ho =>
    rw [ho] at hv
    obtain ⟨x, hx⟩ : ∃ x, args.toList = [x] := by
      have h2 : args.toList.length = 1 := by have := hv.1; simpa [opnds] using this
      match hl : args.toList, h2 with
      | [p], _ => exact ⟨p, rfl⟩
    have hargs : args = #[x] := by rw [← Array.toArray_toList (xs := args), hx]
    subst hargs
    split at h
    · next t ht => exact fin (post_clear hH hf ho rfl rfl ht (hv.2 0 _ _ rfl rfl) h)
    · cases h
  · next vs _ _ args argTypes ho =>
    rw [ho] at hv
    cases hm : minV vs with
    | none => simp [hm] at h
    | some m =>
      simp only [hm, Option.map_some, Option.some.injEq] at h
      subst h
      exact finq ⟨rfl, rfl, quiet_min ho rfl (by simpa [opnds] using hv) hm⟩
  · next vs _ _ args argTypes ho =>
    rw [ho] at hv
    cases hm : maxV vs with
    | none => simp [hm] at h
    | some m =>
      simp only [hm, Option.map_some, Option.some.injEq] at h
      subst h
      exact finq ⟨rfl, rfl, quiet_max ho rfl (by simpa [opnds] using hv) hm⟩
  · next args argTypes s x ho =>
    rw [ho] at hv
    obtain ⟨s', x', hsx⟩ : ∃ s' x', args.toList = [s', x'] := by
      have h2 : args.toList.length = 2 := by have := hv.1; simpa [opnds] using this
      match hl : args.toList, h2 with
      | [p, q], _ => exact ⟨p, q, rfl⟩
    have hargs : args = #[s', x'] := by rw [← Array.toArray_toList (xs := args), hsx]
    subst hargs
    split at h
    · next t t' ht =>
      cases hb : Nat.beq t t' with
      | false => simp [hb] at h
      | true =>
        have htt : t = t' := Nat.eq_of_beq_eq_true hb
        subst htt
        simp only [hb, cond_true] at h
        have hat : argTypes = #[t, t] := by rw [← Array.toArray_toList (xs := argTypes), ht]
        exact fin (post_append hH hf ho rfl rfl hat (hv.2 0 _ _ rfl rfl) (hv.2 1 _ _ rfl rfl) h hp)
    · cases h
  · next f args argTypes g caps ds ho =>
    rw [ho] at hv
    obtain ⟨_, _, e, hf, ha⟩ := RepL.cons_inv hv
    cases e
    generalize hfv : a.eval f = fv at hf
    cases hf with
    | fn _ cs _ hcl hch =>
      have hall : RepL E w (args.toList.map a.eval ++ cs) (ds ++ caps) := by
        refine ⟨by rw [List.length_append, List.length_append, ha.1, hcl], fun i v d hv' hd' => ?_⟩
        rw [List.getElem?_append] at hv' hd'
        rw [← ha.1] at hd'
        split at hv'
        · next hlt => rw [if_pos hlt] at hd'; exact ha.2 i v d hv' hd'
        · next hge => rw [if_neg hge] at hd'; exact hch _ v d hv' hd'
      have hcalls := call_post hH hf hC hall h hp
      have hargs : args.map a.eval ++ cs.toArray = (args.toList.map a.eval ++ cs).toArray := by
        rw [← Array.toArray_toList (xs := args.map a.eval ++ cs.toArray)]
        simp
      have hrun : (execOp a.eval o).run P w = (callFunc g (args.toList.map a.eval ++ cs).toArray).run P w := by
        simp only [execOp, ho, resolve, hfv, Deferred.ofValue, invoke, Sem.run_bind, Sem.run_pure, Result.andThen_ok, Array.empty_append, hargs]
      unfold Oper.wp
      rw [hrun]
      rcases hcalls with ⟨h1, h2⟩ | ⟨v, w', h1, E', hP⟩
      · rw [h1]
        refine Calls.mono h2 ?_
        rintro e w' ⟨v, rfl, E', hP⟩
        exact hK E' w' v hP
      · rw [h1]
        exact hK E' w' v hP
  · cases h
end
end Go.Ax
