import Derived.Test.YtchffdmfiffifaaAx17
/- Functions: a body that evaluates well meets its contract. -/
namespace Go.Ax
open Go.RowKit

/-! ### Weaker values -/
def DLe : D → D → Prop
  | _, .unk => True
  | .lit v, .lit v' => v = v'
  | .nil, .nil => True
  | .opt b us, .opt b' us' => b = b' ∧ us = us'
  | .nil, .sl _ n _ => n = 0
  | .sl k n el, .sl k' n' el' => n = n' ∧ (0 < n → k = k') ∧ ∀ i, i < n → el i = el' i
  | _, _ => False

mutual
def VLe : V → V → Prop
  | .c d, .c d' => DLe d d'
  | .agg xs, .agg ys => VLes xs ys
  | .tup xs, .tup ys => VLes xs ys
  | _, .c .unk => True
  | x, y => x = y
def VLes : List V → List V → Prop
  | [], [] => True
  | x :: xs, y :: ys => VLe x y ∧ VLes xs ys
  | _, _ => False
end

section
variable {P : Program} {N : Nat} {B : Base} {σ : St} {E : Env} {a : Act} {w : World} {C : FuncId → Option CC}

theorem RepD.le {ok : Nat → Prop} {v : Value} {d d' : D} (h : RepD ok w v d) (hd : DLe d d') : RepD ok w v d' := by
  cases d' with
  | unk => exact .unk _
  | nil => cases d <;> simp [DLe] at hd; exact h
  | lit u => cases d <;> simp [DLe] at hd; subst hd; exact h
  | opt b us => cases d <;> simp [DLe] at hd; obtain ⟨rfl, rfl⟩ := hd; exact h
  | sl k' n' el' =>
    cases d with
    | unk => simp [DLe] at hd
    | nil =>
      simp only [DLe] at hd
      subst hd
      cases h
      exact .sl none 0 0 k' _ (fun _ _ => undef) (Nat.le_refl _) (by simp [maxLen]) (fun h => by omega) (fun i j h => by omega) (fun i h => by omega) (fun i j d h => by omega)
    | lit u => simp [DLe] at hd
    | opt b us => simp [DLe] at hd
    | sl k n el =>
      simp only [DLe] at hd
      obtain ⟨rfl, h1, h2⟩ := hd
      cases h with
      | sl a _ c _ _ u hc hm ha ho hl hu =>
        by_cases hn : 0 < n
        · have := h1 hn
          subst this
          exact .sl a n c k el' u hc hm ha ho (fun i hi => by rw [← h2 i hi]; exact hl i hi) fun i j d hi hd => hu i j d hi (by rw [h2 i hi]; exact hd)
        · have : n = 0 := by omega
          subst this
          exact .sl a 0 c k' el' u hc hm (fun h => by omega) (fun i j h => by omega) (fun i h => by omega) (fun i j d h => by omega)

theorem VLes_get : ∀ {xs ys : List V}, VLes xs ys → xs.length = ys.length ∧ ∀ (i : Nat) (x y : V), xs[i]? = some x → ys[i]? = some y → VLe x y
  | [], [], _ => ⟨rfl, fun i x y h => by simp at h⟩
  | x :: xs, y :: ys, h => by
    rw [VLes] at h
    obtain ⟨h1, h2⟩ := VLes_get h.2
    refine ⟨by simp [h1], fun i p q hp hq => ?_⟩
    match i with
    | 0 => simp at hp hq; subst hp; subst hq; exact h.1
    | i + 1 => exact h2 i p q (by simpa using hp) (by simpa using hq)
  | [], _ :: _, h => by simp [VLes] at h
  | _ :: _, [], h => by simp [VLes] at h

theorem RepV.le {v : Value} {d d' : V} (h : RepV E w v d) : VLe d d' → RepV E w v d' := by
  induction h generalizing d' with
  | c v d h =>
    intro hd
    cases d' with
    | c d' => exact .c _ _ (h.le (by simpa [VLe] using hd))
    | _ => simp [VLe] at hd
  | agg vs ds hl h ih =>
    intro hd
    cases d' with
    | agg ys =>
      rw [VLe] at hd
      obtain ⟨h1, h2⟩ := VLes_get hd
      refine .agg _ _ (hl.trans h1) fun i v d hv hd' => ?_
      have hlt : i < ds.length := by rw [h1]; exact (List.getElem?_eq_some_iff.1 hd').1
      exact ih i v _ hv (List.getElem?_eq_getElem hlt) (h2 i _ _ (List.getElem?_eq_getElem hlt) hd')
    | c d => cases d <;> simp [VLe] at hd; exact .unk _
    | _ => simp [VLe] at hd
  | tup vs ds hl h ih =>
    intro hd
    cases d' with
    | tup ys =>
      rw [VLe] at hd
      obtain ⟨h1, h2⟩ := VLes_get hd
      refine .tup _ _ (hl.trans h1) fun i v d hv hd' => ?_
      have hlt : i < ds.length := by rw [h1]; exact (List.getElem?_eq_some_iff.1 hd').1
      exact ih i v _ hv (List.getElem?_eq_getElem hlt) (h2 i _ _ (List.getElem?_eq_getElem hlt) hd')
    | c d => cases d <;> simp [VLe] at hd; exact .unk _
    | _ => simp [VLe] at hd
  | ptr o k i j b h1 h2 h3 =>
    intro hd
    cases d' with
    | c d => cases d <;> simp [VLe] at hd; exact .unk _
    | ptr => simp only [VLe] at hd; rw [← hd]; exact .ptr o k i j b h1 h2 h3
    | _ => simp [VLe] at hd
  | row o k off n a c hn hc hm hl ha h0 =>
    intro hd
    cases d' with
    | c d => cases d <;> simp [VLe] at hd; exact .unk _
    | row => simp only [VLe] at hd; rw [← hd]; exact .row o k off n a c hn hc hm hl ha h0
    | _ => simp [VLe] at hd
  | dptr k cs j ad u h1 h2 h3 h4 =>
    intro hd
    cases d' with
    | c d => cases d <;> simp [VLe] at hd; exact .unk _
    | dptr => simp only [VLe] at hd; rw [← hd]; exact .dptr k cs j ad u h1 h2 h3 h4
    | _ => simp [VLe] at hd
  | fn f vs ds hl h ih =>
    intro hd
    cases d' with
    | c d => cases d <;> simp [VLe] at hd; exact .unk _
    | fn => simp only [VLe] at hd; rw [← hd]; exact .fn f vs ds hl h
    | _ => simp [VLe] at hd

theorem RepL.le {vs : List Value} {ds ds' : List V} (h : RepL E w vs ds) (hd : VLes ds ds') : RepL E w vs ds' := by
  obtain ⟨h1, h2⟩ := VLes_get hd
  refine ⟨h.1.trans h1, fun i v d hv hd' => ?_⟩
  have hlt : i < ds.length := by rw [h1]; exact (List.getElem?_eq_some_iff.1 hd').1
  exact (h.2 i v _ hv (List.getElem?_eq_getElem hlt)).le (h2 i _ _ (List.getElem?_eq_getElem hlt) hd')
end

/-! ### The call of a function -/
def initT : List V → Nat → List (Nat × Slot)
  | [], _ => []
  | v :: r, i => (i, ⟨[], v⟩) :: initT r (i + 1)
def resV (P : Program) (σ : St) : ResultVar → Option V
  | .tmp t => opndV σ [] (.tmp t)
  | .cell s T => match opndV σ [] (.tmp s) with | some x => (match loadV P σ.hp T x with | some r => some r.val | none => none) | none => none
def resVs (P : Program) (σ : St) (rs : List ResultVar) : Option V :=
  match rs.mapM (resV P σ) with
  | some [v] => some v
  | some vs => some (.tup vs)
  | none => none
def retK (P : Program) (rs : List ResultVar) (Q : Heap → V → Prop) : Exit → St → Prop
  | .ret, σ => (match resVs P σ rs with | some v => Q σ.hp v | none => False)
  | .normal, σ => (match resVs P σ rs with | some v => Q σ.hp v | none => False)
  | _, _ => False
def runF (P : Program) (C : FuncId → Option CC) (fn : Func) (args : List V) (Q : Heap → V → Prop) : Prop :=
  match fn.body with
  | some c => bif Nat.ble args.length fn.ntmps && Nat.ble fn.ntmps 1000000 then ev P C fn.ntmps c (retK P fn.results.toList Q) { tm := initT args 0, hp := [], nx := 0 } else False
  | none => False

def D.scal : D → Bool
  | .sl .. => false
  | _ => true

mutual
/-- The value leads to nothing but scalars in the call's own objects. -/
def NewV (H : Heap) : V → Prop
  | .c d => d.scal = true
  | .agg vs => NewVs H vs
  | .tup vs => NewVs H vs
  | .row o k off n => ∃ t m el, Heap.get H o = some (.row t k m el) ∧ ∀ i, i < n → ∀ d ∈ el (off + i), d.scal = true
  | _ => False
def NewVs (H : Heap) : List V → Prop
  | [] => True
  | v :: r => NewV H v ∧ NewVs H r
end

def OutOk : Out → Heap → V → Prop
  | .data d, H, v => VLe (v.view H) d
  | .new d, H, v => VLe (v.view H) d ∧ NewV H v
  | .own fr t k n el, H, v => ∃ o m el', v = .row o k 0 n ∧ Heap.get H o = some (.row t k m el') ∧ n = m ∧ (∀ i, i < n → el' i = el i) ∧ (fr = true → ∀ i, i < n → ∀ d ∈ el i, d.scal = true)

section
variable {P : Program} {N : Nat} {B : Base} {σ : St} {E : Env} {a : Act} {w : World} {C : FuncId → Option CC}

theorem getT_initT : ∀ (vs : List V) (i t : Nat) (s : Slot), getT (initT vs i) t = some s → ∃ v, i ≤ t ∧ vs[t - i]? = some v ∧ s = ⟨[], v⟩
  | [], i, t, s, h => by simp [initT, getT] at h
  | v :: r, i, t, s, h => by
    rw [initT, getT_cons] at h
    split at h
    · next e => subst e; cases h; exact ⟨v, Nat.le_refl _, by simp, rfl⟩
    · next e =>
      obtain ⟨u, h1, h2, h3⟩ := getT_initT r (i + 1) t s h
      refine ⟨u, by omega, ?_, h3⟩
      rw [show t - i = (t - (i + 1)) + 1 by omega]
      simpa using h2

theorem sim_init {ok : Nat → Prop} {xs : List Value} {vs : List V} (hx : RepL (env0 ok) w xs vs) (hok : ∀ b, ok b → b < w.heap.size) (hN : vs.length ≤ N) (hsm : N ≤ 1000000) :
    Sim N ⟨w, ok, fun _ => False, fun _ => undef⟩ { tm := initT vs 0, hp := [], nx := 0 } (env0 ok) { tmps := xs.toArray ++ Array.replicate (N - xs.toArray.size) undef, defers := [] } w := by
  have hl := hx.1
  refine ⟨?_, hsm, rfl, fun q _ h => h, ⟨fun o ob h => ?_, fun o o' b h => h.elim, fun o b h => h.elim, fun o b h => h.elim, hok⟩, fun t s hg => ?_, .refl _ _ _, fun o b h => h.elim, fun b h => .inl h⟩
  · simp; omega
  · simp [Heap.get] at h
  · obtain ⟨v, _, h2, rfl⟩ := getT_initT vs 0 t s hg
    rw [Nat.sub_zero] at h2
    have hlt : t < xs.length := by rw [hl]; exact (List.getElem?_eq_some_iff.1 h2).1
    have hget : (xs.toArray ++ Array.replicate (N - xs.toArray.size) undef).getD t undef = xs[t] := by
      rw [Array.getD_eq_getD_getElem?, Array.getElem?_append_left (by simpa using hlt)]
      simp [hlt]
    refine ⟨fun _ => ?_, fun _ h => by simp [holds] at h⟩
    rw [valAt_low (by omega)]
    simp only
    rw [hget]
    exact hx.2 t _ v (List.getElem?_eq_getElem hlt) h2

/-- A variable is read. -/
theorem run_loadV {H : Heap} (hH : HeapAt E w H) {t : TypeId} {x : Value} {vx : V} {r : Res} (hx : RepV E w x vx) (h : loadV P H t vx = some r) :
    ∃ ad v, x = .pointer (some ad) ∧ (loadVar t ad).run P w = .ok v w ∧ RepV E w v r.val := by
  obtain ⟨ad, had⟩ : ∃ ad, x = .pointer (some ad) := by
    unfold loadV at h
    split at h
    · cases hx with | ptr o k i j b h1 h2 h3 => exact ⟨_, rfl⟩
    · cases hx with | dptr k cs j ad u h1 h2 h3 h4 => exact ⟨_, rfl⟩
    · cases h
  obtain ⟨_, _, v, hrun, hrep⟩ := quiet_load (ρ := fun _ => x) (o := { (default : Oper) with op := .load t (.const x) }) hH rfl hx h
  refine ⟨ad, v, had, ?_, hrep⟩
  subst had
  simp only [execOp, Instr.loadAt, Instr.sureAddr] at hrun
  simp at hrun
  cases hl : (loadVar t ad).run P w with
  | ok u w' => rw [hl] at hrun; simp at hrun; rw [hrun.1, hrun.2]
  | halt y w' => rw [hl] at hrun; simp at hrun

theorem mapM_run {g : ResultVar → Sem Value} (hg : ∀ r d, resV P σ r = some d → ∃ u, (g r).run P w = .ok u w ∧ RepV E w u d) : ∀ (rs : List ResultVar) (ds : List V), rs.mapM (resV P σ) = some ds → ∃ us, (rs.mapM g).run P w = .ok us w ∧ RepL E w us ds := by
  intro rs
  induction rs with
  | nil => intro ds h; simp at h; subst h; exact ⟨[], by simp, .nil⟩
  | cons r rs ih =>
    intro ds h
    rw [List.mapM_cons] at h
    simp only [Option.bind_eq_bind, Option.pure_def, Option.bind_eq_some_iff, Option.some.injEq] at h
    obtain ⟨d, hd, ds', hds, rfl⟩ := h
    obtain ⟨u, h1, h2⟩ := hg r d hd
    obtain ⟨us, h3, h4⟩ := ih ds' hds
    refine ⟨u :: us, ?_, by simp [h4.1], fun i v d' hv hd' => ?_⟩
    · rw [List.mapM_cons]
      simp only [Sem.run_bind, Sem.run_pure]
      rw [h1]
      simp only [Result.andThen_ok]
      rw [h3]
      simp
    · match i with
      | 0 => simp at hv hd'; subst hv; subst hd'; exact h2
      | i + 1 => exact h4.2 i v d' (by simpa using hv) (by simpa using hd')

theorem results_run {fn : Func} {g : ResultVar → Sem Value} (hg : ∀ r d, resV P σ r = some d → ∃ u, (g r).run P w = .ok u w ∧ RepV E w u d) {v : V} (h : resVs P σ fn.results.toList = some v) :
    ∃ u, (fn.results.mapM g >>= fun vs => pure (if h : vs.size = 1 then vs[0] else Value.tuple vs) : Sem Value).run P w = .ok u w ∧ RepV E w u v := by
  unfold resVs at h
  rw [Array.mapM_eq_mapM_toList]
  split at h
  · next d hd =>
    cases h
    obtain ⟨us, h1, h2⟩ := mapM_run hg _ _ hd
    obtain ⟨u, rfl⟩ : ∃ u, us = [u] := by
      have := h2.1
      match us, this with
      | [u], _ => exact ⟨u, rfl⟩
    refine ⟨u, ?_, h2.2 0 u _ rfl rfl⟩
    simp only [Sem.run_bind, Sem.run_map]
    rw [h1]
    simp
  · next ds hne hd =>
    cases h
    obtain ⟨us, h1, h2⟩ := mapM_run hg _ _ hd
    refine ⟨.tuple us.toArray, ?_, .tup _ _ h2.1 h2.2⟩
    have hne1 : us.length ≠ 1 := by
      rw [h2.1]
      intro h
      match ds, h with
      | [d], _ => exact hne d rfl
    simp only [Sem.run_bind, Sem.run_map]
    rw [h1]
    simp [hne1]
  · cases h

theorem run_results {fn : Func} (hs : Sim N B σ E a w) {v : V} (h : resVs P σ fn.results.toList = some v) : ∃ u, (results fn a.tmps).run P w = .ok u w ∧ RepV E w u v := by
  refine results_run (fn := fn) (fun r d h => ?_) h
  cases r with
  | tmp t =>
    exact ⟨_, rfl, opnd_sound hs (ch := []) (x := .tmp t) rfl h⟩
  | cell s T =>
    simp only [resV] at h
    split at h
    · next x hx =>
      split at h
      · next r hr =>
        cases h
        have hrx : RepV E w (a.tmps.getD s undef) x := opnd_sound hs (ch := []) rfl hx
        obtain ⟨ad, v, e, h1, h2⟩ := run_loadV hs.heap hrx hr
        refine ⟨v, ?_, h2⟩
        simp [e, asAddr, h1]
      · cases h
    · cases h

/-! ### What comes back -/
theorem repD_scal {ok ok' : Nat → Prop} {v : Value} {d : D} (h : RepD ok w v d) (hs : d.scal = true) : RepD ok' w v d := by
  cases d with
  | unk => exact .unk _
  | nil => cases h; exact .nil
  | lit u => cases h; exact .lit _
  | opt b us => cases h; exact .opt _ _
  | sl => simp [D.scal] at hs

theorem NewVs_get : ∀ {H : Heap} {vs : List V}, NewVs H vs → ∀ (i : Nat) (v : V), vs[i]? = some v → NewV H v
  | _, [], _, i, v, h => by simp at h
  | H, x :: xs, hn, i, v, h => by
    rw [NewVs] at hn
    match i with
    | 0 => simp at h; subst h; exact hn.1
    | i + 1 => exact NewVs_get hn.2 i v (by simpa using h)

/-- A value that leads to the call's own objects alone. -/
theorem view_new {H : Heap} {ok' : Nat → Prop} (hH : HeapAt E w H) (hown : ∀ q b, E.live q → E.conc q = some b → ok' b) {v : Value} {d : V} (h : RepV E w v d) : NewV H d → RepV (env0 ok') w v (d.view H) := by
  induction h with
  | c v d h =>
    intro hn
    have h' : RepD ok' w v d := repD_scal h (by simpa [NewV] using hn)
    cases d with
    | nil =>
      cases h
      exact .c _ _ (.sl none 0 0 0 _ (fun _ _ => undef) (Nat.le_refl _) (by simp [maxLen]) (fun h => by omega) (fun i j h => by omega) (fun i h => by omega) (fun i j d h => by omega))
    | unk => exact .c _ _ h'
    | lit u => exact .c _ _ h'
    | opt b us => exact .c _ _ h'
    | sl k n el => exact .c _ _ h'
  | agg vs ds hl h ih =>
    intro hn
    rw [NewV] at hn
    rw [V.view]
    refine .agg _ _ (by rw [views_length, hl]) fun i v d hv hd' => ?_
    rw [views_get] at hd'
    cases hx : ds[i]? with
    | none => rw [hx] at hd'; cases hd'
    | some x => rw [hx] at hd'; cases hd'; exact ih i v x hv hx (NewVs_get hn i x hx)
  | tup vs ds hl h ih =>
    intro hn
    rw [NewV] at hn
    rw [V.view]
    refine .tup _ _ (by rw [views_length, hl]) fun i v d hv hd' => ?_
    rw [views_get] at hd'
    cases hx : ds[i]? with
    | none => rw [hx] at hd'; cases hd'
    | some x => rw [hx] at hd'; cases hd'; exact ih i v x hv hx (NewVs_get hn i x hx)
  | ptr o' k i j b hn hb hi => intro h; exact h.elim
  | row o' k off n a c hn hc hm hl ha h0 =>
    intro hnew
    rw [NewV] at hnew
    obtain ⟨t, m, el, hg, hs⟩ := hnew
    rw [V.view]
    unfold vrow
    rw [hg]
    simp only [show Nat.beq k k = true by simp, cond_true]
    have hr := RepV.row o' k off n a c hn hc hm hl ha h0 (w := w)
    have has : asSl H (.row o' k off n) = some (k, n, fun i => el (off + i)) := by simp [asSl, hg]
    obtain ⟨news, hsrc⟩ := src_of hH hr has
    have hE : ∃ E2 : Env, Src E2 w (.slice a n c) k n (fun i => el (off + i)) news ∧ (∀ b, E2.ok b → ok' b) ∧ (∀ q b, E2.live q → E2.conc q = some b → ok' b) := by
      refine ⟨{ E with ok := ok' }, ?_, fun _ h => h, hown⟩
      exact { hsrc with
        blk := fun ad n' c' he hn' => by
          rcases hsrc.blk ad n' c' he hn' with h | h
          · cases he
            obtain ⟨b, hb, hab⟩ := ha hn'
            cases hab
            exact .inl (hown o' b hn hb)
          · exact .inr h
        rep := fun i j d u hi hd hu => repD_scal (hsrc.rep i j d u hi hd hu) (hs i hi d (List.mem_of_getElem? hd)) }
    obtain ⟨E2, hsrc2, hok2, hown2⟩ := hE
    exact .c _ _ (src_rep hok2 hown2 hsrc2)
  | dptr k cs j ad u hok' hcell hl hu => intro h; exact h.elim
  | fn f vs ds hl h ih => intro h; exact h.elim

theorem outOk_at {ok : Nat → Prop} {W : World} (hs : Sim N ⟨W, ok, fun _ => False, fun _ => undef⟩ σ E a w) {u : Value} {v : V} (hr : RepV E w u v) {out : Out} (ho : OutOk out σ.hp v) : OutAt ok W w u out := by
  have hsown : ∀ o b, E.live o → E.conc o = some b → W.heap.size ≤ b := fun o b h1 h2 => (hs.own o b h1 h2).resolve_right (fun h => h)
  have hE : ∀ b, E.ok b → ok b ∨ (W.heap.size ≤ b ∧ b < w.heap.size) := by
    intro b hb
    rcases hs.okold b hb with h | h
    · exact .inl h
    · exact .inr ⟨h, hs.heap.oklt b hb⟩
  cases out with
  | data d =>
    simp only [OutOk] at ho
    exact (view_rep hs.heap (ok' := fun b => ok b ∨ (W.heap.size ≤ b ∧ b < w.heap.size)) hE hr (.inl fun q b hq hb => .inr ⟨hsown q b hq hb, hs.heap.lt q b hq hb⟩)).le ho
  | new d =>
    simp only [OutOk] at ho
    exact (view_new hs.heap (ok' := fun b => W.heap.size ≤ b ∧ b < w.heap.size) (fun q b hq hb => ⟨hsown q b hq hb, hs.heap.lt q b hq hb⟩) hr ho.2).le ho.1
  | own fr t k n el =>
    simp only [OutOk] at ho
    obtain ⟨o, m, el', rfl, hg, rfl, hel, hfr⟩ := ho
    obtain ⟨xs, h1, h2, h3, h4, h5⟩ := owns_of hs.heap hg hr
    have hlive := (hs.heap.at_ _ _ hg).1
    refine ⟨xs, ?_, fun i hi => by rw [← hel i hi]; exact h3 i hi, h4, fun i j d x hi hd hx => ?_⟩
    · rcases h1 with ⟨g1, g2⟩
      refine ⟨g1, ?_⟩
      rcases g2 with g2 | ⟨g, cap, cur, e1, e2, e3⟩
      · exact .inl g2
      · refine .inr ⟨g, cap, cur, e1, ?_, e3⟩
        have : E.conc o = some g := by rw [← h2, e1]; rfl
        exact hsown o g hlive this
    · rw [← hel i hi] at hd
      have hrep := h5 i j d x hi hd hx
      cases fr with
      | true => exact repD_scal hrep (hfr rfl i hi d (by rw [← hel i hi]; exact List.mem_of_getElem? hd))
      | false =>
        refine RepD.mono (ok := E.ok) (w := w) (w' := w) (fun b hb => ?_) (fun _ _ => rfl) hrep
        rcases hE b hb with h | ⟨h, h'⟩
        · exact .inl ⟨rfl, h⟩
        · refine .inr ⟨h, h', fun e => ?_⟩
          exact hs.heap.sep o b hlive (h2 ▸ e) hb

/-- The main theorem: a body that evaluates well meets its contract. -/
theorem meets_of (hm : P.follows .mixedOrders = true) (hC : ∀ f con, C f = some con → MeetsC P f con) {f : FuncId} {fn : Func} (hf : P.funcs[f]? = some fn) {con : Con}
    (hent : ∀ args w, (callFunc f args).run P w = .ok (.enter f args) w)
    (h : ∀ vs p out, con vs = some (p, out) → (∀ q ∈ p, q) → ∃ vs', VLes vs vs' ∧ runF P C fn vs' (OutOk out)) : Meets P f con := by
  intro ok w xs vs p out hx hok hcon hp
  refine .inl ⟨hent _ _, ?_⟩
  obtain ⟨vs', hle, hrun⟩ := h vs p out hcon hp
  unfold runF at hrun
  split at hrun
  · next c hb =>
    cases hN : (Nat.ble vs'.length fn.ntmps && Nat.ble fn.ntmps 1000000) with
    | false => rw [hN] at hrun; exact hrun.elim
    | true =>
      rw [hN, cond_true] at hrun
      rw [Bool.and_eq_true] at hN
      refine calls_of_wp hf hb (wp_mono (ev_sound hm hC c _ _ _ _ _ hrun (sim_init (hx.le hle) hok (Nat.ble_eq.mp hN.1) (Nat.ble_eq.mp hN.2))) ?_)
      rintro e a' w' ⟨σ', E', hk, hs'⟩
      have key : (match resVs P σ' fn.results.toList with | some v => OutOk out σ'.hp v | none => False) → a'.defers = [] ∧ ∃ v, (results fn a'.tmps).run P w' = .ok v w' ∧ ∃ v', Ending.returned v = .returned v' ∧ (Below w.heap.size w w' ∧ OutAt ok w w' v' out) := by
        intro hk
        split at hk
        · next v hv =>
          obtain ⟨u, h1, h2⟩ := run_results hs' hv
          exact ⟨hs'.defers, u, h1, u, rfl, hs'.base.below, outOk_at hs' h2 hk⟩
        · exact hk.elim
      cases e with
      | normal => exact key hk
      | ret => exact key hk
      | exit id => exact hk.elim
      | goto l => exact hk.elim
      | panic ch => exact hk.elim
      | outgrown => exact hk.elim
  · exact hrun.elim

theorem enters_of {f : FuncId} {fn : Func} {c : Code} (hf : P.funcs[f]? = some fn) (hb : fn.body = some c) (hn : (fn.name == "runtime.NumGoroutine") = false) (args : Array Value) (w : World) : (callFunc f args).run P w = .ok (.enter f args) w := by
  have h1 : fn.name ≠ "runtime.NumGoroutine" := by simpa using hn
  simp [callFunc, hf, h1, hb, Sem.run]
end
end Go.Ax
