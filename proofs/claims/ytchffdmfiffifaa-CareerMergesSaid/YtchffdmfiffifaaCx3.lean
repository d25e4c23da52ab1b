import Derived.Test.YtchffdmfiffifaaCx2
/- Contracts over objects that are handed over: shapes that are printed. -/
namespace Go.Ax
open Go.RowKit

/-- Arguments: those that are not handed over, as data. -/
def viewF (H : Heap) : List Bool → List V → List V
  | _, [] => []
  | b :: fl, v :: r => (bif b then v else v.view H) :: viewF H fl r
  | [], v :: r => v.view H :: viewF H [] r
def renF (os : List Nat) : List Bool → List V → List V
  | _, [] => []
  | b :: fl, v :: r => (bif b then v.ren os else v) :: renF os fl r
  | [], v :: r => v :: renF os [] r
theorem handL_eq (os : List Nat) (H : Heap) : ∀ (fl : List Bool) (vs : List V), handL os H fl vs = renF os fl (viewF H fl vs)
  | [], [] => rfl
  | _ :: _, [] => rfl
  | true :: fl, v :: r => by simp [handL, viewF, renF, handL_eq os H fl r]
  | false :: fl, v :: r => by simp [handL, viewF, renF, handL_eq os H fl r]
  | [], v :: r => by simp [handL, viewF, renF, handL_eq os H [] r]

theorem beq_self (o : Nat) : Nat.beq o o = true := by simp
theorem ren_row1 (o k i n : Nat) : V.ren [o] (.row o k i n) = .row 0 k i n := by
  rw [V.ren]
  simp [idxOf]
theorem ren_ptr1 (o k i n : Nat) : V.ren [o] (.ptr o k i n) = .ptr 0 k i n := by
  rw [V.ren]
  simp [idxOf]

/-- A contract or another. -/
def orM (m m' : Heap → Nat → List V → Option Res) : Heap → Nat → List V → Option Res := fun H nid args => match m H nid args with | some r => some r | none => m' H nid args
theorem MeetsC.or {P : Program} {f : FuncId} {m m' : Heap → Nat → List V → Option Res} (h : MeetsC P f (.mut m)) (h' : MeetsC P f (.mut m')) : MeetsC P f (.mut (orM m m')) := by
  intro E w H nid xs args r h1 h2 h3 h4 h5
  unfold orM at h4
  split at h4
  · next r' hr => cases h4; exact h E w H nid xs args _ h1 h2 h3 hr h5
  · exact h' E w H nid xs args r h1 h2 h3 h4 h5

section
variable {P : Program} {σ : St} {H : Heap} {nid : Nat} {nr : Bool}
theorem Ent.hp {tm : List (Nat × Slot)} {H H' : Heap} {nx : Nat} (h : hpLe H H') : Ent { tm := tm, hp := H, nx := nx } { tm := tm, hp := H', nx := nx } := by
  refine ⟨fun N B E a w hs => ⟨E, hs.size, hs.small, hs.defers, hs.live, ⟨fun o ob ho => ?_, hs.heap.inj, hs.heap.sep, hs.heap.lt, hs.heap.oklt⟩, hs.slots, hs.base, hs.own, hs.okold⟩⟩
  obtain ⟨b, g1, g2⟩ := hpLe_get h o ob ho
  obtain ⟨l1, l2⟩ := hs.heap.at_ o b g1
  exact ⟨l1, l2.le g2⟩
/-- A row that was handed over comes back, longer or not. -/
theorem left_row {o q k n t : Nat} {el el' : Nat → List D} {p : List Prop} (hg : Heap.get σ.hp q = some (.row t k n el)) (he : ∀ i, i < n → el i = el' i) (hs : nr = true ∨ ∀ i, i < n → ∀ d ∈ el i, d.scal = true) :
    Left [o] nid H nr { pre := p, val := .row o k 0 n, eff := [(o, some (.row t k n el'))], kill := [o] } [(q, o)] σ (.row q k 0 n) where
  inj := fun a b c h1 h2 => by simp at h1 h2; omega
  fn := fun a b c h1 h2 => by simp at h1 h2; omega
  to := fun a b h => by simp at h; simp [h.2]
  val := by
    rw [V.mp]
    simp [lookO]
    exact VLe.rfl' _
  vrefs := fun a h => by simp [V.refs] at h; simp [h]
  vrows := by simp [V.rrefs, hg, isRow]
  vsc := .inr rfl
  has := fun a b h => by simp at h; obtain ⟨rfl, rfl⟩ := h; exact ⟨_, hg⟩
  obs := fun a b h => by
    rw [Heap.get_cons] at h
    split at h
    · next e =>
      subst e; cases h
      exact ⟨q, _, by simp, hg, ⟨rfl, rfl, rfl, he⟩, fun p hp => absurd hp (by simp [obRefs]), rfl, hs⟩
    · simp [Heap.get] at h
  all := fun a h => by simp at h; simp [h, keysOf]
  kill := fun a h => h
  keep := fun i a h => by
    have := List.mem_of_getElem? h
    exact .inl this
/-- A new row comes back. -/
theorem left_new {q k n t : Nat} {el el' : Nat → List D} {p : List Prop} (hg : Heap.get σ.hp q = some (.row t k n el)) (he : ∀ i, i < n → el i = el' i) (hs : nr = true ∨ ∀ i, i < n → ∀ d ∈ el i, d.scal = true) :
    Left [] nid H nr { pre := p, val := .row nid k 0 n, eff := [(nid, some (.row t k n el'))], kill := [] } [(q, nid)] σ (.row q k 0 n) where
  inj := fun a b c h1 h2 => by simp at h1 h2; omega
  fn := fun a b c h1 h2 => by simp at h1 h2; omega
  to := fun a b h => by simp at h; simp [h.2]
  val := by
    rw [V.mp]
    simp [lookO]
    exact VLe.rfl' _
  vrefs := fun a h => by simp [V.refs] at h; simp [h]
  vrows := by simp [V.rrefs, hg, isRow]
  vsc := .inr rfl
  has := fun a b h => by simp at h; obtain ⟨rfl, rfl⟩ := h; exact ⟨_, hg⟩
  obs := fun a b h => by
    rw [Heap.get_cons] at h
    split at h
    · next e =>
      subst e; cases h
      exact ⟨q, _, by simp, hg, ⟨rfl, rfl, rfl, he⟩, fun p hp => absurd hp (by simp [obRefs]), rfl, hs⟩
    · simp [Heap.get] at h
  all := fun a h => by simp at h
  kill := fun a h => by simp at h
  keep := fun i a h => by simp at h
mutual
theorem mp_norefs (f : Nat → Nat) : ∀ v : V, v.refs = [] → v.mp f = v
  | .c _, _ => rfl
  | .agg vs, h => by rw [V.mp, mps_norefs f vs (by rw [V.refs] at h; exact h)]
  | .tup vs, h => by rw [V.mp, mps_norefs f vs (by rw [V.refs] at h; exact h)]
  | .ptr .., h => by simp [V.refs] at h
  | .row .., h => by simp [V.refs] at h
  | .dptr .., _ => rfl
  | .fn _ vs, h => by rw [V.mp, mps_norefs f vs (by rw [V.refs] at h; exact h)]
theorem mps_norefs (f : Nat → Nat) : ∀ vs : List V, V.refss vs = [] → V.mps f vs = vs
  | [], _ => rfl
  | v :: r, h => by
    rw [V.refss, List.append_eq_nil_iff] at h
    rw [V.mps, mp_norefs f v h.1, mps_norefs f r h.2]
end
mutual
theorem ren_norefs (os : List Nat) : ∀ v : V, v.refs = [] → v.ren os = v
  | .c _, _ => rfl
  | .agg vs, h => by rw [V.ren, rens_norefs os vs (by rw [V.refs] at h; exact h)]
  | .tup vs, h => by rw [V.ren, rens_norefs os vs (by rw [V.refs] at h; exact h)]
  | .ptr .., h => by simp [V.refs] at h
  | .row .., h => by simp [V.refs] at h
  | .dptr .., _ => rfl
  | .fn _ vs, h => by rw [V.ren, rens_norefs os vs (by rw [V.refs] at h; exact h)]
theorem rens_norefs (os : List Nat) : ∀ vs : List V, V.refss vs = [] → V.rens os vs = vs
  | [], _ => rfl
  | v :: r, h => by
    rw [V.refss, List.append_eq_nil_iff] at h
    rw [V.rens, ren_norefs os v h.1, rens_norefs os r h.2]
end
theorem rrefs_nil {v : V} (h : v.refs = []) : v.rrefs = [] := List.eq_nil_iff_forall_not_mem.2 fun q hq => by
  have := rrefs_refs v q hq
  rw [h] at this; simp at this
theorem rrefss_nil {vs : List V} (h : V.refss vs = []) : V.rrefss vs = [] := List.eq_nil_iff_forall_not_mem.2 fun q hq => by
  have := rrefss_refs vs q hq
  rw [h] at this; simp at this
/-- An object that was handed over stays where it is. -/
theorem left_keep {o q : Nat} {ob ob1 ob2 : Ob} {p : List Prop} {v rv : V} (h0 : Heap.get H o = some ob) (hg : Heap.get σ.hp q = some ob1) (hgh : getT σ.tm 1000000 = some ⟨[], ghostV q ob⟩) (hl : sameLen ob ob1)
    (ho : obRefs ob1 = []) (hle : ObLe ob1 ob2) (hv : v.refs = []) (hvle : VLe v rv) (hs : nr = true ∨ (v.sclr = true ∧ obSc ob1)) :
    Left [o] nid H nr { pre := p, val := rv, eff := [(o, some ob2)], kill := [] } [(q, o)] σ v where
  inj := fun a b c h1 h2 => by simp at h1 h2; omega
  fn := fun a b c h1 h2 => by simp at h1 h2; omega
  to := fun a b h => by simp at h; simp [h.2]
  val := by rw [mp_norefs _ v hv]; exact hvle
  vrefs := fun a h => by rw [hv] at h; simp at h
  vrows := by rw [rrefs_nil hv]; rfl
  vsc := hs.imp id (·.1)
  has := fun a b h => by simp at h; obtain ⟨rfl, rfl⟩ := h; exact ⟨_, hg⟩
  obs := fun a b h => by
    rw [Heap.get_cons] at h
    split at h
    · next e =>
      subst e; cases h
      refine ⟨q, ob1, by simp, hg, ?_, fun p hp => by rw [ho] at hp; simp at hp, ?_, hs.imp id (·.2)⟩
      · cases ob1 with
        | box cs => rw [Ob.mp, mps_norefs _ cs ho]; exact hle
        | row t k n el => exact hle
        | raw x => exact hle
      · cases ob1 with
        | box cs => rw [obRrefs, rrefss_nil ho]; rfl
        | row t k n el => rfl
        | raw x => rfl
    · simp [Heap.get] at h
  all := fun a h => by simp at h; simp [h, keysOf]
  kill := fun a h => by simp at h
  keep := fun i a h => by
    have hm := List.mem_of_getElem? h
    have hi : i = 0 := by
      have := (List.getElem?_eq_some_iff.1 h).1
      simpa using this
    subst hi
    simp at hm
    subst hm
    exact .inr ⟨q, ob, ob1, by simp, h0, hg, hl, hgh⟩

/-- Cells without addresses. -/
def dataCells : List V → Option (List D)
  | [] => some []
  | .c .nil :: r => match dataCells r with | some ds => some (.sl 0 0 (fun _ => []) :: ds) | none => none
  | .c d :: r => match dataCells r with | some ds => some (d :: ds) | none => none
  | _ :: _ => none
theorem dataCells_ok : ∀ {cs : List V} {ds : List D}, dataCells cs = some ds → V.refss cs = [] ∧ VLes cs (ds.map .c) ∧ cs.length = ds.length
  | [], ds, h => by simp only [dataCells, Option.some.injEq] at h; subst h; exact ⟨rfl, VLes.nil, rfl⟩
  | .c d :: r, ds, h => by
    have key : ∀ d', VLe (.c d) (.c d') → (match dataCells r with | some ds => some (d' :: ds) | none => none) = some ds → V.refss (.c d :: r) = [] ∧ VLes (.c d :: r) (ds.map .c) ∧ (V.c d :: r).length = ds.length := by
      intro d' hd h
      cases hr : dataCells r with
      | none => rw [hr] at h; cases h
      | some ds' =>
        rw [hr] at h; cases h
        obtain ⟨h1, h2, h3⟩ := dataCells_ok hr
        refine ⟨by rw [V.refss, h1]; rfl, VLes.cons hd h2, by simp [h3]⟩
    cases d with
    | nil => exact key (.sl 0 0 fun _ => []) (by rw [VLe]; exact (rfl : (0 : Nat) = 0)) h
    | unk => exact key .unk (VLe.rfl' _) h
    | lit v => exact key (.lit v) (VLe.rfl' _) h
    | opt b us => exact key (.opt b us) (VLe.rfl' _) h
    | sl k n el => exact key (.sl k n el) (VLe.rfl' _) h
  | .agg _ :: _, ds, h => by simp [dataCells] at h
  | .tup _ :: _, ds, h => by simp [dataCells] at h
  | .ptr .. :: _, ds, h => by simp [dataCells] at h
  | .row .. :: _, ds, h => by simp [dataCells] at h
  | .dptr .. :: _, ds, h => by simp [dataCells] at h
  | .fn .. :: _, ds, h => by simp [dataCells] at h

theorem renH1 {o : Nat} {b : Ob} (h : Heap.get H o = some b) : renH H [o] 0 [o] = [(0, some (b.ren [o]))] := by
  simp [renH, h]

/-- A function that is handed a row, or nil. -/
theorem meets_row {f : FuncId} {fn : Func} {c : Code} (hf : P.funcs[f]? = some fn) (hb : fn.body = some c) (hn : (fn.name == "runtime.NumGoroutine") = false) {mc : Heap → Nat → List V → Option Res} {rs : List ResultVar} (hr : fn.results.toList = rs) {nt : Nat} (ht : fn.ntmps = nt)
    (h : ∀ H nid args r, mc H nid args = some r → (∀ p ∈ r.pre, p) →
      (∃ (nr : Bool) (fl : List Bool) (o t k n : Nat) (el : Nat → List D) (vs' : List V), Heap.get H o = some (.row t k n el) ∧ handOk [o] H nr fl args = true ∧ VLes (renF [o] fl (viewF H fl args)) vs' ∧ (Nat.ble vs'.length nt && Nat.ble nt 1000000) = true ∧
        EvL P nt (items c) (retM P rs fun σ v => ∃ m, Left [o] nid H nr r m σ v) { tm := initT vs' 0 ++ [(1000000, ⟨[], .row 0 k 0 n⟩)], hp := [(0, some (.row t k n el))], nx := 1 }) ∨
      (∃ (nr : Bool) (fl : List Bool) (vs' : List V), handOk [] H nr fl args = true ∧ VLes (renF [] fl (viewF H fl args)) vs' ∧ (Nat.ble vs'.length nt && Nat.ble nt 1000000) = true ∧
        EvL P nt (items c) (retM P rs fun σ v => ∃ m, Left [] nid H nr r m σ v) { tm := initT vs' 0 ++ [], hp := [], nx := 0 })) : MeetsC P f (.mut mc) := by
  refine meets_mut hf hb hn hr ht fun H nid args r h1 h2 => ?_
  rcases h H nid args r h1 h2 with ⟨nr, fl, o, t, k, n, el, vs', g1, g2, g3, g4, g5⟩ | ⟨nr, fl, vs', g2, g3, g4, g5⟩
  · refine ⟨nr, [o], fl, vs', rfl, by simp [obsOk, g1, obOk], g2, by rw [handL_eq]; exact g3, g4, ?_⟩
    rw [renH1 g1]
    exact g5
  · exact ⟨nr, [], fl, vs', rfl, rfl, g2, by rw [handL_eq]; exact g3, g4, g5⟩

/-- A function that is handed a box of data. -/
theorem meets_box {f : FuncId} {fn : Func} {c : Code} (hf : P.funcs[f]? = some fn) (hb : fn.body = some c) (hn : (fn.name == "runtime.NumGoroutine") = false) {mc : Heap → Nat → List V → Option Res} {rs : List ResultVar} (hr : fn.results.toList = rs) {nt : Nat} (ht : fn.ntmps = nt)
    (h : ∀ H nid args r, mc H nid args = some r → (∀ p ∈ r.pre, p) →
      (∃ (nr : Bool) (fl : List Bool) (o : Nat) (cs : List V) (ds : List D) (vs' : List V), Heap.get H o = some (.box cs) ∧ dataCells cs = some ds ∧ handOk [o] H nr fl args = true ∧ VLes (renF [o] fl (viewF H fl args)) vs' ∧ (Nat.ble vs'.length nt && Nat.ble nt 1000000) = true ∧
        EvL P nt (items c) (retM P rs fun σ v => ∃ m, Left [o] nid H nr r m σ v) { tm := initT vs' 0 ++ [(1000000, ⟨[], .ptr 0 ds.length 0 0⟩)], hp := [(0, some (.box (ds.map .c)))], nx := 1 })) : MeetsC P f (.mut mc) := by
  refine meets_mut hf hb hn hr ht fun H nid args r h1 h2 => ?_
  obtain ⟨nr, fl, o, cs, ds, vs', g1, g2, g3, g4, g5, g6⟩ := h H nid args r h1 h2
  obtain ⟨d1, d2, d3⟩ := dataCells_ok g2
  refine ⟨nr, [o], fl, vs', rfl, by simp [obsOk, g1, obOk, d1], g3, by rw [handL_eq]; exact g4, g5, ?_⟩
  rw [renH1 g1]
  have e : ghostT [(0, some (Ob.ren [o] (Ob.box cs)))] = [(1000000, ⟨[], V.ptr 0 ds.length 0 0⟩)] := by rw [← d3, Ob.ren, rens_norefs _ cs d1]; rfl
  rw [e]
  refine EvL.ent (Ent.hp ?_) g6
  rw [Ob.ren, rens_norefs _ cs d1]
  exact hpLe.box (by rw [Heap.get_cons, if_pos rfl]) d2 hpLe.nil

theorem retM.intro {rs : List ResultVar} {Q : St → V → Prop} {v : V} (hv : resVs P σ rs = some v) (h : Q σ v) : retM P rs Q .ret σ := by
  show (match resVs P σ rs with | some v => Q σ v | none => False)
  rw [hv]; exact h
end
end Go.Ax
