import Derived.Test.YtchffdmfiffifaaAx5
/- Struct and array literals. -/
namespace Go.Ax
open Go.RowKit

section
variable {P : Program} {ρ : Operand → Value} {E : Env} {w : World} {o : Oper} {r : Res}

theorem setL_length {α : Type} : ∀ (xs cs : List α) (off : Nat), (setL cs off xs).length = cs.length
  | [], cs, off => rfl
  | x :: r, cs, off => by rw [setL, setL_length]; simp

theorem setL_get {α : Type} : ∀ (xs cs : List α) (off q : Nat), (setL cs off xs)[q]? = if off ≤ q ∧ q < off + xs.length ∧ q < cs.length then xs[q - off]? else cs[q]?
  | [], cs, off, q => by simp [setL]; intro _ _ ; omega
  | x :: r, cs, off, q => by
    rw [setL, setL_get r]
    simp only [List.length_set, List.length_cons]
    by_cases h : off = q
    · subst h
      rw [if_neg (by omega)]
      by_cases hl : off < cs.length
      · rw [if_pos ⟨by omega, by omega, hl⟩]; simp [hl]
      · rw [if_neg (by omega)]; rw [List.getElem?_eq_none (by simp; omega), List.getElem?_eq_none (by omega)]
    · rw [List.getElem?_set_ne h]
      by_cases h2 : off + 1 ≤ q ∧ q < off + 1 + r.length ∧ q < cs.length
      · rw [if_pos h2, if_pos (by omega), show q - off = (q - (off + 1)) + 1 by omega, List.getElem?_cons_succ]
      · rw [if_neg h2, if_neg (by omega)]

theorem RepL.setL {vs xs : List Value} {ds ys : List V} (h : RepL E w vs ds) (h' : RepL E w xs ys) (off : Nat) : RepL E w (setL vs off xs) (setL ds off ys) := by
  refine ⟨by rw [setL_length, setL_length, h.1], fun i v d hv hd => ?_⟩
  rw [setL_get] at hv hd
  rw [← h'.1, ← h.1] at hd
  split at hv
  · next hc => rw [if_pos hc] at hd; exact h'.2 _ _ _ hv hd
  · next hc => rw [if_neg hc] at hd; exact h.2 _ _ _ hv hd

theorem isCell_one {v : Value} {d : V} (h : RepV E w v d) (hc : d.isCell = true) : v.oneCell' = true := by
  cases h with
  | c _ d h =>
    cases h with
    | unk v => simp [V.isCell] at hc
    | nil => rfl
    | lit v => cases v <;> first | rfl | simp [V.isCell] at hc
    | opt b us => simp [V.isCell] at hc
    | sl => rfl
  | agg => simp [V.isCell] at hc
  | tup => simp [V.isCell] at hc
  | ptr => rfl
  | row => rfl
  | dptr => simp [V.isCell] at hc
  | fn => rfl

theorem cells_one {v : Value} (h : v.oneCell' = true) : v.cells = #[v] := by cases v <;> simp [Value.oneCell', Value.cells] at *

theorem rep_cells {v : Value} {d : V} (h : RepV E w v d) (hc : d.cells.all V.isCell = true) : RepL E w v.cells.toList d.cells ∧ ∀ u ∈ v.cells.toList, u.oneCell' = true := by
  have single : d.cells = [d] → RepL E w v.cells.toList d.cells ∧ ∀ u ∈ v.cells.toList, u.oneCell' = true := by
    intro e
    rw [e] at hc ⊢
    have h1 := isCell_one h (by simpa using hc)
    rw [cells_one h1]
    refine ⟨⟨rfl, fun i v' d' a b => ?_⟩, by simpa using h1⟩
    match i with
    | 0 => simp at a b; subst a; subst b; exact h
    | i + 1 => simp at a
  cases d with
  | agg ds =>
    obtain ⟨vs, rfl, hl⟩ := h.agg_inv
    have e : (Value.agg vs.toArray).cells.toList = vs := by simp [Value.cells]
    rw [e]
    refine ⟨hl, fun u hu => ?_⟩
    obtain ⟨i, hi⟩ := List.getElem?_of_mem hu
    have hlt : i < ds.length := by rw [← hl.1]; exact (List.getElem?_eq_some_iff.1 hi).1
    exact isCell_one (hl.2 i u _ hi (List.getElem?_eq_getElem hlt)) (List.all_eq_true.1 hc _ (List.getElem_mem hlt))
  | c d => exact single rfl
  | tup ds => exact single rfl
  | ptr o k i j => exact single rfl
  | row o k i j => exact single rfl
  | dptr k cs j => exact single rfl
  | fn f cs => exact single rfl

theorem foldl_setL (off : Nat) : ∀ (l : List Value) (k : Nat) (cells : Array Value), ((l.zipIdx k).foldl (fun (cs : Array Value) (p : Value × Nat) => cs.setIfInBounds (off + p.2) p.1) cells).toList = setL cells.toList (off + k) l
  | [], k, cells => rfl
  | x :: r, k, cells => by
    rw [List.zipIdx_cons, List.foldl_cons, foldl_setL off r (k + 1), setL]
    simp [Nat.add_assoc]

theorem fill_cell (off : Nat) (v : Value) (cells : Array Value) : (v.cells.zipIdx.foldl (fun cs (c, j) => cs.setIfInBounds (off + j) c) cells).toList = setL cells.toList off v.cells.toList := by
  have := foldl_setL off v.cells.toList 0 cells
  rw [Nat.add_zero] at this
  rw [← this, ← Array.foldl_toList, Array.toList_zipIdx]

theorem fill_rep (place : Nat → Option (Nat × Nat)) : ∀ (parts : List (Nat × Value)) (dparts : List (Nat × V)) (cells : Array Value) (ds ds' : List V), RepL E w cells.toList ds →
    parts.map (·.1) = dparts.map (·.1) → RepL E w (parts.map (·.2)) (dparts.map (·.2)) → dparts.foldlM (partStep place) ds = some ds' →
    ∃ cells', Instr.fill place cells parts = some cells' ∧ RepL E w cells'.toList ds'
  | [], dparts, cells, ds, ds', h, h1, h2, h3 => by
    have : dparts = [] := by simpa using h1.symm
    subst this
    simp at h3; subst h3
    exact ⟨cells, rfl, h⟩
  | (i, v) :: parts, [], cells, ds, ds', h, h1, h2, h3 => by simp at h1
  | (i, v) :: parts, (i', d) :: dparts, cells, ds, ds', h, h1, h2, h3 => by
    simp only [List.map_cons, List.cons.injEq] at h1
    obtain ⟨rfl, h1⟩ := h1
    have hv : RepV E w v d := h2.2 0 _ _ rfl rfl
    have ht : RepL E w (parts.map (·.2)) (dparts.map (·.2)) := ⟨by have := h2.1; simpa using this, fun i v d a b => h2.2 (i + 1) v d a b⟩
    simp only [List.foldlM_cons, Option.bind_eq_bind, Option.bind_eq_some_iff] at h3
    obtain ⟨ds1, hs, h3⟩ := h3
    unfold partStep at hs
    simp only at hs
    split at hs
    · next off size hp =>
      cases hc : (Nat.beq d.cells.length size && d.cells.all V.isCell && Nat.ble (off + size) ds.length) with
      | false => simp [hc] at hs
      | true =>
        simp only [hc, cond_true, Option.some.injEq] at hs
        subst hs
        simp only [Bool.and_eq_true, Nat.beq_eq, Nat.ble_eq] at hc
        obtain ⟨⟨c1, c2⟩, c3⟩ := hc
        obtain ⟨r1, _⟩ := rep_cells hv c2
        have s1 : v.cells.size = size := by rw [← c1, ← r1.1]; simp
        have s2 : off + v.cells.size ≤ cells.size := by rw [s1]; have := h.1; simp at this; omega
        have := fill_rep place parts dparts (v.cells.zipIdx.foldl (fun cs (c, j) => cs.setIfInBounds (off + j) c) cells) _ ds' (by rw [fill_cell]; exact h.setL r1 off) h1 ht h3
        obtain ⟨cells', e1, e2⟩ := this
        refine ⟨cells', ?_, e2⟩
        rw [Instr.fill, hp]
        simp only
        rw [if_neg (by simp [s1]; omega)]
        exact e1
    · cases hs

/-- The cells of a type's zero value. -/
theorem zero_rep {t : TypeId} {z : V} (h : zeroV P t = some z) : ∃ (i : TypeInfo) (v : Value), P.info? t = some i ∧ i.zero = some v ∧ z = V.ofValue v ∧ ∀ vs, v ≠ .tuple vs := by
  unfold zeroV at h
  split at h
  · next i hi =>
    split at h
    · cases h
    · next v hn hv => cases h; exact ⟨i, v, hi, hv, rfl, fun vs e => hn vs e⟩
    · cases h
  · cases h

theorem rep_ofCell (v : Value) : RepV E w v (.c (D.ofCell v)) := by
  unfold D.ofCell
  split
  · exact .c _ _ .nil
  · exact .lit v

theorem rep_ofValue (v : Value) : RepV E w v (V.ofValue v) := by
  unfold V.ofValue
  split
  · next cs =>
    have : cs = cs.toList.toArray := by simp
    rw [this]
    refine .agg _ _ (by simp) fun i v d hv hd => ?_
    simp only [List.getElem?_map] at hv hd
    rw [hv] at hd
    simp at hd; subst hd
    exact rep_ofCell v
  · next vs => split <;> first | exact .unk _ | exact .lit _
  · exact rep_ofCell v

theorem run_zeroValue' {t : TypeId} {i : TypeInfo} {v : Value} (h : P.info? t = some i) (hz : i.zero = some v) : (zeroValue t).run P w = .ok v w := by
  simp [zeroValue, typeInfo, h, hz]

theorem known_some {t : TypeId} (h : known P t = true) : ∃ d, P.underlying t = some d := by
  unfold known at h
  cases hu : P.underlying t with
  | some d => exact ⟨d, rfl⟩
  | none => rw [hu] at h; simp at h

theorem run_places : ∀ (fs : List Field), fs.all (fun f => known P f.type) = true →
    (fs.mapM (fun f => do pure (f.offset, ← sizeOf f.type) : Field → Sem (Nat × Nat))).run P w = .ok (fs.map fun f => (f.offset, sz P f.type)) w
  | [], _ => by simp
  | f :: fs, h => by
    simp only [List.all_cons, Bool.and_eq_true] at h
    obtain ⟨d, hd⟩ := known_some h.1
    have ih := run_places fs h.2
    simp only [bind_pure_comp] at ih
    simp [List.mapM_cons, run_sizeOf' hd, ih]

theorem rep_zero_cells {t : TypeId} {z : V} (h : zeroV P t = some z) : ∃ v, (zeroValue t).run P w = .ok v w ∧ RepV E w v z := by
  obtain ⟨i, v, hi, hz, rfl, _⟩ := zero_rep h
  exact ⟨v, run_zeroValue' hi hz, rep_ofValue v⟩

/-- the cells of a zero value, agg or not -/
theorem rep_ofValue_cells (v : Value) (hn : ∀ vs, v ≠ .tuple vs) : RepL E w v.cells.toList (V.ofValue v).cells := by
  have hr : RepV E w v (V.ofValue v) := rep_ofValue v
  cases v with
  | agg cs =>
    have h2 : RepV E w (.agg cs) (.agg (cs.toList.map fun v => .c (D.ofCell v))) := hr
    obtain ⟨vs, e, hl⟩ := h2.agg_inv
    cases e
    simpa [Value.cells, V.ofValue, V.cells] using hl
  | tuple vs => exact (hn vs rfl).elim
  | _ =>
    refine ⟨rfl, fun i v' d' a b => ?_⟩
    match i with
    | 0 => simp [Value.cells, V.ofValue, V.cells] at a b; subst a; subst b; exact rep_ofCell _
    | i + 1 => simp [Value.cells] at a

theorem quiet_build {t : TypeId} {parts : Array (Nat × Operand)} (ho : o.op = .build t parts) {vs : List V} (hv : RepL E w (parts.toList.map fun p => ρ p.2) vs)
    (h : buildV P t ((parts.toList.map (·.1)).zip vs) = some r) : QRes P ρ o E w r := by
  have hlen : (parts.toList.map (·.1)).length = vs.length := by have := hv.1; simpa using this
  have e1 : (parts.map fun (i, x) => (i, ρ x)).toList.map (·.1) = ((parts.toList.map (·.1)).zip vs).map (·.1) := by
    rw [List.map_fst_zip (by omega)]
    simp
  have e2 : RepL E w ((parts.map fun (i, x) => (i, ρ x)).toList.map (·.2)) (((parts.toList.map (·.1)).zip vs).map (·.2)) := by
    rw [List.map_snd_zip (by omega)]
    have : (parts.map fun (i, x) => (i, ρ x)).toList.map (·.2) = parts.toList.map fun p => ρ p.2 := by simp
    rw [this]
    exact hv
  unfold buildV at h
  split at h
  · next fs z hu hz =>
    cases hk : fs.toList.all (fun f => known P f.type) with
    | false => simp [hk] at h
    | true =>
      simp only [hk, cond_true] at h
      split at h
      · next cs hcs =>
        cases h
        obtain ⟨i, v, hi, hz', rfl, hnt⟩ := zero_rep hz
        obtain ⟨cells', f1, f2⟩ := fill_rep (placeS P fs) _ _ v.cells _ cs (rep_ofValue_cells v hnt) e1 e2 hcs
        refine ⟨rfl, rfl, .agg cells', ?_, ?_⟩
        · have hp := run_places (w := w) _ hk
          have hpl : (fun i => (fs.map fun f => (f.offset, sz P f.type))[i]?) = placeS P fs := by
            funext i
            simp [placeS]
            cases fs[i]? <;> rfl
          simp only [execOp, ho, Sem.run_bind, Instr.build, run_zeroValue' hi hz', Result.andThen_ok, run_underlying hu, Array.mapM_eq_mapM_toList, Sem.run_map]
          simp only [bind_pure_comp] at hp ⊢
          rw [hp]
          have hpl' : (fun x => ((fs.toList.map fun f => (f.offset, sz P f.type)).toArray)[x]?) = placeS P fs := by
            rw [← hpl]; funext x; simp
          simp only [Result.andThen_ok, hpl']
          have f1' : Instr.fill (placeS P fs) v.cells (parts.map fun x => (x.fst, ρ x.snd)).toList = some cells' := f1
          rw [f1']
          rfl
        · have : cells' = cells'.toList.toArray := by simp
          rw [this]
          exact .agg _ _ f2.1 f2.2
      · cases h
  · next n e z hu hz =>
    cases hk : known P e with
    | false => simp [hk] at h
    | true =>
      simp only [hk, cond_true] at h
      split at h
      · next cs hcs =>
        cases h
        obtain ⟨i, v, hi, hz', rfl, hnt⟩ := zero_rep hz
        obtain ⟨d, hd⟩ := known_some hk
        obtain ⟨cells', f1, f2⟩ := fill_rep _ _ _ v.cells _ cs (rep_ofValue_cells v hnt) e1 e2 hcs
        refine ⟨rfl, rfl, .agg cells', ?_, ?_⟩
        · simp only [execOp, ho, Sem.run_bind, Instr.build, run_zeroValue' hi hz', Result.andThen_ok, run_underlying hu, run_sizeOf' hd, f1, Sem.run_pure]
        · have : cells' = cells'.toList.toArray := by simp
          rw [this]
          exact .agg _ _ f2.1 f2.2
      · cases h
  · cases h
end
end Go.Ax
