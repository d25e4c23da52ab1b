import Derived.Test.YtchffdmfiffifaaAx8
/- Slice literals and make. -/
namespace Go.Ax
open Go.RowKit

section
variable {P : Program} {ρ : Operand → Value} {E : Env} {w w' : World} {o : Oper} {r : Res} {H : Heap} {nid : Nat}

theorem rep_zeros {C : Array Value} {z : List V} {k n : Nat} (hz : RepL E w C.toList z) (hk : C.size = k) (hk0 : 0 < k) :
    RepL E w ((Array.range (n * k)).map fun q => C[q % C.size]!).toList (zeros z k n) := by
  refine ⟨by simp [zeros], fun i v d hv hd => ?_⟩
  unfold zeros at hd
  rw [List.getElem?_map] at hd
  rw [Array.toList_map, List.getElem?_map, Array.toList_range] at hv
  cases hr : (List.range (n * k))[i]? with
  | none => rw [hr] at hd; cases hd
  | some q =>
    rw [hr] at hd hv
    cases hd; cases hv
    have hlt : q % k < C.size := by rw [hk]; exact Nat.mod_lt _ hk0
    have hlt' : q % k < z.length := by rw [← hz.1]; simpa using hlt
    have := hz.2 (q % k) _ _ (List.getElem?_eq_getElem (by simpa using hlt)) (List.getElem?_eq_getElem hlt')
    show RepV E w (C[q % C.size]!) (z.getD (q % k) (V.c D.unk))
    rw [List.getD_eq_getElem?_getD, List.getElem?_eq_getElem hlt']
    simp only [hk]
    rw [getElem!_pos C _ hlt]
    simpa using this

theorem mapM_cell : ∀ {cs : List V} {ds : List D}, cs.mapM V.toD = some ds → cs.all V.isCell = true
  | [], ds, _ => rfl
  | v :: cs, ds, h => by
    rw [List.mapM_cons] at h
    simp only [Option.bind_eq_bind, Option.pure_def, Option.bind_eq_some_iff, Option.some.injEq] at h
    obtain ⟨d, hd, ds', hds, rfl⟩ := h
    rw [List.all_cons, mapM_cell hds, Bool.and_true]
    cases v with
    | c d' =>
      cases d' with
      | unk => simp [V.toD] at hd
      | nil => rfl
      | lit u => cases u <;> first | rfl | simp [V.toD] at hd
      | opt b us => simp [V.toD] at hd
      | sl => rfl
    | _ => simp [V.toD] at hd

theorem repL_one {vs : List Value} {ds : List V} (h : RepL E w vs ds) (hc : ds.all V.isCell = true) : ∀ u ∈ vs, u.oneCell' = true := by
  intro u hu
  obtain ⟨i, hi⟩ := List.getElem?_of_mem hu
  have hlt : i < ds.length := by rw [← h.1]; exact (List.getElem?_eq_some_iff.1 hi).1
  exact isCell_one (h.2 i u _ hi (List.getElem?_eq_getElem hlt)) (List.all_eq_true.1 hc _ (List.getElem_mem hlt))

/-- A new row. -/
theorem row_post (hH : HeapAt E w H) (hf : ¬ E.live nid) {e : TypeId} {C : Array Value} {k n cap : Nat} {el : Nat → List D} (hr : r = { pre := r.pre, val := .row nid k 0 n, eff := [(nid, some (.row e k n el))] })
    (hC : C.size = cap * k) (hn : n ≤ cap) (hm : cap ≤ maxLen) (h6 : ∀ i, i < n → (el i).length = k) (h7 : ∀ u ∈ C.toList, u.oneCell' = true)
    (h8 : ∀ i j d u, i < n → (el i)[j]? = some d → C[i * k + j]? = some u → RepD E.ok w u d) :
    ∃ E', Post E w H nid r E' (w.alloc (.cells C e)) (.slice (some ⟨w.heap.size, 0, none⟩) n cap) := by
  rw [hr]
  refine ⟨_, new_post (ob := .row e k n el) hH hf e C cap n rfl rfl (fun E' w' hok hco hca hle hh hrr hd => ⟨hle, .inr ⟨_, C, hco, hh, by rw [hca, hC], by omega, by omega, h6, fun i j u hi hj hu => ?_, fun i j d u hi hd' hu => hd _ _ (h8 i j d u hi hd' hu)⟩⟩) fun E' w' hnx hco hca hle => ?_⟩
  · rw [← Array.getElem?_toList] at hu
    exact h7 u (List.mem_of_getElem? hu)
  · exact .row nid k 0 n _ cap hnx hn hm (by omega) (fun _ => ⟨_, hco, by simp⟩) fun _ => .inr ⟨_, hco, rfl, hca.symm⟩

theorem post_buildSlice (hH : HeapAt E w H) (hf : ¬ E.live nid) {t : TypeId} {len : Nat} {parts : Array (Nat × Operand)} (ho : o.op = .buildSlice t len parts) {vs : List V} (hv : RepL E w (parts.toList.map fun p => ρ p.2) vs)
    (h : buildSliceV P nid t len ((parts.toList.map (·.1)).zip vs) = some r) : ∃ E' w' v', (execOp ρ o).run P w = .ok (.value v') w' ∧ Post E w H nid r E' w' v' := by
  have hlen : (parts.toList.map (·.1)).length = vs.length := by have := hv.1; simpa using this
  have e1 : (parts.map fun (i, x) => (i, ρ x)).toList.map (·.1) = ((parts.toList.map (·.1)).zip vs).map (·.1) := by
    rw [List.map_fst_zip (by omega)]
    simp
  have e2 : RepL E w ((parts.map fun (i, x) => (i, ρ x)).toList.map (·.2)) (((parts.toList.map (·.1)).zip vs).map (·.2)) := by
    rw [List.map_snd_zip (by omega)]
    have : (parts.map fun (i, x) => (i, ρ x)).toList.map (·.2) = parts.toList.map fun p => ρ p.2 := by simp
    rw [this]
    exact hv
  unfold buildSliceV at h
  split at h
  · next e hu =>
    split at h
    · next z hz =>
      cases hs : (Nat.beq z.cells.length (sz P e) && Nat.blt 0 (sz P e) && Nat.ble (len * sz P e) 16777216 && known P e) with
      | false => simp [hs] at h
      | true =>
        simp only [hs, cond_true] at h
        simp only [Bool.and_eq_true, Nat.beq_eq, Nat.blt_eq, Nat.ble_eq] at hs
        obtain ⟨⟨⟨s1, s2⟩, s3⟩, s4⟩ := hs
        obtain ⟨d, hd⟩ := known_some s4
        split at h
        · next cs hcs =>
          split at h
          · next ds hds =>
            obtain ⟨i, v, hi, hz', rfl, hnt⟩ := zero_rep hz
            have hzr := rep_ofValue_cells (E := E) (w := w) v hnt
            have hvs : v.cells.size = sz P e := by rw [← s1, ← hzr.1]; simp
            have hzz := rep_zeros (n := len) hzr hvs s2
            obtain ⟨cells', f1, f2⟩ := fill_rep _ _ _ _ _ cs hzz e1 e2 hcs
            have hdl := (mapM_toD hds).1
            have hcl : cells'.size = len * sz P e := by
              have h1 : cs.length = (zeros (V.ofValue v).cells (sz P e) len).length := by
                have : ∀ (l : List (Nat × V)) (a b : List V), l.foldlM (partStep fun i => some (i * sz P e, sz P e)) a = some b → b.length = a.length := by
                  intro l
                  induction l with
                  | nil => intro a b h; simp at h; subst h; rfl
                  | cons p l ih =>
                    intro a b h
                    simp only [List.foldlM_cons, Option.bind_eq_bind, Option.bind_eq_some_iff] at h
                    obtain ⟨a', ha, h⟩ := h
                    rw [ih _ _ h]
                    unfold partStep at ha
                    simp only at ha
                    cases hc : (Nat.beq p.2.cells.length (sz P e) && p.2.cells.all V.isCell && Nat.ble (p.1 * sz P e + sz P e) a.length) with
                    | false => simp [hc] at ha
                    | true => simp only [hc, cond_true, Option.some.injEq] at ha; subst ha; exact setL_length _ _ _
                exact this _ _ _ hcs
              have h2 := f2.1
              rw [h1] at h2
              simpa [zeros] using h2
            have hlm : len ≤ len * sz P e := Nat.le_mul_of_pos_right _ s2
            obtain ⟨E', hp⟩ := row_post (r := r) (C := cells') (k := sz P e) (n := len) (cap := len) (e := e) (el := fun i => (ds.drop (i * sz P e)).take (sz P e)) hH hf (by cases h; rfl) hcl (Nat.le_refl _) (by unfold maxLen; omega)
              (fun i hi => by
                have : (i + 1) * sz P e ≤ len * sz P e := Nat.mul_le_mul_right _ (by omega)
                rw [Nat.add_mul, Nat.one_mul] at this
                have h3 : ds.length = len * sz P e := by rw [hdl, ← f2.1]; simpa using hcl
                simp; omega)
              (repL_one f2 (mapM_cell hds))
              (fun i j d' u hi hd' hu' => by
                obtain ⟨_, hd''⟩ := chop_get_none _ _ _ _ _ hd'
                exact repD_of_mapM hds f2 hd'' (by rw [← Array.getElem?_toList] at hu'; exact hu'))
            refine ⟨E', _, _, ?_, hp⟩
            simp only [execOp, ho, Sem.run_bind, Instr.buildSlice, run_underlying hu, Result.andThen_ok, run_sizeOf' hd]
            rw [if_neg (by omega)]
            have f1' : Instr.fill (fun i => some (i * sz P e, sz P e)) ((Array.range (len * sz P e)).map fun q => v.cells[q % v.cells.size]!) (parts.map fun x => (x.fst, ρ x.snd)).toList = some cells' := f1
            by_cases h0 : len * sz P e = 0
            · have hmap : ∀ f : Nat → Value, (Array.range (len * sz P e)).map f = #[] := by
                intro f
                rw [h0, Array.range_zero']
                simp
              rw [hmap] at f1'
              rw [if_pos h0]
              simp only [Sem.run_bind, Sem.run_pure, Result.andThen_ok, hmap, f1', newRow, run_newObj]
              rfl
            · rw [if_neg h0]
              simp only [Sem.run_bind, Sem.run_pure, Result.andThen_ok, run_zeroValue' hi hz', f1', newRow, run_newObj]
              rfl
          · cases h
        · cases h
    · cases h
  · cases h

theorem post_makeSlice (hH : HeapAt E w H) (hf : ¬ E.live nid) {t : TypeId} {l c : Operand} (ho : o.op = .makeSlice t l c) {vl vc : V} (hl : RepV E w (ρ l) vl) (hc : RepV E w (ρ c) vc)
    (h : makeSliceV P nid t vl vc = some r) (hp : ∀ p ∈ r.pre, p) : ∃ E' w' v', (execOp ρ o).run P w = .ok (.value v') w' ∧ Post E w H nid r E' w' v' := by
  unfold makeSliceV at h
  split at h
  · next e a b hu =>
    have el := hl.lit_inv
    have ec := hc.lit_inv
    split at h
    · next z hz =>
      cases hs : (Nat.beq z.length (sz P e) && Nat.blt 0 (sz P e) && Nat.blt 0 (byt P e) && known P e) with
      | false => simp [hs] at h
      | true =>
        simp only [hs, cond_true] at h
        simp only [Bool.and_eq_true, Nat.beq_eq, Nat.blt_eq] at hs
        obtain ⟨⟨⟨s1, s2⟩, s3⟩, s4⟩ := hs
        have hpre : r.pre = [0 ≤ a, a ≤ b, b * byt P e ≤ 70368744177664] := by cases h; rfl
        have p1 : 0 ≤ a := hp _ (by rw [hpre]; simp)
        have p2 : a ≤ b := hp _ (by rw [hpre]; simp)
        have p3 : b * byt P e ≤ 70368744177664 := hp _ (by rw [hpre]; simp)
        unfold zeroD at hz
        split at hz
        · next zv hzv =>
          obtain ⟨i, v, hi, hz', rfl, hnt⟩ := zero_rep hzv
          have hzr := rep_ofValue_cells (E := E) (w := w) v hnt
          obtain ⟨hzl, hzg⟩ := mapM_toD hz
          have hvsz : v.cells.size = sz P e := by rw [← s1, hzl, ← hzr.1]; simp
          have hzz := rep_zeros (n := b.toNat) hzr hvsz s2
          have hmk : (madeCells v.cells (b.toNat * sz P e)).toList = ((Array.range (b.toNat * sz P e)).map fun q => v.cells[q % v.cells.size]!).toList := rfl
          rw [← hmk] at hzz
          have hb3 : (b.toNat : Int) = b := Int.toNat_of_nonneg (by omega)
          have hbb : b.toNat ≤ b.toNat * byt P e := Nat.le_mul_of_pos_right _ s3
          have hbb' : b.toNat * byt P e ≤ 70368744177664 := by
            have : ((b.toNat * byt P e : Nat) : Int) ≤ 70368744177664 := by rw [Int.natCast_mul, hb3]; exact p3
            omega
          have hcellz : (zeros (V.ofValue v).cells (sz P e) b.toNat).all V.isCell = true := by
            rw [List.all_eq_true]
            intro x hx
            unfold zeros at hx
            obtain ⟨q, hq, rfl⟩ := List.mem_map.1 hx
            have hlt : q % sz P e < (V.ofValue v).cells.length := by rw [← hzl, s1]; exact Nat.mod_lt _ s2
            rw [List.getD_eq_getElem?_getD, List.getElem?_eq_getElem hlt]
            exact List.all_eq_true.1 (mapM_cell hz) _ (List.getElem_mem hlt)
          obtain ⟨E', hpost⟩ := row_post (r := r) (e := e) (C := madeCells v.cells (b.toNat * sz P e)) (k := sz P e) (n := a.toNat) (cap := b.toNat) (el := fun _ => z) hH hf (by cases h; rfl) (size_madeCells _ _) (by omega) (by unfold maxLen; omega)
            (fun _ _ => s1) (repL_one hzz hcellz)
            (fun i' j d' u hi' hd' hu' => by
              have hj : j < sz P e := by rw [← s1]; exact (List.getElem?_eq_some_iff.1 hd').1
              have hlt : i' * sz P e + j < b.toNat * sz P e := by
                have : (i' + 1) * sz P e ≤ b.toNat * sz P e := Nat.mul_le_mul_right _ (by omega)
                rw [Nat.add_mul, Nat.one_mul] at this
                omega
              have hg : (zeros (V.ofValue v).cells (sz P e) b.toNat)[i' * sz P e + j]? = some (.c d') := by
                unfold zeros
                rw [List.getElem?_map, List.getElem?_eq_getElem (by simpa using hlt)]
                simp only [List.getElem_range, Option.map_some, Option.some.injEq]
                rw [(split_ij (i := i') hj).2, List.getD_eq_getElem?_getD, hzg j d' hd']
                rfl
              have h2 := hzz.2 _ u _ (by rw [Array.getElem?_toList]; exact hu') hg
              cases h2 with | c _ _ h => exact h)
          refine ⟨E', _, _, ?_, hpost⟩
          have hr := run_make (P := P) w t e i v hu hi hz' .i64 .i64 a b p1 p2 (by rw [byt_info hi, Int.mul_comm]; omega) (by omega)
          rw [sz_info hi s2] at hr
          simp only [execOp, ho, el, ec, Sem.run_bind, hr, Result.andThen_ok]
          rfl
        · cases hz
    · cases h
  · cases h
end
end Go.Ax
