import Derived.Test.YtchffdmfiffifaaAx4
/- Slices, indexes, loads. -/
namespace Go.Ax
open Go.RowKit

section
variable {P : Program} {ρ : Operand → Value} {E : Env} {w : World} {o : Oper} {r : Res}

theorem RepL.nil : RepL E w [] [] := ⟨rfl, fun i v d h => by simp at h⟩

/-- How the bounds of a slice expression read. -/
structure Bnds (lo hi : Option Value) (l h : Int) (n : Int) : Prop where
  lo : (∃ k, lo = some (.int k l)) ∨ (lo = none ∧ l = 0)
  hi : (∃ k, hi = some (.int k h)) ∨ (hi = none ∧ h = n)

theorem toNatV_inv {v : Value} {d : V} {n : Int} (h : toNatV d = some n) (hr : RepV E w v d) : ∃ k, v = .int k n := by
  unfold toNatV at h
  split at h
  · cases h; exact ⟨_, hr.lit_inv⟩
  · cases h

theorem bnds_of {lo hi : Option Operand} {dlo dhi : Option V} {l h n : Int} (hl : loV dlo = some l) (hh : hiV n dhi = some h)
    (rl : ∀ x, lo = some x → ∃ d, dlo = some d ∧ RepV E w (ρ x) d) (nl : lo = none → dlo = none) (rh : ∀ x, hi = some x → ∃ d, dhi = some d ∧ RepV E w (ρ x) d) (nh : hi = none → dhi = none) :
    Bnds (lo.map ρ) (hi.map ρ) l h n := by
  constructor
  · cases lo with
    | none => rw [nl rfl] at hl; cases hl; exact .inr ⟨rfl, rfl⟩
    | some x =>
      obtain ⟨d, rfl, hr⟩ := rl x rfl
      obtain ⟨k, hk⟩ := toNatV_inv hl hr
      exact .inl ⟨k, by simp [hk]⟩
  · cases hi with
    | none => rw [nh rfl] at hh; cases hh; exact .inr ⟨rfl, rfl⟩
    | some x =>
      obtain ⟨d, rfl, hr⟩ := rh x rfl
      obtain ⟨k, hk⟩ := toNatV_inv hh hr
      exact .inl ⟨k, by simp [hk]⟩

theorem run_bounds {isSlice : Bool} {n cap : Nat} {lo hi : Option Value} {l h : Int} (hb : Bnds lo hi l h n) (h0 : 0 ≤ l) (h1 : l ≤ h) (h2 : h ≤ n) (hc : n ≤ cap) :
    (Instr.sliceBounds isSlice n cap lo hi none).run P w = .ok (l.toNat, h.toNat, cap) w := by
  unfold Instr.sliceBounds
  rcases hb.lo with ⟨k, rfl⟩ | ⟨rfl, rfl⟩ <;> rcases hb.hi with ⟨k', rfl⟩ | ⟨rfl, rfl⟩
  · simp only [Sem.run_bind, Sem.run_pure, Result.andThen_ok, run_sliceBound w k' h cap _ (by omega) (by omega), run_sliceBound w k l h.toNat _ h0 (by omega)]
  · simp only [Sem.run_bind, Sem.run_pure, Result.andThen_ok, run_sliceBound w k l n _ h0 (by omega)]; simp
  · simp only [Sem.run_bind, Sem.run_pure, Result.andThen_ok, run_sliceBound w k' h cap _ (by omega) (by omega)]; simp
  · simp

theorem quiet_slice {t : TypeId} {x : Operand} {lo hi : Option Operand} (ho : o.op = .slice t x lo hi none) {vx : V} {dlo dhi : Option V} (hx : RepV E w (ρ x) vx)
    (rl : ∀ x, lo = some x → ∃ d, dlo = some d ∧ RepV E w (ρ x) d) (nl : lo = none → dlo = none) (rh : ∀ x, hi = some x → ∃ d, dhi = some d ∧ RepV E w (ρ x) d) (nh : hi = none → dhi = none)
    (h : sliceV P t vx dlo dhi = some r) (hp : ∀ p ∈ r.pre, p) : QRes P ρ o E w r := by
  have key : ∀ v, (Instr.slice t (ρ x) (lo.map ρ) (hi.map ρ) none).run P w = .ok v w → (∀ n e, P.underlying t ≠ some (.array n e)) → (∃ d, P.underlying t = some d) → (execOp ρ o).run P w = .ok (.value v) w := by
    intro v hv hna ⟨d, hd⟩
    have : (Instr.sliceAt t (ρ x) (lo.map ρ) (hi.map ρ) none).run P w = .ok v w := by
      unfold Instr.sliceAt
      simp only [Sem.run_bind, run_underlying hd, Result.andThen_ok]
      cases d <;> first | exact (hna _ _ hd).elim | exact hv
    simp [execOp, ho, this]
  unfold sliceV at h
  split at h
  · next e hu =>
    split at h
    · next d l hh he h1 h2 =>
      cases h
      have p1 : l = 0 := hp _ (by simp)
      have p2 : hh = 0 := hp _ (by simp)
      subst p1; subst p2
      have hb := bnds_of (n := ((0 : Nat) : Int)) h1 h2 rl nl rh nh
      refine ⟨rfl, rfl, .slice none 0 0, key _ ?_ (by rw [hu]; simp) ⟨_, hu⟩, .c _ _ .nil⟩
      rw [hx.nil_inv]
      simp [Instr.slice, run_underlying hu, run_bounds (P := P) (w := w) (isSlice := true) hb (by omega) (by omega) (by omega) (Nat.le_refl 0), run_sizeOf' he]
    · cases h
  · next e k n el hu =>
    cases hs : Nat.beq (sz P e) k with
    | false => simp [hs] at h
    | true =>
      have hs' : sz P e = k := by simpa using hs
      simp only [hs, cond_true] at h
      split at h
      · next d l hh he h1 h2 =>
        cases h
        have p1 : 0 ≤ l := hp _ (by simp)
        have p2 : l ≤ hh := hp _ (by simp)
        have p3 : hh ≤ (n : Int) := hp _ (by simp)
        have hb := bnds_of h1 h2 rl nl rh nh
        generalize hv : ρ x = v at hx key
        cases hx with
        | c _ _ hx =>
          cases hx with
          | sl a _ c _ _ u hc hm ha hone hl hu' =>
            refine ⟨rfl, rfl, .slice (if c = l.toNat then a else a.map (·.add (l.toNat * k))) (hh.toNat - l.toNat) (c - l.toNat), key _ ?_ (by rw [hu]; simp) ⟨_, hu⟩, .c _ _ ?_⟩
            · simp [Instr.slice, run_underlying hu, run_bounds (P := P) (w := w) (isSlice := true) hb p1 p2 p3 hc, run_sizeOf' he, hs']
            · have e1 : hh.toNat - l.toNat = (hh - l).toNat := by omega
              rw [e1]
              refine .sl _ _ _ _ _ (fun i j => u (l.toNat + i) j) (by omega) (by omega) (fun hn => ?_) (fun i j hi hj => hone _ _ (by omega) hj) (fun i hi => hl _ (by omega)) (fun i j d hi hd => hu' _ j d (by omega) hd)
              obtain ⟨ad, rfl, hok, hcell⟩ := ha (by omega)
              rw [if_neg (by omega)]
              refine ⟨ad.add (l.toNat * k), rfl, by rw [add_block]; exact hok, fun i j hi hj => ?_⟩
              rw [add_add, ← hcell (l.toNat + i) j (by omega) hj]
              congr 2
              rw [Nat.add_mul, Nat.add_assoc]
      · cases h
  · next e o' k off n hu =>
    cases hs : Nat.beq (sz P e) k with
    | false => simp [hs] at h
    | true =>
      have hs' : sz P e = k := by simpa using hs
      simp only [hs, cond_true] at h
      split at h
      · next d l hh he h1 h2 =>
        cases h
        have p1 : 0 ≤ l := hp _ (by simp)
        have p2 : l ≤ hh := hp _ (by simp)
        have p3 : hh ≤ (n : Int) := hp _ (by simp)
        have hb := bnds_of h1 h2 rl nl rh nh
        generalize hv : ρ x = v at hx key
        cases hx with
        | row _ _ _ _ a c hn hc hm hl ha h0 =>
          refine ⟨rfl, rfl, .slice (if c = l.toNat then a else a.map (·.add (l.toNat * k))) (hh.toNat - l.toNat) (c - l.toNat), key _ ?_ (by rw [hu]; simp) ⟨_, hu⟩, ?_⟩
          · simp [Instr.slice, run_underlying hu, run_bounds (P := P) (w := w) (isSlice := true) hb p1 p2 p3 hc, run_sizeOf' he, hs']
          · have e1 : hh.toNat - l.toNat = (hh - l).toNat := by omega
            rw [e1]
            refine .row _ _ _ _ _ _ hn (by omega) (by omega) (by omega) (fun hn => ?_) (fun hoff => ?_)
            · obtain ⟨b, hb1, rfl⟩ := ha (by omega)
              rw [if_neg (by omega)]
              refine ⟨b, hb1, ?_⟩
              simp only [Option.map_some]
              rw [add_plain, ← Nat.add_mul]
            · have hl0 : l.toNat = 0 := by omega
              have hoff0 : off = 0 := by omega
              rw [hl0]
              rcases h0 hoff0 with ⟨rfl, rfl, h3⟩ | ⟨b, h3, rfl, rfl⟩
              · exact .inl ⟨by simp, rfl, h3⟩
              · refine .inr ⟨b, h3, ?_, by omega⟩
                split
                · rfl
                · simp [Addr.add]
      · cases h
  · next s hu =>
    split at h
    · next l hh h1 h2 =>
      cases h
      have p1 : 0 ≤ l := hp _ (by simp)
      have p2 : l ≤ hh := hp _ (by simp)
      have p3 : hh ≤ (s.size : Int) := hp _ (by simp)
      have hb := bnds_of h1 h2 rl nl rh nh
      refine ⟨rfl, rfl, .string (s.extract l.toNat hh.toNat), key _ ?_ (by rw [hu]; simp) ⟨_, hu⟩, .lit _⟩
      rw [hx.lit_inv]
      simp [Instr.slice, run_underlying hu, run_bounds (P := P) (w := w) (isSlice := false) hb p1 p2 p3 (Nat.le_refl _)]
    · cases h
  · cases h

theorem quiet_indexAddr {H : Heap} (hH : HeapAt E w H) {t : TypeId} {x ix : Operand} (ho : o.op = .indexAddr t x ix) {vx vi : V} (hx : RepV E w (ρ x) vx) (hi : RepV E w (ρ ix) vi)
    (h : indexAddrV P H t vx vi = some r) (hp : ∀ p ∈ r.pre, p) : QRes P ρ o E w r := by
  have key : ∀ v, (Instr.indexAt t (ρ x) (ρ ix)).run P w = .ok v w → (execOp ρ o).run P w = .ok (.value v) w := by
    intro v hv
    simp [execOp, ho, hv]
  unfold indexAddrV at h
  split at h
  · next e k n el kk i hu =>
    cases hs : Nat.beq (sz P e) k with
    | false => simp [hs] at h
    | true =>
      have hs' : sz P e = k := by simpa using hs
      simp only [hs, cond_true] at h
      split at h
      · next d he =>
        cases h
        have p1 : 0 ≤ i := hp _ (by simp)
        have p2 : i < (n : Int) := hp _ (by simp)
        have ei := hi.lit_inv
        generalize hv : ρ x = v at hx key
        cases hx with
        | c _ _ hx =>
          cases hx with
          | sl a _ c _ _ u hc hm ha hone hl hu' =>
            obtain ⟨ad, rfl, hok, hcell⟩ := ha (by omega)
            refine ⟨rfl, rfl, .pointer (some (ad.add (i.toNat * k))), key _ ?_, ?_⟩
            · simp [Instr.indexAt, ei, asIntOf, run_underlying hu, p1, p2, run_sizeOf' he, hs']
            · have := RepV.dptr (E := E) (w := w) k (el i.toNat) 0 (ad.add (i.toNat * k)) (u i.toNat) (by rw [add_block]; exact hok) (fun j hj => by rw [add_add]; exact hcell _ _ (by omega) hj) (hl _ (by omega)) (fun j d hd => hu' _ _ _ (by omega) hd)
              rwa [add_add, Nat.add_zero] at this
      · cases h
  · next =>
    cases h
    exact (hp False (by simp)).elim
  · next e o' k off n kk i hu =>
    cases hs : Nat.beq (sz P e) k with
    | false => simp [hs] at h
    | true =>
      have hs' : sz P e = k := by simpa using hs
      simp only [hs, cond_true] at h
      split at h
      · next d he =>
        cases h
        have p1 : 0 ≤ i := hp _ (by simp)
        have p2 : i < (n : Int) := hp _ (by simp)
        have ei := hi.lit_inv
        generalize hv : ρ x = v at hx key
        cases hx with
        | row _ _ _ _ a c hn hc hm hl ha h0 =>
          obtain ⟨b, hb, rfl⟩ := ha (by omega)
          refine ⟨rfl, rfl, .pointer (some (Addr.add ⟨b, off * k, none⟩ (i.toNat * k))), key _ ?_, ?_⟩
          · simp [Instr.indexAt, ei, asIntOf, run_underlying hu, p1, p2, run_sizeOf' he, hs']
          · rw [add_plain, ← Nat.add_mul]
            have := RepV.ptr (w := w) o' k (off + i.toNat) 0 b hn hb (by omega)
            simpa using this
      · cases h
  · next len e o' k q j kk i hu =>
    have ei := hi.lit_inv
    split at h
    · next e' k' m el hg =>
      cases hs : (Nat.beq q 0 && Nat.beq j 0 && Nat.beq k' k && Nat.beq k (sz P e) && Nat.beq m len) with
      | false => simp [hs] at h
      | true =>
        simp only [hs, cond_true] at h
        simp only [Bool.and_eq_true, Nat.beq_eq] at hs
        obtain ⟨⟨⟨⟨rfl, rfl⟩, hk1⟩, hk2⟩, rfl⟩ := hs
        split at h
        · next d he =>
          cases h
          have p1 : 0 ≤ i := hp _ (by simp)
          have p2 : i < (m : Int) := hp _ (by simp)
          generalize hv : ρ x = v at hx key
          cases hx with
          | ptr _ _ _ _ b hn hb hi' =>
            refine ⟨rfl, rfl, .pointer (some (Addr.add ⟨b, 0 * k + 0, none⟩ (i.toNat * k))), key _ ?_, ?_⟩
            · simp [Instr.indexAt, ei, asIntOf, run_underlying hu, p1, p2, run_sizeOf' he, hk2, Instr.sureAddr]
            · rw [add_plain]
              obtain ⟨_, hob⟩ := hH.at_ _ _ hg
              have hlen : E.len o' = m := hob.1
              have := RepV.ptr (w := w) o' k i.toNat 0 b hn hb (by omega)
              simpa using this
        · cases h
    · next cs hg =>
      split at h
      · next d he =>
        cases h
        have p1 : 0 ≤ i := hp _ (by simp)
        have p2 : i < (len : Int) := hp _ (by simp)
        generalize hv : ρ x = v at hx key
        cases hx with
        | ptr _ _ _ _ b hn hb hi' =>
          refine ⟨rfl, rfl, .pointer (some (Addr.add ⟨b, q * k + j, none⟩ (i.toNat * sz P e))), key _ ?_, ?_⟩
          · simp [Instr.indexAt, ei, asIntOf, run_underlying hu, p1, p2, run_sizeOf' he, Instr.sureAddr]
          · rw [add_plain, Nat.add_assoc]
            exact RepV.ptr (w := w) o' k q _ b hn hb hi'
      · cases h
    · cases h
    · cases h
  · next len e k cs j kk i hu =>
    have ei := hi.lit_inv
    split at h
    · next d he =>
      cases h
      have p1 : 0 ≤ i := hp _ (by simp)
      have p2 : i < (len : Int) := hp _ (by simp)
      generalize hv : ρ x = v at hx key
      cases hx with
      | dptr _ _ _ ad u hok hcell hl hu' =>
        refine ⟨rfl, rfl, .pointer (some ((ad.add j).add (i.toNat * sz P e))), key _ ?_, ?_⟩
        · simp [Instr.indexAt, ei, asIntOf, run_underlying hu, p1, p2, run_sizeOf' he, Instr.sureAddr]
        · rw [add_add]
          exact .dptr k cs _ ad u hok hcell hl hu'
    · cases h
  · cases h

theorem quiet_index {t : TypeId} {x ix : Operand} (ho : o.op = .index t x ix) {vx vi : V} (hx : RepV E w (ρ x) vx) (hi : RepV E w (ρ ix) vi)
    (h : indexV P t vx vi = some r) (hp : ∀ p ∈ r.pre, p) : QRes P ρ o E w r := by
  unfold indexV at h
  split at h
  · next s kk i hu =>
    cases h
    have p1 : 0 ≤ i := hp _ (by simp)
    have p2 : i < (s.size : Int) := hp _ (by simp)
    have ei := hi.lit_inv
    have ex := hx.lit_inv
    have hlt : i.toNat < s.size := by omega
    refine ⟨rfl, rfl, .int .u8 (s.data.getD i.toNat 0).toNat, ?_, .lit _⟩
    have hg : s[i.toNat]? = some (s.data.getD i.toNat 0) := by
      have h2 : i.toNat < s.data.size := hlt
      rw [Array.getD_eq_getD_getElem?, Array.getElem?_eq_getElem h2]
      rw [getElem?_pos s i.toNat hlt]
      rfl
    simp [execOp, ho, ex, ei, Instr.index, asIntOf, run_underlying hu, p1, hg]
  · next len e cs kk i hu =>
    cases hs : (Nat.ble (len * sz P e) cs.length && tyOk P e) with
    | false => simp [hs] at h
    | true =>
      simp only [hs, cond_true] at h
      simp only [Bool.and_eq_true, Nat.ble_eq] at hs
      cases h
      have p1 : 0 ≤ i := hp _ (by simp)
      have p2 : i < (len : Int) := hp _ (by simp)
      have ei := hi.lit_inv
      obtain ⟨us, ex, hus⟩ := hx.agg_inv
      obtain ⟨d, hd⟩ := und_some hs.2
      have hle : i.toNat * sz P e + sz P e ≤ cs.length := by
        have h1 : (i.toNat + 1) * sz P e ≤ len * sz P e := Nat.mul_le_mul_right _ (by omega)
        rw [Nat.add_mul, Nat.one_mul] at h1
        omega
      obtain ⟨v, hv, rv⟩ := run_part (P := P) (cs := us.toArray) (by simpa using hus) hs.2 hle
      exact ⟨rfl, rfl, v, by simp [execOp, ho, ex, ei, Instr.index, asIntOf, run_underlying hu, p1, p2, run_sizeOf' hd, hv], rv⟩
  · cases h

theorem run_loadVar_cells {t : TypeId} {a : Addr} {n : Nat} (ht : tyOk P t = true) (hn : n = sz P t) (f : Nat → Value) (hc : ∀ j, j < n → w.cell? (a.add j) = some (f j)) :
    (loadVar t a).run P w = .ok (if isAg P t then .agg ((List.range n).map f).toArray else f 0) w := by
  obtain ⟨d, hd⟩ := und_some ht
  subst hn
  unfold loadVar
  simp only [Sem.run_bind, run_isAgg ht, Result.andThen_ok]
  cases hag : isAg P t with
  | true =>
    simp only [if_true, Sem.run_bind, run_sizeOf' hd, Result.andThen_ok, Sem.run_pure]
    rw [run_loadCells w a _ f hc]
    simp
  | false =>
    have hs : 0 < sz P t := by simp [tyOk, hag] at ht; omega
    have h0 : w.cell? a = some (f 0) := by have := hc 0 hs; simpa [Addr.add] using this
    simp [h0]

theorem rep_takeD {cs : List D} {j n : Nat} {f : Nat → Value} {ag : Bool} (h : ∀ i d, i < n → cs[j + i]? = some d → RepD E.ok w (f i) d) (hl : j + n ≤ cs.length) (hag : ag = true ∨ 0 < n) :
    RepV E w (if ag then .agg ((List.range n).map f).toArray else f 0) (takeD ag cs j n) := by
  unfold takeD
  cases ag with
  | true =>
    simp only [if_true, cond_true]
    refine .agg _ _ (by simp) fun i v d hv hd => ?_
    rw [List.getElem?_map] at hv hd
    cases hr : (List.range n)[i]? with
    | none => rw [hr] at hv; cases hv
    | some q =>
      rw [hr] at hv hd
      cases hv; cases hd
      have hq : q = i ∧ i < n := by
        obtain ⟨h1, h2⟩ := List.getElem?_eq_some_iff.1 hr
        simp at h1 h2; omega
      refine .c _ _ (h q _ (by omega) ?_)
      rw [List.getD_eq_getElem?_getD, List.getElem?_eq_getElem (by omega)]
      rfl
  | false =>
    have hn : 0 < n := by simpa using hag
    simp only [Bool.false_eq_true, if_false, cond_false]
    refine .c _ _ (h 0 _ hn ?_)
    rw [Nat.add_zero, List.getD_eq_getElem?_getD, List.getElem?_eq_getElem (by omega)]
    rfl

theorem tyOk_or {t : TypeId} (h : tyOk P t = true) : isAg P t = true ∨ 0 < sz P t := by
  unfold tyOk at h
  cases ha : isAg P t
  · simp [ha] at h; exact .inr h
  · exact .inl rfl

theorem rowLen {α : Type} (f : Nat → Nat → α) (m k : Nat) : ((List.range m).flatMap fun i => (List.range k).map (f i)).length = m * k := by
  induction m with
  | zero => simp
  | succ m ih => rw [List.range_succ, List.flatMap_append, List.length_append, ih, Nat.add_mul, Nat.one_mul]; simp

theorem rowGet {α : Type} (f : Nat → Nat → α) : ∀ (m k q : Nat), 0 < k → q < m * k → ((List.range m).flatMap fun i => (List.range k).map (f i))[q]? = some (f (q / k) (q % k)) := by
  intro m k
  induction m with
  | zero => intro q _ h; simp at h
  | succ m ih =>
    intro q hk hq
    rw [List.range_succ, List.flatMap_append]
    have hlen := rowLen f m k
    by_cases h : q < m * k
    · rw [List.getElem?_append_left (by omega)]
      exact ih q hk h
    · rw [List.getElem?_append_right (by omega), hlen]
      rw [Nat.add_mul, Nat.one_mul] at hq
      have e1 : q / k = m := by
        have h1 : q = k * m + (q - m * k) := by rw [Nat.mul_comm]; omega
        rw [h1, Nat.mul_add_div hk, Nat.div_eq_of_lt (by omega)]; omega
      have e2 : q % k = q - m * k := by
        have h1 : q = (q - m * k) + k * m := by rw [Nat.mul_comm k m]; omega
        rw [h1, Nat.add_mul_mod_self_left, Nat.mod_eq_of_lt (by omega)]; rw [Nat.mul_comm k m]; omega
      simp only [List.flatMap_cons, List.flatMap_nil, List.append_nil, List.getElem?_map]
      rw [List.getElem?_eq_getElem (by simp; omega)]
      simp [e1, e2]

theorem row_cell {H : Heap} (hH : HeapAt E w H) {o' : Nat} {e : TypeId} {k n : Nat} {el : Nat → List D} (hg : H.get o' = some (.row e k n el)) {b : Nat} (hb : E.conc o' = some b) :
    ∃ C : Array Value, w.heap[b]? = some (.cells C e (0, 0)) ∧ C.size = E.cap o' * k ∧ n ≤ E.cap o' ∧ (∀ i, i < n → (el i).length = k) ∧ (∀ i j u, i < n → j < k → C[i * k + j]? = some u → u.oneCell' = true) ∧ ∀ i j d u, i < n → (el i)[j]? = some d → C[i * k + j]? = some u → RepD E.ok w u d := by
  obtain ⟨_, hlen, hob⟩ := hH.at_ _ _ hg
  rcases hob with ⟨h1, _⟩ | ⟨b', C, h1, h2, h3, h4, _, h6, h6', h7⟩
  · rw [h1] at hb; cases hb
  · rw [h1] at hb; cases hb
    exact ⟨C, h2, h3, h4, h6, h6', h7⟩

theorem quiet_load {H : Heap} (hH : HeapAt E w H) {t : TypeId} {x : Operand} (ho : o.op = .load t x) {vx : V} (hx : RepV E w (ρ x) vx)
    (h : loadV P H t vx = some r) : QRes P ρ o E w r := by
  have key : ∀ a v, ρ x = .pointer (some a) → (loadVar t a).run P w = .ok v w → (execOp ρ o).run P w = .ok (.value v) w := by
    intro a v ha hv
    simp [execOp, ho, ha, Instr.loadAt, Instr.sureAddr, hv]
  unfold loadV at h
  split at h
  · next o' k i j =>
    generalize hv : ρ x = v at hx
    cases hx with
    | ptr _ _ _ _ b hn hb hi =>
      split at h
      · next cs hg =>
        cases hs : (Nat.beq cs.length k && Nat.ble (j + sz P t) k && tyOk P t) with
        | false => simp [hs] at h
        | true =>
          simp only [hs, cond_true] at h
          simp only [Bool.and_eq_true, Nat.ble_eq, Nat.beq_eq] at hs
          obtain ⟨⟨hk, hle⟩, ht⟩ := hs
          cases h
          obtain ⟨_, hlen, b', C, te, h1, h2, h3⟩ := hH.at_ _ _ hg
          rw [h1] at hb; cases hb
          have hi0 : i = 0 := by omega
          subst hi0
          have hcell : ∀ q, q < sz P t → w.cell? (Addr.add ⟨b, 0 * k + j, none⟩ q) = some (C.toList.getD (j + q) undef) := by
            intro q hq
            rw [add_plain, cell_of_row w b _ C te (0, 0) h2]
            have : j + q < C.toList.length := by rw [h3.1]; omega
            rw [List.getD_eq_getElem?_getD, ← Array.getElem?_toList, Nat.zero_mul, Nat.zero_add, List.getElem?_eq_getElem this]
            rfl
          refine ⟨rfl, rfl, _, key _ _ hv (run_loadVar_cells ht rfl _ hcell), ?_⟩
          have ht' := RepL.take h3 j (sz P t)
          unfold takeV
          cases hag : isAg P t with
          | true =>
            simp only [if_true, cond_true]
            have e1 : (List.range (sz P t)).map (fun q => C.toList.getD (j + q) undef) = (C.toList.drop j).take (sz P t) := by
              apply List.ext_getElem?
              intro q
              rw [List.getElem?_map, List.getElem?_take, List.getElem?_drop]
              by_cases hq : q < sz P t
              · rw [if_pos hq, List.getElem?_eq_getElem (by simpa using hq)]
                have : j + q < C.toList.length := by rw [h3.1]; omega
                rw [List.getElem_range, Option.map_some, List.getD_eq_getElem?_getD, List.getElem?_eq_getElem this]
                rfl
              · rw [if_neg hq, List.getElem?_eq_none (by simpa using hq)]; rfl
            rw [e1]
            exact .agg _ _ ht'.1 ht'.2
          | false =>
            have hsz : 0 < sz P t := (tyOk_or ht).resolve_left (by simp [hag])
            have hlt : j < cs.length := by omega
            obtain ⟨u, hu, ru⟩ := h3.get (List.getElem?_eq_getElem hlt)
            simp only [Bool.false_eq_true, if_false, cond_false, Nat.add_zero]
            rw [List.getD_eq_getElem?_getD, hu, List.drop_eq_getElem_cons hlt]
            exact ru
      · next e k' m el hg =>
        obtain ⟨C, h2, h3, h4, h6, _, h7⟩ := row_cell hH hg hb
        obtain ⟨_, hlen, _⟩ := hH.at_ _ _ hg
        cases hs : (Nat.beq k' k && Nat.ble (j + sz P t) k && tyOk P t) with
        | false =>
          simp only [hs, cond_false] at h
          cases hs2 : (Nat.beq k' k && Nat.beq i 0 && Nat.beq j 0 && Nat.beq (m * k) (sz P t) && isAg P t) with
          | false => simp [hs2] at h
          | true =>
            simp only [hs2, cond_true] at h
            simp only [Bool.and_eq_true, Nat.beq_eq] at hs2
            obtain ⟨⟨⟨⟨hk, rfl⟩, rfl⟩, hmk⟩, hag⟩ := hs2
            subst hk
            cases h
            have ht : tyOk P t = true := by simp [tyOk, hag]
            have hle : m * k' ≤ C.size := by rw [h3]; exact Nat.mul_le_mul_right _ h4
            have hcell : ∀ q, q < sz P t → w.cell? (Addr.add ⟨b, 0 * k' + 0, none⟩ q) = some (C.getD q undef) := by
              intro q hq
              rw [add_plain, cell_of_row w b _ C e (0, 0) h2]
              have hq' : q < C.size := by omega
              simp [Array.getD, hq']
            refine ⟨rfl, rfl, _, key _ _ hv (run_loadVar_cells ht rfl _ hcell), ?_⟩
            rw [hag, if_pos rfl, ← hmk]
            refine .agg _ _ ?_ fun q v d hv' hd' => ?_
            · rw [rowLen (fun i q => V.c ((el i).getD q .unk))]; simp
            · rw [List.getElem?_map] at hv'
              cases hr : (List.range (m * k'))[q]? with
              | none => rw [hr] at hv'; cases hv'
              | some q' =>
                rw [hr] at hv'; cases hv'
                obtain ⟨hq1, hq2⟩ := List.getElem?_eq_some_iff.1 hr
                simp at hq1 hq2; subst hq2
                have hk0 : 0 < k' := by
                  rcases Nat.eq_zero_or_pos k' with h0 | h0
                  · subst h0; simp at hq1
                  · exact h0
                have hdec := rowGet (fun i q => V.c ((el i).getD q .unk)) m k' q hk0 hq1
                rw [hdec] at hd'; cases hd'
                refine .c _ _ ?_
                have hi1 : q / k' < m := Nat.div_lt_of_lt_mul (by rw [Nat.mul_comm]; exact hq1)
                have hl := h6 _ hi1
                have hj1 : q % k' < (el (q / k')).length := by rw [hl]; exact Nat.mod_lt _ hk0
                rw [List.getD_eq_getElem?_getD, List.getElem?_eq_getElem hj1]
                have hq' : q < C.size := by omega
                refine h7 (q / k') (q % k') _ _ hi1 (List.getElem?_eq_getElem hj1) ?_
                rw [Nat.div_add_mod' q k']
                simp [Array.getD, hq']
        | true =>
          simp only [hs, cond_true] at h
          simp only [Bool.and_eq_true, Nat.ble_eq, Nat.beq_eq] at hs
          obtain ⟨⟨rfl, hle⟩, ht⟩ := hs
          cases h
          have him : i < m := by omega
          have hik : (i + 1) * k' ≤ E.cap o' * k' := Nat.mul_le_mul_right _ (by omega)
          rw [Nat.add_mul, Nat.one_mul] at hik
          have hcell : ∀ q, q < sz P t → w.cell? (Addr.add ⟨b, i * k' + j, none⟩ q) = some (C.getD (i * k' + (j + q)) undef) := by
            intro q hq
            rw [add_plain, cell_of_row w b _ C e (0, 0) h2, Nat.add_assoc]
            have hq' : i * k' + (j + q) < C.size := by omega
            simp [Array.getD, hq']
          refine ⟨rfl, rfl, _, key _ _ hv (run_loadVar_cells ht rfl _ hcell), ?_⟩
          refine rep_takeD (f := fun q => C.getD (i * k' + (j + q)) undef) (fun q d hq hd => ?_) (by rw [h6 _ him]; exact hle) (tyOk_or ht)
          have hq' : i * k' + (j + q) < C.size := by omega
          exact h7 i (j + q) d _ him hd (by simp [Array.getD, hq'])
      · cases h
      · cases h
  · next k cs j =>
    cases hs : (Nat.ble (j + sz P t) k && tyOk P t) with
    | false => simp [hs] at h
    | true =>
      simp only [hs, cond_true] at h
      simp only [Bool.and_eq_true, Nat.ble_eq] at hs
      obtain ⟨hle, ht⟩ := hs
      cases h
      generalize hv : ρ x = v at hx
      cases hx with
      | dptr _ _ _ ad u hok hcell hl hu =>
        refine ⟨rfl, rfl, _, key _ _ hv (run_loadVar_cells ht rfl (fun q => u (j + q)) fun q hq => by rw [add_add]; exact hcell _ (by omega)), ?_⟩
        exact rep_takeD (f := fun q => u (j + q)) (fun q d hq hd => hu _ _ hd) (by omega) (tyOk_or ht)
  · cases h
end
end Go.Ax
