import Derived.Test.YtchffdmfiffifaaAx3
/- Operations that leave the world: each gives what the abstract one gives. -/
namespace Go.Ax
open Go.RowKit

/-- The result of a quiet operation. -/
def QRes (P : Program) (ρ : Operand → Value) (o : Oper) (E : Env) (w : World) (r : Res) : Prop :=
  r.eff = [] ∧ r.kill = [] ∧ Quiet P ρ o E w r.val

section
variable {P : Program} {ρ : Operand → Value} {E : Env} {w : World} {o : Oper} {r : Res}

/-- A value of which equality asks no guard. -/
def plainV : Value → Bool
  | .int _ _ => true
  | .bool _ => true
  | .string _ => true
  | _ => false
theorem run_eqGuard_plain (op : BinOp) (t : TypeId) (x y : Operand) (a b : Value) (h : plainV a = true) :
    (eqGuard op t x y a b).run P w = .ok () w := by
  cases a <;> simp [plainV] at h <;> cases op <;> simp [eqGuard]

theorem run_eqGuard_agg (op : BinOp) (t : TypeId) (x y : Operand) (xs ys : Array Value) (h : P.eqGuardType P.depth t = false) :
    (eqGuard op t x y (.agg xs) (.agg ys)).run P w = .ok () w := by
  cases op <;> simp [eqGuard, h]

theorem quiet_bin {op : BinOp} {t ty : TypeId} {x y : Operand} (ho : o.op = .binOp op t x y ty) {vx vy : V} (hx : RepV E w (ρ x) vx) (hy : RepV E w (ρ y) vy)
    (h : binV P op t vx vy = some r) (hp : ∀ p ∈ r.pre, p) : QRes P ρ o E w r := by
  have key : ∀ u, (eqGuard op t x y (ρ x) (ρ y)).run P w = .ok () w → (binOp op t (ρ x) (ρ y)).run P w = .ok u w → (execOp ρ o).run P w = .ok (.value u) w := by
    intro u h1 h2
    simp only [execOp, ho, Sem.run_bind, h1, h2, Result.andThen_ok, Sem.run_pure]
  unfold binV at h
  split at h
  · next k a k' b =>
    have ex := hx.lit_inv; have ey := hy.lit_inv
    have hg : (eqGuard op t x y (ρ x) (ρ y)).run P w = .ok () w := run_eqGuard_plain _ _ _ _ _ _ (by rw [ex]; rfl)
    have fin : (∃ u, r.val = .c (.lit u) ∧ r.eff = [] ∧ r.kill = [] ∧ (binOp op t (.int k a) (.int k' b)).run P w = .ok u w) → QRes P ρ o E w r := by
      rintro ⟨u, h1, h2, h3, h4⟩
      rw [← ex, ← ey] at h4
      exact ⟨h2, h3, u, key u hg h4, by rw [h1]; exact .lit u⟩
    split at h
    · exact fin (run_binShift h hp)
    · exact fin (run_binShift h hp)
    · next op h1 h2 =>
      split at h
      · next hk => subst hk; exact fin (run_binInt h hp)
      · cases h
  · next a b =>
    have ex := hx.lit_inv; have ey := hy.lit_inv
    have hg : (eqGuard op t x y (ρ x) (ρ y)).run P w = .ok () w := run_eqGuard_plain _ _ _ _ _ _ (by rw [ex]; rfl)
    obtain ⟨u, h1, h2, h3, h4⟩ := run_binStr (P := P) (w := w) (t := t) h hp
    rw [← ex, ← ey] at h4
    exact ⟨h2, h3, u, key u hg h4, by rw [h1]; exact .lit u⟩
  · next a b =>
    have ex := hx.lit_inv; have ey := hy.lit_inv
    have hg : (eqGuard op t x y (ρ x) (ρ y)).run P w = .ok () w := run_eqGuard_plain _ _ _ _ _ _ (by rw [ex]; rfl)
    split at h
    · next hu =>
      cases h
      refine ⟨rfl, rfl, _, key _ hg ?_, .lit _⟩
      rw [ex, ey]
      simp [binOp, Op.equal, Op.maxDepth, run_equalIn_bool' w _ t _ _ hu]
    · next hu =>
      cases h
      refine ⟨rfl, rfl, _, key _ hg ?_, .lit _⟩
      rw [ex, ey]
      simp [binOp, Op.equal, Op.maxDepth, run_equalIn_bool' w _ t _ _ hu]
    · cases h
  · next xs ys =>
    obtain ⟨us, ex, hus⟩ := hx.agg_inv
    obtain ⟨zs, ey, hzs⟩ := hy.agg_inv
    cases hgt : P.eqGuardType P.depth t with
    | true => simp [hgt] at h
    | false =>
      simp only [hgt, cond_false] at h
      have hg : (eqGuard op t x y (ρ x) (ρ y)).run P w = .ok () w := by rw [ex, ey]; exact run_eqGuard_agg _ _ _ _ _ _ hgt
      split at h
      · next b hb =>
        cases h
        have := run_eqV (P := P) (w := w) 10 9990 t _ _ b _ _ hb hx hy
        refine ⟨rfl, rfl, _, key _ hg ?_, .lit _⟩
        rw [ex, ey] at this ⊢
        simp only [binOp, Op.equal, Op.maxDepth, Sem.run_bind]
        rw [show (10000 : Nat) = 10 + 9990 from rfl, this]
        rfl
      · next b hb =>
        cases h
        have := run_eqV (P := P) (w := w) 10 9990 t _ _ b _ _ hb hx hy
        refine ⟨rfl, rfl, _, key _ hg ?_, .lit _⟩
        rw [ex, ey] at this ⊢
        simp only [binOp, Op.equal, Op.maxDepth, Sem.run_bind]
        rw [show (10000 : Nat) = 10 + 9990 from rfl, this]
        rfl
      · cases h
  · cases h

theorem quiet_un {op : UnOp} {t : TypeId} {x : Operand} (ho : o.op = .unOp op t x) {vx : V} (hx : RepV E w (ρ x) vx) (h : unV op vx = some r) : QRes P ρ o E w r := by
  unfold unV at h
  split at h
  · cases h
    have ex := hx.lit_inv
    exact ⟨rfl, rfl, _, by simp [execOp, ho, ex, Op.unary, Op.intArith], .lit _⟩
  · cases h
    have ex := hx.lit_inv
    exact ⟨rfl, rfl, _, by simp [execOp, ho, ex, Op.unary], .lit _⟩
  · cases h

theorem quiet_conv {s d : TypeId} {x : Operand} (ho : o.op = .convert s d x) {vx : V} (hx : RepV E w (ρ x) vx) (h : convV P s d vx = some r) : QRes P ρ o E w r := by
  unfold convV at h
  split at h
  · next hs hd =>
    cases h
    have ex := hx.lit_inv
    exact ⟨rfl, rfl, _, by simp [execOp, ho, ex, convert, run_underlying hs, run_underlying hd, Conv.intToInt], .lit _⟩
  · next hs hd =>
    cases h
    have ex := hx.lit_inv
    exact ⟨rfl, rfl, _, by simp [execOp, ho, ex, convert, run_underlying hs, run_underlying hd], .lit _⟩
  · cases h

theorem quiet_nilCheck {x : Operand} (ho : o.op = .nilCheck x) {vx : V} (hx : RepV E w (ρ x) vx)
    (h : nilCheckV vx = some r) : QRes P ρ o E w r := by
  have hx' := hx
  generalize hv : ρ x = v at hx
  cases hx <;> simp only [nilCheckV, Option.some.injEq, reduceCtorEq] at h <;> subst h <;> exact ⟨rfl, rfl, ρ x, by simp [execOp, ho, hv], hx'⟩

theorem fieldOff_some {t : TypeId} {f off : Nat} {ft : TypeId} (h : fieldOff P t f = some (off, ft)) : ∃ fs fl, P.underlying t = some (.struct fs) ∧ fs[f]? = some fl ∧ fl.offset = off ∧ fl.type = ft := by
  unfold fieldOff at h
  split at h
  · next fs hu =>
    split at h
    · next fl hf => cases h; exact ⟨fs, fl, hu, hf, rfl, rfl⟩
    · cases h
  · cases h

theorem sz_pos {t : TypeId} (h : sz P t ≠ 0) : ∃ d, P.underlying t = some d := by
  cases hu : P.underlying t with
  | some d => exact ⟨d, rfl⟩
  | none => simp [sz, hu] at h

theorem quiet_fieldAddr {t : TypeId} {x : Operand} {f : Nat} (ho : o.op = .fieldAddr t x f) {vx : V} (hx : RepV E w (ρ x) vx)
    (h : fieldAddrV P t f vx = some r) : QRes P ρ o E w r := by
  unfold fieldAddrV at h
  split at h
  · next off ft hf =>
    obtain ⟨fs, fl, hu, hfl, rfl, rfl⟩ := fieldOff_some hf
    cases hs : Nat.beq (sz P fl.type) 0 with
    | true => simp [hs] at h
    | false =>
      simp only [hs, cond_false] at h
      have hs' : sz P fl.type ≠ 0 := fun e => by rw [e] at hs; simp at hs
      obtain ⟨d, hd⟩ := sz_pos hs'
      have key : ∀ a : Addr, ρ x = .pointer (some a) → (execOp ρ o).run P w = .ok (.value (.pointer (some (a.add fl.offset)))) w := by
        intro a ha
        simp [execOp, ho, ha, Instr.fieldAt, run_underlying hu, hfl, Instr.sureAddr, fieldPlace, run_sizeOf' hd, hs']
      generalize hv : ρ x = v at hx
      cases hx <;> simp only [Option.some.injEq, reduceCtorEq] at h <;> subst h
      · next o' k i j b hn hb hi =>
        refine ⟨rfl, rfl, _, key _ hv, ?_⟩
        rw [add_plain, Nat.add_assoc]
        exact .ptr o' k i _ b hn hb hi
      · next k cs j ad u hok hcell hl hu' =>
        refine ⟨rfl, rfl, _, key _ hv, ?_⟩
        rw [add_add]
        exact .dptr k cs _ ad u hok hcell hl hu'
  · cases h

theorem quiet_field {t : TypeId} {x : Operand} {f : Nat} (ho : o.op = .field t x f) {vx : V} (hx : RepV E w (ρ x) vx) (h : fieldV P t f vx = some r) : QRes P ρ o E w r := by
  unfold fieldV at h
  split at h
  · next cs off ft hf =>
    obtain ⟨fs, fl, hu, hfl, rfl, rfl⟩ := fieldOff_some hf
    cases hc : (Nat.ble (fl.offset + sz P fl.type) cs.length && tyOk P fl.type) with
    | false => simp [hc] at h
    | true =>
      simp only [hc, cond_true] at h
      cases h
      simp only [Bool.and_eq_true, Nat.ble_eq] at hc
      obtain ⟨us, ex, hus⟩ := hx.agg_inv
      obtain ⟨v, hv, rv⟩ := run_part (P := P) (cs := us.toArray) (by simpa using hus) hc.2 hc.1
      exact ⟨rfl, rfl, v, by simp [execOp, ho, ex, Instr.field, run_underlying hu, hfl, asAgg, hv], rv⟩
  · cases h

theorem quiet_extract {x : Operand} {ix : Nat} (ho : o.op = .extract x ix) {vx : V} (hx : RepV E w (ρ x) vx) (hr : extractV ix vx = some r) (hp : ∀ p ∈ r.pre, p) : QRes P ρ o E w r := by
  unfold extractV at hr
  split at hr
  · next vs =>
    split at hr
    · next d hd =>
      cases hr
      generalize hv : ρ x = v at hx
      cases hx with
      | tup us _ hl' h =>
        obtain ⟨u, hu, ru⟩ := RepL.get ⟨hl', h⟩ hd
        exact ⟨rfl, rfl, u, by simp [execOp, ho, hv, Instr.extract, hu], ru⟩
    · cases hr
  · next b us =>
    generalize hv : ρ x = v at hx
    cases hx with
    | c _ _ hx =>
    cases hx
    split at hr
    · cases hr
      refine ⟨rfl, rfl, .bool b, ?_, .lit _⟩
      cases b <;> simp [execOp, ho, hv, optVal, Instr.extract]
    · next i =>
      split at hr
      · next u hu =>
        cases hr
        have hb : b = true := hp _ (by simp)
        subst hb
        refine ⟨rfl, rfl, u, ?_, .lit _⟩
        simp [execOp, ho, hv, optVal, Instr.extract, hu]
      · cases hr
  · cases hr

theorem quiet_makeFunc {f : FuncId} {first caps : Array Operand} (ho : o.op = .makeFunc (.func f) first caps) (hf : first.isEmpty = true) {vs : List V}
    (hv : RepL E w (caps.toList.map ρ) vs) : Quiet P ρ o E w (.fn f vs) := by
  have h0 : first = #[] := by simpa using hf
  refine ⟨.func (.func f) #[] (caps.map ρ), by simp [execOp, ho, Instr.makeFunc, h0], ?_⟩
  have : caps.map ρ = (caps.toList.map ρ).toArray := by rw [← Array.toList_map, Array.toArray_toList]
  rw [this]
  exact .fn f _ _ hv.1 hv.2

theorem quiet_len {c : Call} (ho : o.op = .call c) (hc : c.callee = .builtin .len) {x : Operand} (ha : c.args = #[x]) {t : TypeId} {d : TypeDesc} (ht : c.argTypes[0]? = some t) (hu : P.underlying t = some d)
    {vx : V} (hx : RepV E w (ρ x) vx) (h : lenV P t vx = some r) : QRes P ρ o E w r := by
  have key : ∀ n : Int, (Builtin.len_ c.argTypes o.type #[ρ x]).run P w = .ok (.int .i64 n) w → (execOp ρ o).run P w = .ok (.value (.int .i64 n)) w := by
    intro n hn
    simp [execOp, ho, resolve, hc, ha, invoke, builtin, hn]
  unfold lenV at h
  split at h
  · next hu' =>
    cases h
    have ex := hx.nil_inv
    refine ⟨rfl, rfl, _, key 0 ?_, .lit _⟩
    simp [Builtin.len_, ht, run_underlying hu', ex, goInt]
  · next k n el hu' =>
    cases h
    generalize hv : ρ x = v at hx key
    cases hx with
    | c _ _ h =>
      cases h
      refine ⟨rfl, rfl, _, key _ ?_, .lit _⟩
      simp [Builtin.len_, ht, run_underlying hu', goInt]
  · next hu' =>
    cases h
    generalize hv : ρ x = v at hx key
    cases hx
    refine ⟨rfl, rfl, _, key _ ?_, .lit _⟩
    simp [Builtin.len_, ht, run_underlying hu', goInt]
  · next s hu' =>
    cases h
    have ex := hx.lit_inv
    refine ⟨rfl, rfl, _, key _ ?_, .lit _⟩
    simp [Builtin.len_, ht, run_underlying hu', ex, goInt]
  · cases h

theorem run_minRest : ∀ (vs : List Value) (ds : List V) (x : Value) (d : V) (m : V), RepL E w vs ds → RepV E w x d → ds.foldlM minStep d = some m → (∃ u, (vs.foldlM Builtin.min2 x).run P w = .ok u w ∧ RepV E w u m)
  | [], ds, x, d, m, h, hx, hm => by
    have : ds = [] := List.eq_nil_of_length_eq_zero h.1.symm
    subst this
    simp at hm
    subst hm
    exact ⟨x, by simp, hx⟩
  | v :: vs, [], x, d, m, h, hx, hm => by have := h.1; simp at this
  | v :: vs, e :: ds, x, d, m, h, hx, hm => by
    have hv := h.2 0 v e rfl rfl
    have ht : RepL E w vs ds := ⟨by have := h.1; simpa using this, fun i v d a b => h.2 (i + 1) v d a b⟩
    simp only [List.foldlM_cons, Option.bind_eq_bind, Option.bind_eq_some_iff] at hm
    obtain ⟨a, ha, hm⟩ := hm
    unfold minStep at ha
    split at ha
    · cases ha
      cases hx.lit_inv; cases hv.lit_inv
      obtain ⟨u, hu, ru⟩ := run_minRest vs ds _ _ m ht (.lit _) hm
      exact ⟨u, by simpa [List.foldlM_cons, Builtin.min2] using hu, ru⟩
    · cases ha
theorem run_maxRest : ∀ (vs : List Value) (ds : List V) (x : Value) (d : V) (m : V), RepL E w vs ds → RepV E w x d → ds.foldlM maxStep d = some m → (∃ u, (vs.foldlM Builtin.max2 x).run P w = .ok u w ∧ RepV E w u m)
  | [], ds, x, d, m, h, hx, hm => by
    have : ds = [] := List.eq_nil_of_length_eq_zero h.1.symm
    subst this
    simp at hm
    subst hm
    exact ⟨x, by simp, hx⟩
  | v :: vs, [], x, d, m, h, hx, hm => by have := h.1; simp at this
  | v :: vs, e :: ds, x, d, m, h, hx, hm => by
    have hv := h.2 0 v e rfl rfl
    have ht : RepL E w vs ds := ⟨by have := h.1; simpa using this, fun i v d a b => h.2 (i + 1) v d a b⟩
    simp only [List.foldlM_cons, Option.bind_eq_bind, Option.bind_eq_some_iff] at hm
    obtain ⟨a, ha, hm⟩ := hm
    unfold maxStep at ha
    split at ha
    · cases ha
      cases hx.lit_inv; cases hv.lit_inv
      obtain ⟨u, hu, ru⟩ := run_maxRest vs ds _ _ m ht (.lit _) hm
      exact ⟨u, by simpa [List.foldlM_cons, Builtin.max2] using hu, ru⟩
    · cases ha

theorem quiet_min {c : Call} (ho : o.op = .call c) (hc : c.callee = .builtin .min) {vs : List V} (hx : RepL E w (c.args.toList.map ρ) vs) {m : V} (h : minV vs = some m) : Quiet P ρ o E w m := by
  unfold minV at h
  split at h
  · cases h
  · next d ds =>
    cases ha : c.args.toList with
    | nil => rw [ha] at hx; have := hx.1; simp at this
    | cons x xs =>
      rw [ha] at hx
      obtain ⟨u, hu, ru⟩ := run_minRest (P := P) (xs.map ρ) ds (ρ x) d m ⟨by have := hx.1; simpa using this, fun i v d a b => hx.2 (i + 1) v d (by simpa using a) (by simpa using b)⟩ (hx.2 0 _ _ rfl rfl) h
      refine ⟨u, ?_, ru⟩
      have : (c.args.map ρ).toList = ρ x :: xs.map ρ := by rw [Array.toList_map, ha]; rfl
      simp only [execOp, ho, resolve, hc, invoke, builtin, Builtin.min_, this, Sem.run_bind, Sem.run_pure, Result.andThen_ok, hu]
theorem quiet_max {c : Call} (ho : o.op = .call c) (hc : c.callee = .builtin .max) {vs : List V} (hx : RepL E w (c.args.toList.map ρ) vs) {m : V} (h : maxV vs = some m) : Quiet P ρ o E w m := by
  unfold maxV at h
  split at h
  · cases h
  · next d ds =>
    cases ha : c.args.toList with
    | nil => rw [ha] at hx; have := hx.1; simp at this
    | cons x xs =>
      rw [ha] at hx
      obtain ⟨u, hu, ru⟩ := run_maxRest (P := P) (xs.map ρ) ds (ρ x) d m ⟨by have := hx.1; simpa using this, fun i v d a b => hx.2 (i + 1) v d (by simpa using a) (by simpa using b)⟩ (hx.2 0 _ _ rfl rfl) h
      refine ⟨u, ?_, ru⟩
      have : (c.args.map ρ).toList = ρ x :: xs.map ρ := by rw [Array.toList_map, ha]; rfl
      simp only [execOp, ho, resolve, hc, invoke, builtin, Builtin.max_, this, Sem.run_bind, Sem.run_pure, Result.andThen_ok, hu]
end
end Go.Ax
