import Derived.Test.YtchffdmfiffifaaAx2
/- Each abstract operation is sound: the ones that only compute. -/
namespace Go.Ax
open Go.RowKit

theorem RepV.lit_inv {E : Env} {w : World} {v u : Value} (h : RepV E w v (.c (.lit u))) : v = u := by
  cases h with | c _ _ h => cases h; rfl
theorem RepV.nil_inv {E : Env} {w : World} {v : Value} (h : RepV E w v (.c .nil)) : v = .slice none 0 0 := by
  cases h with | c _ _ h => cases h; rfl
theorem RepV.lit {E : Env} {w : World} (v : Value) : RepV E w v (.c (.lit v)) := .c _ _ (.lit v)
theorem RepV.unk {E : Env} {w : World} (v : Value) : RepV E w v (.c .unk) := .c _ _ (.unk v)
theorem RepV.agg_inv {E : Env} {w : World} {v : Value} {ds : List V} (h : RepV E w v (.agg ds)) : ∃ vs : List Value, v = .agg vs.toArray ∧ RepL E w vs ds := by
  cases h with | agg vs _ hl h => exact ⟨vs, rfl, hl, h⟩

/-- The operation gives a value and leaves the world. -/
def Quiet (P : Program) (ρ : Operand → Value) (o : Oper) (E : Env) (w : World) (d : V) : Prop :=
  ∃ v, (execOp ρ o).run P w = .ok (.value v) w ∧ RepV E w v d

section
variable {P : Program} {ρ : Operand → Value} {E : Env} {w : World}

theorem quiet_move {o : Oper} {x : Operand} (ho : o.op = .move x) {d : V} (h : RepV E w (ρ x) d) : Quiet P ρ o E w d :=
  ⟨ρ x, by simp [execOp, ho], h⟩
theorem quiet_assign {o : Oper} {x : Operand} (ho : o.op = .assign x) {d : V} (h : RepV E w (ρ x) d) : Quiet P ρ o E w d :=
  ⟨ρ x, by simp [execOp, ho], h⟩

theorem run_binInt {op : BinOp} {k : IntKind} {a b : Int} {t : TypeId} {r : Res} (h : binInt op k a b = some r) (hp : ∀ p ∈ r.pre, p) :
    ∃ u, r.val = .c (.lit u) ∧ r.eff = [] ∧ r.kill = [] ∧ (binOp op t (.int k a) (.int k b)).run P w = .ok u w := by
  cases op <;> simp only [binInt, Option.some.injEq, reduceCtorEq] at h <;> subst h <;> refine ⟨_, rfl, rfl, rfl, ?_⟩ <;>
    first
      | (have hb : b ≠ 0 := hp _ (List.mem_singleton.2 rfl); simp [binOp, Op.intDiv, hb]; done)
      | (simp [binOp, Op.intArith, Op.intCmp, Op.intBits]; done)

theorem run_binShift {op : BinOp} {k k' : IntKind} {a b : Int} {t : TypeId} {r : Res} (h : binShift op k a b = some r) (hp : ∀ p ∈ r.pre, p) :
    ∃ u, r.val = .c (.lit u) ∧ r.eff = [] ∧ r.kill = [] ∧ (binOp op t (.int k a) (.int k' b)).run P w = .ok u w := by
  cases op <;> simp only [binShift, Option.some.injEq, reduceCtorEq] at h <;> subst h <;> refine ⟨_, rfl, rfl, rfl, ?_⟩ <;>
    (have hb : 0 ≤ b := hp _ (List.mem_singleton.2 rfl); have hb' : ¬ b < 0 := by omega
     simp [binOp, Op.shift, hb'])

theorem run_binStr {op : BinOp} {a b : ByteArray} {t : TypeId} {r : Res} (h : binStr op a b = some r) (hp : ∀ p ∈ r.pre, p) :
    ∃ u, r.val = .c (.lit u) ∧ r.eff = [] ∧ r.kill = [] ∧ (binOp op t (.string a) (.string b)).run P w = .ok u w := by
  cases op <;> simp only [binStr, Option.some.injEq, reduceCtorEq] at h <;> subst h <;> refine ⟨_, rfl, rfl, rfl, ?_⟩ <;>
    first
      | (have hb : a.size + b.size ≤ 9223372036854775807 := hp _ (List.mem_singleton.2 rfl)
         have hb' : ¬ (((a.size + b.size : Nat) : Int) > IntKind.i64.max) := by
           have : IntKind.i64.max = 9223372036854775807 := by decide
           rw [this]; omega
         simp only [binOp, Op.stringOp]; rw [if_neg hb']; simp; done)
      | (simp [binOp, Op.stringOp]; done)

theorem und_some {t : TypeId} (h : tyOk P t = true) : ∃ d, P.underlying t = some d := by
  unfold tyOk isAg sz at h
  cases hu : P.underlying t with
  | some d => exact ⟨d, rfl⟩
  | none => rw [hu] at h; simp at h

theorem run_isAgg {t : TypeId} (h : tyOk P t = true) : (isAgg t).run P w = .ok (isAg P t) w := by
  obtain ⟨d, hd⟩ := und_some h
  unfold isAgg isAg
  simp only [Sem.run_bind, run_underlying hd, Result.andThen_ok, hd]
  cases d <;> simp

theorem info_some {t : TypeId} {d : TypeDesc} (h : P.underlying t = some d) : ∃ i, P.info? t = some i := by
  cases hi : P.info? t with
  | some i => exact ⟨i, rfl⟩
  | none => simp [Program.underlying, hi] at h

theorem sz_eq {t : TypeId} {d : TypeDesc} {i : TypeInfo} (h : P.underlying t = some d) (hi : P.info? t = some i) : sz P t = i.size := by simp [sz, h, hi]

theorem run_sizeOf' {t : TypeId} {d : TypeDesc} (h : P.underlying t = some d) : (sizeOf t).run P w = .ok (sz P t) w := by
  obtain ⟨i, hi⟩ := info_some h
  simp [sizeOf, typeInfo, hi, sz_eq h hi]

theorem take_toList_extract (cs : Array Value) (a n : Nat) : (cs.extract a (a + n)).toList = (cs.toList.drop a).take n := by
  rw [Array.toList_extract, List.extract_eq_take_drop]; congr 1; omega

theorem RepL.get {vs : List Value} {ds : List V} (h : RepL E w vs ds) {i : Nat} {d : V} (hd : ds[i]? = some d) : ∃ v, vs[i]? = some v ∧ RepV E w v d := by
  have hl : i < vs.length := by rw [h.1]; exact (List.getElem?_eq_some_iff.1 hd).1
  exact ⟨vs[i], List.getElem?_eq_getElem hl, h.2 i _ _ (List.getElem?_eq_getElem hl) hd⟩

theorem RepL.take {vs : List Value} {ds : List V} (h : RepL E w vs ds) (a n : Nat) : RepL E w ((vs.drop a).take n) ((ds.drop a).take n) := by
  refine ⟨by simp [h.1], fun i v d hv hd => ?_⟩
  rw [List.getElem?_take] at hv hd
  split at hv
  · next hi =>
    rw [if_pos hi] at hd
    rw [List.getElem?_drop] at hv hd
    exact h.2 _ _ _ hv hd
  · cases hv

theorem run_part {t : TypeId} {cs : Array Value} {ds : List V} {off : Nat} (h : RepL E w cs.toList ds) (ht : tyOk P t = true) (hl : off + sz P t ≤ ds.length) :
    ∃ v, (part t cs off).run P w = .ok v w ∧ RepV E w v (takeV (isAg P t) ds off (sz P t)) := by
  obtain ⟨d, hd⟩ := und_some ht
  unfold part takeV
  simp only [Sem.run_bind, run_isAgg ht, Result.andThen_ok]
  cases hag : isAg P t with
  | true =>
    simp only [if_true, Sem.run_bind, run_sizeOf' hd, Result.andThen_ok, Sem.run_pure, cond_true]
    refine ⟨_, rfl, ?_⟩
    have := RepL.take h off (sz P t)
    rw [← take_toList_extract] at this
    exact .agg _ _ this.1 this.2
  | false =>
    have hs : 0 < sz P t := by simp [tyOk, hag] at ht; omega
    have hlt : off < ds.length := by omega
    obtain ⟨v, hv, hr⟩ := h.get (List.getElem?_eq_getElem hlt)
    have hv' : cs[off]? = some v := by rw [← Array.getElem?_toList]; exact hv
    simp only [Bool.false_eq_true, if_false, hv', Sem.run_pure, cond_false]
    refine ⟨_, rfl, ?_⟩
    rw [List.drop_eq_getElem_cons hlt]
    exact hr

theorem run_eqV : ∀ (d m : Nat) (t : TypeId) (x y : V) (b : Bool) (vx vy : Value), eqV P d t x y = some b → RepV E w vx x → RepV E w vy y →
    (Op.equalIn (d + m) t vx vy).run P w = .ok b w := by
  intro d
  induction d with
  | zero => intro m t x y b vx vy h; simp [eqV] at h
  | succ d ih =>
    intro m t x y b vx vy h hx hy
    rw [show d + 1 + m = (d + m) + 1 by omega]
    unfold eqV at h
    split at h
    · next hu =>
      cases hx.lit_inv; cases hy.lit_inv
      split at h
      · next hk => subst hk; cases h; exact run_equalIn_int w _ t _ _ _ _ hu
      · cases h
    · next hu => cases hx.lit_inv; cases hy.lit_inv; cases h; exact run_equalIn_bool' w _ t _ _ hu
    · next hu => cases hx.lit_inv; cases hy.lit_inv; cases h; exact run_equalIn_string w _ t _ _ hu
    · next fs xs ys hu =>
      obtain ⟨us, rfl, hus⟩ := hx.agg_inv
      obtain ⟨zs, rfl, hzs⟩ := hy.agg_inv
      cases hst : P.stoodInHeld t with
      | true => simp [hst] at h
      | false =>
        simp only [hst, cond_false] at h
        have hf : P.fieldsOf t = fs := by simp [Program.fieldsOf, hu]
        rw [run_equalIn_struct w _ t _ _ (by rw [hf]; exact hu) hst, hf]
        generalize fs.toList = L at h
        clear hf hu
        induction L generalizing b with
        | nil => simp at h; subst h; simp [Op.eqFields]
        | cons f L ihL =>
          rw [List.foldr_cons] at h
          cases hn : f.name == "_" with
          | true => simp [hn] at h
          | false =>
            simp only [hn, cond_false] at h
            cases hc : (Nat.ble (f.offset + sz P f.type) xs.length && Nat.ble (f.offset + sz P f.type) ys.length && tyOk P f.type) with
            | false => simp [hc] at h
            | true =>
              simp only [hc, cond_true] at h
              simp only [Bool.and_eq_true, Nat.ble_eq] at hc
              split at h
              · next a c ha hr =>
                cases h
                obtain ⟨p, hp, rp⟩ := run_part (cs := us.toArray) (by simpa using hus) hc.2 hc.1.1
                obtain ⟨q, hq, rq⟩ := run_part (cs := zs.toArray) (by simpa using hzs) hc.2 hc.1.2
                have hne : f.name ≠ "_" := by simpa using hn
                have := ih m f.type _ _ _ p q ha rp rq
                unfold Op.eqFields
                rw [if_pos hne]
                simp only [Sem.run_bind, hp, hq, this, Result.andThen_ok]
                cases a
                · simp
                · simp [ihL _ hr]
              · cases h
    · cases h
end
end Go.Ax
