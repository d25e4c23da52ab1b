import Derived.Test.YtchffdmfiffifaaAx12
/- Regions that run in the order of the text, parted at their guards. -/
namespace Go.Ax
open Go.RowKit

section
variable {P : Program} {N : Nat} {B : Base} {σ σ' : St} {E : Env} {a : Act} {w : World} {C : FuncId → Option CC}

theorem allP_split : ∀ {ps : List Prop} {Q : Prop}, allP ps Q → (∀ p ∈ ps, p) ∧ Q
  | [], _, h => ⟨fun p hp => by simp at hp, h⟩
  | p :: ps, Q, h => by
    obtain ⟨h1, h2⟩ := allP_split h.2
    refine ⟨fun q hq => ?_, h2⟩
    rcases List.mem_cons.1 hq with rfl | hq
    · exact h.1
    · exact h1 q hq
theorem allP_mono {ps : List Prop} {Q Q' : Prop} (hq : Q → Q') : allP ps Q → allP ps Q' := by
  induction ps with
  | nil => exact hq
  | cons p ps ih => exact fun h => ⟨h.1, ih h.2⟩

/-- A slot's value, written anew. -/
theorem sim_setT (hs : Sim N B σ E a w) {t : Nat} {s : Slot} (hg : getT σ.tm t = some s) : Sim N B { σ with tm := putT σ.tm t s } E a w := by
  have hx : ∀ x, getT (putT σ.tm t s) x = getT σ.tm x := by
    intro x
    rw [getT_putT]
    split
    · next e => subst e; exact hg.symm
    · rfl
  refine ⟨hs.size, hs.small, hs.defers, hs.live, hs.heap, fun q y hq => ?_, hs.base, hs.own, hs.okold⟩
  simp only at hq ⊢
  rw [hx] at hq
  exact slotAt_move (tm := σ.tm) (hs.slots q y hq) fun z _ _ => by rw [hx]

theorem run_wp (hC : ∀ f con, C f = some con → MeetsC P f con) (hs : Sim N B σ E a w) {ops : Array Oper} {i : Nat} {o : Oper} (hi : ops[i]? = some o) {ch : Chain} (hch : guardCh ops.toList σ.tm o.guard = some ch)
    (hb : ch.all (fun x => boolSlot σ.tm x.1) = true) (hh : holds σ.tm ch = true) {k : St → Prop} (h : stepS P C N ops.toList σ o k) {K : Act → World → Prop} {Q : Exit → Act → World → Prop}
    (hK : ∀ σ' E' a' w', k σ' → Sim N B σ' E' a' w' → K a' w') : wpOp P ops Q i K a w := by
  unfold stepS at h
  split at h
  · next rc hr =>
    obtain ⟨hp, hk⟩ := allP_split h
    have hr' : recOf P C N (#[{ o with guard := none }] : Array Oper).toList σ σ.nx { o with guard := none } = some rc := hr
    have hch0 : rc.ch = [] := by
      obtain ⟨_, h1, _⟩ := recOf_some hr
      have : guardCh ops.toList σ.tm none = some rc.ch := h1
      simpa [guardCh] using this.symm
    have := step_wp (Q := Q) (M := σ.nx + 1) hC hs (ops := #[{ o with guard := none }]) (i := 0) rfl (hs.live _ (Nat.le_refl _)) (Nat.le_succ _) (Nat.lt_succ_self _) hr' (by rw [hch0]; exact hp)
      (K := K) fun E' a' w' hs' _ => hK _ E' a' w' hk hs'
    unfold wpOp at this ⊢
    rw [hi]
    simp only
    rw [guard_sound hs hch hb, hh, if_pos rfl]
    have e : (#[{ o with guard := none }] : Array Oper)[0]? = some { o with guard := none } := rfl
    rw [e] at this
    simp only [Region.wanted, if_true] at this
    exact this
  · exact h.elim

theorem skip_wp (hs : Sim N B σ E a w) {ops : Array Oper} {i : Nat} {o : Oper} (hi : ops[i]? = some o) {ch : Chain} (hch : guardCh ops.toList σ.tm o.guard = some ch)
    (hb : ch.all (fun x => boolSlot σ.tm x.1) = true) (hh : holds σ.tm ch = false) {k : St → Prop} (h : skipS N σ o ch k) {K : Act → World → Prop} {Q : Exit → Act → World → Prop}
    (hK : ∀ σ' E' a' w', k σ' → Sim N B σ' E' a' w' → K a' w') : wpOp P ops Q i K a w := by
  unfold skipS at h
  cases hc : (dstOk N o.dst && notIn o.dst ch) with
  | false => rw [hc] at h; exact h.elim
  | true =>
    rw [hc, cond_true] at h
    rw [Bool.and_eq_true] at hc
    unfold wpOp
    rw [hi]
    simp only
    rw [guard_sound hs hch hb, hh, if_neg (by simp)]
    exact hK _ _ _ _ h (sim_skip hs (rc := skipRec o ch σ.nx) (hs.live _ (Nat.le_refl _)) (Nat.le_succ _) (Nat.lt_succ_self _) hh rfl rfl hc.2 hc.1)

theorem goS_wp (hC : ∀ f con, C f = some con → MeetsC P f con) {ops : Array Oper} {Q : Exit → Act → World → Prop} : ∀ (rest : List Oper) (i : Nat) (σ : St) (K : St → Prop) (E : Env) (a : Act) (w : World),
    ops.toList.drop i = rest → goS P C N ops.toList rest σ K → Sim N B σ E a w → (∀ σ' E' a' w', K σ' → Sim N B σ' E' a' w' → Q .normal a' w') → wpOps P ops Q (List.range' i rest.length) a w
  | [], i, σ, K, E, a, w, hd, hg, hs, hQ => by
    rw [goS] at hg
    exact hQ _ _ _ _ hg (sim_drop hs)
  | o :: rest, i, σ, K, E, a, w, hd, hg, hs, hQ => by
    have hi : ops[i]? = some o := by
      have := congrArg (·[0]?) hd
      simpa using this
    have hd' : ops.toList.drop (i + 1) = rest := by
      rw [← List.drop_drop, hd]; rfl
    have next : ∀ σ' E' a' w', goS P C N ops.toList rest σ' K → Sim N B σ' E' a' w' → wpOps P ops Q (List.range' (i + 1) rest.length) a' w' :=
      fun σ' E' a' w' h hs' => goS_wp hC rest (i + 1) σ' K E' a' w' hd' h hs' hQ
    rw [List.length_cons, List.range'_succ, wpOps_cons]
    rw [goS] at hg
    split at hg
    · next hgn => exact run_wp hC hs hi (ch := []) (by rw [hgn]; rfl) rfl rfl hg next
    · next g hgn =>
      split at hg
      · next t wt ch hch =>
        cases hb : ((t, wt) :: ch).all (fun x => guardOk σ.tm ((t, wt) :: ch) x.1) with
        | false => rw [hb] at hg; exact hg.elim
        | true =>
          rw [hb, cond_true] at hg
          have hbs := guardOk_bools hb
          rw [← hgn] at hch
          split at hg
          · next c0 b hgt =>
            cases hh : holds σ.tm ch with
            | false =>
              rw [hh, cond_false] at hg
              exact skip_wp hs hi hch hbs (by rw [holds_cons, hh, Bool.and_false]) hg next
            | true =>
              rw [hh, cond_true] at hg
              have hhold : holds σ.tm ((t, wt) :: ch) = (b == wt) := by rw [holds_cons, hh, Bool.and_true, hgt]; rfl
              -- the state with the guard's value written out
              have hsame : ∀ b', b = b' → (∀ x, getT (putT σ.tm t ⟨c0, bl b'⟩) x = getT σ.tm x) := by
                intro b' e x
                subst e
                rw [getT_putT]
                split
                · next e => subst e; exact hgt.symm
                · rfl
              have hgc : ∀ b', b = b' → guardCh ops.toList (putT σ.tm t ⟨c0, bl b'⟩) o.guard = some ((t, wt) :: ch) := by
                intro b' e
                rw [← hch]
                unfold guardCh
                split
                · rfl
                · split
                  · split
                    · rw [hsame b' e]
                    · rfl
                  · rfl
              have hbc : ∀ b', b = b' → ((t, wt) :: ch).all (fun x => boolSlot (putT σ.tm t ⟨c0, bl b'⟩) x.1) = true := by
                intro b' e
                rw [← hbs]
                congr 1
                funext x
                unfold boolSlot
                rw [hsame b' e]
              have hho : ∀ b', b = b' → holds (putT σ.tm t ⟨c0, bl b'⟩) ((t, wt) :: ch) = (b' == wt) := by
                intro b' e
                rw [holds_congr (tm := σ.tm) _ fun x _ => by rw [hsame b' e], hhold, e]
              cases hbv : b with
              | true =>
                rw [hbv, cond_true] at hg
                have hs' := sim_setT hs hgt
                rw [hbv] at hs'
                cases wt with
                | true => rw [cond_true] at hg; exact run_wp hC hs' hi (hgc true hbv) (hbc true hbv) (hho true hbv) hg next
                | false => rw [cond_false] at hg; exact skip_wp hs' hi (hgc true hbv) (hbc true hbv) (hho true hbv) hg next
              | false =>
                rw [hbv, cond_false] at hg
                have hs' := sim_setT hs hgt
                rw [hbv] at hs'
                cases wt with
                | true => rw [cond_true] at hg; exact skip_wp hs' hi (hgc false hbv) (hbc false hbv) (hho false hbv) hg next
                | false => rw [cond_false] at hg; exact run_wp hC hs' hi (hgc false hbv) (hbc false hbv) (hho false hbv) hg next
          · exact hg.elim
      · exact hg.elim

theorem regionS_wp (hC : ∀ f con, C f = some con → MeetsC P f con) {id : Nat} {ops : Array Oper} {Q : Exit → Act → World → Prop} {K : St → Prop} (hg : goS P C N ops.toList ops.toList σ K)
    (hs : Sim N B σ E a w) (hQ : ∀ σ' E' a' w', K σ' → Sim N B σ' E' a' w' → Q .normal a' w') : (Code.region id ops false).wp P Q a w := by
  refine wp_region ?_
  have := goS_wp hC (Q := Q) ops.toList 0 σ K E a w rfl hg hs hQ
  rw [List.range_eq_range']
  simpa using this

theorem stepS_mono {all : List Oper} {o : Oper} {k k' : St → Prop} (hk : ∀ σ, k σ → k' σ) (h : stepS P C N all σ o k) : stepS P C N all σ o k' := by
  unfold stepS at h ⊢
  split at h
  · next rc hr => exact allP_mono (hk _) h
  · exact h.elim
theorem skipS_mono {o : Oper} {ch : Chain} {k k' : St → Prop} (hk : ∀ σ, k σ → k' σ) (h : skipS N σ o ch k) : skipS N σ o ch k' := by
  unfold skipS at h ⊢
  cases hc : (dstOk N o.dst && notIn o.dst ch) with
  | false => rw [hc] at h; exact h.elim
  | true => rw [hc, cond_true] at h; rw [cond_true]; exact hk _ h
theorem goS_mono {all : List Oper} {K K' : St → Prop} (hk : ∀ σ, K σ → K' σ) : ∀ (rest : List Oper) (σ : St), goS P C N all rest σ K → goS P C N all rest σ K'
  | [], σ, h => by rw [goS] at h ⊢; exact hk _ h
  | o :: r, σ, h => by
    have ih : ∀ σ, goS P C N all r σ K → goS P C N all r σ K' := goS_mono hk r
    rw [goS] at h ⊢
    split
    · next hg => rw [hg] at h; exact stepS_mono ih h
    · next g hg =>
      rw [hg] at h
      simp only at h
      split
      · next t w ch hch =>
        rw [hch] at h
        simp only at h
        cases hb : ((t, w) :: ch).all (fun x => guardOk σ.tm ((t, w) :: ch) x.1) with
        | false => rw [hb] at h; exact h.elim
        | true =>
          rw [hb, cond_true] at h
          rw [cond_true]
          split
          · next c0 b hgt =>
            rw [hgt] at h
            simp only at h
            cases hh : holds σ.tm ch with
            | false => rw [hh, cond_false] at h; rw [cond_false]; exact skipS_mono ih h
            | true =>
              rw [hh, cond_true] at h
              rw [cond_true]
              cases b with
              | true =>
                cases w with
                | true => exact stepS_mono ih h
                | false => exact skipS_mono ih h
              | false =>
                cases w with
                | true => exact skipS_mono ih h
                | false => exact stepS_mono ih h
          · next hgt =>
            split at h
            · next c0 b hgt' => exact (hgt c0 b hgt').elim
            · exact h.elim
      · next hch =>
        split at h
        · next t w ch hch' => exact (hch t w ch hch').elim
        · exact h.elim
end
end Go.Ax
