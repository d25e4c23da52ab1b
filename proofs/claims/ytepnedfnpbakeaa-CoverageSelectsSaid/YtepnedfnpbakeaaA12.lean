import Derived.Test.YtepnedfnpbakeaaA11
set_option linter.all false
/- Contracts over a box that holds an own row, or nil. -/
namespace Go.Ax
open Go.RowKit

section
variable {P : Program} {σ : St} {H : Heap} {nid : Nat} {nr : Bool}
theorem ren_ptrc (o k i n : Nat) (r : List Nat) : V.ren (o :: r) (.ptr o k i n) = .ptr 0 k i n := by
  rw [V.ren]
  simp [idxOf]
theorem box_ne {qb qr k n t : Nat} {cs : List V} {el : Nat → List D} (hb : Heap.get σ.hp qb = some (.box cs)) (hr : Heap.get σ.hp qr = some (.row t k n el)) : qb ≠ qr := fun e => by
  subst e; rw [hb] at hr; cases hr

theorem left_two {ob oc qb qr k n t : Nat} {os kl : List Nat} {cs0 : List V} {el el' : Nat → List D} {p : List Prop} {v rv : V} (hne : ob ≠ oc) (h0 : Heap.get H ob = some (.box cs0)) (hl : cs0.length = 1)
    (hb : Heap.get σ.hp qb = some (.box [.row qr k 0 n])) (hr : Heap.get σ.hp qr = some (.row t k n el)) (hgh : getT σ.tm 1000000 = some ⟨[], .ptr qb 1 0 0⟩) (he : ∀ i, i < n → el i = el' i)
    (hv : v.refs = []) (hvle : VLe v rv) (hs : nr = true ∨ (v.sclr = true ∧ ∀ i, i < n → ∀ d ∈ el i, d.scal = true)) (hos : os = [ob, oc] ∧ kl = [oc] ∨ os = [ob] ∧ kl = [] ∧ oc = nid) :
    Left os nid H nr { pre := p, val := rv, eff := [(ob, some (.box [.row oc k 0 n])), (oc, some (.row t k n el'))], kill := kl } [(qb, ob), (qr, oc)] σ v := by
  have hq : qb ≠ qr := box_ne hb hr
  have hk1 : lookO [(qb, ob), (qr, oc)] qr = oc := by
    rw [lookO, beq_ne hq, cond_false, lookO, beq_self, cond_true]
  refine ⟨fun a b c h1 h2 => ?_, fun a b c h1 h2 => ?_, fun a b h => ?_, by rw [mp_norefs _ v hv]; exact hvle, fun a h => by rw [hv] at h; simp at h, by rw [rrefs_nil hv]; rfl, hs.imp id (·.1), fun a b h => ?_, fun a b h => ?_, fun a h => ?_, fun a h => ?_, fun i a h => ?_⟩
  · simp at h1 h2
    rcases h1 with ⟨rfl, rfl⟩ | ⟨rfl, rfl⟩ <;> rcases h2 with ⟨rfl, h2⟩ | ⟨rfl, h2⟩ <;> first | rfl | exact absurd h2 hne | exact absurd h2.symm hne
  · simp at h1 h2
    rcases h1 with ⟨rfl, rfl⟩ | ⟨rfl, rfl⟩ <;> rcases h2 with ⟨h2, rfl⟩ | ⟨h2, rfl⟩ <;> first | rfl | exact absurd h2 hq | exact absurd h2.symm hq
  · simp at h
    rcases h with ⟨rfl, rfl⟩ | ⟨rfl, rfl⟩ <;> rcases hos with ⟨rfl, _⟩ | ⟨rfl, _, rfl⟩ <;> simp
  · simp at h
    rcases h with ⟨rfl, rfl⟩ | ⟨rfl, rfl⟩
    · exact ⟨_, hb⟩
    · exact ⟨_, hr⟩
  · rw [Heap.get_cons] at h
    split at h
    · next e =>
      subst e; cases h
      refine ⟨qb, _, by simp, hb, ?_, fun p hp => ?_, ?_, .inr rfl⟩
      · show VLes _ _
        rw [V.mps, V.mps, V.mp, hk1]
        exact VLes.rfl' _
      · simp [obRefs, V.refss, V.refs] at hp; subst hp; simp
      · simp [obRrefs, V.rrefss, V.rrefs, hr, isRow]
    · rw [Heap.get_cons] at h
      split at h
      · next e =>
        subst e; cases h
        exact ⟨qr, _, by simp, hr, ⟨rfl, rfl, rfl, fun i hi => .of_eq (he i hi)⟩, fun p hp => absurd hp (by simp [obRefs]), rfl, hs.imp id (·.2)⟩
      · simp [Heap.get] at h
  · rcases hos with ⟨rfl, _⟩ | ⟨rfl, _, _⟩ <;> simp [keysOf] at h ⊢ <;> simp [h]
  · rcases hos with ⟨rfl, rfl⟩ | ⟨rfl, rfl, _⟩ <;> simp at h ⊢
    exact .inr h
  · have keep0 : a = ob → i = 0 → a ∈ kl ∨ ∃ q ob1 ob', (q, a) ∈ [(qb, ob), (qr, oc)] ∧ Heap.get H a = some ob1 ∧ Heap.get σ.hp q = some ob' ∧ sameLen ob1 ob' ∧ getT σ.tm (1000000 + i) = some ⟨[], ghostV q ob1⟩ := by
      rintro rfl rfl
      exact .inr ⟨qb, _, _, by simp, h0, hb, trivial, by rw [ghostV, hl]; exact hgh⟩
    rcases hos with ⟨rfl, rfl⟩ | ⟨rfl, rfl, _⟩
    · match i with
      | 0 => exact keep0 (by simpa using h.symm) rfl
      | 1 => left; simp at h; simp [h]
      | _ + 2 => simp at h
    · match i with
      | 0 => exact keep0 (by simpa using h.symm) rfl
      | _ + 1 => simp at h

/-- A function that is handed a box that holds an own row, or nil. -/
theorem meets_boxr {f : FuncId} {fn : Func} {c : Code} (hf : P.funcs[f]? = some fn) (hb : fn.body = some c) (hn : (fn.name == "runtime.NumGoroutine") = false) {mc : Heap → Nat → List V → Option Res} {rs : List ResultVar} (hr : fn.results.toList = rs) {nt : Nat} (ht : fn.ntmps = nt)
    (h : ∀ H nid args r, mc H nid args = some r → (∀ p ∈ r.pre, p) →
      (∃ (nr : Bool) (fl : List Bool) (ob oc t k n : Nat) (el : Nat → List D) (vs' : List V), ob ≠ oc ∧ Heap.get H ob = some (.box [.row oc k 0 n]) ∧ Heap.get H oc = some (.row t k n el) ∧ handOk [ob, oc] H nr fl args = true ∧ VLes (renF [ob, oc] fl (viewF H fl args)) vs' ∧ (Nat.ble vs'.length nt && Nat.ble nt 1000000) = true ∧
        EvL P nt (items c) (retM P rs fun σ v => ∃ m, Left [ob, oc] nid H nr r m σ v) { tm := initT vs' 0 ++ [(1000000, ⟨[], .ptr 0 1 0 0⟩), (1000001, ⟨[], .row 1 k 0 n⟩)], hp := [(0, some (.box [.row 1 k 0 n])), (1, some (.row t k n el))], nx := 2 }) ∨
      (∃ (nr : Bool) (fl : List Bool) (ob : Nat) (vs' : List V), Heap.get H ob = some (.box [.c .nil]) ∧ handOk [ob] H nr fl args = true ∧ VLes (renF [ob] fl (viewF H fl args)) vs' ∧ (Nat.ble vs'.length nt && Nat.ble nt 1000000) = true ∧
        EvL P nt (items c) (retM P rs fun σ v => ∃ m, Left [ob] nid H nr r m σ v) { tm := initT vs' 0 ++ [(1000000, ⟨[], .ptr 0 1 0 0⟩)], hp := [(0, some (.box [.c .nil]))], nx := 1 })) : MeetsC P f (.mut mc) := by
  refine meets_mut hf hb hn hr ht fun H nid args r h1 h2 => ?_
  rcases h H nid args r h1 h2 with ⟨nr, fl, ob, oc, t, k, n, el, vs', hne, g1, g1', g2, g3, g4, g5⟩ | ⟨nr, fl, ob, vs', g1, g2, g3, g4, g5⟩
  · have hq : Nat.beq ob oc = false := beq_ne hne
    refine ⟨nr, [ob, oc], fl, vs', by simp [nodupB, memB, beq_ne (fun e => hne e.symm : oc ≠ ob)], by simp [obsOk, g1, g1', obOk, V.refss, V.refs, memB], g2, by rw [handL_eq]; exact g3, g4, ?_⟩
    have e : renH H [ob, oc] 0 [ob, oc] = [(0, some (.box [.row 1 k 0 n])), (1, some (.row t k n el))] := by
      simp [renH, g1, g1', Ob.ren, V.rens, V.ren, idxOf, hq]
    rw [e]
    exact g5
  · refine ⟨nr, [ob], fl, vs', rfl, by simp [obsOk, g1, obOk, V.refss, V.refs], g2, by rw [handL_eq]; exact g3, g4, ?_⟩
    rw [renH1 g1]
    exact g5
end
end Go.Ax
