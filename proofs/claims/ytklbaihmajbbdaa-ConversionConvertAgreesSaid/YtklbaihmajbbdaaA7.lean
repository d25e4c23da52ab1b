import Derived.Test.YtklbaihmajbbdaaA5
import Derived.SizedLaws
set_option linter.all false
/- What a row asks of a call, where the size of its slices is needed. -/
namespace Go.Ax
open Go.RowKit Go.ChangeShapes Go.WideShapes Go.ChangeAt

/-- The slices among the arguments fit the machine. -/
def Sizes (P : Program) (ts : List TypeId) (us : List V) : Prop := ∀ (j : Nat) (t e : TypeId) (k n : Nat) (el : Nat → List D), ts[j]? = some t → P.underlying t = some (.slice e) → us[j]? = some (.c (.sl k n el)) → n * P.bytesOf e ≤ reachBytes

section
variable {H : Type} {enc : TypeId × Value → H} {P : Program} {w : World}

theorem trod_slice_len {base : Nat} {spare : Nat → Bool} {held : Bool} {fuel : Nat} {t e : TypeId} {a : Option Addr} {n c : Nat} {x : DataW H × List MemPlace} (hu : P.underlying t = some (.slice e)) (h : DataW.trod enc P w base spare held fuel t [.slice a n c] = some x) :
    n = 0 ∨ ∃ elems sp, x.1 = .slice elems sp ∧ elems.length = n := by
  cases fuel with
  | zero => simp [DataW.trod] at h
  | succ fuel =>
    unfold DataW.trod at h
    rw [hu] at h
    simp only at h
    cases a with
    | none =>
      by_cases hn : n = 0
      · exact .inl hn
      · exfalso
        split at h <;> simp_all
    | some a =>
      right
      have h : (if base ≤ a.block ∧ n ≤ c ∧ c ≤ maxLen then _ else none) = some x := h
      by_cases hc : base ≤ a.block ∧ n ≤ c ∧ c ≤ maxLen
      · rw [if_pos hc] at h
        obtain ⟨elems, hm, h⟩ := Option.bind_eq_some_iff.1 h
        have hl := (mapM_get hm).1
        rw [List.length_range] at hl
        obtain ⟨rest, _, rfl⟩ := Option.map_eq_some_iff.1 h
        exact ⟨_, _, rfl, by rw [List.length_map]; exact hl⟩
      · rw [if_neg hc] at h
        cases h

theorem sizes_of {ok : Nat → Prop} {base : Nat} {spare : Nat → Bool} {held : Bool} : ∀ (ts : List TypeId) (vs : List Value) (xs : List (DataW H)) (ps : List MemPlace) (us : List V), DataW.TrodAll enc P w base spare held ts vs xs ps → RepL (env0 ok) w vs us →
    ∀ (j : Nat) (t e : TypeId) (k n : Nat) (el : Nat → List D), ts[j]? = some t → P.underlying t = some (.slice e) → us[j]? = some (.c (.sl k n el)) → n = 0 ∨ ∃ elems sp, xs[j]? = some (.slice elems sp) ∧ elems.length = n
  | [], vs, xs, ps, us, h, hr, j, t, e, k, n, el, h1, _, _ => by simp at h1
  | t0 :: ts, vs, xs, ps, us, h, hr, j, t, e, k, n, el, h1, h2, h3 => by
    obtain ⟨v, vs1, x, xs1, p, q, rfl, rfl, rfl, g1, g2⟩ := trodAll_cons h
    cases us with
    | nil => simp at h3
    | cons u us =>
      cases j with
      | zero =>
        simp only [List.getElem?_cons_zero, Option.some.injEq] at h1 h3
        subst h1 h3
        have hv := hr.2 0 v _ rfl rfl
        cases hv with
        | c _ _ hv =>
          cases hv with
          | sl a _ c _ _ uu hc hm ha ho hl hu =>
            obtain ⟨fuel, hf⟩ := g1
            rcases trod_slice_len h2 hf with e0 | ⟨elems, sp, ex, el'⟩
            · exact .inl e0
            · exact .inr ⟨elems, sp, by rw [List.getElem?_cons_zero]; exact congrArg some ex, el'⟩
      | succ j =>
        simp only [List.getElem?_cons_succ] at h1 h3 ⊢
        exact sizes_of ts vs1 xs1 q us g2 ⟨by have := hr.1; simpa using this, fun i v d hv hd => hr.2 (i + 1) v d (by simpa using hv) (by simpa using hd)⟩ j t e k n el h1 h2 h3

/-- The contract of a law gives what its row asks of a call; its slices fit the machine. -/
theorem law_calls_sized {f : FuncId} {fn : Func} {con : Con} (hm : Meets P f con) {s : ChangeSpec} {apart fresh handsOn again : Bool} (hbody : ∃ c, fn.body = some c) (hfn : P.funcs[f]? = some fn)
    (hname : (fn.name == "runtime.NumGoroutine") = false) (hl : laidOutB P = true) (d : Nat)
    (hpl : fn.params.toList.all (plainB P d) = true) (hrd : fn.params.toList.all (fun t => P.readableRec t && decide (t < P.types.size)) = true) (hvr : varsKnown P s.vars = true)
    {tb : TypeId} (hres : fn.resultTypes = #[tb]) (hbool : P.underlying tb = some .bool)
    (hspec : ∀ (ds gs : List (DataW H)), ds.length = fn.params.toList.length → gs.length = s.vars.length → (s.fn H (ds ++ gs)).results = [.lit (.bool true)] ∧ (s.fn H (ds ++ gs)).args = ds ∧ (s.fn H (ds ++ gs)).vars = gs)
    (hcon : ∀ us, ShpVs P d fn.params.toList us → Sizes P fn.params.toList us → ∃ p, con us = some (p, .data (bl true)) ∧ ∀ q ∈ p, q)
    (W : World) (base : Nat) (args : Array Value) (ds gs : List (DataW H)) (before : List MemPlace)
    (hval : ∀ (j : Nat) t v, fn.params[j]? = some t → args[j]? = some v → Value.okWide P W .any base t v)
    (hW : DataW.Whole enc P fn.params.toList s.vars apart W args.toList ds gs before)
    (hsz : (DataW.weightsEach P (fn.params.toList ++ s.plain.varTypes P) (ds ++ gs)).all (· ≤ reachBytes) = true) :
    Calls P f args W fun e W' => ∃ v, e = .returned v ∧ s.post enc P fn apart fresh handsOn again W args v W' := by
  have hlen : ∀ {ts : List TypeId} {vs : List Value} {xs : List (DataW H)} {ps : List MemPlace}, DataW.TrodAll enc P W 0 (fun _ => true) true ts vs xs ps → xs.length = ts.length := by
    intro ts
    induction ts with
    | nil => intro vs xs ps h; obtain ⟨rfl, rfl, rfl⟩ := trodAll_nil h; rfl
    | cons t ts ih =>
      intro vs xs ps h
      obtain ⟨v, vs1, x, xs1, p, q, rfl, rfl, rfl, h1, h2⟩ := trodAll_cons h
      simp [ih h2]
  have hW' := hW
  obtain ⟨p, q, hA, hV, rfl, hfz, hnd⟩ := hW
  obtain ⟨us, hrep, hshp⟩ := args_reads (enc := enc) (ok := fun b => b < W.heap.size) (fun _ h => h) (d := d) fn.params.toList args.toList ds p hpl (fun j t v ht hv => hval j t v (by simpa using ht) (by simpa using hv)) hA
  have hS : Sizes P fn.params.toList us := by
    intro j t e k n el h1 h2 h3
    rcases sizes_of _ _ _ _ _ hA hrep j t e k n el h1 h2 h3 with rfl | ⟨elems, sp, h4, rfl⟩
    · rw [Nat.zero_mul]; exact Nat.zero_le _
    · have hj : j < fn.params.toList.length := (List.getElem?_eq_some_iff.1 h1).1
      have hj2 : j < ds.length := (List.getElem?_eq_some_iff.1 h4).1
      have := sized_slice hsz (j := j) (t := t) (e := e) (by rw [List.getElem?_append_left hj]; exact h1) (by rw [List.getElem?_append_left hj2]; exact h4) h2
      have h5 : elems.length * P.bytesOf e ≤ (elems.length + sp.length) * P.bytesOf e := Nat.mul_le_mul_right _ (by omega)
      omega
  obtain ⟨pre, hc, hp⟩ := hcon us hshp hS
  have hdo := hm (fun b => b < W.heap.size) W args.toList us pre _ hrep (fun _ h => h) hc hp
  have hent : (callFunc f args).run P W = .ok (.enter f args) W := by
    obtain ⟨c, hb⟩ := hbody
    exact enters_of hfn hb hname args W
  have hlenV : ∀ {ns : List String} {xs : List (DataW H)} {ps : List MemPlace}, DataW.TrodVars enc P W (fun _ => true) ns xs ps → xs.length = ns.length := by
    intro ns
    induction ns with
    | nil => intro xs ps h; cases xs with | nil => rfl | cons x xs => exact h.elim
    | cons n ns ih =>
      intro xs ps h
      cases xs with
      | nil => exact h.elim
      | cons x xs =>
        obtain ⟨g, t, cs, fuel, p, q, h1, h2, h3, h4, hs, e⟩ := h
        simp [ih hs]
  obtain ⟨s1, s2, s3⟩ := hspec ds gs (hlen hA) (hlenV hV)
  rcases hdo with ⟨_, hcalls⟩ | ⟨v, w', hrun, _⟩
  · refine (show Calls P f args W _ by simpa using hcalls).mono ?_
    rintro e W' ⟨v, rfl, hb, hout⟩
    refine ⟨v, rfl, ?_⟩
    have hv : v = .bool true := by
      have : RepV _ W' v (bl true) := hout
      exact this.lit_inv
    subst hv
    have hlt : ∀ x ∈ p ++ q, x.block < W.heap.size := fun x hx => hW'.lt x hx
    refine post_of_below (pa := p) (pv := q) hW' (fun b sp hd => ?_) (fun sp hsp => ?_) (fun sp hsp => ?_) rfl hb ?_
    · rw [s1, hres]
      exact trodAll_mk1 (shut_bool hbool true)
    · rw [s2]
      exact Below.trodAll hl hb hrd hA (fun x hx => hlt x (by simp [hx])) (fun x hx => hsp x (by simp [hx]))
    · rw [s3]
      exact Below.trodVars' hl hb hvr hV (fun x hx => hsp x (by simp [hx]))
    · exact ok_one hres rfl (okWide_bool_mk hbool true)
  · have : (callFunc f args.toList.toArray).run P W = .ok (.enter f args) W := by simpa using hent
    rw [this] at hrun
    cases hrun
end
end Go.Ax

namespace Go.Ax
theorem size_le {n b B : Nat} (h : n * b ≤ reachBytes) (hb : 140737488351232 < (B + 1) * b) : n ≤ B := by
  rcases Nat.lt_or_ge B n with h2 | h2
  · have h3 : (B + 1) * b ≤ n * b := Nat.mul_le_mul_right _ h2
    have h4 : reachBytes = 140737488351232 := rfl
    omega
  · exact h2
end Go.Ax
