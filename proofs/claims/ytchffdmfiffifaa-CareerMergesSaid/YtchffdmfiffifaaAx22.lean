import Derived.Test.YtchffdmfiffifaaAx21
/- From a contract that always says 'true' to a row. -/
namespace Go.Ax
open Go.RowKit Go.ChangeShapes Go.WideShapes Go.ChangeAt Go.WideElems

/-- The types of named variables are known. -/
def varsKnown (P : Program) (ns : List String) : Bool := ns.all fun n => match (P.globalNamed n).bind (P.globals[·]?) with | some gl => P.readableRec gl.type && decide (gl.type < P.types.size) | none => true

section
variable {H : Type} {enc : TypeId × Value → H}

theorem Below.trodAll {P : Program} (hl : laidOutB P = true) {W W' : World} (hb : Below W.heap.size W W') {sp : Nat → Bool} : ∀ {ts : List TypeId} {vs : List Value} {xs : List (DataW H)} {ps : List MemPlace},
    ts.all (fun t => P.readableRec t && decide (t < P.types.size)) = true → DataW.TrodAll enc P W 0 (fun _ => true) true ts vs xs ps → (∀ p ∈ ps, p.block < W.heap.size) → (∀ p ∈ ps, sp p.block = true) → DataW.TrodAll enc P W' 0 sp true ts vs xs ps
  | [], vs, xs, ps, _, h, _, _ => by
    obtain ⟨rfl, rfl, rfl⟩ := trodAll_nil h
    trivial
  | t :: ts, vs, xs, ps, hr, h, hlt, hsp => by
    obtain ⟨v, vs1, x, xs1, p, q, rfl, rfl, rfl, h1, h2⟩ := trodAll_cons h
    simp only [List.all_cons, Bool.and_eq_true, decide_eq_true_eq] at hr
    have a1 := WideElems.Trod_stays hl hr.1.1 hr.1.2 h1 (fun x hx => hb.same (hlt x (by simp [hx]))) (fun x hx => hsp x (by simp [hx]))
    have a2 := Below.trodAll (sp := sp) hl hb hr.2 h2 (fun x hx => hlt x (by simp [hx])) (fun x hx => hsp x (by simp [hx]))
    exact ⟨p, q, a1, a2, rfl⟩

theorem Below.trodVars' {P : Program} (hl : laidOutB P = true) {W W' : World} (hb : Below W.heap.size W W') {sp : Nat → Bool} :
    ∀ {ns : List String} {gs : List (DataW H)} {ps : List MemPlace}, varsKnown P ns = true → DataW.TrodVars enc P W (fun _ => true) ns gs ps → (∀ p ∈ ps, sp p.block = true) → DataW.TrodVars enc P W' sp ns gs ps
  | [], [], _, _, h, _ => h
  | [], _ :: _, _, _, h, _ => h.elim
  | _ :: _, [], _, _, h, _ => h.elim
  | n :: ns, d :: ds, ps, hv, h, hsp => by
    have hlt := h.lt
    obtain ⟨g, t, cs, fuel, p, q, h1, h2, h3, h4, hs, e⟩ := h
    simp only [varsKnown, List.all_cons, Bool.and_eq_true] at hv
    have ht : P.readableRec t = true ∧ t < P.types.size := by
      have := hv.1
      rw [h1] at this
      cases hg : P.globals[g]? with
      | none => rw [hg] at h2; cases h2
      | some gl =>
        rw [hg] at h2
        obtain rfl : gl.type = t := Option.some.inj h2
        simpa [hg, Bool.and_eq_true] using this
    have hp : ∀ x ∈ p, x.block < W.heap.size := fun x hx => hlt x (by rw [e]; simp [hx])
    have h3' : W'.var? P n = some cs := by
      unfold World.var? at h3 ⊢
      rw [h1] at h3 ⊢
      simp only [Option.bind_some] at h3 ⊢
      have hg : g < W.heap.size := by
        cases hh : W.heap[g]? with
        | none => rw [hh] at h3; cases h3
        | some o => exact (Array.getElem?_eq_some_iff.1 hh).1
      rw [hb.block g hg]; exact h3
    exact ⟨g, t, cs, fuel, p, q, h1, h2, h3', DataW.trod_stays (kids_book hl ht.1) (book_sized ht.1) (fun h => by cases h) ⟨ht.2, book_self t⟩ h4 (fun x hx => hb.same (hp x hx)) (fun x hx => hsp x (by rw [e]; simp [hx])),
      Below.trodVars' hl hb (by simpa [varsKnown] using hv.2) hs (fun x hx => hsp x (by rw [e]; simp [hx])), e⟩

/-- The contract of a law gives what its row asks of a call. -/
theorem law_calls {P : Program} {f : FuncId} {fn : Func} {con : Con} (hm : Meets P f con) {s : ChangeSpec} {apart fresh handsOn again : Bool} (hbody : ∃ c, fn.body = some c) (hfn : P.funcs[f]? = some fn)
    (hname : (fn.name == "runtime.NumGoroutine") = false) (hl : laidOutB P = true) (d : Nat)
    (hpl : fn.params.toList.all (plainB P d) = true) (hrd : fn.params.toList.all (fun t => P.readableRec t && decide (t < P.types.size)) = true) (hvr : varsKnown P s.vars = true)
    {tb : TypeId} (hres : fn.resultTypes = #[tb]) (hbool : P.underlying tb = some .bool)
    (hspec : ∀ (ds gs : List (DataW H)), ds.length = fn.params.toList.length → gs.length = s.vars.length → (s.fn H (ds ++ gs)).results = [.lit (.bool true)] ∧ (s.fn H (ds ++ gs)).args = ds ∧ (s.fn H (ds ++ gs)).vars = gs)
    (hcon : ∀ us, ShpVs P d fn.params.toList us → ∃ p, con us = some (p, .data (bl true)) ∧ ∀ q ∈ p, q)
    (W : World) (base : Nat) (args : Array Value) (ds gs : List (DataW H)) (before : List MemPlace)
    (hval : ∀ (j : Nat) t v, fn.params[j]? = some t → args[j]? = some v → Value.okWide P W .any base t v)
    (hW : DataW.Whole enc P fn.params.toList s.vars apart W args.toList ds gs before) :
    Calls P f args W fun e W' => ∃ v, e = .returned v ∧ s.post enc P fn apart fresh handsOn again W args v W' := by
  have hW' := hW
  obtain ⟨p, q, hA, hV, rfl, hfz, hnd⟩ := hW
  obtain ⟨us, hrep, hshp⟩ := args_reads (enc := enc) (ok := fun b => b < W.heap.size) (fun _ h => h) (d := d) fn.params.toList args.toList ds p hpl (fun j t v ht hv => hval j t v (by simpa using ht) (by simpa using hv)) hA
  obtain ⟨pre, hc, hp⟩ := hcon us hshp
  have hdo := hm (fun b => b < W.heap.size) W args.toList us pre _ hrep (fun _ h => h) hc hp
  have hent : (callFunc f args).run P W = .ok (.enter f args) W := by
    obtain ⟨c, hb⟩ := hbody
    exact enters_of hfn hb hname args W
  have hlen : ∀ {ts : List TypeId} {vs : List Value} {xs : List (DataW H)} {ps : List MemPlace}, DataW.TrodAll enc P W 0 (fun _ => true) true ts vs xs ps → xs.length = ts.length := by
    intro ts
    induction ts with
    | nil => intro vs xs ps h; obtain ⟨rfl, rfl, rfl⟩ := trodAll_nil h; rfl
    | cons t ts ih =>
      intro vs xs ps h
      obtain ⟨v, vs1, x, xs1, p, q, rfl, rfl, rfl, h1, h2⟩ := trodAll_cons h
      simp [ih h2]
  have hlenV : ∀ {ns : List String} {xs : List (DataW H)} {ps : List MemPlace}, DataW.TrodVars enc P W (fun _ => true) ns xs ps → xs.length = ns.length := by
    intro ns
    induction ns with
    | nil => intro xs ps h; cases xs with | nil => rfl | cons x xs => exact h.elim
    | cons n ns ih =>
      intro xs ps h
      cases xs with
      | nil => exact h.elim
      | cons x xs =>
        obtain ⟨g, t, cs, fuel, p, q, h1, h2, h3, h4, hs, e⟩ := h
        simp [ih hs]
  obtain ⟨s1, s2, s3⟩ := hspec ds gs (hlen hA) (hlenV hV)
  rcases hdo with ⟨_, hcalls⟩ | ⟨v, w', hrun, _⟩
  · refine (show Calls P f args W _ by simpa using hcalls).mono ?_
    rintro e W' ⟨v, rfl, hb, hout⟩
    refine ⟨v, rfl, ?_⟩
    have hv : v = .bool true := by
      have : RepV _ W' v (bl true) := hout
      exact this.lit_inv
    subst hv
    have hlt : ∀ x ∈ p ++ q, x.block < W.heap.size := fun x hx => hW'.lt x hx
    refine post_of_below (pa := p) (pv := q) hW' (fun b sp hd => ?_) (fun sp hsp => ?_) (fun sp hsp => ?_) rfl hb ?_
    · rw [s1, hres]
      exact trodAll_mk1 (shut_bool hbool true)
    · rw [s2]
      exact Below.trodAll hl hb hrd hA (fun x hx => hlt x (by simp [hx])) (fun x hx => hsp x (by simp [hx]))
    · rw [s3]
      exact Below.trodVars' hl hb hvr hV (fun x hx => hsp x (by simp [hx]))
    · exact ok_one hres rfl (okWide_bool_mk hbool true)
  · have : (callFunc f args.toList.toArray).run P W = .ok (.enter f args) W := by simpa using hent
    rw [this] at hrun
    cases hrun
end

/-! ### Shapes, opened -/
section
variable {P : Program} {d : Nat} {t e : TypeId} {v : V} {ds : List D}
theorem Shp.int {k : IntKind} (hu : P.underlying t = some (.int k)) (h : Shp P (d + 1) t ds) : ∃ n, ds = [.lit (.int k n)] ∧ k.min ≤ n ∧ n ≤ k.max := by
  unfold Shp at h; rw [hu] at h; exact h
theorem Shp.bool (hu : P.underlying t = some .bool) (h : Shp P (d + 1) t ds) : ∃ b, ds = [db b] := by
  unfold Shp at h; rw [hu] at h; exact h
theorem Shp.string (hu : P.underlying t = some .string) (h : Shp P (d + 1) t ds) : ∃ s : ByteArray, ds = [.lit (.string s)] ∧ s.size ≤ maxLen := by
  unfold Shp at h; rw [hu] at h; exact h
theorem Shp.slice (hu : P.underlying t = some (.slice e)) (h : Shp P (d + 1) t ds) : ∃ n el, ds = [.sl (P.cellsOf e) n el] ∧ n ≤ maxLen ∧ (∀ i, i < n → Shp P d e (el i)) ∧ ∀ i, n ≤ i → el i = zcs P e := by
  unfold Shp at h; rw [hu] at h; exact h
theorem Shp.struct {fs : Array Field} (hu : P.underlying t = some (.struct fs)) (h : Shp P (d + 1) t ds) : eachField (Shp P d) fs.toList ds := by
  unfold Shp at h; rw [hu] at h; exact h
theorem Shp.array {n : Nat} (hu : P.underlying t = some (.array n e)) (h : Shp P (d + 1) t ds) : eachPart (Shp P d e) n ds := by
  unfold Shp at h; rw [hu] at h; exact h
theorem ShpV.cell (ha : isAgT P t = false) (h : ShpV P d t v) : ∃ x, Shp P d t [x] ∧ v = .c x := by
  obtain ⟨ds, h1, h2, h3⟩ := h
  obtain ⟨x, rfl⟩ := h3 ha
  rw [ha] at h2
  exact ⟨x, h1, h2⟩
theorem ShpV.agg (ha : isAgT P t = true) (h : ShpV P d t v) : ∃ ds, Shp P d t ds ∧ v = .agg (ds.map .c) := by
  obtain ⟨ds, h1, h2, h3⟩ := h
  rw [ha] at h2
  exact ⟨ds, h1, h2⟩
/-- Elements that have a shape, as a list. -/
theorem lst_shape {T : Type} {enc : T → List D} {dec : List D → T} {R : T → Prop} (hd : ∀ x, dec (enc x) = x) {k0 k n : Nat} {el : Nat → List D} (hk : k = k0) (h : ∀ i, i < n → ∃ x, el i = enc x ∧ R x) :
    LstOk enc dec k0 k n el ∧ (lst dec n el).length = n ∧ ∀ x ∈ lst dec n el, R x := by
  refine ⟨⟨fun _ => hk, fun i hi => ?_⟩, lst_length, fun x hx => ?_⟩
  · obtain ⟨x, hx, _⟩ := h i hi
    rw [hx, hd]
  · unfold lst at hx
    obtain ⟨i, hi, e⟩ := List.mem_map.1 hx
    obtain ⟨y, hy, hr⟩ := h i (List.mem_range.1 hi)
    rw [hy, hd] at e
    subst e; exact hr
end
/-- Numbers of 64 bits. -/
def I64 (n : Int) : Prop := -9223372036854775808 ≤ n ∧ n ≤ 9223372036854775807
theorem I64.of {n : Int} (h : IntKind.i64.min ≤ n ∧ n ≤ IntKind.i64.max) : I64 n := by
  have h1 : IntKind.i64.min = -9223372036854775808 := by decide
  have h2 : IntKind.i64.max = 9223372036854775807 := by decide
  rw [h1, h2] at h; exact h
theorem ShpVs.cons {P : Program} {d : Nat} {t : TypeId} {ts : List TypeId} {us : List V} (h : ShpVs P d (t :: ts) us) : ∃ v vs, us = v :: vs ∧ ShpV P d t v ∧ ShpVs P d ts vs := by
  cases us with
  | nil => exact h.elim
  | cons v vs => exact ⟨v, vs, rfl, h.1, h.2⟩
theorem ShpVs.nil {P : Program} {d : Nat} {us : List V} (h : ShpVs P d [] us) : us = [] := by
  cases us with
  | nil => rfl
  | cons v vs => exact h.elim
end Go.Ax
