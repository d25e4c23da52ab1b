import Derived.Test.YtchffdmfiffifaaBx1
/- Lists in states; functions as options meet contracts. -/
namespace Go.Ax
open Go.RowKit

/-- The elements of a list, as cells. -/
def lsEl {T : Type} (enc : T → List D) (z : T) (l : List T) (i : Nat) : List D := enc (l.getD i z)
def LstOk {T : Type} (enc : T → List D) (dec : List D → T) (k0 k n : Nat) (el : Nat → List D) : Prop := (0 < n → k = k0) ∧ ∀ i, i < n → el i = enc (dec (el i))
/-- A part of a list, whatever its bounds. -/
def subL {T : Type} (z : T) (l : List T) (off n : Nat) : List T := (List.range n).map fun i => l.getD (off + i) z

structure RowIs {T : Type} (enc : T → List D) (z : T) (n : Nat) (el : Nat → List D) (l : List T) : Prop where
  len : n = l.length
  els : ∀ i, i < n → el i = enc (l.getD i z)

section
variable {T : Type} {enc : T → List D} {dec : List D → T} {z : T} {n m k k0 off : Nat} {el el' : Nat → List D} {l l' : List T}

theorem lst_length : (lst dec n el).length = n := by simp [lst]
theorem lst_getD {i : Nat} (h : i < n) : (lst dec n el).getD i z = dec (el i) := by
  unfold lst
  rw [List.getD_eq_getElem?_getD, List.getElem?_map, List.getElem?_range h]
  rfl
theorem RowIs.of_ok (h : LstOk enc dec k0 k n el) : RowIs enc z n el (lst dec n el) :=
  ⟨lst_length.symm, fun i hi => by rw [lst_getD hi]; exact h.2 i hi⟩
theorem RowIs.lst (hd : ∀ x, dec (enc x) = x) (h : RowIs enc z n el l) : Go.Ax.lst dec n el = l := by
  refine List.ext_getElem (by rw [lst_length, h.len]) fun i h1 h2 => ?_
  have hi : i < n := by rw [lst_length] at h1; exact h1
  have := lst_getD (dec := dec) (el := el) (z := z) hi
  rw [List.getD_eq_getElem?_getD, List.getElem?_eq_getElem h1] at this
  have e : (Go.Ax.lst dec n el)[i] = dec (el i) := this
  rw [e, h.els i hi, hd, List.getD_eq_getElem?_getD, List.getElem?_eq_getElem h2]
  rfl
theorem RowIs.ok (hd : ∀ x, dec (enc x) = x) (h : RowIs enc z n el l) : LstOk enc dec k k n el := ⟨fun _ => rfl, fun i hi => by rw [h.els i hi, hd]⟩
theorem RowIs.okN (hd : ∀ x, dec (enc x) = x) (h : RowIs enc z 0 el l) : LstOk enc dec k0 k 0 el := ⟨fun h => by omega, fun i hi => by omega⟩

theorem RowIs.ls (enc : T → List D) (z : T) (l : List T) : RowIs enc z l.length (lsEl enc z l) l := ⟨rfl, fun _ _ => rfl⟩
theorem RowIs.ls0 (enc : T → List D) (z : T) (l : List T) : RowIs enc z l.length (fun i => lsEl enc z l (0 + i)) l := ⟨rfl, fun i _ => by simp [lsEl]⟩
theorem RowIs.zero (h : RowIs enc z n el l) : RowIs enc z n (fun i => el (0 + i)) l := ⟨h.len, fun i hi => by rw [Nat.zero_add]; exact h.els i hi⟩
theorem RowIs.nil (enc : T → List D) (z : T) (el : Nat → List D) : RowIs enc z 0 el [] := ⟨rfl, fun i hi => by omega⟩
theorem RowIs.app (h : RowIs enc z n el l) (h' : RowIs enc z m el' l') : RowIs enc z (n + m) (fun i => bif Nat.blt i n then el i else el' (i - n)) (l ++ l') := by
  refine ⟨by rw [List.length_append, h.len, h'.len], fun i hi => ?_⟩
  by_cases hlt : i < n
  · have : Nat.blt i n = true := by simpa using hlt
    rw [this, cond_true, h.els i hlt, List.getD_eq_getElem?_getD, List.getD_eq_getElem?_getD, List.getElem?_append_left (by rw [← h.len]; exact hlt)]
  · have : Nat.blt i n = false := by
      cases hb : Nat.blt i n with
      | false => rfl
      | true => rw [Nat.blt_eq] at hb; exact (hlt hb).elim
    rw [this, cond_false, h'.els (i - n) (by omega), List.getD_eq_getElem?_getD, List.getD_eq_getElem?_getD, List.getElem?_append_right (by rw [← h.len]; omega), h.len]
theorem RowIs.set (h : RowIs enc z n el l) (j : Nat) (x : T) {cs : List D} (hc : cs = enc x) : RowIs enc z n (fun q => bif Nat.beq q j then cs else el q) (l.set j x) := by
  refine ⟨by rw [List.length_set]; exact h.len, fun i hi => ?_⟩
  by_cases hj : i = j
  · subst hj
    rw [show Nat.beq i i = true by simp, cond_true, hc, List.getD_eq_getElem?_getD, List.getElem?_set_self (by rw [← h.len]; exact hi)]
    rfl
  · rw [beq_ne hj, cond_false, h.els i hi, List.getD_eq_getElem?_getD, List.getD_eq_getElem?_getD, List.getElem?_set_ne (fun e => hj e.symm)]
theorem subL_getD {i : Nat} (hi : i < n) : (subL z l off n).getD i z = l.getD (off + i) z := by
  unfold subL
  rw [List.getD_eq_getElem?_getD, List.getElem?_map, List.getElem?_range hi]
  rfl
theorem RowIs.sub (enc : T → List D) (z : T) (l : List T) (off n : Nat) : RowIs enc z n (fun i => lsEl enc z l (off + i)) (subL z l off n) :=
  ⟨by simp [subL], fun i hi => by rw [subL_getD hi]; rfl⟩
theorem RowIs.rep (x : T) {cs : List D} (hc : cs = enc x) (n : Nat) : RowIs enc z n (fun _ => cs) (List.replicate n x) :=
  ⟨by simp, fun i hi => by rw [hc, List.getD_eq_getElem?_getD, List.getElem?_replicate, if_pos hi]; rfl⟩
/-- A list whose part is set to one value. -/
def clearL (z : T) (l : List T) (off n : Nat) : List T := (List.range l.length).map fun q => bif Nat.ble off q && Nat.blt q (off + n) then z else l.getD q z
theorem RowIs.clear (h : RowIs enc z n el l) {cs : List D} (hc : cs = enc z) (off m : Nat) : RowIs enc z n (fun q => bif Nat.ble off q && Nat.blt q (off + m) then cs else el q) (clearL z l off m) := by
  refine ⟨by simp [clearL, h.len], fun i hi => ?_⟩
  have hl : i < l.length := by rw [← h.len]; exact hi
  have : (clearL z l off m).getD i z = bif Nat.ble off i && Nat.blt i (off + m) then z else l.getD i z := by
    unfold clearL
    rw [List.getD_eq_getElem?_getD, List.getElem?_map, List.getElem?_range hl]
    rfl
  rw [this]
  cases hb : (Nat.ble off i && Nat.blt i (off + m)) with
  | true => exact hc
  | false => exact h.els i hi
theorem len_app (h : n = l.length) (h' : m = l'.length) : n + m = (l ++ l').length := by rw [List.length_append, h, h']
theorem len_set {j : Nat} {x : T} (h : n = l.length) : n = (l.set j x).length := by rw [List.length_set, h]
theorem len_clear {j q : Nat} {x : T} (h : n = l.length) : n = (clearL x l j q).length := by rw [clearL]; simp [h]
theorem subL_len : n = (subL z l off n).length := by simp [subL]
theorem len_rep {x : T} : n = (List.replicate n x).length := by simp
/-- A list that is written out. -/
theorem RowIs.lit (l : List T) (h : ∀ i, i < l.length → el i = enc (l.getD i z)) : RowIs enc z l.length el l := ⟨rfl, h⟩
theorem RowIs.congr (h : RowIs enc z n el l) (hn : m = n) (he : ∀ i, i < n → el' i = el i) : RowIs enc z m el' l := ⟨hn.trans h.len, fun i hi => by rw [he i (hn ▸ hi)]; exact h.els i (hn ▸ hi)⟩

theorem subL_take (h : off + n ≤ l.length) : subL z l off n = (l.drop off).take n := by
  refine List.ext_getElem (by simp [subL]; omega) fun i h1 h2 => ?_
  have hi : i < n := by simpa [subL] using h1
  have := subL_getD (z := z) (l := l) (off := off) hi
  rw [List.getD_eq_getElem?_getD, List.getElem?_eq_getElem h1, List.getD_eq_getElem?_getD, List.getElem?_eq_getElem (show off + i < l.length by omega)] at this
  have e : (subL z l off n)[i] = l[off + i]'(by omega) := this
  rw [e, List.getElem_take, List.getElem_drop]
end

/-! ### Weaker states, slot by slot -/
section
variable {T : Type} {enc : T → List D} {z : T} {n k : Nat} {el : Nat → List D} {l : List T} {tm r : List (Nat × Slot)} {H R : Heap} {t o : Nat}

theorem VLe.sl (h : RowIs enc z n el l) : VLe (.c (.sl k n el)) (.c (.sl k l.length (lsEl enc z l))) := by
  rw [VLe]
  exact ⟨h.len, fun _ => rfl, h.els⟩
theorem VLe.slk {k' : Nat} (hk : 0 < n → k = k') (h : RowIs enc z n el l) : VLe (.c (.sl k n el)) (.c (.sl k' l.length (lsEl enc z l))) := by
  rw [VLe]
  exact ⟨h.len, hk, h.els⟩
theorem VLe.nilsl (enc : T → List D) (z : T) (k : Nat) : VLe (.c .nil) (.c (.sl k 0 (lsEl enc z []))) := by
  rw [VLe]; exact (rfl : (0 : Nat) = 0)
theorem VLe.rown {k off n n' : Nat} (h : n = n') : VLe (.row o k off n) (.row o k off n') := by subst h; exact VLe.rfl' _
theorem VLe.agg {xs ys : List V} (h : VLes xs ys) : VLe (.agg xs) (.agg ys) := by rw [VLe]; exact h
theorem VLe.tup {xs ys : List V} (h : VLes xs ys) : VLe (.tup xs) (.tup ys) := by rw [VLe]; exact h
theorem VLes.cons {x y : V} {xs ys : List V} (h : VLe x y) (hs : VLes xs ys) : VLes (x :: xs) (y :: ys) := by rw [VLes]; exact ⟨h, hs⟩
theorem VLes.nil : VLes [] [] := by rw [VLes]; trivial
theorem VLe.of_eq {x y : V} (h : x = y) : VLe x y := h ▸ VLe.rfl' x

theorem tmLe.cons {v v' : V} (h : getT tm t = some ⟨[], v⟩) (hv : VLe v v') (hr : tmLe tm r) : tmLe tm ((t, ⟨[], v'⟩) :: r) := by
  rw [tmLe, h]; exact ⟨⟨rfl, rfl, hv⟩, hr⟩
theorem tmLe.nil : tmLe tm [] := by rw [tmLe]; trivial
theorem hpLe.row {ty n' : Nat} (h : Heap.get H o = some (.row ty k n el)) (hr : RowIs enc z n el l) (hs : hpLe H R) (hn : n' = l.length) : hpLe H ((o, some (.row ty k n' (lsEl enc z l))) :: R) := by
  subst hn
  rw [hpLe, h]; exact ⟨⟨rfl, rfl, hr.len, hr.els⟩, hs⟩
theorem hpLe.box {cs cs' : List V} (h : Heap.get H o = some (.box cs)) (hv : VLes cs cs') (hs : hpLe H R) : hpLe H ((o, some (.box cs')) :: R) := by
  rw [hpLe, h]; exact ⟨hv, hs⟩
theorem hpLe.same {b : Ob} (h : Heap.get H o = some b) (hs : hpLe H R) : hpLe H ((o, some b) :: R) := by
  rw [hpLe, h]
  refine ⟨?_, hs⟩
  cases b with
  | box cs => exact VLes.rfl' cs
  | raw x => exact rfl
  | row t k n el => exact ⟨rfl, rfl, rfl, fun _ _ => rfl⟩
theorem hpLe.nil : hpLe H [] := by rw [hpLe]; trivial
theorem Ent.of {σ σ' : St} (h1 : tmLe σ.tm σ'.tm) (h2 : hpLe σ.hp σ'.hp) (h3 : Nat.ble σ.nx σ'.nx = true) : Ent σ σ' := .le ⟨h1, h2, Nat.ble_eq.mp h3⟩
end

section
variable {P : Program} {N : Nat} {σ σ' : St}
theorem retK.intro {rs : List ResultVar} {out : Out} {v : V} (hv : resVs P σ rs = some v) (h : OutOk out σ.hp v) : retK P rs (OutOk out) .ret σ := by
  show (match resVs P σ rs with | some v => OutOk out σ.hp v | none => False)
  rw [hv]; exact h

/-- The function of a body that runs as an option says. -/
theorem meets_fun {f : FuncId} {fn : Func} {c : Code} (hf : P.funcs[f]? = some fn) (hb : fn.body = some c) (hn : (fn.name == "runtime.NumGoroutine") = false) {con : Con} {rs : List ResultVar} (hr : fn.results.toList = rs) {nt : Nat} (ht : fn.ntmps = nt)
    (h : ∀ vs p out, con vs = some (p, out) → (∀ q ∈ p, q) → ∃ vs', VLes vs vs' ∧ (Nat.ble vs'.length nt && Nat.ble nt 1000000) = true ∧ EvL P nt (items c) (retK P rs (OutOk out)) { tm := initT vs' 0, hp := [], nx := 0 }) : Meets P f con := by
  subst hr ht
  refine meets_pieces hf hb hn fun vs p out h1 h2 => ?_
  obtain ⟨vs', h3, h4, h5⟩ := h vs p out h1 h2
  rw [Bool.and_eq_true] at h4
  exact ⟨vs', h3, ⟨Nat.ble_eq.mp h4.1, Nat.ble_eq.mp h4.2⟩, .ofItems c h5⟩
end

/-! ### Helpers for printed proofs -/
def allEl {T : Type} (enc : T → List D) (el : Nat → List D) : Nat → List T → Prop
  | _, [] => True
  | i, x :: r => el i = enc x ∧ allEl enc el (i + 1) r
theorem allEl_get {T : Type} {enc : T → List D} {z : T} {el : Nat → List D} : ∀ {l : List T} {i : Nat}, allEl enc el i l → ∀ j, j < l.length → el (i + j) = enc (l.getD j z)
  | [], _, _, j, h => by simp at h
  | x :: r, i, ha, 0, _ => ha.1
  | x :: r, i, ha, j + 1, h => by
    have := allEl_get (z := z) ha.2 j (by simpa using h)
    rw [show i + (j + 1) = i + 1 + j by omega]
    simpa using this
theorem RowIs.lits {T : Type} {enc : T → List D} {z : T} {el : Nat → List D} {l : List T} (h : allEl enc el 0 l) : RowIs enc z l.length el l :=
  ⟨rfl, fun i hi => by have := allEl_get (z := z) h i hi; rwa [Nat.zero_add] at this⟩

theorem W_gd2 {α : Type} {p q : Prop} {o : Option α} {Q : α → Prop} {X : Prop} (h : W (gd (p ∧ q) o) Q) (h1 : p ∧ q → W o Q → X) : p ∧ q ∧ X := by
  obtain ⟨⟨a, b⟩, c⟩ := W_gd h h1
  exact ⟨a, b, c⟩
theorem W_gd3 {α : Type} {p q r : Prop} {o : Option α} {Q : α → Prop} {X : Prop} (h : W (gd (p ∧ q ∧ r) o) Q) (h1 : p ∧ q ∧ r → W o Q → X) : p ∧ q ∧ r ∧ X := by
  obtain ⟨⟨a, b, c⟩, d⟩ := W_gd h h1
  exact ⟨a, b, c, d⟩
/-- Room for n elements of b bytes. -/
def capB (n b : Nat) : Prop := n * b ≤ 70368744177664 ∧ n ≤ 70368744177664
theorem allq {a : Prop} {l : List Prop} (h : ∀ q ∈ a :: l, q) : a ∧ ∀ q ∈ l, q := ⟨h a (by simp), fun q hq => h q (by simp [hq])⟩

section
variable {P : Program} {C : FuncId → Option CC} {N : Nat} {x y c : Code} {K : Exit → St → Prop} {σ : St}
/-- 'ev', shut. -/
structure EvP (P : Program) (C : FuncId → Option CC) (N : Nat) (c : Code) (K : Exit → St → Prop) (σ : St) : Prop where
  h : ev P C N c K σ
theorem EvP.of {X : Prop} (h : ev P C N c K σ = X) (x : X) : EvP P C N c K σ := ⟨h.mpr x⟩
theorem EvL.pieceD (hm : P.follows .mixedOrders = true) (hC : ∀ f con, C f = some con → MeetsC P f con) (ts : List Nat) (a m b : Nat) {l : List Code} (e : a + m = b)
    (h : EvP P C N (ofItems ((l.drop a).take m)) (cN ts (thenK (EvL P N (l.drop b) K) K)) σ) : EvL P N (l.drop a) K σ := by
  obtain ⟨h⟩ := h
  subst e
  have := EvL.piece hm hC ts ((l.drop a).take m) ((l.drop a).drop m) (K := K) (σ := σ) (by rw [List.drop_drop]; exact h)
  rwa [List.take_append_drop] at this
theorem EvL.pieceE (hm : P.follows .mixedOrders = true) (hC : ∀ f con, C f = some con → MeetsC P f con) (ts : List Nat) (a m : Nat) {l : List Code} (e : l.drop (a + m) = [])
    (h : EvP P C N (ofItems ((l.drop a).take m)) (cN ts K) σ) : EvL P N (l.drop a) K σ := by
  obtain ⟨h⟩ := h
  have hl : (l.drop a).take m = l.drop a := List.take_of_length_le (by
    have := List.drop_eq_nil_iff.1 e
    rw [List.length_drop]; omega)
  rw [hl] at h
  have hq := EvL.piece (l' := []) hm hC ts (l.drop a) (K := K) (σ := σ) (ev_mono _ (fun e σ hk => ?_) h)
  · rwa [List.append_nil] at hq
  · unfold cN at hk ⊢
    cases hc : canonNOk ts σ with
    | false => rw [hc] at hk; exact hk.elim
    | true =>
      rw [hc, cond_true] at hk
      rw [cond_true]
      obtain ⟨σ', h1, h2⟩ := hk
      cases e with
      | normal => exact ⟨σ', h1, σ', .refl _, h2⟩
      | exit id => exact ⟨σ', h1, h2⟩
      | goto l => exact ⟨σ', h1, h2⟩
      | ret => exact ⟨σ', h1, h2⟩
      | panic ch => exact ⟨σ', h1, h2⟩
      | outgrown => exact ⟨σ', h1, h2⟩
theorem EvL.at_ {l l' : List Code} (e : l = l') (h : EvL P N l' K σ) : EvL P N l K σ := e ▸ h
theorem EvL.end_ {l : List Code} (e : l = []) (h : K .normal σ) : EvL P N l K σ := by subst e; exact wK_self h
theorem EvL.cons_loop {r : List Code} {id : Nat} (h : EvOk P N (.loop x) (blockK id (thenK (EvL P N r K) K)) σ) : EvL P N (.block id (.loop x) :: r) K σ := EvOk.block h
theorem EvL.cons_ifs {o : Operand} {b : Bool} {r : List Code} (hb : opndV σ [] o = some (bl b)) (ht : b = true → EvL P N (items x) (thenK (EvL P N r K) K) σ) (hf : b = false → EvL P N (items y) (thenK (EvL P N r K) K) σ) : EvL P N (.cond o x y :: r) K σ :=
  EvOk.cond hb (fun h => .ofItems x (ht h)) (fun h => .ofItems y (hf h))
end
theorem W_loop {S R α : Type} {f : S → Option (S ⊕ R)} {s : S} {g : R → Option α} {Q : α → Prop} {Q' : R → Prop} (h : W ((fixL f s).bind g) Q) (hq : ∀ r, W (g r) Q → Q' r) : W (fixL f s) Q' := W_mono (W_bind' h) hq
theorem bif_W {α : Type} {b : Bool} {o o' : Option α} {Q : α → Prop} (h : W (bif b then o else o') Q) : (b = true → W o Q) ∧ (b = false → W o' Q) := by
  cases b with
  | true => exact ⟨fun _ => h, fun e => nomatch e⟩
  | false => exact ⟨(fun e => nomatch e), fun _ => h⟩

/-- One contract or another. -/
def orC (c c' : Con) : Con := fun vs => match c vs with | some r => some r | none => c' vs
theorem Meets.or {P : Program} {f : FuncId} {c c' : Con} (h : Meets P f c) (h' : Meets P f c') : Meets P f (orC c c') := by
  intro ok w xs vs p out h1 h2 h3 h4
  unfold orC at h3
  split at h3
  · next r hr => cases h3; exact h ok w xs vs p out h1 h2 hr h4
  · exact h' ok w xs vs p out h1 h2 h3 h4
end Go.Ax
