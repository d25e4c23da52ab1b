import Derived.Test.YtchffdmfiffifaaBx2
/- Contracts of functions that change what they are handed. -/
namespace Go.Ax
open Go.RowKit

mutual
/-- Objects by other numbers. -/
def V.mp (f : Nat → Nat) : V → V
  | .c d => .c d
  | .agg vs => .agg (V.mps f vs)
  | .tup vs => .tup (V.mps f vs)
  | .ptr o k i j => .ptr (f o) k i j
  | .row o k off n => .row (f o) k off n
  | .dptr k cs j => .dptr k cs j
  | .fn g caps => .fn g (V.mps f caps)
def V.mps (f : Nat → Nat) : List V → List V
  | [] => []
  | v :: r => V.mp f v :: V.mps f r
end
def Ob.mp (f : Nat → Nat) : Ob → Ob
  | .box cs => .box (V.mps f cs)
  | .row t k n el => .row t k n el
  | .raw x => .raw x
mutual
/-- All data in it is scalar. -/
def V.sclr : V → Bool
  | .c d => d.scal
  | .agg vs => V.sclrs vs
  | .tup vs => V.sclrs vs
  | .ptr .. => true
  | .row .. => true
  | .dptr .. => false
  | .fn _ vs => V.sclrs vs
def V.sclrs : List V → Bool
  | [] => true
  | v :: r => V.sclr v && V.sclrs r
end
def obSc : Ob → Prop
  | .box cs => V.sclrs cs = true
  | .row _ _ n el => ∀ i, i < n → ∀ d ∈ el i, d.scal = true
  | .raw _ => True
def obRefs : Ob → List Nat
  | .box cs => V.refss cs
  | .row .. => []
  | .raw _ => []
mutual
/-- The rows that a value names. -/
def V.rrefs : V → List Nat
  | .agg vs => V.rrefss vs
  | .tup vs => V.rrefss vs
  | .row o _ _ _ => [o]
  | .fn _ caps => V.rrefss caps
  | _ => []
def V.rrefss : List V → List Nat
  | [] => []
  | v :: r => V.rrefs v ++ V.rrefss r
end
def obRrefs : Ob → List Nat
  | .box cs => V.rrefss cs
  | .row .. => []
  | .raw _ => []
/-- A value that leads to the object. -/
def ghostV (q : Nat) : Ob → V
  | .box cs => .ptr q cs.length 0 0
  | .row _ k n _ => .row q k 0 n
  | .raw _ => .ptr q 1 0 0
def sameLen : Ob → Ob → Prop
  | .box _, .box _ => True
  | .row _ _ n _, .row _ _ n' _ => n = n'
  | .raw _, .raw _ => True
  | _, _ => False
def ghostT (H : Heap) : List (Nat × Slot) := H.map fun x => (1000000 + x.1, match x.2 with | some b => ⟨[], ghostV x.1 b⟩ | none => ⟨[], .c .unk⟩)
/-- What the callee sees: what is handed over, by its numbers, or data. -/
def handL (os : List Nat) (H : Heap) : List Bool → List V → List V
  | _, [] => []
  | b :: fl, v :: r => (bif b then v.ren os else v.view H) :: handL os H fl r
  | [], v :: r => v.view H :: handL os H [] r
/-- May it be seen as data? -/
def asData (os : List Nat) (H : Heap) (nr : Bool) (v : V) : Bool := bif nr then v.refs.isEmpty else rowsR H [v] && v.refs.all fun o => !(memB o os)
/-- nr: no object is seen as data. -/
def handOk (os : List Nat) (H : Heap) (nr : Bool) : List Bool → List V → Bool
  | _, [] => true
  | b :: fl, v :: r => (bif b then v.refs.all (fun o => memB o os) else asData os H nr v) && handOk os H nr fl r
  | [], v :: r => asData os H nr v && handOk os H nr [] r
def obsOk (os : List Nat) (H : Heap) : Bool := os.all fun o => match Heap.get H o with | some b => obOk os b | none => false

def lookO : List (Nat × Nat) → Nat → Nat
  | [], _ => 0
  | (q', o) :: r, q => bif Nat.beq q' q then o else lookO r q
def invO : List (Nat × Nat) → Nat → Option Nat
  | [], _ => none
  | (q, o') :: r, o => bif Nat.beq o' o then some q else invO r o

/-- What a run leaves, as its caller sees it. -/
structure Left (os : List Nat) (nid : Nat) (H : Heap) (sc : Bool) (r : Res) (m : List (Nat × Nat)) (σ : St) (v : V) : Prop where
  inj : ∀ q q' o, (q, o) ∈ m → (q', o) ∈ m → q = q'
  fn : ∀ q o o', (q, o) ∈ m → (q, o') ∈ m → o = o'
  to : ∀ q o, (q, o) ∈ m → o ∈ os ∨ o = nid
  val : VLe (v.mp (lookO m)) r.val
  vrefs : ∀ q ∈ v.refs, q ∈ m.map (·.1)
  vrows : v.rrefs.all (fun q => isRow (Heap.get σ.hp q)) = true
  vsc : sc = true ∨ v.sclr = true
  has : ∀ q o, (q, o) ∈ m → ∃ ob, Heap.get σ.hp q = some ob
  obs : ∀ o ob', Heap.get r.eff o = some ob' → ∃ q ob, (q, o) ∈ m ∧ Heap.get σ.hp q = some ob ∧ ObLe (ob.mp (lookO m)) ob' ∧ (∀ p ∈ obRefs ob, p ∈ m.map (·.1)) ∧ (obRrefs ob).all (fun q => isRow (Heap.get σ.hp q)) = true ∧ (sc = true ∨ obSc ob)
  all : ∀ o ∈ os, o ∈ keysOf r.eff
  kill : ∀ o ∈ r.kill, o ∈ os
  keep : ∀ i o, os[i]? = some o → o ∈ r.kill ∨ ∃ q ob ob', (q, o) ∈ m ∧ Heap.get H o = some ob ∧ Heap.get σ.hp q = some ob' ∧ sameLen ob ob' ∧ getT σ.tm (1000000 + i) = some ⟨[], ghostV q ob⟩

def retM (P : Program) (rs : List ResultVar) (Q : St → V → Prop) : Exit → St → Prop
  | .ret, σ => (match resVs P σ rs with | some v => Q σ v | none => False)
  | .normal, σ => (match resVs P σ rs with | some v => Q σ v | none => False)
  | _, _ => False

section
variable {P : Program} {N : Nat} {B : Base} {σ σ' : St} {E E' : Env} {a : Act} {w w' : World} {H : Heap}

theorem mps_length (f : Nat → Nat) : ∀ vs : List V, (V.mps f vs).length = vs.length
  | [] => rfl
  | _ :: r => by simp [V.mps, mps_length f r]
theorem mps_get (f : Nat → Nat) : ∀ (vs : List V) (i : Nat), (V.mps f vs)[i]? = (vs[i]?).map (V.mp f)
  | [], i => by simp [V.mps]
  | v :: r, 0 => by simp [V.mps]
  | v :: r, i + 1 => by simp [V.mps, mps_get f r i]
theorem sclrs_get : ∀ {vs : List V} {i : Nat} {v : V}, V.sclrs vs = true → vs[i]? = some v → v.sclr = true
  | [], i, v, _, h => by simp at h
  | x :: r, 0, v, hs, h => by
    simp only [V.sclrs, Bool.and_eq_true] at hs
    simp at h; subst h; exact hs.1
  | x :: r, i + 1, v, hs, h => by
    simp only [V.sclrs, Bool.and_eq_true] at hs
    exact sclrs_get hs.2 (by simpa using h)

theorem rrefss_mem {o : Nat} : ∀ {vs : List V} {i : Nat} {v : V}, vs[i]? = some v → o ∈ v.rrefs → o ∈ V.rrefss vs
  | [], i, v, h, _ => by simp at h
  | x :: r, 0, v, h, ho => by simp at h; subst h; simp [V.rrefss, ho]
  | x :: r, i + 1, v, h, ho => by
    simp only [V.rrefss, List.mem_append]
    exact .inr (rrefss_mem (by simpa using h) ho)
mutual
theorem rrefs_refs : ∀ (v : V), ∀ q ∈ v.rrefs, q ∈ v.refs
  | .c _ => by simp [V.rrefs]
  | .agg vs => by simp only [V.rrefs, V.refs]; exact rrefss_refs vs
  | .tup vs => by simp only [V.rrefs, V.refs]; exact rrefss_refs vs
  | .ptr .. => by simp [V.rrefs]
  | .row .. => by simp [V.rrefs, V.refs]
  | .dptr .. => by simp [V.rrefs]
  | .fn _ vs => by simp only [V.rrefs, V.refs]; exact rrefss_refs vs
theorem rrefss_refs : ∀ (vs : List V), ∀ q ∈ V.rrefss vs, q ∈ V.refss vs
  | [] => by simp [V.rrefss]
  | v :: r => by
    intro q hq
    simp only [V.rrefss, V.refss, List.mem_append] at hq ⊢
    exact hq.imp (rrefs_refs v q) (rrefss_refs r q)
end
theorem RepV.ptr_inv {v : Value} {o k i j : Nat} (h : RepV E w v (.ptr o k i j)) : ∃ b, E.conc o = some b ∧ v = .pointer (some ⟨b, i * k + j, none⟩) := by
  generalize hd : V.ptr o k i j = d at h
  cases h with
  | ptr o' k' i' j' b h1 h2 h3 => cases hd; exact ⟨b, h2, rfl⟩
  | _ => cases hd
theorem RepV.row_inv {v : Value} {o k n : Nat} (h : RepV E w v (.row o k 0 n)) : ∃ (a : Option Addr) (c : Nat), v = .slice a n c ∧ ((a = none ∧ c = 0 ∧ E.conc o = none) ∨ ∃ b, E.conc o = some b ∧ a = some ⟨b, 0, none⟩ ∧ c = E.cap o) := by
  generalize hd : V.row o k 0 n = d at h
  cases h with
  | row o' k' off' n' a c hn hc hm hl ha h0 => cases hd; exact ⟨a, c, rfl, h0 rfl⟩
  | _ => cases hd
/-- Two environments agree on an object of other number. -/
def Same (E E' : Env) (f : Nat → Nat) (q : Nat) : Prop :=
  E'.live (f q) ∧ E'.conc (f q) = E.conc q ∧ E'.len (f q) = E.len q
def SameCap (E E' : Env) (f : Nat → Nat) (q : Nat) : Prop := E.conc q = none ∨ E'.cap (f q) = E.cap q

theorem RepV.mp {f : Nat → Nat} {v : Value} {d : V} (h : RepV E w v d) : (∀ q ∈ V.refs d, E.live q → Same E E' f q) → (∀ q ∈ V.rrefs d, E.live q → SameCap E E' f q) → ((∀ b, E.ok b → E'.ok b) ∨ d.sclr = true) → RepV E' w v (d.mp f) := by
  induction h with
  | c v d h =>
    intro _ _ hs
    rcases hs with hs | hs
    · exact .c v d (h.mono hs fun _ _ => rfl)
    · exact .c v d (repD_scal h hs)
  | agg vs ds hl h ih =>
    intro hr hr2 hs
    rw [V.mp]
    refine .agg vs _ (by rw [mps_length, hl]) fun i v d hv hd => ?_
    rw [mps_get] at hd
    cases hx : ds[i]? with
    | none => rw [hx] at hd; cases hd
    | some x => rw [hx] at hd; cases hd; exact ih i v x hv hx (fun o ho => hr o (refss_mem hx ho)) (fun o ho => hr2 o (rrefss_mem hx ho)) (hs.imp id fun hs => sclrs_get hs hx)
  | tup vs ds hl h ih =>
    intro hr hr2 hs
    rw [V.mp]
    refine .tup vs _ (by rw [mps_length, hl]) fun i v d hv hd => ?_
    rw [mps_get] at hd
    cases hx : ds[i]? with
    | none => rw [hx] at hd; cases hd
    | some x => rw [hx] at hd; cases hd; exact ih i v x hv hx (fun o ho => hr o (refss_mem hx ho)) (fun o ho => hr2 o (rrefss_mem hx ho)) (hs.imp id fun hs => sclrs_get hs hx)
  | ptr o k i j b h1 h2 h3 =>
    intro hr _ _
    obtain ⟨g1, g2, g3⟩ := hr o (by simp [V.refs]) h1
    rw [V.mp]
    exact .ptr _ k i j b g1 (g2.trans h2) (by rw [g3]; exact h3)
  | row o k off n a c hn hc hm hl ha h0 =>
    intro hr hr2 _
    obtain ⟨g1, g2, g3⟩ := hr o (by simp [V.refs]) hn
    have g4 := hr2 o (by simp [V.rrefs]) hn
    rw [V.mp]
    refine .row _ k off n a c g1 hc hm (by rw [g3]; exact hl) (by rw [g2]; exact ha) fun h => ?_
    rcases h0 h with h | ⟨b, h1, h2, h3⟩
    · exact .inl (by rw [g2]; exact h)
    · refine .inr ⟨b, by rw [g2]; exact h1, h2, ?_⟩
      rcases g4 with g4 | g4
      · rw [g4] at h1; cases h1
      · rw [g4]; exact h3
  | dptr k cs j ad u h1 h2 h3 h4 =>
    intro _ _ hs
    rcases hs with hs | hs
    · exact .dptr k cs j ad u (hs _ h1) h2 h3 fun i d hd => (h4 i d hd).mono hs fun _ _ => rfl
    · simp [V.sclr] at hs
  | fn g vs ds hl h ih =>
    intro hr hr2 hs
    rw [V.mp]
    refine .fn g vs _ (by rw [mps_length, hl]) fun i v d hv hd => ?_
    rw [mps_get] at hd
    cases hx : ds[i]? with
    | none => rw [hx] at hd; cases hd
    | some x => rw [hx] at hd; cases hd; exact ih i v x hv hx (fun o ho => hr o (refss_mem hx ho)) (fun o ho => hr2 o (rrefss_mem hx ho)) (hs.imp id fun hs => sclrs_get hs hx)

theorem ObAt.mp {f : Nat → Nat} {q : Nat} {ob : Ob} (h : ObAt E w q ob) (hq : Same E E' f q) (hqc : isRow (some ob) = true → SameCap E E' f q) (hr : ∀ p ∈ obRefs ob, E.live p → Same E E' f p) (hr2 : ∀ p ∈ obRrefs ob, E.live p → SameCap E E' f p) (hs : (∀ b, E.ok b → E'.ok b) ∨ obSc ob) : ObAt E' w (f q) (ob.mp f) := by
  obtain ⟨g1, g2, g3⟩ := hq
  cases ob with
  | box cs =>
    obtain ⟨e1, b, C, t, e2, e3, e4, e5⟩ := h
    refine ⟨g3.trans e1, b, C, t, g2.trans e2, e3, ?_, fun i v d hv hd => ?_⟩
    · rw [mps_length]; exact e4
    · rw [mps_get] at hd
      cases hx : cs[i]? with
      | none => rw [hx] at hd; cases hd
      | some x =>
        rw [hx] at hd; cases hd
        exact (e5 i v x hv hx).mp (fun p hp => hr p (refss_mem hx hp)) (fun p hp => hr2 p (rrefss_mem hx hp)) (hs.imp id fun hs => sclrs_get hs hx)
  | raw x =>
    obtain ⟨h1, b, h2, h3⟩ := h
    exact ⟨g3.trans h1, b, g2.trans h2, h3⟩
  | row t k n el =>
    obtain ⟨h1, h2⟩ := h
    refine ⟨g3.trans h1, ?_⟩
    rcases h2 with ⟨h2, h3⟩ | ⟨b, C, a1, a2, a3, a4, a5, a6, a7, a8⟩
    · exact .inl ⟨g2.trans h2, h3⟩
    · have hcap : E'.cap (f q) = E.cap q := by
        rcases hqc rfl with g4 | g4
        · rw [g4] at a1; cases a1
        · exact g4
      refine .inr ⟨b, C, g2.trans a1, a2, by rw [hcap]; exact a3, by rw [hcap]; exact a4, by rw [hcap]; exact a5, a6, a7, fun i j d u hi hd hu => ?_⟩
      have := a8 i j d u hi hd hu
      rcases hs with hs | hs
      · exact this.mono hs fun _ _ => rfl
      · exact repD_scal this (hs i hi d (List.mem_of_getElem? hd))

/-- An object stays; what it names may be forgotten. -/
theorem obAt_kill {kl : List Nat} {q : Nat} {ob ob' : Ob} (h : ObAt E w q ob) (hk : killObs kl (some ob) = some ob') (hc : E'.conc q = E.conc q ∧ E'.cap q = E.cap q ∧ E'.len q = E.len q) (hb : ∀ b, E.conc q = some b → w'.heap[b]? = w.heap[b]?)
    (hr : ∀ v d, RepV E w v d → RepV E' w' v (d.killAll kl)) (hd : ∀ v d, RepD E.ok w v d → RepD E'.ok w' v d) : ObAt E' w' q ob' := by
  obtain ⟨c1, c2, c3⟩ := hc
  cases ob with
  | box cs =>
    rw [killObs_box] at hk
    cases hk
    obtain ⟨hl, b, C, t, h1, h2, h3, h4⟩ := h
    refine ⟨c3.trans hl, b, C, t, c1.trans h1, (hb b h1).trans h2, by rw [List.length_map]; exact h3, fun i v d hv hx => ?_⟩
    rw [List.getElem?_map] at hx
    cases hy : cs[i]? with
    | none => rw [hy] at hx; cases hx
    | some y => rw [hy] at hx; cases hx; exact hr _ _ (h4 i v y hv hy)
  | raw x =>
    rw [killObs_raw] at hk
    cases hk
    obtain ⟨hl, b, h1, h2⟩ := h
    exact ⟨c3.trans hl, b, c1.trans h1, (hb b h1).trans h2⟩
  | row t k n el =>
    rw [killObs_row] at hk
    cases hk
    obtain ⟨hl, h⟩ := h
    refine ⟨c3.trans hl, ?_⟩
    rcases h with ⟨h1, h2⟩ | ⟨b, C, h1, h2, h3, h4, h5, h6, h7, h8⟩
    · exact .inl ⟨c1.trans h1, h2⟩
    · exact .inr ⟨b, C, c1.trans h1, (hb b h1).trans h2, by rw [c2]; exact h3, by rw [c2]; exact h4, by rw [c2]; exact h5, h6, h7, fun i j d u a b c => hd _ _ (h8 i j d u a b c)⟩

theorem get_restr : ∀ {os : List Nat} {H : Heap} {o : Nat} {b : Ob}, Heap.get (restr os H) o = some b → Heap.get H o = some b ∧ o ∈ os
  | [], H, o, b, h => by simp [restr, Heap.get] at h
  | p :: r, H, o, b, h => by
    unfold restr at h
    split at h
    · next b' hb' =>
      rw [Heap.get_cons] at h
      split at h
      · next e => subst e; cases h; exact ⟨hb', by simp⟩
      · have := get_restr h; exact ⟨this.1, List.mem_cons_of_mem _ this.2⟩
    · have := get_restr h; exact ⟨this.1, List.mem_cons_of_mem _ this.2⟩
theorem restr_get : ∀ {os : List Nat} {H : Heap} {o : Nat}, o ∈ os → Heap.get (restr os H) o = Heap.get H o
  | [], H, o, h => by simp at h
  | p :: r, H, o, h => by
    unfold restr
    by_cases e : p = o
    · subst e
      cases hb : Heap.get H p with
      | some b => simp only; rw [Heap.get_cons, if_pos rfl]
      | none =>
        simp only
        cases hg : Heap.get (restr r H) p with
        | none => rfl
        | some b => rw [(get_restr hg).1] at hb; cases hb
    · have ho : o ∈ r := by
        rcases List.mem_cons.1 h with h | h
        · exact (e h.symm).elim
        · exact h
      split
      · rw [Heap.get_cons, if_neg e]; exact restr_get ho
      · exact restr_get ho
theorem heapAt_restr (hH : HeapAt E w H) (os : List Nat) : HeapAt E w (restr os H) :=
  ⟨fun o ob h => hH.at_ o ob (get_restr h).1, hH.inj, hH.sep, hH.lt, hH.oklt⟩

theorem memB_iff {o : Nat} {l : List Nat} : memB o l = true ↔ o ∈ l := ⟨memB_mem, fun h => List.any_eq_true.2 ⟨o, h, by simp⟩⟩

/-- A value over rows that are not handed over, as data. -/
theorem view_apart {os : List Nat} {ok' : Nat → Prop} (hH : HeapAt E w H) (h1 : ∀ b, E.ok b → ok' b) (h2 : ∀ o b, o ∉ os → E.live o → E.conc o = some b → ok' b) {v : Value} {d : V} (h : RepV E w v d)
    (hr : rowsR H [d] = true) (ho : d.refs.all (fun o => !(memB o os)) = true) : RepV (env0 ok') w v (d.view H) := by
  have hin : ∀ o ∈ d.refs, o ∉ os := by
    intro o hd hc
    have := List.all_eq_true.1 ho o hd
    rw [memB_iff.2 hc] at this; cases this
  have hrefs : V.refss [d] = d.refs := by simp [V.refss]
  have hrow : ∀ o ∈ d.refs, isRow (H.get o) = true := by
    intro o hd
    unfold rowsR at hr
    rw [hrefs] at hr
    exact List.all_eq_true.1 hr o hd
  -- a smaller heap and environment
  have hag : Agree H (restr d.refs H) d.refs := by
    refine ⟨fun o ho => (restr_get ho).symm, fun o ho cs hb q hq => ?_⟩
    have := hrow o ho
    rw [hb] at this; cases this
  rw [view_agree d hag]
  have hv := h.only (os := d.refs) fun o h => h
  have hH1 : HeapAt { E with live := fun o => E.live o ∧ o ∈ d.refs } w (restr d.refs H) := by
    refine ⟨fun o ob hg => ?_, fun o o' b a b' => hH.inj o o' b a.1 b'.1, fun o b a => hH.sep o b a.1, fun o b a => hH.lt o b a.1, hH.oklt⟩
    obtain ⟨g1, g2⟩ := get_restr hg
    obtain ⟨l1, l2⟩ := hH.at_ o ob g1
    refine ⟨⟨l1, g2⟩, ?_⟩
    have := hrow o g2
    rw [g1] at this
    cases ob with
    | box cs => cases this
    | raw x => cases this
    | row t k n el => exact l2
  exact view_rep hH1 (ok' := ok') h1 hv (.inl fun q b hq hb => h2 q b (hin q hq.2) hq.1 hb)

theorem handL_length (os : List Nat) (H : Heap) : ∀ (fl : List Bool) (vs : List V), (handL os H fl vs).length = vs.length
  | [], [] => rfl
  | _ :: _, [] => rfl
  | b :: fl, v :: r => by simp [handL, handL_length os H fl r]
  | [], v :: r => by simp [handL, handL_length os H [] r]

/-- The environment that a callee sees. -/
def Env.hand (E : Env) (os : List Nat) (nr : Bool) : Env := { E.ren os with ok := fun b => E.ok b ∨ (nr = false ∧ ∃ o, o ∉ os ∧ E.live o ∧ E.conc o = some b) }

theorem RepV.hand {os : List Nat} {nr : Bool} {v : Value} {d : V} (h : RepV (E.ren os) w v d) : RepV (E.hand os nr) w v d :=
  h.mono (E := E.ren os) (E' := E.hand os nr) (kl := []) (fun _ (h : E.ok _) => Or.inl h) (fun _ _ => rfl) (fun _ h => h) (fun _ _ _ => ⟨rfl, rfl, rfl⟩) (clean_nil d)

theorem data_rep {os : List Nat} {nr : Bool} (hH : HeapAt E w H) {x : Value} {v : V} (h : RepV E w x v) (hk : asData os H nr v = true) : RepV (E.hand os nr) w x (v.view H) := by
  unfold asData at hk
  cases nr with
  | true =>
    simp only [cond_true, List.isEmpty_iff] at hk
    exact env0_mono (E' := E.hand os true) (fun b (h : E.ok b) => Or.inl h) (view_rep hH (ok' := E.ok) (fun b h => h) h (.inr hk))
  | false =>
    simp only [cond_false, Bool.and_eq_true] at hk
    have := view_apart (os := os) (ok' := (E.hand os false).ok) hH (fun b h => .inl h) (fun o b h1 h2 h3 => .inr ⟨rfl, o, h1, h2, h3⟩) h hk.1 hk.2
    exact env0_mono (E' := E.hand os false) (fun b h => h) this

theorem hand_rep {os : List Nat} {nr : Bool} (hH : HeapAt E w H) : ∀ (fl : List Bool) (xs : List Value) (args : List V), RepL E w xs args → handOk os H nr fl args = true → RepL (E.hand os nr) w xs (handL os H fl args)
  | fl, xs, [], hx, _ => by
    have : handL os H fl [] = [] := by cases fl <;> rfl
    rw [this]
    exact ⟨hx.1, fun i v d _ hd => by simp at hd⟩
  | b :: fl, [], v :: r, hx, _ => by have := hx.1; simp at this
  | b :: fl, x :: xs, v :: r, hx, hk => by
    simp only [handOk, Bool.and_eq_true] at hk
    have ih := hand_rep hH fl xs r ⟨by simpa using hx.1, fun i v d hv hd => hx.2 (i + 1) v d (by simpa using hv) (by simpa using hd)⟩ hk.2
    refine ⟨by simpa [handL] using ih.1, fun i v' d hv hd => ?_⟩
    match i with
    | 0 =>
      simp [handL] at hv hd
      subst hv hd
      have h0 := hx.2 0 x v rfl rfl
      cases b with
      | true =>
        simp only [cond_true] at hk ⊢
        exact (h0.ren fun o ho => memB_mem (List.all_eq_true.1 hk.1 o ho)).hand
      | false =>
        simp only [cond_false] at hk ⊢
        exact data_rep hH h0 hk.1
    | i + 1 => exact ih.2 i v' d (by simpa using hv) (by simpa [handL] using hd)
  | [], [], v :: r, hx, _ => by have := hx.1; simp at this
  | [], x :: xs, v :: r, hx, hk => by
    simp only [handOk, Bool.and_eq_true] at hk
    have ih := hand_rep hH [] xs r ⟨by simpa using hx.1, fun i v d hv hd => hx.2 (i + 1) v d (by simpa using hv) (by simpa using hd)⟩ hk.2
    refine ⟨by simpa [handL] using ih.1, fun i v' d hv hd => ?_⟩
    match i with
    | 0 =>
      simp [handL] at hv hd
      subst hv hd
      exact data_rep hH (hx.2 0 x v rfl rfl) hk.1
    | i + 1 => exact ih.2 i v' d (by simpa using hv) (by simpa [handL] using hd)

end
end Go.Ax
