import Derived.Test.YtchffdmfiffifaaAx1
import Derived.WalkKit
/- What abstract values, heaps say of a world; and that it stays. -/
namespace Go.Ax
open Go.RowKit

structure Env where
  conc : Nat → Option Nat
  cap : Nat → Nat
  len : Nat → Nat
  live : Nat → Prop
  ok : Nat → Prop

def optVal (b : Bool) (us : List Value) : Value := bif b then .tuple (.bool true :: us).toArray else .tuple #[.bool false]
inductive RepD (ok : Nat → Prop) (w : World) : Value → D → Prop
  | unk (v : Value) : RepD ok w v .unk
  | nil : RepD ok w (.slice none 0 0) .nil
  | lit (v : Value) : RepD ok w v (.lit v)
  | opt (b : Bool) (us : List Value) : RepD ok w (optVal b us) (.opt b us)
  | sl (a : Option Addr) (n c k : Nat) (el : Nat → List D) (u : Nat → Nat → Value)
      (hc : n ≤ c) (hm : c ≤ maxLen)
      (ha : 0 < n → ∃ ad, a = some ad ∧ ok ad.block ∧ ∀ i j, i < n → j < k → w.cell? (ad.add (i * k + j)) = some (u i j))
      (ho : ∀ i j, i < n → j < k → (u i j).oneCell' = true)
      (hl : ∀ i, i < n → (el i).length = k)
      (hu : ∀ i j d, i < n → (el i)[j]? = some d → RepD ok w (u i j) d) : RepD ok w (.slice a n c) (.sl k n el)

inductive RepV (E : Env) (w : World) : Value → V → Prop
  | c (v : Value) (d : D) (h : RepD E.ok w v d) : RepV E w v (.c d)
  | agg (vs : List Value) (ds : List V) (hl : vs.length = ds.length) (h : ∀ (i : Nat) (v : Value) (d : V), vs[i]? = some v → ds[i]? = some d → RepV E w v d) : RepV E w (.agg vs.toArray) (.agg ds)
  | tup (vs : List Value) (ds : List V) (hl : vs.length = ds.length) (h : ∀ (i : Nat) (v : Value) (d : V), vs[i]? = some v → ds[i]? = some d → RepV E w v d) : RepV E w (.tuple vs.toArray) (.tup ds)
  | ptr (o k i j b : Nat) (hn : E.live o) (hb : E.conc o = some b) (hi : i < E.len o) : RepV E w (.pointer (some ⟨b, i * k + j, none⟩)) (.ptr o k i j)
  | row (o k off n : Nat) (a : Option Addr) (c : Nat) (hn : E.live o) (hc : n ≤ c) (hm : c ≤ maxLen) (hl : off + n ≤ E.len o)
      (ha : 0 < n → ∃ b, E.conc o = some b ∧ a = some ⟨b, off * k, none⟩)
      (h0 : off = 0 → (a = none ∧ c = 0 ∧ E.conc o = none) ∨ ∃ b, E.conc o = some b ∧ a = some ⟨b, 0, none⟩ ∧ c = E.cap o) : RepV E w (.slice a n c) (.row o k off n)
  | dptr (k : Nat) (cs : List D) (j : Nat) (ad : Addr) (u : Nat → Value) (hok : E.ok ad.block)
      (hcell : ∀ i, i < k → w.cell? (ad.add i) = some (u i)) (hl : cs.length = k) (hu : ∀ i d, cs[i]? = some d → RepD E.ok w (u i) d) : RepV E w (.pointer (some (ad.add j))) (.dptr k cs j)
  | fn (f : FuncId) (vs : List Value) (ds : List V) (hl : vs.length = ds.length) (h : ∀ (i : Nat) (v : Value) (d : V), vs[i]? = some v → ds[i]? = some d → RepV E w v d) : RepV E w (.func (.func f) #[] vs.toArray) (.fn f ds)

def RepL (E : Env) (w : World) (vs : List Value) (ds : List V) : Prop :=
  vs.length = ds.length ∧ ∀ (i : Nat) (v : Value) (d : V), vs[i]? = some v → ds[i]? = some d → RepV E w v d

/-- The block of an object. -/
def ObAt (E : Env) (w : World) (o : Nat) : Ob → Prop
  | .box cs => E.len o = 1 ∧ ∃ b C t, E.conc o = some b ∧ w.heap[b]? = some (.cells C t (0, 0)) ∧ RepL E w C.toList cs
  | .raw x => E.len o = 1 ∧ ∃ b, E.conc o = some b ∧ w.heap[b]? = some x
  | .row t k n el => E.len o = n ∧ ((E.conc o = none ∧ n = 0) ∨
      ∃ b C, E.conc o = some b ∧ w.heap[b]? = some (.cells C t (0, 0)) ∧ C.size = E.cap o * k ∧ n ≤ E.cap o ∧ E.cap o ≤ maxLen ∧
        (∀ i, i < n → (el i).length = k) ∧ (∀ i j u, i < n → j < k → C[i * k + j]? = some u → u.oneCell' = true) ∧ ∀ i j d u, i < n → (el i)[j]? = some d → C[i * k + j]? = some u → RepD E.ok w u d)

structure HeapAt (E : Env) (w : World) (H : Heap) : Prop where
  at_ : ∀ o ob, H.get o = some ob → E.live o ∧ ObAt E w o ob
  inj : ∀ o o' b, E.live o → E.live o' → E.conc o = some b → E.conc o' = some b → o = o'
  sep : ∀ o b, E.live o → E.conc o = some b → ¬ E.ok b
  lt : ∀ o b, E.live o → E.conc o = some b → b < w.heap.size
  oklt : ∀ b, E.ok b → b < w.heap.size

theorem heap_lt {w : World} {b : Nat} {x : Obj} (h : w.heap[b]? = some x) : b < w.heap.size := (Array.getElem?_eq_some_iff.1 h).1

theorem add_add (a : Addr) (i j : Nat) : (a.add i).add j = a.add (i + j) := by
  unfold Addr.add
  by_cases hi : i = 0 <;> by_cases hj : j = 0 <;> simp [hi, hj, Nat.add_assoc]
theorem add_block (a : Addr) (n : Nat) : (a.add n).block = a.block := by unfold Addr.add; split <;> rfl
theorem add_plain (b o n : Nat) : (Addr.add ⟨b, o, none⟩ n) = ⟨b, o + n, none⟩ := by
  unfold Addr.add; split
  · next h => subst h; rfl
  · rfl

/-- How a step moves on: what it leaves as it was. -/
structure Step (E : Env) (w : World) (kl : List Nat) (E' : Env) (w' : World) : Prop where
  os : w'.os = w.os
  tape : w'.tape = w.tape
  output : w'.output = w.output
  size : w.heap.size ≤ w'.heap.size
  live : ∀ o, E.live o → E'.live o
  /-- blocks that are no own object's stay -/
  blk : ∀ b, b < w.heap.size → (∀ o, E.live o → E.conc o ≠ some b) → w'.heap[b]? = w.heap[b]?
  ok : ∀ b, E.ok b → E'.ok b
  okold : ∀ b, E'.ok b → E.ok b ∨ w.heap.size ≤ b
  conc : ∀ o, E.live o → o ∉ kl → E'.conc o = E.conc o ∧ E'.cap o = E.cap o ∧ E'.len o = E.len o
  /-- new or moved objects lie in new blocks or where they lay -/
  concnew : ∀ o b, E'.live o → E'.conc o = some b → (∃ q, E.live q ∧ E.conc q = some b) ∨ w.heap.size ≤ b

theorem cell_of_heap {w w' : World} {a : Addr} (h : w'.heap[a.block]? = w.heap[a.block]?) : w'.cell? a = w.cell? a := by simp [World.cell?, h]

theorem RepD.mono {ok ok' : Nat → Prop} {w w' : World} (hok : ∀ b, ok b → ok' b) (hw : ∀ b, ok b → w'.heap[b]? = w.heap[b]?) {v : Value} {d : D} (h : RepD ok w v d) : RepD ok' w' v d := by
  induction h with
  | unk v => exact .unk v
  | nil => exact .nil
  | lit v => exact .lit v
  | opt b us => exact .opt b us
  | sl a n c k el u hc hm ha ho hl hu ih =>
    refine .sl a n c k el u hc hm (fun hn => ?_) ho hl ih
    obtain ⟨ad, h1, h2, h3⟩ := ha hn
    exact ⟨ad, h1, hok _ h2, fun i j hi hj => (cell_of_heap (by rw [add_block]; exact hw _ h2)).trans (h3 i j hi hj)⟩

theorem kills_length (o : Nat) : ∀ vs : List V, (V.kills o vs).length = vs.length
  | [] => rfl
  | _ :: r => by simp [V.kills, kills_length o r]
theorem kills_get (o : Nat) : ∀ (vs : List V) (i : Nat), (V.kills o vs)[i]? = (vs[i]?).map (V.kill o)
  | [], i => by simp [V.kills]
  | v :: r, 0 => by simp [V.kills]
  | v :: r, i + 1 => by simp [V.kills, kills_get o r i]

/-- All references to the objects of a list are forgotten. -/
def V.killAll : List Nat → V → V
  | [], v => v
  | o :: r, v => V.killAll r (v.kill o)

theorem RepV.kill1 {E : Env} {w : World} (o : Nat) {v : Value} {d : V} (h : RepV E w v d) : RepV E w v (d.kill o) := by
  induction h with
  | c v d h => exact .c v d h
  | agg vs ds hl h ih =>
    rw [V.kill]
    refine .agg _ _ (by rw [kills_length, hl]) fun i v d hv hd => ?_
    rw [kills_get] at hd
    cases hx : ds[i]? with
    | none => rw [hx] at hd; cases hd
    | some x => rw [hx] at hd; cases hd; exact ih i v x hv hx
  | tup vs ds hl h ih =>
    rw [V.kill]
    refine .tup _ _ (by rw [kills_length, hl]) fun i v d hv hd => ?_
    rw [kills_get] at hd
    cases hx : ds[i]? with
    | none => rw [hx] at hd; cases hd
    | some x => rw [hx] at hd; cases hd; exact ih i v x hv hx
  | ptr o' k i j b hn hb hi =>
    rw [V.kill]
    cases Nat.beq o' o
    · exact .ptr o' k i j b hn hb hi
    · exact .c _ _ (.unk _)
  | row o' k off n a c hn hc hm hl ha h0 =>
    rw [V.kill]
    cases Nat.beq o' o
    · exact .row o' k off n a c hn hc hm hl ha h0
    · exact .c _ _ (.unk _)
  | dptr k cs j ad u hok hcell hl hu => exact .dptr k cs j ad u hok hcell hl hu
  | fn f vs ds hl h ih =>
    rw [V.kill]
    refine .fn _ _ _ (by rw [kills_length, hl]) fun i v d hv hd => ?_
    rw [kills_get] at hd
    cases hx : ds[i]? with
    | none => rw [hx] at hd; cases hd
    | some x => rw [hx] at hd; cases hd; exact ih i v x hv hx

theorem RepV.killAll {E : Env} {w : World} {v : Value} : ∀ (kl : List Nat) {d : V}, RepV E w v d → RepV E w v (d.killAll kl)
  | [], _, h => h
  | o :: r, _, h => RepV.killAll r (h.kill1 o)

/-- Does the value name one of the objects? -/
def Clean (kl : List Nat) (d : V) : Prop := ∀ o ∈ d.refs, o ∉ kl

theorem refss_mem {o : Nat} : ∀ {vs : List V} {i : Nat} {v : V}, vs[i]? = some v → o ∈ v.refs → o ∈ V.refss vs
  | [], i, v, h, _ => by simp at h
  | x :: r, 0, v, h, ho => by simp at h; subst h; simp [V.refss, ho]
  | x :: r, i + 1, v, h, ho => by
    simp only [V.refss, List.mem_append]
    exact .inr (refss_mem (by simpa using h) ho)

theorem RepV.mono {E E' : Env} {w w' : World} {kl : List Nat} (hok : ∀ b, E.ok b → E'.ok b) (hw : ∀ b, E.ok b → w'.heap[b]? = w.heap[b]?) (hlive : ∀ o, E.live o → E'.live o)
    (hc : ∀ o, E.live o → o ∉ kl → E'.conc o = E.conc o ∧ E'.cap o = E.cap o ∧ E'.len o = E.len o) {v : Value} {d : V} (h : RepV E w v d) (hd : Clean kl d) : RepV E' w' v d := by
  induction h with
  | c v d h => exact .c v d (h.mono hok hw)
  | agg vs ds hl h ih => exact .agg _ _ hl fun i v d hv hd' => ih i v d hv hd' fun o ho => hd o (by rw [V.refs]; exact refss_mem hd' ho)
  | tup vs ds hl h ih => exact .tup _ _ hl fun i v d hv hd' => ih i v d hv hd' fun o ho => hd o (by rw [V.refs]; exact refss_mem hd' ho)
  | ptr o k i j b hn hb hi =>
    obtain ⟨h1, _, h3⟩ := hc o hn (hd o (by simp [V.refs]))
    exact .ptr o k i j b (hlive o hn) (h1.trans hb) (by rw [h3]; exact hi)
  | row o k off n a c hn hcc hm hl ha h0 =>
    obtain ⟨h1, h2, h3⟩ := hc o hn (hd o (by simp [V.refs]))
    refine .row o k off n a c (hlive o hn) hcc hm (by rw [h3]; exact hl) (by rw [h1]; exact ha) (by rw [h1, h2]; exact h0)
  | dptr k cs j ad u hok' hcell hl hu =>
    exact .dptr k cs j ad u (hok _ hok') (fun i hi => (cell_of_heap (by rw [add_block]; exact hw _ hok')).trans (hcell i hi)) hl fun i d hd' => (hu i d hd').mono hok hw
  | fn f vs ds hl h ih => exact .fn _ _ _ hl fun i v d hv hd' => ih i v d hv hd' fun o ho => hd o (by rw [V.refs]; exact refss_mem hd' ho)

mutual
theorem kill_refs (o : Nat) : ∀ d : V, ∀ x ∈ (d.kill o).refs, x ∈ d.refs ∧ x ≠ o
  | .c _ => by simp [V.kill, V.refs]
  | .agg vs => by simp only [V.kill, V.refs]; exact kills_refs o vs
  | .tup vs => by simp only [V.kill, V.refs]; exact kills_refs o vs
  | .ptr o' k i j => by
    intro x hx
    rw [V.kill] at hx
    cases h : Nat.beq o' o
    · rw [h] at hx
      simp [V.refs] at hx ⊢
      subst hx
      exact ⟨rfl, fun e => by subst e; simp at h⟩
    · rw [h] at hx; simp [V.refs] at hx
  | .row o' k i j => by
    intro x hx
    rw [V.kill] at hx
    cases h : Nat.beq o' o
    · rw [h] at hx
      simp [V.refs] at hx ⊢
      subst hx
      exact ⟨rfl, fun e => by subst e; simp at h⟩
    · rw [h] at hx; simp [V.refs] at hx
  | .dptr .. => by simp [V.kill, V.refs]
  | .fn _ vs => by simp only [V.kill, V.refs]; exact kills_refs o vs
theorem kills_refs (o : Nat) : ∀ vs : List V, ∀ x ∈ V.refss (V.kills o vs), x ∈ V.refss vs ∧ x ≠ o
  | [] => by simp [V.kills, V.refss]
  | v :: r => by
    intro x hx
    simp only [V.kills, V.refss, List.mem_append] at hx ⊢
    rcases hx with hx | hx
    · exact ⟨.inl (kill_refs o v x hx).1, (kill_refs o v x hx).2⟩
    · exact ⟨.inr (kills_refs o r x hx).1, (kills_refs o r x hx).2⟩
end

theorem killAll_clean : ∀ (kl : List Nat) (d : V), (∀ x ∈ (d.killAll kl).refs, x ∈ d.refs) ∧ Clean kl (d.killAll kl)
  | [], d => ⟨fun _ h => h, fun _ _ => by simp⟩
  | o :: r, d => by
    obtain ⟨h1, h2⟩ := killAll_clean r (d.kill o)
    refine ⟨fun x hx => (kill_refs o d x (h1 x hx)).1, fun x hx => ?_⟩
    have := (kill_refs o d x (h1 x hx)).2
    simp [this, h2 x hx]

theorem RepV.step {E E' : Env} {w w' : World} {kl : List Nat} (H : Step E w kl E' w') (hsep : ∀ o b, E.live o → E.conc o = some b → ¬ E.ok b) (hlt : ∀ b, E.ok b → b < w.heap.size)
    {v : Value} {d : V} (h : RepV E w v d) : RepV E' w' v (d.killAll kl) :=
  (h.killAll kl).mono H.ok (fun b hb => H.blk b (hlt b hb) fun o ho hc => hsep o b ho hc hb) H.live H.conc (killAll_clean kl d).2

end Go.Ax
