import Derived.Test.YtchffdmfiffifaaBx2
import Derived.ProofKit
import Derived.JoinedOf
/- The arguments of a claim, as abstract values; from a contract to a row. -/
namespace Go.Ax
open Go.RowKit Go.ChangeShapes Go.WideShapes

/-- Do the fields tile the cells? -/
def tiles (P : Program) : List Field → Nat → Nat → Bool
  | [], off, total => Nat.beq off total
  | f :: r, off, total => Nat.beq f.offset off && tiles P r (off + P.cellsOf f.type) total

/-- Types of numbers, bools, strings, and structs, arrays, slices of such. -/
def plainB (P : Program) : Nat → TypeId → Bool
  | 0, _ => false
  | d + 1, t =>
    match P.underlying t with
    | some .bool => Nat.beq (P.cellsOf t) 1
    | some (.int _) => Nat.beq (P.cellsOf t) 1
    | some .string => Nat.beq (P.cellsOf t) 1
    | some (.slice e) => Nat.beq (P.cellsOf t) 1 && Nat.blt 0 (P.cellsOf e) && plainB P d e
    | some (.struct fs) => tiles P fs.toList 0 (P.cellsOf t) && fs.toList.all fun f => plainB P d f.type
    | some (.array n e) => Nat.beq (n * P.cellsOf e) (P.cellsOf t) && plainB P d e
    | _ => false

def zcs (P : Program) (e : TypeId) : List D := match zeroD P e with | some z => z | none => []

def eachField (S : TypeId → List D → Prop) : List Field → List D → Prop
  | [], ds => ds = []
  | f :: r, ds => ∃ a b, ds = a ++ b ∧ S f.type a ∧ eachField S r b
def eachPart (S : List D → Prop) : Nat → List D → Prop
  | 0, ds => ds = []
  | n + 1, ds => ∃ a b, ds = a ++ b ∧ S a ∧ eachPart S n b

/-- Cells of a type. -/
def Shp (P : Program) : Nat → TypeId → List D → Prop
  | 0, _, _ => False
  | d + 1, t, ds =>
    match P.underlying t with
    | some .bool => ∃ b, ds = [db b]
    | some (.int k) => ∃ n, ds = [.lit (.int k n)] ∧ k.min ≤ n ∧ n ≤ k.max
    | some .string => ∃ s : ByteArray, ds = [.lit (.string s)] ∧ s.size ≤ maxLen
    | some (.slice e) => ∃ n el, ds = [.sl (P.cellsOf e) n el] ∧ n ≤ maxLen ∧ (∀ i, i < n → Shp P d e (el i)) ∧ ∀ i, n ≤ i → el i = zcs P e
    | some (.struct fs) => eachField (Shp P d) fs.toList ds
    | some (.array n e) => eachPart (Shp P d e) n ds
    | _ => False

/-- Cells, as data. -/
structure Reads (ok : Nat → Prop) (w : World) (cs : List Value) (ds : List D) : Prop where
  len : ds.length = cs.length
  one : ∀ v ∈ cs, v.oneCell' = true
  rep : ∀ (i : Nat) (v : Value) (x : D), cs[i]? = some v → ds[i]? = some x → RepD ok w v x

section
variable {P : Program} {w : World} {ok : Nat → Prop} {H : Type} {enc : TypeId × Value → H}

theorem Reads.single {v : Value} {x : D} (h1 : v.oneCell' = true) (h : RepD ok w v x) : Reads ok w [v] [x] := by
  refine ⟨rfl, fun u hu => by simp at hu; subst hu; exact h1, fun i u y hu hy => ?_⟩
  match i with
  | 0 => simp at hu hy; subst hu; subst hy; exact h
  | i + 1 => simp at hu

theorem Reads.append {cs cs' : List Value} {ds ds' : List D} (h : Reads ok w cs ds) (h' : Reads ok w cs' ds') : Reads ok w (cs ++ cs') (ds ++ ds') := by
  refine ⟨by simp [h.len, h'.len], fun u hu => ?_, fun i v x hv hx => ?_⟩
  · rcases List.mem_append.1 hu with hu | hu
    · exact h.one u hu
    · exact h'.one u hu
  · rw [List.getElem?_append] at hv hx
    rw [h.len] at hx
    split at hv
    · next hlt => rw [if_pos hlt] at hx; exact h.rep i v x hv hx
    · next hge => rw [if_neg hge] at hx; exact h'.rep _ v x hv hx

theorem Reads.nil : Reads ok w [] [] := ⟨rfl, fun u hu => by simp at hu, fun i v x hv => by simp at hv⟩

theorem take_drop_split (cs : List Value) (off n m : Nat) : (cs.drop off).take (n + m) = (cs.drop off).take n ++ (cs.drop (off + n)).take m := by
  rw [List.take_add, List.drop_drop]

theorem mapM_cons_some {α β : Type} {f : α → Option β} {a : α} {l : List α} {ys : List β} (h : (a :: l).mapM f = some ys) : ∃ y r, f a = some y ∧ l.mapM f = some r ∧ ys = y :: r := by
  rw [List.mapM_cons] at h
  cases hy : f a with
  | none => rw [hy] at h; cases h
  | some y =>
    rw [hy] at h
    cases hr : l.mapM f with
    | none => simp [hr] at h
    | some r => simp [hr] at h; exact ⟨y, r, rfl, rfl, h.symm⟩

theorem mapM_get {α β : Type} {f : α → Option β} : ∀ {l : List α} {ys : List β}, l.mapM f = some ys → ys.length = l.length ∧ ∀ (i : Nat) (a : α), l[i]? = some a → ∃ y, ys[i]? = some y ∧ f a = some y
  | [], ys, h => by simp at h; subst h; exact ⟨rfl, fun i a ha => by simp at ha⟩
  | a :: l, ys, h => by
    obtain ⟨y, r, h1, h2, rfl⟩ := mapM_cons_some h
    obtain ⟨h3, h4⟩ := mapM_get h2
    refine ⟨by simp [h3], fun i b hb => ?_⟩
    match i with
    | 0 => simp at hb; subst hb; exact ⟨y, rfl, h1⟩
    | i + 1 => simp at hb; obtain ⟨z, hz, hf⟩ := h4 i b hb; exact ⟨z, by simpa using hz, hf⟩

theorem fields_reads {S : TypeId → List D → Prop} {X : Type} {g : TypeId → List Value → Option X} {cs : List Value} {ok' : TypeId → Bool}
    (ih : ∀ t cs' x, ok' t = true → g t cs' = some x → cs'.length = P.cellsOf t ∧ ∃ ds, Reads ok w cs' ds ∧ S t ds) :
    ∀ (fs : List Field) (off total : Nat) (xs : List X), tiles P fs off total = true → fs.all (fun f => ok' f.type) = true → cs.length = total → fs.mapM (fun f => g f.type ((cs.drop f.offset).take (P.cellsOf f.type))) = some xs →
      ∃ ds, Reads ok w (cs.drop off) ds ∧ eachField S fs ds
  | [], off, total, xs, ht, _, hl, _ => by
    unfold tiles at ht
    have : off = total := Nat.eq_of_beq_eq_true ht
    subst this
    refine ⟨[], ?_, rfl⟩
    rw [List.drop_of_length_le (by omega)]
    exact .nil
  | f :: r, off, total, xs, ht, hp, hl, h => by
    unfold tiles at ht
    simp only [Bool.and_eq_true] at ht
    have ho : f.offset = off := Nat.eq_of_beq_eq_true ht.1
    simp only [List.all_cons, Bool.and_eq_true] at hp
    obtain ⟨y, ys, h1, h2, rfl⟩ := mapM_cons_some h
    obtain ⟨g1, a, g2, g3⟩ := ih f.type _ y hp.1 h1
    obtain ⟨b, g4, g5⟩ := fields_reads ih r (off + P.cellsOf f.type) total ys ht.2 hp.2 hl h2
    refine ⟨a ++ b, ?_, a, b, rfl, g3, g5⟩
    rw [ho] at g2
    have e : cs.drop off = (cs.drop off).take (P.cellsOf f.type) ++ cs.drop (off + P.cellsOf f.type) := by
      rw [← List.drop_drop]; exact (List.take_append_drop _ _).symm
    rw [e]
    exact g2.append g4

theorem parts_reads {S : List D → Prop} {X : Type} {g : List Value → Option X} {cs : List Value} {k : Nat}
    (ih : ∀ cs' x, g cs' = some x → cs'.length = k ∧ ∃ ds, Reads ok w cs' ds ∧ S ds) :
    ∀ (n i0 : Nat) (xs : List X), cs.length = (i0 + n) * k → ((List.range n).map (i0 + ·)).mapM (fun i => g ((cs.drop (i * k)).take k)) = some xs →
      ∃ ds, Reads ok w (cs.drop (i0 * k)) ds ∧ eachPart S n ds
  | 0, i0, xs, hl, _ => by
    refine ⟨[], ?_, rfl⟩
    rw [List.drop_of_length_le (by rw [hl]; simp)]
    exact .nil
  | n + 1, i0, xs, hl, h => by
    have hr : (List.range (n + 1)).map (i0 + ·) = i0 :: (List.range n).map ((i0 + 1) + ·) := by
      rw [List.range_succ_eq_map, List.map_cons, List.map_map]
      congr 1
      exact List.map_congr_left fun a _ => by simp; omega
    rw [hr] at h
    obtain ⟨y, ys, h1, h2, rfl⟩ := mapM_cons_some h
    obtain ⟨g1, a, g2, g3⟩ := ih _ y h1
    obtain ⟨b, g4, g5⟩ := parts_reads ih n (i0 + 1) ys (by rw [hl]; congr 1; omega) h2
    refine ⟨a ++ b, ?_, a, b, rfl, g3, g5⟩
    have e : cs.drop (i0 * k) = (cs.drop (i0 * k)).take k ++ cs.drop ((i0 + 1) * k) := by
      rw [show (i0 + 1) * k = i0 * k + k by rw [Nat.add_mul, Nat.one_mul], ← List.drop_drop]; exact (List.take_append_drop _ _).symm
    rw [e]
    exact g2.append g4

theorem trod_reads (hok : ∀ b, b < w.heap.size → ok b) {base : Nat} {spare : Nat → Bool} {held : Bool} : ∀ (fuel d : Nat) (t : TypeId) (cs : List Value) (x : DataW H × List MemPlace),
    plainB P d t = true → DataW.trod enc P w base spare held fuel t cs = some x → cs.length = P.cellsOf t ∧ ∃ ds, Reads ok w cs ds ∧ Shp P d t ds := by
  intro fuel
  induction fuel with
  | zero => intro d t cs x _ h; simp [DataW.trod] at h
  | succ fuel ih =>
    intro d t cs x hpl h
    cases d with
    | zero => simp [plainB] at hpl
    | succ d =>
      unfold plainB at hpl
      unfold DataW.trod at h
      unfold Shp
      split at hpl
      · next hu =>
        rw [hu] at h
        simp only at h
        split at h <;> try (simp_all; done)
        next b _ => exact ⟨(Nat.eq_of_beq_eq_true hpl).symm, _, .single rfl (.lit _), b, rfl⟩
      · next k hu =>
        rw [hu] at h
        simp only at h
        split at h <;> try (simp_all; done)
        next k' k'' n he =>
          cases he
          split at h
          · next hc =>
            obtain ⟨rfl, hwf⟩ := hc
            simp only [Lit.wf, Bool.and_eq_true, decide_eq_true_eq] at hwf
            exact ⟨(Nat.eq_of_beq_eq_true hpl).symm, _, .single rfl (.lit _), n, rfl, hwf.1, hwf.2⟩
          · cases h
      · next hu =>
        rw [hu] at h
        simp only at h
        split at h <;> try (simp_all; done)
        next s _ =>
          split at h
          · next hc => exact ⟨(Nat.eq_of_beq_eq_true hpl).symm, _, .single rfl (.lit _), s, rfl, hc⟩
          · cases h
      · next e hu =>
        rw [hu] at h
        simp only at h
        simp only [Bool.and_eq_true] at hpl
        split at h <;> try (simp_all; done)
        · exact ⟨(Nat.eq_of_beq_eq_true hpl.1.1).symm, _, .single rfl (.sl none 0 0 (P.cellsOf e) (fun _ => zcs P e) (fun _ _ => undef) (Nat.le_refl _) (by simp [maxLen]) (fun h => by omega) (fun i j h => by omega) (fun i h => by omega) (fun i j d h => by omega)), 0, _, rfl, by simp [maxLen], fun i h => by omega, fun i _ => rfl⟩
        · next _ e' a len cap he =>
          cases he
          split at h
          · next hc =>
            obtain ⟨hbase, hlen, hcap⟩ := hc
            cases hm : (List.range len).mapM (fun i => (w.cells? base (a.add (i * P.cellsOf e)) (P.cellsOf e)).bind (DataW.trod enc P w base spare held fuel e)) with
            | none => rw [hm] at h; cases h
            | some elems =>
              obtain ⟨hl, hg⟩ := mapM_get hm
              have hel : ∀ i, i < len → ∃ us : List Value, w.cells? base (a.add (i * P.cellsOf e)) (P.cellsOf e) = some us ∧ us.length = P.cellsOf e ∧ ∃ ds, Reads ok w us ds ∧ Shp P d e ds := by
                intro i hi
                obtain ⟨y, _, hy⟩ := hg i i (by rw [List.getElem?_range hi])
                cases hcs : w.cells? base (a.add (i * P.cellsOf e)) (P.cellsOf e) with
                | none => rw [hcs] at hy; cases hy
                | some us =>
                  rw [hcs] at hy
                  obtain ⟨h1, h2⟩ := ih d e us y hpl.2 hy
                  exact ⟨us, rfl, h1, h2⟩
              have hcell : ∀ i us, w.cells? base (a.add (i * P.cellsOf e)) (P.cellsOf e) = some us → ∀ j, j < P.cellsOf e → w.cell? (a.add (i * P.cellsOf e + j)) = us[j]? := by
                intro i us hus j hj
                unfold World.cells? at hus
                split at hus
                · obtain ⟨_, hq⟩ := mapM_get hus
                  obtain ⟨y, hy, hw⟩ := hq j j (by rw [List.getElem?_range hj])
                  rw [hy, ← hw, add_add]
                · cases hus
              have hch : ∀ i, ∃ us ds, i < len → (w.cells? base (a.add (i * P.cellsOf e)) (P.cellsOf e) = some us ∧ us.length = P.cellsOf e ∧ Reads ok w us ds ∧ Shp P d e ds) := by
                intro i
                by_cases hi : i < len
                · obtain ⟨us, h1, h2, ds, h3, h4⟩ := hel i hi
                  exact ⟨us, ds, fun _ => ⟨h1, h2, h3, h4⟩⟩
                · exact ⟨[], [], fun h => (hi h).elim⟩
              let us : Nat → List Value := fun i => (hch i).choose
              let ds : Nat → List D := fun i => if i < len then (hch i).choose_spec.choose else zcs P e
              have hs : ∀ i, i < len → w.cells? base (a.add (i * P.cellsOf e)) (P.cellsOf e) = some (us i) ∧ (us i).length = P.cellsOf e ∧ Reads ok w (us i) (ds i) ∧ Shp P d e (ds i) := by
                intro i hi
                have := (hch i).choose_spec.choose_spec hi
                have e2 : ds i = (hch i).choose_spec.choose := if_pos hi
                rw [e2]; exact this
              refine ⟨(Nat.eq_of_beq_eq_true hpl.1.1).symm, [.sl (P.cellsOf e) len ds], .single rfl ?_, len, ds, rfl, Nat.le_trans hlen hcap, fun i hi => (hs i hi).2.2.2, fun i hi => if_neg (by omega)⟩
              by_cases h0 : 0 < len ∧ 0 < P.cellsOf e
              · have hblk : a.block < w.heap.size := by
                  have := hcell 0 (us 0) (hs 0 h0.1).1 0 h0.2
                  have hsome : (us 0)[0]?.isSome = true := by
                    rw [List.getElem?_eq_getElem (by rw [(hs 0 h0.1).2.1]; exact h0.2)]; rfl
                  rw [← this] at hsome
                  simp only [Nat.zero_mul, Nat.zero_add] at hsome
                  unfold World.cell? at hsome
                  cases hh : w.heap[(a.add 0).block]? with
                  | none => rw [hh] at hsome; simp at hsome
                  | some o =>
                    rw [add_block] at hh
                    exact heap_lt hh
                refine .sl (some a) len cap (P.cellsOf e) ds (fun i j => (us i).getD j undef) hlen hcap (fun _ => ⟨a, rfl, hok _ hblk, fun i j hi hj => ?_⟩) (fun i j hi hj => ?_) (fun i hi => ?_) (fun i j dd hi hd => ?_)
                · rw [hcell i (us i) (hs i hi).1 j hj]
                  rw [List.getD_eq_getElem?_getD, List.getElem?_eq_getElem (by rw [(hs i hi).2.1]; exact hj)]; rfl
                · refine (hs i hi).2.2.1.one _ ?_
                  rw [List.getD_eq_getElem?_getD, List.getElem?_eq_getElem (by rw [(hs i hi).2.1]; exact hj)]
                  exact List.getElem_mem _
                · rw [(hs i hi).2.2.1.len, (hs i hi).2.1]
                · have hj : j < (us i).length := by
                    rw [← (hs i hi).2.2.1.len]; exact (List.getElem?_eq_some_iff.1 hd).1
                  refine (hs i hi).2.2.1.rep j _ dd ?_ hd
                  rw [List.getD_eq_getElem?_getD, List.getElem?_eq_getElem hj]; rfl
              · -- no cells
                by_cases hl0 : len = 0
                · subst hl0
                  exact .sl (some a) 0 cap (P.cellsOf e) ds (fun _ _ => undef) hlen hcap (fun h => by omega) (fun i j h => by omega) (fun i h => by omega) (fun i j d h => by omega)
                · have := hpl.1.2
                  rw [Nat.blt_eq] at this
                  omega
          · cases h
      · next fs hu =>
        rw [hu] at h
        simp only at h
        simp only [Bool.and_eq_true] at hpl
        split at h
        · next hlen =>
          cases hm : fs.toList.mapM (fun f => DataW.trod enc P w base spare held fuel f.type ((cs.drop f.offset).take (P.cellsOf f.type))) with
          | none => rw [hm] at h; cases h
          | some xs =>
            refine ⟨hlen, ?_⟩
            have := fields_reads (P := P) (w := w) (ok := ok) (S := Shp P d) (g := fun t cs => DataW.trod enc P w base spare held fuel t cs) (cs := cs) (ok' := plainB P d) (fun t cs' x h1 h2 => ih d t cs' x h1 h2) fs.toList 0 (P.cellsOf t) xs hpl.1 hpl.2 hlen hm
            simpa using this
        · cases h
      · next n e hu =>
        rw [hu] at h
        simp only at h
        simp only [Bool.and_eq_true] at hpl
        split at h
        · next hlen =>
          cases hm : (List.range n).mapM (fun i => DataW.trod enc P w base spare held fuel e ((cs.drop (i * P.cellsOf e)).take (P.cellsOf e))) with
          | none => rw [hm] at h; cases h
          | some xs =>
            refine ⟨hlen, ?_⟩
            have hn : n * P.cellsOf e = P.cellsOf t := Nat.eq_of_beq_eq_true hpl.1
            have := parts_reads (w := w) (ok := ok) (S := Shp P d e) (g := fun cs => DataW.trod enc P w base spare held fuel e cs) (cs := cs) (k := P.cellsOf e) (fun cs' x h2 => ih d e cs' x hpl.2 h2) n 0 xs (by rw [hlen, Nat.zero_add, hn]) (by
              rw [show (List.range n).map (0 + ·) = List.range n from by simp]
              exact hm)
            simpa using this
        · cases h
      · cases hpl

/-- An argument of a type, as an abstract value. -/
def isAgT (P : Program) (t : TypeId) : Bool := match P.underlying t with | some (.struct _) => true | some (.array _ _) => true | _ => false
def ShpV (P : Program) (d : Nat) (t : TypeId) (v : V) : Prop := ∃ ds, Shp P d t ds ∧ v = (bif isAgT P t then .agg (ds.map .c) else .c (ds.headD .unk)) ∧ (isAgT P t = false → ∃ x, ds = [x])
def ShpVs (P : Program) (d : Nat) : List TypeId → List V → Prop
  | [], [] => True
  | t :: ts, v :: vs => ShpV P d t v ∧ ShpVs P d ts vs
  | _, _ => False

theorem reads_agg {E : Env} {cs : Array Value} {ds : List D} (h : Reads E.ok w cs.toList ds) : RepV E w (.agg cs) (.agg (ds.map .c)) := by
  have := RepV.agg (E := E) (w := w) cs.toList (ds.map .c) (by simp [h.len]) fun i v d hv hd => by
    rw [List.getElem?_map] at hd
    cases hx : ds[i]? with
    | none => rw [hx] at hd; cases hd
    | some x => rw [hx] at hd; cases hd; exact .c _ _ (h.rep i v x hv hx)
  simpa using this

theorem cellsOf_one {d : Nat} {t : TypeId} (hp : plainB P d t = true) (ha : isAgT P t = false) : P.cellsOf t = 1 := by
  cases d with
  | zero => simp [plainB] at hp
  | succ d =>
    unfold plainB at hp
    unfold isAgT at ha
    split at hp
    · exact Nat.eq_of_beq_eq_true hp
    · exact Nat.eq_of_beq_eq_true hp
    · exact Nat.eq_of_beq_eq_true hp
    · simp only [Bool.and_eq_true] at hp; exact Nat.eq_of_beq_eq_true hp.1.1
    · next fs hu => rw [hu] at ha; cases ha
    · next n e hu => rw [hu] at ha; cases ha
    · cases hp

theorem args_reads {ok : Nat → Prop} (hok : ∀ b, b < w.heap.size → ok b) {d : Nat} {base : Nat} {spare : Nat → Bool} {held : Bool} {wb : Nat} : ∀ (ts : List TypeId) (vs : List Value) (xs : List (DataW H)) (ps : List MemPlace),
    ts.all (plainB P d) = true → (∀ (j : Nat) t v, ts[j]? = some t → vs[j]? = some v → Value.okWide P w .any wb t v) → DataW.TrodAll enc P w base spare held ts vs xs ps → ∃ us, RepL (env0 ok) w vs us ∧ ShpVs P d ts us
  | [], vs, xs, ps, _, _, h => by
    cases vs with
    | nil => exact ⟨[], ⟨rfl, fun i v d hv => by simp at hv⟩, trivial⟩
    | cons v vs => cases xs <;> simp [DataW.TrodAll] at h
  | t :: ts, vs, xs, ps, hp, hv, h => by
    obtain ⟨v, vs1, x, xs1, p, q, rfl, rfl, rfl, h1, h2⟩ := trodAll_cons h
    simp only [List.all_cons, Bool.and_eq_true] at hp
    obtain ⟨us, g1, g2⟩ := args_reads hok ts vs1 xs1 q hp.2 (fun j t v ht hv' => hv (j + 1) t v (by simpa using ht) (by simpa using hv')) h2
    obtain ⟨fuel, hf⟩ := h1
    obtain ⟨hl, ds, hr, hs⟩ := trod_reads (ok := ok) hok fuel d t v.cells.toList (x, p) hp.1 hf
    have hw := hv 0 t v rfl rfl
    have key : ∃ u, RepV (env0 ok) w v u ∧ ShpV P d t u := by
      cases ha : isAgT P t with
      | true =>
        unfold Value.okWide at hw
        have : ∃ cs, v = .agg cs := by
          unfold isAgT at ha
          split at ha
          · next hu => rw [hu] at hw; obtain ⟨cs, hcs, _⟩ := hw; exact ⟨cs, hcs⟩
          · next hu => rw [hu] at hw; obtain ⟨cs, hcs, _⟩ := hw; exact ⟨cs, hcs⟩
          · cases ha
        obtain ⟨cs, rfl⟩ := this
        exact ⟨.agg (ds.map .c), reads_agg (E := env0 ok) hr, ds, hs, by rw [ha]; rfl, fun h => by rw [ha] at h; cases h⟩
      | false =>
        have h1 := cellsOf_one hp.1 ha
        rw [h1] at hl
        obtain ⟨y, rfl⟩ : ∃ y, ds = [y] := by
          have := hr.len; rw [hl] at this
          match ds, this with
          | [y], _ => exact ⟨y, rfl⟩
        have hcell : v.cells.toList = [v] := by
          cases v with
          | agg cs =>
            exfalso
            have hlen : cs.toList.length = 1 := hl
            obtain ⟨c, hc⟩ : ∃ c, cs.toList = [c] := by
              match hcs : cs.toList, hlen with
              | [c], _ => exact ⟨c, rfl⟩
            have hp1 := hp.1
            cases d with
            | zero => simp [plainB] at hp1
            | succ d =>
              unfold plainB at hp1
              cases hu : P.underlying t with
              | none => rw [hu] at hp1; cases hp1
              | some u =>
                rw [hu] at hp1
                unfold isAgT at ha
                rw [hu] at ha
                cases u <;> simp_all [Value.okWide, Cell.okWide, Cell.ok]
          | _ => rfl
        rw [hcell] at hr
        exact ⟨.c y, .c _ _ (hr.rep 0 v y rfl rfl), [y], hs, by rw [ha]; rfl, fun _ => ⟨y, rfl⟩⟩
    obtain ⟨u, k1, k2⟩ := key
    refine ⟨u :: us, ⟨by simp [g1.1], fun i v' d' hv' hd' => ?_⟩, k2, g2⟩
    match i with
    | 0 => simp at hv' hd'; subst hv'; subst hd'; exact k1
    | i + 1 => exact g1.2 i v' d' (by simpa using hv') (by simpa using hd')

theorem post_of_below {f : Func} {s : ChangeSpec} {apart fresh handsOn again : Bool} {W W' : World} {args : Array Value} {v : Value} {ds gs : List (DataW H)} {before pa pv : List MemPlace}
    (hW : DataW.Whole enc P f.params.toList s.vars apart W args.toList ds gs before)
    (hres : ∀ (b : Nat) (sp : Nat → Bool) (hd : Bool), DataW.TrodAll enc P W' b sp hd f.resultTypes.toList (v.resultList f.resultTypes.size) (s.fn H (ds ++ gs)).results [])
    (hargs : ∀ sp : Nat → Bool, (∀ p ∈ before, sp p.block = true) → DataW.TrodAll enc P W' 0 sp true f.params.toList args.toList (s.fn H (ds ++ gs)).args pa)
    (hvars : ∀ sp : Nat → Bool, (∀ p ∈ before, sp p.block = true) → DataW.TrodVars enc P W' sp s.vars (s.fn H (ds ++ gs)).vars pv)
    (hps : before = pa ++ pv) (hb : Below W.heap.size W W')
    (hok : ∀ (j : Nat) (t : TypeId) (r : Value), f.resultTypes[j]? = some t → (v.resultList f.resultTypes.size)[j]? = some r → Value.okWide P W' .any 0 t r) :
    s.post enc P f apart fresh handsOn again W args v W' := by
  have hlt : ∀ p ∈ before, p.block < W.heap.size := fun p hp => hW.lt p hp
  have hold : ∀ p ∈ before, (fun b => decide (b < W.heap.size)) p.block = true := fun p hp => by simpa using hlt p hp
  refine ⟨ds, gs, before, [], pa, pv, hW, hres _ _ _, hargs _ hold, hvars _ hold, World.keptBut_mono (fun p hp => ⟨hp, ?_⟩) (hb.frame (· ∈ before)), fun _ => ?_⟩
  · rw [hps, List.mem_append] at hp
    exact Or.inr hp
  · obtain ⟨_, _, _, _, _, hz, hn⟩ := hW
    refine ⟨hok, _, _, ([] ++ pa) ++ pv, ⟨[] ++ pa, pv, trodAll_append (hargs _ (fun _ _ => rfl)) (hres _ _ _), hvars _ (fun _ _ => rfl), rfl, ?_, ?_⟩, ?_⟩
    · intro b off hp
      have hin : MemPlace.cell b off ∈ before := by rw [hps]; simpa using hp
      rw [hb.frozen (hlt _ hin)]
      exact hz b off hin
    · intro ha
      have := hn ha
      rw [hps] at this
      simpa using this
    · intro p hp _
      rw [hps]
      simpa using hp
end
end Go.Ax
