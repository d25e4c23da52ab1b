import Derived.Test.YtefjkielgagknaaGreatL8
set_option linter.all false
/- The other text's merge; which lists are merged; lists compared. -/
set_option maxRecDepth 100000
namespace Go.Ax
open Go.Proofs

theorem ref12_Less_eq {a b : GFact} (ha : validB a = true) (hb : validB b = true) (he : ideq a b) : ref12_Less a b = some (decide (lessF a b)) := by
  show ref12_Less_p0 a b = _
  unfold ref12_Less_p0
  rw [ref12_Valid_eq, Option.bind_some, ref12_Valid_eq b, ha, hb, gd_pos (by intro _; rfl)]
  simp only [Bool.not_true, Option.getD_some, cond_false]
  rw [ref12_ID_eq ha hb, Option.bind_some, (idv_zero a b).2 he]
  rw [show ((0 : Int) != 0) = false from rfl, cond_false, ref12_Bytes_eq, Option.bind_some, ref12_Bytes_eq, Option.bind_some]
  have va := valid_ids ha
  have vb := valid_ids hb
  have hl : Op.bytesLess (bytesL (bytesF a)).toList (bytesL (bytesF b)).toList = decide (lessF a b) := by
    rw [ByteArray.toList_eq, ByteArray.toList_eq]
    have := bytesLess_lt (bytesF a) (bytesF b) (bytesF_byte a) (bytesF_byte b)
    rw [Bool.eq_iff_iff, decide_eq_true_eq]
    unfold lessF
    rw [← this]
    simp [bytesL]
  by_cases hv : a.Version = b.Version
  · have : (a.Version != b.Version) = false := by simpa using hv
    rw [this, cond_false, hl]
  · have : (a.Version != b.Version) = true := by simpa using hv
    rw [this, cond_true]
    congr 1
    rw [decide_eq_decide]
    -- the version comes behind the identity
    have key : ∀ {f g : GFact}, validB f = true → validB g = true → ideq f g → f.Version < g.Version → lessF f g := by
      intro f g hf hg h hlt
      have vf := valid_ids hf
      have vg := valid_ids hg
      unfold lessF bytesF headF
      rw [if_pos hf, if_pos hg, h.1, h.2]
      simp only [bigL, List.cons_append, List.nil_append, List.append_assoc, ltB, byteK]
      right; refine ⟨trivial, ?_⟩
      right; refine ⟨trivial, ?_⟩
      right; refine ⟨trivial, ?_⟩
      left
      omega
    constructor
    · intro h; exact key ha hb he h
    · intro h
      by_cases h' : a.Version < b.Version
      · exact h'
      · exact (lessF_irrefl _ (lessF_trans h (key hb ha (ideq_symm he) (by omega)))).elim

/-- How far a fact comes in. -/
noncomputable def bnd (out : List GFact) (f : GFact) : Nat → Nat
  | 0 => 0
  | n + 1 => if 0 < idv (out.getD n zGFact) f then bnd out f n else n + 1
theorem bnd_le (out : List GFact) (f : GFact) : ∀ n, bnd out f n ≤ n
  | 0 => Nat.le_refl _
  | n + 1 => by
    unfold bnd
    split
    · have := bnd_le out f n; omega
    · exact Nat.le_refl _
theorem bnd_above (out : List GFact) (f : GFact) : ∀ n i, bnd out f n ≤ i → i < n → idlt f (out.getD i zGFact)
  | 0, i, _, h => by omega
  | n + 1, i, h1, h2 => by
    unfold bnd at h1
    split at h1
    · next hp =>
      by_cases hi : i = n
      · subst hi; exact (idv_pos _ _).1 hp
      · exact bnd_above out f n i h1 (by omega)
    · omega
theorem bnd_at (out : List GFact) (f : GFact) : ∀ n, 0 < bnd out f n → ¬ idlt f (out.getD (bnd out f n - 1) zGFact)
  | 0, h => by simp [bnd] at h
  | n + 1, h => by
    unfold bnd at h ⊢
    split
    · next hp => rw [if_pos hp] at h; exact bnd_at out f n h
    · next hp => intro hc; exact hp ((idv_pos _ _).2 (by simpa using hc))

theorem w64_nat {n : Int} (h : -4611686018427387904 ≤ n) (h' : n ≤ 4611686018427387904) : w64 n = n := w64_in (by omega) (by omega)

theorem merge_back (a b out out8 : List GFact) (i i6 at1 : Int) (f : GFact) (hf : validB f = true) (vo : Valids out) (hn : out.length ≤ 1000000) : ∀ (n : Nat), n ≤ out.length →
    fixL (ref12_Merge_l2 a b out8 i6 at1 f) (out, i, (n : Int)) = some (out, i, (bnd out f n : Int))
  | 0, _ => by
    rw [fixL_eq]
    show (ref12_Merge_p1 a b out i ((0 : Nat) : Int) f).bind _ = _
    unfold ref12_Merge_p1
    rw [show decide ((0 : Int) < ((0 : Nat) : Int)) = false from rfl, gd_pos (by intro h; simp at h), gd_pos (by intro h; simp at h), gd_pos (by intro h; simp at h)]
    rfl
  | n + 1, h => by
    have hlt : n < out.length := by omega
    have e : w64 (((n + 1 : Nat) : Int) - 1) = (n : Int) := by rw [w64_nat (by omega) (by omega)]; omega
    have hv : validB (out.getD n zGFact) = true := by
      rw [List.getD_eq_getElem?_getD, List.getElem?_eq_getElem hlt]
      exact vo _ (List.getElem_mem hlt)
    have hd : decide ((0 : Int) < ((n + 1 : Nat) : Int)) = true := by simp
    rw [fixL_eq]
    show (ref12_Merge_p1 a b out i ((n + 1 : Nat) : Int) f).bind _ = _
    unfold ref12_Merge_p1
    rw [e, hd, Nat.zero_add, Int.toNat_natCast, ref12_ID_eq hv hf, gd_pos (by intro _; omega), gd_pos (by intro _; omega), gd_pos (by intro _; rfl)]
    simp only [cond_true, Option.getD_some]
    unfold bnd
    by_cases hp : 0 < idv (out.getD n zGFact) f
    · rw [if_pos hp]
      simp only [hp, decide_true, cond_true, Option.bind_some]
      exact merge_back a b out out8 i i6 at1 f hf vo hn n (by omega)
    · rw [if_neg hp, decide_eq_false hp]
      rfl

/-- Where a fact goes. -/
theorem mergeL_insert (f : GFact) : ∀ (p s : List GFact), (∀ g ∈ p, idlt g f) → (∀ g ∈ s, idlt f g) → mergeL (p ++ s) [f] = p ++ f :: s
  | [], [], _, _ => by simp [mergeL]
  | [], y :: s, _, hs => by
    have h := hs y (by simp)
    rw [List.nil_append, mergeL]
    rcases cmpI_cases y f with ⟨hc, e⟩ | ⟨hc, e⟩ | ⟨hc, e⟩
    · exact (idlt_asymm h hc).elim
    · exact (idlt_not_eq h (ideq_symm hc)).elim
    · rw [if_neg (by omega), if_pos (by omega), mergeL]
      rfl
  | x :: p, s, hp, hs => by
    have h := hp x (by simp)
    rw [List.cons_append, mergeL]
    rcases cmpI_cases x f with ⟨hc, e⟩ | ⟨hc, e⟩ | ⟨hc, e⟩
    · rw [if_pos (by omega), mergeL_insert f p s (fun g hg => hp g (by simp [hg])) hs]
      rfl
    · exact (idlt_not_eq h hc).elim
    · exact (idlt_asymm h hc).elim
theorem mergeL_nil_r : ∀ l : List GFact, mergeL l [] = l
  | [] => by rw [mergeL]
  | x :: l => by rw [mergeL]
theorem mergeL_same (f q : GFact) (he : ideq q f) : ∀ (p s : List GFact), (∀ g ∈ p, idlt g f) → mergeL (p ++ q :: s) [f] = p ++ greaterF q f :: s
  | [], s, _ => by
    rw [List.nil_append, mergeL]
    rcases cmpI_cases q f with ⟨hc, e⟩ | ⟨hc, e⟩ | ⟨hc, e⟩
    · exact (idlt_not_eq hc he).elim
    · rw [if_neg (by omega), if_neg (by omega), mergeL_nil_r]; rfl
    · exact (idlt_not_eq hc (ideq_symm he)).elim
  | x :: p, s, hp => by
    have h := hp x (by simp)
    rw [List.cons_append, mergeL]
    rcases cmpI_cases x f with ⟨hc, e⟩ | ⟨hc, e⟩ | ⟨hc, e⟩
    · rw [if_pos (by omega), mergeL_same f q he p s (fun g hg => hp g (by simp [hg]))]
      rfl
    · exact (idlt_not_eq h hc).elim
    · exact (idlt_asymm h hc).elim

theorem getD_app_right {T : Type} (p s : List T) (x z : T) : (p ++ x :: s).getD p.length z = x := by
  rw [List.getD_eq_getElem?_getD, List.getElem?_append_right (Nat.le_refl _)]
  simp
theorem sub_front {T : Type} (z : T) (p s : List T) : subL z (p ++ s) 0 p.length = p := by
  rw [subL_take (by simp)]
  simp
theorem sub_back {T : Type} (z : T) (p s : List T) : subL z (p ++ s) p.length s.length = s := by
  rw [subL_take (by simp)]
  simp
theorem asc_before : ∀ {p : List GFact} {q : GFact} {s : List GFact}, Asc (p ++ q :: s) → ∀ g ∈ p, idlt g q := by
  intro p q s h g hg
  unfold Asc at h
  rw [List.pairwise_append] at h
  exact h.2.2 g hg q (by simp)

theorem merge_step (a b out : List GFact) (i : Int) (f : GFact) (hf : validB f = true) (vo : Valids out) (ho : Asc out) (hn : out.length ≤ 900000) :
    ref12_Merge_p3 a b out i (out.length : Int) f = some (.inl (mergeL out [f], w64 (i + 1))) := by
  show (fixL (ref12_Merge_l2 a b out i (out.length : Int) f) (out, i, (out.length : Int))).bind _ = _
  rw [merge_back a b out out i i (out.length : Int) f hf vo (by omega) out.length (Nat.le_refl _), Option.bind_some]
  show ref12_Merge_p2 a b out i (bnd out f out.length : Int) f = _
  have hle := bnd_le out f out.length
  have habove := bnd_above out f out.length
  have hat := bnd_at out f out.length
  generalize bnd out f out.length = k at hle habove hat
  -- the list is parted
  obtain ⟨p, s, hps, hp⟩ : ∃ p s, out = p ++ s ∧ p.length = k := ⟨out.take k, out.drop k, (List.take_append_drop k out).symm, by rw [List.length_take]; omega⟩
  have hs : ∀ g ∈ s, idlt f g := by
    intro g hg
    obtain ⟨j, hj⟩ := List.getElem?_of_mem hg
    have hjl := (List.getElem?_eq_some_iff.1 hj).1
    have := habove (k + j) (by omega) (by rw [hps, List.length_append]; omega)
    rw [hps, List.getD_eq_getElem?_getD, List.getElem?_append_right (by omega), hp, Nat.add_sub_cancel_left, hj] at this
    exact this
  -- where nothing of its identity is there
  have ins : (∀ g ∈ p, idlt g f) → (gd ((0 : Int) ≤ (0 : Int) ∧ (0 : Int) ≤ (k : Int) ∧ (k : Int) ≤ ((out.length : Nat) : Int)) (gd (capB (Int.toNat ((k : Int) - (0 : Int))) 112) (gd (capB ((Int.toNat ((k : Int) - (0 : Int))) + 1) 112) (gd ((0 : Int) ≤ (k : Int) ∧ (k : Int) ≤ ((out.length : Nat) : Int) ∧ ((out.length : Nat) : Int) ≤ ((out.length : Nat) : Int)) (gd (capB (((Int.toNat ((k : Int) - (0 : Int))) + 1) + (Int.toNat (((out.length : Nat) : Int) - (k : Int)))) 112) ((ref12_Merge_p0 a b (((subL zGFact out 0 (Int.toNat ((k : Int) - (0 : Int)))) ++ ([f] : List GFact)) ++ (subL zGFact out (0 + (Int.toNat (k : Int))) (Int.toNat (((out.length : Nat) : Int) - (k : Int))))) i)))))) : Option (((List GFact) × Int) ⊕ (((List GFact))))) = some (.inl (mergeL out [f], w64 (i + 1))) := by
    intro hlt
    have e1 : Int.toNat ((k : Int) - 0) = k := by omega
    have e2 : Int.toNat (((out.length : Nat) : Int) - (k : Int)) = s.length := by rw [hps, List.length_append]; omega
    rw [e1, e2, Nat.zero_add, Int.toNat_natCast]
    have hl : k + s.length = out.length := by rw [hps, List.length_append, hp]
    rw [gd_pos (by omega), gd_pos (capF (by omega)), gd_pos (capF (by omega)), gd_pos (by omega), gd_pos (capF (by omega))]
    rw [hps, ← hp, sub_front, sub_back, mergeL_insert f p s hlt hs]
    show some _ = _
    simp
  unfold ref12_Merge_p2
  cases k with
  | zero =>
    have hp0 : p = [] := List.eq_nil_of_length_eq_zero hp
    rw [show ((0 : Nat) : Int) = 0 from rfl] at ins ⊢
    rw [show decide ((0 : Int) < 0) = false from rfl, gd_pos (by intro h; simp at h), gd_pos (by intro h; simp at h), gd_pos (by intro h; simp at h)]
    simp only [cond_false]
    exact ins (by rw [hp0]; simp)
  | succ n =>
    -- the one before
    obtain ⟨p', q, hq⟩ : ∃ p' q, p = p' ++ [q] := ⟨p.dropLast, p.getLast (by intro e; rw [e] at hp; simp at hp), (List.dropLast_concat_getLast _).symm⟩
    have hp' : p'.length = n := by rw [hq] at hp; simpa using hp
    have hout : out = p' ++ q :: s := by rw [hps, hq]; simp
    have hget : out.getD n zGFact = q := by rw [hout, ← hp']; exact getD_app_right p' s q zGFact
    have hvq : validB q = true := vo q (by rw [hout]; simp)
    have hnot : ¬ idlt f q := by
      have := hat (by omega)
      rw [Nat.add_sub_cancel, hget] at this
      exact this
    have hbef : ∀ g ∈ p', idlt g q := asc_before (hout ▸ ho)
    have e : w64 (((n + 1 : Nat) : Int) - 1) = (n : Int) := by rw [w64_nat (by omega) (by omega)]; omega
    have hd : decide ((0 : Int) < ((n + 1 : Nat) : Int)) = true := by simp
    have hlen : n < out.length := by omega
    rw [e, hd, Nat.zero_add, Int.toNat_natCast, hget, ref12_ID_eq hvq hf, gd_pos (by intro _; omega), gd_pos (by intro _; omega), gd_pos (by intro _; rfl)]
    simp only [cond_true, Option.getD_some]
    by_cases hz : ideq q f
    · rw [(idv_zero q f).2 hz, show ((0 : Int) == 0) = true from rfl, cond_true, gd_pos (by omega), ref12_Less_eq hvq hf hz, Option.bind_some, gd_pos (by omega)]
      have hms : mergeL out [f] = p' ++ greaterF q f :: s := by
        rw [hout]
        exact mergeL_same f q hz p' s fun g hg => idlt_eq (hbef g hg) hz
      rw [hms]
      by_cases hl : lessF q f
      · simp only [hl, decide_true, cond_true]
        have : out.set n f = p' ++ f :: s := by
          rw [hout, ← hp', List.set_append_right _ _ (Nat.le_refl _)]
          simp
        rw [this]
        show some _ = _
        unfold greaterF
        rw [if_pos hl]
      · simp only [hl, decide_false, cond_false]
        show some _ = _
        unfold greaterF
        rw [if_neg hl, hout]
    · have : (idv q f == 0) = false := by
        have : idv q f ≠ 0 := fun h => hz ((idv_zero q f).1 h)
        simpa using this
      rw [this, cond_false]
      refine ins fun g hg => ?_
      have hqf : idlt q f := by
        rcases cmpI_cases q f with ⟨hc, _⟩ | ⟨hc, _⟩ | ⟨hc, _⟩
        · exact hc
        · exact (hz hc).elim
        · exact (hnot hc).elim
      rw [hq] at hg
      rcases List.mem_append.1 hg with hg | hg
      · exact idlt_trans (hbef g hg) hqf
      · simp at hg; subst hg; exact hqf

theorem merge_item (a b out : List GFact) (i : Int) (f : GFact) (vo : Valids out) (ho : Asc out) (hn : out.length ≤ 900000) :
    ref12_Merge_p4 a b out i f = some (.inl (if validB f then mergeL out [f] else out, w64 (i + 1))) := by
  unfold ref12_Merge_p4
  rw [ref12_Valid_eq, Option.bind_some]
  cases hv : validB f with
  | false => rfl
  | true =>
    simp only [Bool.not_true, cond_false, if_true]
    exact merge_step a b out i f hv vo ho hn

theorem ref12_Merge_eq (a b : List GFact) (ha : a.length ≤ 400000) (hb : b.length ≤ 400000) : ref12_Merge a b = some (ascL (a ++ b)) := by
  show (fixL (ref12_Merge_l1 a b) ([], (0 : Int))).bind _ = _
  have hlen : w64 (((a.length : Nat) : Int) + ((b.length : Nat) : Int)) = (((a ++ b).length : Nat) : Int) := by rw [w64_nat (by omega) (by omega), List.length_append]; omega
  have key : ∀ (n i : Nat), (a ++ b).length = i + n → fixL (ref12_Merge_l1 a b) (ascL ((a ++ b).take i), (i : Int)) = some (ascL (a ++ b)) := by
    intro n
    induction n with
    | zero =>
      intro i h
      have : i = (a ++ b).length := by omega
      subst this
      rw [fixL_eq]
      show (ref12_Merge_p7 a b _ _).bind _ = _
      unfold ref12_Merge_p7
      rw [hlen, not_lt_len, cond_false, List.take_length]
      rfl
    | succ n ih =>
      intro i h
      have hi : i < (a ++ b).length := by omega
      have hil : (a ++ b).length = a.length + b.length := List.length_append
      have ht : (a ++ b).take (i + 1) = (a ++ b).take i ++ [(a ++ b)[i]] := by rw [List.take_add_one, List.getElem?_eq_getElem hi]; rfl
      have ih' := ih (i + 1) (by omega)
      rw [ht, ascL_snoc] at ih'
      have hl2 : (ascL ((a ++ b).take i)).length ≤ 900000 := Nat.le_trans (ascL_length _) (by rw [List.length_take]; omega)
      have hm := ascL_ok ((a ++ b).take i)
      rw [fixL_eq]
      show (ref12_Merge_p7 a b _ _).bind _ = _
      unfold ref12_Merge_p7 ref12_Merge_p6 ref12_Merge_p5
      rw [hlen, lt_len hi, cond_true]
      by_cases hia : i < a.length
      · rw [lt_len hia, cond_true, gd_pos (idx_ok hia), getD_nat a _ i hia, merge_item a b _ _ _ hm.valids hm.asc hl2, Option.bind_some, w64_succ (by omega)]
        rw [List.getElem_append_left hia] at ih'
        exact ih'
      · have e : decide ((i : Int) < (a.length : Int)) = false := by simp; omega
        have ew : w64 ((i : Int) - ((a.length : Nat) : Int)) = ((i - a.length : Nat) : Int) := by rw [w64_nat (by omega) (by omega)]; omega
        have hib : i - a.length < b.length := by omega
        rw [e, cond_false, ew, gd_pos (idx_ok hib), getD_nat b _ _ hib, merge_item a b _ _ _ hm.valids hm.asc hl2, Option.bind_some, w64_succ (by omega)]
        rw [List.getElem_append_right (by omega)] at ih'
        exact ih'
  have := key (a ++ b).length 0 (by omega)
  rw [show ((0 : Nat) : Int) = 0 from rfl] at this
  rw [show ([] : List GFact) = ascL ((a ++ b).take 0) from rfl, this]
  rfl
theorem careerMerge_ref (a b : List GFact) : careerMerge a b = ascL (a ++ b) := (careerMerge_ok a b).uniq (ascL_ok (a ++ b)) fun _ => Iff.rfl
end Go.Ax
