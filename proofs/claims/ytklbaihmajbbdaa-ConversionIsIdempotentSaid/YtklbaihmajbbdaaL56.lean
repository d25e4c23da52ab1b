import Derived.Test.YtklbaihmajbbdaaL55
import Derived.Test.YtklbaihmajbbdaaL40
set_option linter.all false
/- Converting leaves no pair, and is idempotent. -/
set_option maxRecDepth 100000
namespace Go.Ax

theorem gdj {α : Type} {p q : Prop} {o : Option α} (h : q) : gd (p → q) o = o := gd_pos fun _ => h
theorem fixL_sn {S R : Type} {f : S → Option (S ⊕ R)} (st : Nat → S) (n : Nat) (fin : R) (hs : ∀ i, i < n → f (st i) = some (.inl (st (i + 1)))) (he : f (st n) = some (.inr fin)) : fixL f (st 0) = some fin := by
  have : ∀ m i, i + m = n → fixL f (st i) = some fin := by
    intro m
    induction m with
    | zero => intro i h; rw [fixL_eq, show i = n by omega, he]; rfl
    | succ m ih => intro i h; rw [fixL_eq, hs i (by omega)]; exact ih (i + 1) (by omega)
  exact this n 0 (by omega)
theorem conv_mem {l : List GNet} (h : UniqL l) {x : GNet} (hx : x ∈ convL l) : ∃ y ∈ l, goneB l y = false ∧ x = setA y (newA l y) := by
  rw [convL_uniq h] at hx
  obtain ⟨y, hy, rfl⟩ := List.mem_map.1 hx
  obtain ⟨h1, h2⟩ := List.mem_filter.1 hy
  exact ⟨y, h1, by simpa using h2, rfl⟩
theorem newA_pos {l : List GNet} {x : GNet} (hb : x.Benefit = 1) (h : 0 < newA l x) : oldB x = true := by
  by_cases ho : oldB x = true
  · exact ho
  · unfold newA at h
    rw [if_neg ho] at h
    exact absurd (oldB_iff.2 ⟨hb, h⟩) ho
theorem conv_nopair {l : List GNet} (h : UniqL l) {x y : GNet} (hx : x ∈ convL l) (hy : y ∈ convL l) (ho : oldB x = true) : disB x y = false := by
  obtain ⟨x0, hx0, _, rfl⟩ := conv_mem h hx
  obtain ⟨y0, hy0, hg, rfl⟩ := conv_mem h hy
  obtain ⟨a, b⟩ := oldB_iff.1 ho
  have ho0 : oldB x0 = true := newA_pos a b
  cases hd : disB (setA x0 (newA l x0)) (setA y0 (newA l y0)) with
  | false => rfl
  | true =>
    have hd0 : disB x0 y0 = true := hd
    have : goneB l y0 = true := List.any_eq_true.2 ⟨x0, hx0, by rw [ho0, hd0]; rfl⟩
    rw [this] at hg
    cases hg
theorem conv_uniq {l : List GNet} (h : UniqL l) : UniqL (convL l) := by
  rw [convL_uniq h]
  exact List.pairwise_map.2 ((List.Pairwise.filter _ h).imp fun q => q)
theorem conv_len {l : List GNet} (h : UniqL l) : (convL l).length ≤ l.length := by
  rw [convL_uniq h, List.length_map]
  exact List.length_filter_le _ _
theorem conv_twice {l : List GNet} (h : UniqL l) : convL (convL l) = convL l := by
  rw [convL_uniq (conv_uniq h)]
  have e1 : (convL l).filter (fun x => !goneB (convL l) x) = convL l := by
    refine List.filter_eq_self.2 fun x hx => ?_
    have : goneB (convL l) x = false := by
      unfold goneB
      refine List.any_eq_false.2 fun y hy => ?_
      cases ho : oldB y with
      | false => simp
      | true => rw [conv_nopair h hy hx ho]; simp
    rw [this]; rfl
  rw [e1]
  have : ∀ x ∈ convL l, setA x (newA (convL l) x) = id x := by
    intro x hx
    have hn : newA (convL l) x = x.Amount := by
      unfold newA
      split
      · next ho =>
        have : (convL l).findIdx? (disB x) = none := List.findIdx?_eq_none_iff.2 fun y hy => conv_nopair h hx hy ho
        rw [this]
      · rfl
    rw [hn]
    rfl
  rw [List.map_congr_left this, List.map_id]
/-- How many of the first i stay. -/
def keptN (l : List GNet) (i : Nat) : Nat := ((l.take i).filter fun x => !goneB l x).length
theorem kept_split {l : List GNet} {i : Nat} (hi : i < l.length) : (l.filter fun x => !goneB l x) = ((l.take i).filter fun x => !goneB l x) ++ ((if goneB l l[i] then [] else [l[i]]) ++ (l.drop (i + 1)).filter fun x => !goneB l x) := by
  have e : l = l.take i ++ l[i] :: l.drop (i + 1) := by rw [← List.drop_eq_getElem_cons hi, List.take_append_drop]
  have e2 : (l.filter fun x => !goneB l x) = (l.take i ++ l[i] :: l.drop (i + 1)).filter fun x => !goneB l x := by rw [← e]
  rw [e2, List.filter_append, List.filter_cons]
  cases hg : goneB l l[i] <;> rfl
theorem keptN_succ {l : List GNet} {i : Nat} (hi : i < l.length) : keptN l (i + 1) = keptN l i + (if goneB l l[i] then 0 else 1) := by
  unfold keptN
  rw [List.take_succ_eq_append_getElem hi, List.filter_append, List.length_append]
  cases hg : goneB l l[i] with
  | true => simp [hg]
  | false => simp [hg]
theorem law_ConversionIsIdempotent (r : List GPensionlaw22_Raw) (hr : r.length ≤ 9223372036854775807) : law22_ConversionIsIdempotent r = some true := by
  show law22_ConversionIsIdempotent_p4 r = _
  unfold law22_ConversionIsIdempotent_p4
  have hl := netsL_len true r
  have hu := nets_uniq r
  rw [law22_Nets_eq r true hr, Option.bind_some]
  generalize netsL true r = l at hl hu
  have hn := conv_len hu
  rw [conversion_Convert_eq l (by omega), Option.bind_some, law22_awake_eq, Option.bind_some, Bool.not_true, cond_false, conversion_Convert_eq _ (by omega), Option.bind_some, conv_twice hu, Same_Net_self _ (by omega), Option.bind_some]
  show (fixL (law22_ConversionIsIdempotent_l1 l (convL l)) ((0 : Int), (0 : Int))).bind _ = _
  have hcl : (convL l).length = (l.filter fun x => !goneB l x).length := by rw [convL_uniq hu, List.length_map]
  have hget : ∀ c (hc : c < (convL l).length), ∃ hc2 : c < (l.filter fun x => !goneB l x).length, (convL l)[c].State = (l.filter fun x => !goneB l x)[c].State ∧ (convL l)[c].Benefit = (l.filter fun x => !goneB l x)[c].Benefit := by
    intro c hc
    refine ⟨by omega, ?_⟩
    have e := convL_uniq hu
    have : (convL l)[c] = ((l.filter fun x => !goneB l x).map fun x => setA x (newA l x))[c]'(by rw [← e]; exact hc) := by
      congr 1
    rw [this, List.getElem_map]
    exact ⟨rfl, rfl⟩
  have hloop : fixL (law22_ConversionIsIdempotent_l1 l (convL l)) ((0 : Int), (0 : Int)) = some (.inr ((convL l).length : Int)) := by
    refine fixL_sn (f := law22_ConversionIsIdempotent_l1 l (convL l)) (fun i => ((keptN l i : Int), (i : Int))) l.length _ ?_ ?_
    · intro i hi
      show law22_ConversionIsIdempotent_p0 l (convL l) (keptN l i) i = some (Sum.inl ((keptN l (i + 1) : Int), ((i + 1 : Nat) : Int)))
      have hs := kept_split hi
      have hk : keptN l i ≤ i := by
        unfold keptN
        have := List.length_filter_le (fun x => !goneB l x) (l.take i)
        rw [List.length_take] at this
        omega
      unfold law22_ConversionIsIdempotent_p0
      rw [lt_len hi, cond_true]
      simp only [gdj (show (0 : Int) ≤ (keptN l i : Int) from by omega), gdj (show (0 : Int) ≤ (i : Int) from by omega), gdj (show (i : Int) < ((l.length : Nat) : Int) from by omega), gd_pos (idx_ok hi)]
      have ga : ∀ (b : Bool), (((decide ((keptN l i : Int) < (((convL l).length : Nat) : Int))) && b) = true → (keptN l i : Int) < (((convL l).length : Nat) : Int)) := by
        intro b hb
        rw [Bool.and_eq_true] at hb
        simpa using hb.1
      have gb : ∀ (b b' : Bool), (((bif (decide ((keptN l i : Int) < (((convL l).length : Nat) : Int))) then b else false) && b') = true → (keptN l i : Int) < (((convL l).length : Nat) : Int)) := by
        intro b b' hb
        rw [Bool.and_eq_true] at hb
        rcases Int.lt_or_le (keptN l i : Int) (((convL l).length : Nat) : Int) with c | c
        · exact c
        · rw [decide_eq_false (by omega), cond_false] at hb
          cases hb.1
      rw [gd_pos (ga _), gd_pos (gb _ _), getD_nat0 l zGNet i hi, Nat.zero_add, w64_succ (by omega)]
      cases hg : goneB l l[i] with
      | false =>
        rw [hg, if_neg (by simp), List.singleton_append] at hs
        have hc2 : keptN l i < (l.filter fun x => !goneB l x).length := by
          rw [hs]
          unfold keptN
          simp
        obtain ⟨q0, q1, q2⟩ := hget (keptN l i) (by omega)
        have hel : (l.filter fun x => !goneB l x)[keptN l i] = l[i] := by
          have : (l.filter fun x => !goneB l x)[keptN l i]? = some l[i] := by
            unfold keptN
            rw [hs, List.getElem?_append_right (Nat.le_refl _), Nat.sub_self]
            rfl
          rw [List.getElem?_eq_getElem hc2] at this
          exact Option.some.inj this
        rw [hel] at q1 q2
        rw [lt_len (show keptN l i < (convL l).length by omega), cond_true, Int.toNat_natCast, getD_el (convL l) zGNet (show keptN l i < (convL l).length by omega), q1, q2, beq_self_eq_true, beq_self_eq_true, cond_true, cond_true, w64_succ (by omega), keptN_succ hi, hg]
        rfl
      | true =>
        rw [hg, if_pos rfl, List.nil_append] at hs
        have hb2 : l[i].Benefit = 2 := by
          obtain ⟨y, hy, e⟩ := List.any_eq_true.1 hg
          rw [Bool.and_eq_true] at e
          exact (disB_iff.1 e.2).2.1
        have hcond : (bif (bif (decide ((keptN l i : Int) < (((convL l).length : Nat) : Int))) then (((convL l).getD (Int.toNat (keptN l i : Int)) zGNet).State == l[i].State) else false) then (((convL l).getD (Int.toNat (keptN l i : Int)) zGNet).Benefit == l[i].Benefit) else false) = false := by
          rw [cond_and, cond_and]
          by_cases c : keptN l i < (convL l).length
          · obtain ⟨q0, q1, q2⟩ := hget (keptN l i) c
            rw [Int.toNat_natCast, getD_el (convL l) zGNet c, q1, q2]
            have hmem : (l.filter fun x => !goneB l x)[keptN l i] ∈ l.drop (i + 1) := by
              have : (l.filter fun x => !goneB l x)[keptN l i]? = ((l.drop (i + 1)).filter fun x => !goneB l x)[0]? := by
                unfold keptN
                rw [hs, List.getElem?_append_right (Nat.le_refl _), Nat.sub_self]
              rw [List.getElem?_eq_getElem q0] at this
              exact (List.mem_filter.1 (List.mem_of_getElem? this.symm)).1
            obtain ⟨j, hj, ej⟩ := List.mem_iff_getElem.1 hmem
            rw [List.length_drop] at hj
            rw [List.getElem_drop] at ej
            rw [← ej]
            cases hx : (l[i + 1 + j].State == l[i].State && l[i + 1 + j].Benefit == l[i].Benefit) with
            | false => rw [Bool.and_assoc, hx, Bool.and_false]
            | true =>
              rw [Bool.and_eq_true, beq_iff_eq, beq_iff_eq] at hx
              have := hu.eq (show i + 1 + j < l.length by omega) hi hx.1 hx.2
              omega
          · rw [decide_eq_false (show ¬ (keptN l i : Int) < (((convL l).length : Nat) : Int) by omega)]
            rfl
        rw [hcond, cond_false, hb2, show ((2 : Int) != 2) = false from rfl, cond_false, keptN_succ hi, hg, w64_succ (show i < 9223372036854775807 by omega)]
        rfl
    · show law22_ConversionIsIdempotent_p0 l (convL l) (keptN l l.length) l.length = _
      unfold law22_ConversionIsIdempotent_p0
      rw [not_lt_len, cond_false]
      unfold keptN
      rw [List.take_length, hcl]
  rw [hloop, Option.bind_some]
  show some (((convL l).length : Int) == (((convL l).length : Nat) : Int)) = some true
  rw [beq_self_eq_true]

/-! ### No pair is left -/
def bestF (x : GNet) (p : List GNet) : Int := p.foldl (fun b y => if (y.State == x.State && y.Currency == x.Currency) && y.Benefit != 3 then max b y.Amount else b) 0
theorem bestF_succ (x : GNet) {l : List GNet} {i : Nat} (hi : i < l.length) : bestF x (l.take (i + 1)) = if (l[i].State == x.State && l[i].Currency == x.Currency) && l[i].Benefit != 3 then max (bestF x (l.take i)) l[i].Amount else bestF x (l.take i) := by
  unfold bestF
  rw [List.take_succ_eq_append_getElem hi, List.foldl_append]
  rfl
theorem bestF_spec (x : GNet) : ∀ (l : List GNet) (M : Int), (∀ y ∈ l, y.State = x.State → y.Currency = x.Currency → y.Benefit ≠ 3 → y.Amount ≤ M) → ∀ b, b ≤ M → l.foldl (fun b y => if (y.State == x.State && y.Currency == x.Currency) && y.Benefit != 3 then max b y.Amount else b) b ≤ M ∧ b ≤ l.foldl (fun b y => if (y.State == x.State && y.Currency == x.Currency) && y.Benefit != 3 then max b y.Amount else b) b ∧
    ∀ y ∈ l, y.State = x.State → y.Currency = x.Currency → y.Benefit ≠ 3 → y.Amount ≤ l.foldl (fun b y => if (y.State == x.State && y.Currency == x.Currency) && y.Benefit != 3 then max b y.Amount else b) b
  | [], M, _, b, hb => ⟨hb, Int.le_refl _, fun y hy => by simp at hy⟩
  | z :: l, M, h, b, hb => by
    rw [List.foldl_cons]
    have hz := h z List.mem_cons_self
    by_cases hc : ((z.State == x.State && z.Currency == x.Currency) && z.Benefit != 3) = true
    · rw [if_pos hc]
      rw [Bool.and_eq_true, Bool.and_eq_true, beq_iff_eq, beq_iff_eq, bne_iff_ne] at hc
      have := hz hc.1.1 hc.1.2 hc.2
      obtain ⟨a1, a2, a3⟩ := bestF_spec x l M (fun y hy => h y (List.mem_cons_of_mem _ hy)) (max b z.Amount) (by omega)
      refine ⟨a1, by omega, fun y hy => ?_⟩
      rcases List.mem_cons.1 hy with rfl | hy
      · intro _ _ _; omega
      · exact a3 y hy
    · rw [if_neg hc]
      obtain ⟨a1, a2, a3⟩ := bestF_spec x l M (fun y hy => h y (List.mem_cons_of_mem _ hy)) b hb
      refine ⟨a1, a2, fun y hy => ?_⟩
      rcases List.mem_cons.1 hy with rfl | hy
      · intro q1 q2 q3
        exact absurd (by rw [beq_iff_eq.2 q1, beq_iff_eq.2 q2, bne_iff_ne.2 q3]; rfl) hc
      · exact a3 y hy
theorem best_new {l : List GNet} (h : UniqL l) (hg : ∀ x ∈ l, netB x) {x : GNet} (hx : x ∈ l) (hb : x.Benefit = 1) (hp : newA l x ≠ 0) (a : Int) : bestF (setA x a) l = newA l x := by
  have hx0 := (hg x hx).2
  obtain ⟨i, hi, ei⟩ := List.mem_iff_getElem.1 hx
  have hone : ∀ y ∈ l, y.State = x.State → y.Benefit = 1 → y = x := by
    intro y hy h1 h2
    obtain ⟨j, hj, ej⟩ := List.mem_iff_getElem.1 hy
    have := h.eq hj hi (by rw [ej, ei, h1]) (by rw [ej, ei, h2, hb])
    subst this
    rw [← ej, ei]
  have hge : x.Amount ≤ newA l x := by
    unfold newA
    split
    · split <;> omega
    · omega
  have hold : oldB x = true := newA_pos (l := l) hb (by omega)
  have hle : ∀ y ∈ l, y.State = x.State → y.Currency = x.Currency → y.Benefit ≠ 3 → y.Amount ≤ newA l x := by
    intro y hy h1 h2 h3
    have hyb := (hg y hy).1
    by_cases hy1 : y.Benefit = 1
    · rw [hone y hy h1 hy1]; exact hge
    · have hd : disB x y = true := disB_iff.2 ⟨h1, by omega, h2⟩
      unfold newA
      rw [if_pos hold]
      cases hf : l.findIdx? (disB x) with
      | none =>
        rw [List.findIdx?_eq_none_iff] at hf
        rw [hf y hy] at hd
        cases hd
      | some k =>
        obtain ⟨hk, hq, _⟩ := List.findIdx?_eq_some_iff_getElem.1 hf
        obtain ⟨j, hj, ej⟩ := List.mem_iff_getElem.1 hy
        have q1 := disB_iff.1 hq
        have q2 := disB_iff.1 hd
        have : j = k := h.eq hj hk (by rw [ej, q1.1, q2.1]) (by rw [ej, q1.2.1, q2.2.1])
        subst this
        show y.Amount ≤ max x.Amount (l.getD j zGNet).Amount
        rw [getD_el l zGNet hj, ej]
        omega
  obtain ⟨a1, a2, a3⟩ := bestF_spec (setA x a) l (newA l x) hle 0 (by omega)
  have hatt : newA l x ≤ bestF (setA x a) l := by
    have hxx := a3 x hx rfl rfl (by omega)
    unfold newA
    rw [if_pos hold]
    cases hf : l.findIdx? (disB x) with
    | none => exact hxx
    | some k =>
      obtain ⟨hk, hq, _⟩ := List.findIdx?_eq_some_iff_getElem.1 hf
      have q1 := disB_iff.1 hq
      have := a3 l[k] (List.getElem_mem hk) q1.1 q1.2.2 (by omega)
      show max x.Amount (l.getD k zGNet).Amount ≤ _
      rw [getD_el l zGNet hk]
      have hxx : x.Amount ≤ bestF (setA x a) l := hxx
      have : l[k].Amount ≤ bestF (setA x a) l := this
      omega
  have a1 : bestF (setA x a) l ≤ newA l x := a1
  omega
theorem nopair_loop2 (l n : List GNet) (i0 : Int) (hn : n.length ≤ 1000) {i : Nat} (hi : i < n.length) (h : ∀ y ∈ n, ¬ (y.State = n[i].State ∧ y.Benefit = 2 ∧ y.Currency = n[i].Currency)) :
    fixL (law22_ConversionLeavesNoPair_l2 l n i0) ((i : Int), (0 : Int)) = some (.inr (i : Int)) := by
  refine fixL_sn (f := law22_ConversionLeavesNoPair_l2 l n i0) (fun k => ((i : Int), (k : Int))) n.length _ ?_ ?_
  · intro k hk
    show law22_ConversionLeavesNoPair_p1 l n i k = _
    unfold law22_ConversionLeavesNoPair_p1
    rw [lt_len hk, cond_true]
    simp only [gdj (show (0 : Int) ≤ (k : Int) from by omega), gdj (show (0 : Int) ≤ (i : Int) from by omega), gdj (show (i : Int) < ((n.length : Nat) : Int) from by omega), gdj (show (k : Int) < ((n.length : Nat) : Int) from by omega), gd_pos (idx_ok hi), gd_pos (idx_ok hk)]
    rw [getD_nat0 n zGNet i hi, getD_nat0 n zGNet k hk, w64_succ (by omega), cond_and, cond_and]
    have : ((n[k].State == n[i].State && n[k].Benefit == 2) && n[k].Currency == n[i].Currency) = false := by
      cases hc : ((n[k].State == n[i].State && n[k].Benefit == 2) && n[k].Currency == n[i].Currency) with
      | false => rfl
      | true =>
        rw [Bool.and_eq_true, Bool.and_eq_true, beq_iff_eq, beq_iff_eq, beq_iff_eq] at hc
        exact absurd ⟨hc.1.1, hc.1.2, hc.2⟩ (h n[k] (List.getElem_mem hk))
    rw [this, cond_false]
  · show law22_ConversionLeavesNoPair_p1 l n i n.length = _
    unfold law22_ConversionLeavesNoPair_p1
    rw [not_lt_len, cond_false]
theorem nopair_loop3 (l n : List GNet) (i0 : Int) (hl : l.length ≤ 1000) {i : Nat} (hi : i < n.length) :
    fixL (law22_ConversionLeavesNoPair_l3 l n i0) ((i : Int), (0 : Int), (0 : Int)) = some ((i : Int), bestF n[i] l) := by
  have := fixL_sn (f := law22_ConversionLeavesNoPair_l3 l n i0) (fun k => ((i : Int), bestF n[i] (l.take k), (k : Int))) l.length ((i : Int), bestF n[i] l) ?_ ?_
  · exact this
  · intro k hk
    show law22_ConversionLeavesNoPair_p2 l n i (bestF n[i] (l.take k)) k = some (Sum.inl ((i : Int), bestF n[i] (l.take (k + 1)), ((k + 1 : Nat) : Int)))
    unfold law22_ConversionLeavesNoPair_p2
    rw [lt_len hk, cond_true]
    simp only [gdj (show (0 : Int) ≤ (k : Int) from by omega), gdj (show (0 : Int) ≤ (i : Int) from by omega), gdj (show (i : Int) < ((n.length : Nat) : Int) from by omega), gdj (show (k : Int) < ((l.length : Nat) : Int) from by omega), gd_pos (idx_ok hi), gd_pos (idx_ok hk)]
    rw [getD_nat0 n zGNet i hi, getD_nat0 l zGNet k hk, w64_succ (by omega), cond_and, cond_and, bestF_succ _ hk, max_eq]
    by_cases hc : ((l[k].State == n[i].State && l[k].Currency == n[i].Currency) && l[k].Benefit != 3) = true
    · rw [hc, cond_true, if_pos rfl]
    · rw [if_neg hc]
      have hc : ((l[k].State == n[i].State && l[k].Currency == n[i].Currency) && l[k].Benefit != 3) = false := by simpa using hc
      rw [hc, cond_false]
  · show law22_ConversionLeavesNoPair_p2 l n i (bestF n[i] (l.take l.length)) l.length = _
    unfold law22_ConversionLeavesNoPair_p2
    rw [not_lt_len, cond_false, List.take_length]
theorem law_ConversionLeavesNoPair (r : List GPensionlaw22_Raw) (hr : r.length ≤ 9223372036854775807) : law22_ConversionLeavesNoPair r = some true := by
  show law22_ConversionLeavesNoPair_p12 r = _
  unfold law22_ConversionLeavesNoPair_p12
  have hl := netsL_len true r
  have hu := nets_uniq r
  have hg := nets_good true r
  rw [law22_Nets_eq r true hr, Option.bind_some]
  generalize netsL true r = l at hl hu hg
  have hn := conv_len hu
  rw [conversion_Convert_eq l (by omega), Option.bind_some, law22_awake_eq, Option.bind_some, Bool.not_true, cond_false]
  show (fixL (law22_ConversionLeavesNoPair_l1 l (convL l)) (((0 : Nat)) : Int)).bind _ = _
  have hloop : fixL (law22_ConversionLeavesNoPair_l1 l (convL l)) (((0 : Nat)) : Int) = some (.inl ()) := by
    refine fixL_sn (f := law22_ConversionLeavesNoPair_l1 l (convL l)) (fun i => (i : Int)) (convL l).length _ ?_ ?_
    · intro i hi
      show law22_ConversionLeavesNoPair_p9 l (convL l) i = some (Sum.inl ((i + 1 : Nat) : Int))
      unfold law22_ConversionLeavesNoPair_p9
      rw [lt_len hi, cond_true]
      show law22_ConversionLeavesNoPair_p7 l (convL l) i = _
      have e0 : law22_ConversionLeavesNoPair_p0 l (convL l) i = some (Sum.inl ((i + 1 : Nat) : Int)) := by
        unfold law22_ConversionLeavesNoPair_p0
        rw [w64_succ (by omega)]
      unfold law22_ConversionLeavesNoPair_p7
      rw [gd_pos (idx_ok hi), gdj (show (0 : Int) ≤ (i : Int) from by omega), gdj (show (i : Int) < (((convL l).length : Nat) : Int) from by omega), getD_nat0 (convL l) zGNet i hi, e0]
      obtain ⟨x, hx, hgx, ex⟩ := conv_mem hu (List.getElem_mem hi)
      by_cases h1 : ¬ (convL l)[i].Benefit = 1
      · rw [bne_iff_ne.2 h1]; rfl
      have h1 := Classical.not_not.1 h1
      rw [show ((convL l)[i].Benefit != 1) = false from by rw [h1]; rfl, cond_false]
      by_cases h2 : (convL l)[i].Amount = 0
      · rw [beq_iff_eq.2 h2, cond_true]
      rw [beq_eq_false_iff_ne.2 h2, cond_false]
      have hxb : x.Benefit = 1 := by rw [ex] at h1; exact h1
      have hxa : newA l x ≠ 0 := by rw [ex] at h2; exact h2
      have hge : 0 ≤ newA l x := by
        have := (hg x hx).2
        unfold newA
        split
        · split <;> omega
        · omega
      have hold : oldB (convL l)[i] = true := by
        rw [ex]
        refine oldB_iff.2 ⟨hxb, ?_⟩
        show 0 < newA l x
        omega
      show (fixL (law22_ConversionLeavesNoPair_l2 l (convL l) i) ((i : Int), (0 : Int))).bind _ = _
      rw [nopair_loop2 l (convL l) i (by omega) hi (fun y hy hc => by
        have := conv_nopair hu (List.getElem_mem hi) hy hold
        rw [disB_iff.2 hc] at this
        cases this), Option.bind_some]
      show (fixL (law22_ConversionLeavesNoPair_l3 l (convL l) i) ((i : Int), (0 : Int), (0 : Int))).bind _ = _
      rw [nopair_loop3 l (convL l) i (by omega) hi, Option.bind_some]
      show law22_ConversionLeavesNoPair_p3 l (convL l) i (bestF (convL l)[i] l) = _
      unfold law22_ConversionLeavesNoPair_p3
      have hbest : bestF (convL l)[i] l = (convL l)[i].Amount := by
        rw [ex, best_new hu hg hx hxb hxa]
        rfl
      rw [gd_pos (idx_ok hi), getD_nat0 (convL l) zGNet i hi, hbest, bne_self_eq_false, cond_false, e0]
    · show law22_ConversionLeavesNoPair_p9 l (convL l) (convL l).length = _
      unfold law22_ConversionLeavesNoPair_p9
      rw [not_lt_len, cond_false]
  rw [hloop]
  rfl
end Go.Ax
