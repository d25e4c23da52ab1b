import Derived.Test.YtklbaihmajbbdaaL30
import Derived.Test.YtklbaihmajbbdaaL31
set_option linter.all false
/- Converting a list in which each state and benefit stands once. -/
set_option maxRecDepth 100000
namespace Go.Ax

/-- Each state and benefit stands once. -/
def UniqL (l : List GNet) : Prop := l.Pairwise fun a b => ¬ (a.State = b.State ∧ a.Benefit = b.Benefit)
theorem UniqL.eq {l : List GNet} (h : UniqL l) {i j : Nat} (hi : i < l.length) (hj : j < l.length) (hs : l[i].State = l[j].State) (hb : l[i].Benefit = l[j].Benefit) : i = j := by
  rcases Nat.lt_trichotomy i j with c | c | c
  · exact absurd ⟨hs, hb⟩ (List.pairwise_iff_getElem.1 h i j hi hj c)
  · exact c
  · exact absurd ⟨hs.symm, hb.symm⟩ (List.pairwise_iff_getElem.1 h j i hj hi c)
def oldB (x : GNet) : Bool := x.Benefit == 1 && decide (0 < x.Amount)
def newA (l : List GNet) (x : GNet) : Int := if oldB x then (match l.findIdx? (disB x) with | some k => max x.Amount (l.getD k zGNet).Amount | none => x.Amount) else x.Amount
def goneB (p : List GNet) (x : GNet) : Bool := p.any fun y => oldB y && disB y x
theorem cntB_iff {x y : GNet} : cntB x y = true ↔ y.State = x.State ∧ y.Benefit = 1 ∧ 0 < y.Amount := by
  unfold cntB
  simp [and_assoc]
theorem disB_iff {x y : GNet} : disB x y = true ↔ y.State = x.State ∧ y.Benefit = 2 ∧ y.Currency = x.Currency := by
  unfold disB
  simp [and_assoc]
theorem oldB_iff {x : GNet} : oldB x = true ↔ x.Benefit = 1 ∧ 0 < x.Amount := by
  unfold oldB
  simp
theorem ix_iff {l : List GNet} (h : UniqL l) {i : Nat} (hi : i < l.length) : ixL (cntB l[i]) l = (i : Int) ↔ oldB l[i] = true := by
  constructor
  · intro e
    rcases ixL_cases (cntB l[i]) l with ⟨e2, _⟩ | ⟨k, hk, e2, _, hp⟩
    · omega
    · have : k = i := by omega
      subst this
      exact oldB_iff.2 (cntB_iff.1 hp).2
  · intro ho
    have hp : cntB l[i] l[i] = true := cntB_iff.2 ⟨rfl, oldB_iff.1 ho⟩
    rcases ixL_cases (cntB l[i]) l with ⟨_, e2⟩ | ⟨k, hk, e2, _, hq⟩
    · rw [List.findIdx?_eq_none_iff] at e2
      have := e2 l[i] (List.getElem_mem hi)
      rw [hp] at this
      cases this
    · have a := cntB_iff.1 hq
      have b := cntB_iff.1 hp
      have := h.eq hk hi a.1 (by rw [a.2.1, b.2.1])
      rw [e2, this]
/-- The amounts and the marks behind the first i benefits. -/
def amI (l : List GNet) (i : Nat) : List Int := (List.range l.length).map fun j => if j < i then newA l (l.getD j zGNet) else (l.getD j zGNet).Amount
def lfI (l : List GNet) (i : Nat) : List Bool := l.map (goneB (l.take i))
theorem getD_el {T : Type} (l : List T) (z : T) {i : Nat} (hi : i < l.length) : l.getD i z = l[i] := by rw [List.getD_eq_getElem?_getD, List.getElem?_eq_getElem hi]; rfl
theorem amI_len {l : List GNet} {i : Nat} : (amI l i).length = l.length := by simp [amI]
theorem amI_get {l : List GNet} {i j : Nat} (hj : j < l.length) : (amI l i)[j]? = some (if j < i then newA l l[j] else l[j].Amount) := by
  unfold amI
  rw [List.getElem?_map, List.getElem?_range hj, Option.map_some, getD_el l zGNet hj]
theorem goneB_succ {l : List GNet} {i : Nat} (hi : i < l.length) (x : GNet) : goneB (l.take (i + 1)) x = (goneB (l.take i) x || (oldB l[i] && disB l[i] x)) := by
  unfold goneB
  rw [List.take_succ_eq_append_getElem hi, List.any_append, List.any_cons, List.any_nil, Bool.or_false]
theorem step_uniq {l : List GNet} (h : UniqL l) {i : Nat} (hi : i < l.length) : stepC l l[i] i (amI l i, lfI l i) = (amI l (i + 1), lfI l (i + 1)) := by
  unfold stepC
  by_cases ho : oldB l[i] = true
  · rw [if_pos ((ix_iff h hi).2 ho)]
    cases hf : l.findIdx? (disB l[i]) with
    | none =>
      have hn : newA l l[i] = l[i].Amount := by unfold newA; rw [if_pos ho, hf]
      refine Prod.ext ?_ ?_
      · apply List.ext_getElem?
        intro j
        by_cases hj : j < l.length
        · show (amI l i)[j]? = (amI l (i + 1))[j]?
          rw [amI_get hj, amI_get hj]
          by_cases e : j = i
          · subst e
            rw [if_neg (by omega), if_pos (by omega), hn]
          · by_cases c : j < i
            · rw [if_pos c, if_pos (by omega)]
            · rw [if_neg c, if_neg (by omega)]
        · show (amI l i)[j]? = (amI l (i + 1))[j]?
          rw [List.getElem?_eq_none (by rw [amI_len]; omega), List.getElem?_eq_none (by rw [amI_len]; omega)]
      · show lfI l i = lfI l (i + 1)
        unfold lfI
        refine List.map_congr_left fun x hx => ?_
        rw [goneB_succ hi]
        rw [List.findIdx?_eq_none_iff] at hf
        rw [hf x hx, Bool.and_false, Bool.or_false]
    | some k =>
      obtain ⟨hk, hp, _⟩ := List.findIdx?_eq_some_iff_getElem.1 hf
      have hn : newA l l[i] = max l[i].Amount (l.getD k zGNet).Amount := by unfold newA; rw [if_pos ho, hf]
      refine Prod.ext ?_ ?_
      · apply List.ext_getElem?
        intro j
        show ((amI l i).set i (max l[i].Amount (l.getD k zGNet).Amount))[j]? = (amI l (i + 1))[j]?
        by_cases hj : j < l.length
        · rw [amI_get hj, List.getElem?_set, amI_len]
          by_cases e : j = i
          · subst e
            rw [if_pos rfl, if_pos hj, if_pos (by omega), hn]
          · rw [if_neg (fun q => e q.symm), amI_get hj]
            by_cases c : j < i
            · rw [if_pos c, if_pos (by omega)]
            · rw [if_neg c, if_neg (by omega)]
        · rw [List.getElem?_eq_none (by rw [List.length_set, amI_len]; omega), List.getElem?_eq_none (by rw [amI_len]; omega)]
      · apply List.ext_getElem?
        intro j
        show ((lfI l i).set k true)[j]? = (lfI l (i + 1))[j]?
        unfold lfI
        rw [List.getElem?_set, List.length_map, List.getElem?_map, List.getElem?_map]
        by_cases hj : j < l.length
        · rw [List.getElem?_eq_getElem hj, Option.map_some, Option.map_some, goneB_succ hi, ho, Bool.true_and]
          by_cases e : k = j
          · subst e
            rw [if_pos rfl, if_pos hk, hp, Bool.or_true]
          · rw [if_neg e]
            have : disB l[i] l[j] = false := by
              cases hd : disB l[i] l[j] with
              | false => rfl
              | true =>
                have a := disB_iff.1 hd
                have b := disB_iff.1 hp
                exact absurd (h.eq hk hj (by rw [a.1, b.1]) (by rw [a.2.1, b.2.1])) e
            rw [this, Bool.or_false]
        · by_cases e : k = j
          · subst e; exact absurd hk hj
          · rw [if_neg e, List.getElem?_eq_none (by omega)]
            rfl
  · rw [if_neg (fun e => ho ((ix_iff h hi).1 e))]
    have ho' : oldB l[i] = false := by simpa using ho
    have hn : newA l l[i] = l[i].Amount := by unfold newA; rw [if_neg ho]
    refine Prod.ext ?_ ?_
    · apply List.ext_getElem?
      intro j
      show (amI l i)[j]? = (amI l (i + 1))[j]?
      by_cases hj : j < l.length
      · rw [amI_get hj, amI_get hj]
        by_cases e : j = i
        · subst e
          rw [if_neg (by omega), if_pos (by omega), hn]
        · by_cases c : j < i
          · rw [if_pos c, if_pos (by omega)]
          · rw [if_neg c, if_neg (by omega)]
      · rw [List.getElem?_eq_none (by rw [amI_len]; omega), List.getElem?_eq_none (by rw [amI_len]; omega)]
    · show lfI l i = lfI l (i + 1)
      unfold lfI
      refine List.map_congr_left fun x hx => ?_
      rw [goneB_succ hi, ho', Bool.false_and, Bool.or_false]
theorem convS_run {l : List GNet} (h : UniqL l) : ∀ (n i : Nat), l.length = i + n → runE (convG l) (·.1) (l.drop i) ((amI l i, lfI l i), i) = (amI l l.length, lfI l l.length)
  | 0, i, e => by
    have : i = l.length := by omega
    subst this
    rw [List.drop_length]
    rfl
  | n + 1, i, e => by
    have hi : i < l.length := by omega
    rw [List.drop_eq_getElem_cons hi]
    show runE (convG l) (·.1) (l.drop (i + 1)) (stepC l l[i] i (amI l i, lfI l i), i + 1) = _
    rw [step_uniq h hi]
    exact convS_run h n (i + 1) (by omega)
theorem map_range_getD' {T U : Type} (l : List T) (z : T) (f : T → U) : (List.range l.length).map (fun j => f (l.getD j z)) = l.map f := by
  apply List.ext_getElem?
  intro j
  rw [List.getElem?_map, List.getElem?_map]
  by_cases h : j < l.length
  · rw [List.getElem?_range h, List.getElem?_eq_getElem h, Option.map_some, Option.map_some, getD_el l z h]
  · rw [List.getElem?_eq_none (by simp; omega), List.getElem?_eq_none (by omega)]
    rfl
theorem convS_uniq {l : List GNet} (h : UniqL l) : convS l = (l.map (newA l), l.map (goneB l)) := by
  have e := convS_run h l.length 0 (by omega)
  have e1 : amI l 0 = l.map (·.Amount) := by
    have := map_range_getD' l zGNet fun x => x.Amount
    unfold amI
    rw [← this]
    rfl
  have e2 : lfI l 0 = List.replicate l.length false := by
    unfold lfI
    rw [List.take_zero]
    apply List.ext_getElem?
    intro j
    rw [List.getElem?_map, List.getElem?_replicate]
    by_cases hj : j < l.length
    · rw [List.getElem?_eq_getElem hj, if_pos hj]; rfl
    · rw [List.getElem?_eq_none (by omega), if_neg hj]; rfl
  have e3 : amI l l.length = l.map (newA l) := by
    rw [← map_range_getD' l zGNet (newA l)]
    unfold amI
    refine List.map_congr_left fun j hj => ?_
    rw [if_pos (List.mem_range.1 hj)]
  have e4 : lfI l l.length = l.map (goneB l) := by
    unfold lfI
    rw [List.take_length]
  rw [e1, e2, e3, e4, List.drop_zero] at e
  exact e
theorem keepL_map (f : GNet → Int) (g : GNet → Bool) : ∀ l : List GNet, keepL l (l.map f) (l.map g) = (l.filter fun x => !g x).map fun x => setA x (f x)
  | [] => rfl
  | x :: l => by
    rw [List.map_cons, List.map_cons, List.filter_cons]
    unfold keepL
    rw [keepL_map f g l]
    cases hg : g x with
    | true => rfl
    | false => rfl
/-- What is left of a list in which each state and benefit stands once. -/
theorem convL_uniq {l : List GNet} (h : UniqL l) : convL l = (l.filter fun x => !goneB l x).map fun x => setA x (newA l x) := by
  unfold convL
  rw [convS_uniq h]
  exact keepL_map _ _ l
theorem nets_uniq (l : List GPensionlaw22_Raw) : UniqL (netsL true l) := by
  refine runE_nets true UniqL (fun r o ho _ => ?_) l [] List.Pairwise.nil
  unfold netStep
  rw [Bool.true_and]
  split
  · exact ho
  · next hn =>
    refine List.pairwise_append.2 ⟨ho, List.pairwise_singleton _ _, fun a ha b hb => ?_⟩
    rw [List.mem_singleton] at hb
    subst hb
    intro hs
    refine hn (List.any_eq_true.2 ⟨a, ha, ?_⟩)
    unfold sameSB
    rw [beq_iff_eq.2 hs.1, beq_iff_eq.2 hs.2]
    rfl
def netB (x : GNet) : Prop := (1 ≤ x.Benefit ∧ x.Benefit ≤ 3) ∧ 0 ≤ x.Amount
theorem nets_good (u : Bool) (l : List GPensionlaw22_Raw) : ∀ x ∈ netsL u l, netB x := by
  refine runE_nets u (fun o => ∀ x ∈ o, netB x) (fun r o ho _ => ?_) l [] (fun x hx => by simp at hx)
  unfold netStep
  split
  · exact ho
  · intro x hx
    rcases List.mem_append.1 hx with hx | hx
    · exact ho x hx
    · rw [List.mem_singleton] at hx
      subst hx
      have a := emod_rng r.B (m := 3) (by omega)
      have b := amountL_range r.C
      exact ⟨by show 1 ≤ 1 + r.B % 3 ∧ 1 + r.B % 3 ≤ 3; omega, b.1⟩
end Go.Ax
