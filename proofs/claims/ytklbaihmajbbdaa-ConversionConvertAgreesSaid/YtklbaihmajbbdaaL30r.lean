import Derived.Test.YtklbaihmajbbdaaL30
set_option linter.all false
/- The document's Convert. -/
set_option maxRecDepth 100000
namespace Go.Ax

theorem ref21_at_eq (l : List GNet) (x : GNet) (hl : l.length ≤ 2513169434843) : ref21_at l x.State 1 = some (ixL (cntB x) l) := by
  show (fixL (ref21_at_l1 l x.State 1) 0).bind _ = _
  rw [find_loop0 l (cntB x) (by omega) ?_ ?_, Option.bind_some]
  · unfold ixL
    cases l.findIdx? (cntB x) <;> rfl
  · intro i hi
    show ref21_at_p0 l x.State 1 i = _
    unfold ref21_at_p0
    rw [lt_len hi, cond_true, gd_pos (idx_ok hi), gd_pos (fun _ => (idx_ok hi).1), gd_pos (fun _ => (idx_ok hi).2), gd_pos (fun _ => (idx_ok hi).1), gd_pos (fun _ => (idx_ok hi).2), getD_nat l zGNet i hi, cond_and, cond_and, show ((1 : Int) != 1) = false from rfl, cond_false]
    show (bif cntB x l[i] then _ else _) = _
    cases cntB x l[i] <;> rfl
  · show ref21_at_p0 l x.State 1 l.length = _
    unfold ref21_at_p0
    rw [not_lt_len, cond_false]
theorem ref21_disability_eq (l : List GNet) (o : Nat) (ho : o < l.length) (hl : l.length ≤ 2513169434843) : ref21_disability l o = some (ixL (disB l[o]) l) := by
  show (fixL (ref21_disability_l1 l o) 0).bind _ = _
  rw [find_loop0 l (disB l[o]) (by omega) ?_ ?_, Option.bind_some]
  · unfold ixL
    cases l.findIdx? (disB l[o]) <;> rfl
  · intro i hi
    show ref21_disability_p0 l o i = _
    unfold ref21_disability_p0
    rw [lt_len hi, cond_true, gd_pos (idx_ok hi), gd_pos (idx_ok ho), gd_pos (fun _ => (idx_ok hi).1), gd_pos (fun _ => (idx_ok hi).2), gd_pos (fun _ => (idx_ok hi).1), gd_pos (fun _ => (idx_ok hi).2), gd_pos (fun _ => (idx_ok ho).1), gd_pos (fun _ => (idx_ok ho).2), getD_nat l zGNet i hi, getD_nat l zGNet o ho, cond_and, cond_and]
    show (bif disB l[o] l[i] then _ else _) = _
    cases disB l[o] l[i] <;> rfl
  · show ref21_disability_p0 l o l.length = _
    unfold ref21_disability_p0
    rw [not_lt_len, cond_false]
theorem runE_convG_fin {R R' : Type} (F : R → R') (fin : (List Int × List Bool) × Nat → R) (l : List GNet) : ∀ (r : List GNet) (a : (List Int × List Bool) × Nat), runE (convG l) (fun a => F (fin a)) r a = F (runE (convG l) fin r a)
  | [], a => rfl
  | x :: r, a => runE_convG_fin F fin l r (stepC l x a.2 a.1, a.2 + 1)
def setAm : List GNet → List Int → List GNet
  | x :: l, a :: am => setA x a :: setAm l am
  | _, _ => []
theorem setAm_length : ∀ (l : List GNet) (am : List Int), am.length = l.length → (setAm l am).length = l.length
  | [], [], _ => rfl
  | [], _ :: _, h => by simp at h
  | _ :: _, [], h => by simp at h
  | x :: l, a :: am, h => by simp [setAm, setAm_length l am (by simpa using h)]
theorem setAm_get : ∀ (l : List GNet) (am : List Int) (i : Nat) (h : am.length = l.length) (hi : i < l.length), (setAm l am).getD i zGNet = setA l[i] (am[i]'(by omega))
  | [], [], i, _, hi => by simp at hi
  | [], _ :: _, _, h, _ => by simp at h
  | _ :: _, [], _, h, _ => by simp at h
  | x :: l, a :: am, 0, h, hi => by simp [setAm]
  | x :: l, a :: am, i + 1, h, hi => by
    have := setAm_get l am i (by simpa using h) (by simpa using hi)
    simpa [setAm] using this
theorem setAm_set : ∀ (l : List GNet) (am : List Int) (i : Nat) (v : Int) (h : am.length = l.length) (hi : i < l.length), (setAm l am).set i (setA l[i] v) = setAm l (am.set i v)
  | [], [], i, _, _, hi => by simp at hi
  | [], _ :: _, _, _, h, _ => by simp at h
  | _ :: _, [], _, _, h, _ => by simp at h
  | x :: l, a :: am, 0, v, h, hi => by simp [setAm]
  | x :: l, a :: am, i + 1, v, h, hi => by
    have := setAm_set l am i v (by simpa using h) (by simpa using hi)
    simpa [setAm] using this
theorem setAm_self : ∀ l : List GNet, setAm l (l.map (·.Amount)) = l
  | [] => rfl
  | x :: l => by
    have := setAm_self l
    simp only [List.map_cons, setAm, this]
    rfl
theorem setA_setA (x : GNet) (a b : Int) : (⟨(setA x a).State, (setA x a).Benefit, (setA x a).Currency, (setA x a).Independent, (setA x a).ProRata, (setA x a).Deducted, b⟩ : GNet) = setA x b := rfl
theorem ref_loop1 (l : List GNet) (g0 : List Bool) (hl : l.length ≤ 2513169434843) : fixL (ref21_Convert_l1 l g0) (l, List.replicate l.length false, 0) = some (setAm l (convS l).1, (convS l).2) := by
  have := fixL_list0 (f := ref21_Convert_l1 l g0) l (fun i (a : (List Int × List Bool) × Nat) => (setAm l a.1.1, a.1.2, (i : Int)))
    (fun i a => a.2 = i ∧ a.1.1.length = l.length ∧ a.1.2.length = l.length ∧ ∀ j, i ≤ j → (h : j < l.length) → a.1.1.getD j 0 = l[j].Amount)
    (convG l) (fun a => (setAm l a.1.1, a.1.2)) ((l.map (·.Amount), List.replicate l.length false), 0) ⟨rfl, by simp, by simp, fun j _ h => by simp [List.getD_eq_getElem?_getD, h]⟩ ?_ ?_ ?_
  · rw [show (l, List.replicate l.length false, (0 : Int)) = (setAm l (l.map (·.Amount)), List.replicate l.length false, ((0 : Nat) : Int)) from by rw [setAm_self]; rfl]
    rw [this]
    exact congrArg some (runE_convG_fin (fun s : List Int × List Bool => (setAm l s.1, s.2)) (·.1) l l _)
  · rintro i hi ⟨⟨am, lf⟩, j⟩ ⟨rfl, h1, h2, h3⟩
    show ref21_Convert_p0 l (setAm l am) lf j = some (.inl (setAm l (stepC l l[j] j (am, lf)).1, (stepC l l[j] j (am, lf)).2, ((j + 1 : Nat) : Int)))
    have h1 : am.length = l.length := h1
    have h2 : lf.length = l.length := h2
    have hi : j < l.length := hi
    have hlen := setAm_length l am h1
    unfold ref21_Convert_p0
    rw [lt_len hi, cond_true, gd_pos (idx_ok hi), gd_pos (fun _ => (idx_ok hi).1), gd_pos (fun _ => (idx_ok hi).2), getD_nat l zGNet j hi, ref21_at_eq l _ hl, gd_pos (by intro _; rfl), getD_some', w64_succ (by omega), ref21_disability_eq l j hi hl]
    unfold stepC
    by_cases hc : ixL (cntB l[j]) l = (j : Int)
    · rcases ixL_cases (cntB l[j]) l with ⟨e1, e2⟩ | ⟨k, hk, e1, e2, e3⟩
      · omega
      have hkj : k = j := by omega
      subst hkj
      have hb : l[k].Benefit = 1 := by
        unfold cntB at e3
        simp only [Bool.and_eq_true, beq_iff_eq] at e3
        exact e3.1.2
      rw [show (l[k].Benefit != 1) = false from by rw [hb]; rfl, cond_false, show (ixL (cntB l[k]) l != (k : Int)) = false from by rw [hc]; simp, cond_false, if_pos hc, Option.bind_some]
      rcases ixL_cases (disB l[k]) l with ⟨f1, f2⟩ | ⟨q, hq, f1, f2, f3⟩
      · rw [f1, f2, decide_eq_false (by omega), cond_false]
      · rw [f1, f2, decide_eq_true (by omega), cond_true, gd_pos (by omega), gd_pos (idx_ok hq), gd_pos (by omega), gd_pos (by omega), Nat.zero_add, Nat.zero_add, Int.toNat_natCast, Int.toNat_natCast, setAm_get l am k h1 hk]
        have ham : am[k]'(by omega) = l[k].Amount := by
          have := h3 k (Nat.le_refl _) hk
          rw [List.getD_eq_getElem?_getD, List.getElem?_eq_getElem (show k < am.length by omega)] at this
          exact this
        show some (Sum.inl ((setAm l am).set k (setA l[k] (if am[k]'(by omega) < (l.getD q zGNet).Amount then (l.getD q zGNet).Amount else am[k]'(by omega))), _, _)) = _
        rw [ham, max_eq, setAm_set l am k _ h1 hk]
    · rw [if_neg hc]
      have : (bif l[j].Benefit != 1 then true else ixL (cntB l[j]) l != (j : Int)) = true := by
        rw [show (ixL (cntB l[j]) l != (j : Int)) = true from by simpa using hc]
        cases (l[j].Benefit != 1) <;> rfl
      rw [this, cond_true]
  · rintro i hi ⟨⟨am, lf⟩, j⟩ a' ⟨rfl, h1, h2, h3⟩ hg
    cases hg
    have := @stepC_len l l[j] j (am, lf)
    refine ⟨rfl, this.1.trans h1, this.2.trans h2, fun q hq h => ?_⟩
    have hq' : j + 1 ≤ q := hq
    rw [← h3 q (by omega) h]
    show (stepC l l[j] j (am, lf)).1.getD q 0 = am.getD q 0
    unfold stepC
    split
    · split
      · simp [List.getD_eq_getElem?_getD, List.getElem?_set, show ¬ j = q by omega]
      · rfl
    · rfl
  · rintro ⟨⟨am, lf⟩, j⟩ ⟨h0, h1, h2, h3⟩
    show ref21_Convert_p0 l (setAm l am) lf l.length = _
    unfold ref21_Convert_p0
    rw [not_lt_len, cond_false]
def keep2 : List GNet → List Bool → List GNet
  | x :: o, b :: g => if b then keep2 o g else x :: keep2 o g
  | _, _ => []
theorem keep2_setAm : ∀ (l : List GNet) (am : List Int) (lf : List Bool), am.length = l.length → lf.length = l.length → keep2 (setAm l am) lf = keepL l am lf
  | [], _, _, _, _ => by simp [setAm, keep2, keepL]
  | x :: l, [], _, h, _ => by simp at h
  | x :: l, a :: am, [], _, h => by simp at h
  | x :: l, a :: am, b :: lf, h1, h2 => by
    have := keep2_setAm l am lf (by simpa using h1) (by simpa using h2)
    simp only [keepL, setAm, keep2, this]
    rfl
theorem ref_loop2 (out : List GNet) (gone : List Bool) (o0 : List GNet) (g0 : List Bool) (hl : out.length ≤ 2513169434843) (h2 : gone.length = out.length) : ∀ (n i : Nat) (kept : List GNet), out.length = i + n → kept.length ≤ i →
    fixL (ref21_Convert_l2 o0 g0) (out, gone, kept, (i : Int)) = some (kept ++ keep2 (out.drop i) (gone.drop i))
  | 0, i, kept, h, ho => by
    have : i = out.length := by omega
    subst this
    rw [fixL_eq]
    show (ref21_Convert_p1 out gone kept out.length).bind _ = _
    unfold ref21_Convert_p1
    rw [not_lt_len, cond_false, List.drop_length]
    simp [keep2]
  | n + 1, i, kept, h, ho => by
    have hi : i < out.length := by omega
    rw [fixL_eq]
    show (ref21_Convert_p1 out gone kept i).bind _ = _
    unfold ref21_Convert_p1
    rw [lt_len hi, cond_true, gd_pos (by omega), getD_nat0 gone false i (by omega), w64_succ (by omega), List.drop_eq_getElem_cons hi, List.drop_eq_getElem_cons (l := gone) (by omega)]
    unfold keep2
    cases hb : gone[i]'(by omega) with
    | true =>
      rw [if_pos rfl]
      show fixL (ref21_Convert_l2 o0 g0) (out, gone, kept, ((i + 1 : Nat) : Int)) = _
      exact ref_loop2 out gone o0 g0 hl h2 n (i + 1) kept (by omega) (by omega)
    | false =>
      rw [if_neg (by simp), show (!false) = true from rfl, cond_true, gd_pos (idx_ok hi), gd_pos (capB_ok (by omega) (by omega)), getD_nat0 out zGNet i hi]
      show fixL (ref21_Convert_l2 o0 g0) (out, gone, kept ++ [_], ((i + 1 : Nat) : Int)) = _
      rw [ref_loop2 out gone o0 g0 hl h2 n (i + 1) _ (by omega) (by simp; omega), List.append_assoc]
      rfl
theorem ref21_Convert_eq (l : List GNet) (hl : l.length ≤ 2513169434843) : ref21_Convert l = some (convL l) := by
  show ref21_Convert_p6 l = _
  unfold ref21_Convert_p6
  rw [gd_pos (capB_ok (by omega) (by omega)), gd_pos (by omega)]
  show (fixL (ref21_Convert_l1 l (List.replicate l.length false)) (l, List.replicate l.length false, 0)).bind _ = _
  rw [ref_loop1 l _ hl, Option.bind_some]
  have hs := convS_len l
  have hlen := setAm_length l (convS l).1 hs.1
  show (fixL (ref21_Convert_l2 (setAm l (convS l).1) (convS l).2) (setAm l (convS l).1, (convS l).2, [], ((0 : Nat) : Int))).bind _ = _
  rw [ref_loop2 _ _ _ _ (by omega) (by omega) l.length 0 [] (by omega) (by simp), Option.bind_some, List.drop_zero, List.drop_zero, keep2_setAm l _ _ hs.1 hs.2, List.nil_append]
  rfl
end Go.Ax
