import Derived.Test.YtklbaihmajbbdaaL48
set_option linter.all false
/- The order of the remainders. -/
set_option maxRecDepth 100000
namespace Go.Ax

def insAtK (K : Nat → Int) (l : List Nat) (i : Nat) : Nat → Nat
  | 0 => 0
  | k + 1 => if K (l.getD k 0) < K i then insAtK K l i k else k + 1
def insK (K : Nat → Int) (i : Nat) (l : List Nat) : List Nat := l.take (insAtK K l i l.length) ++ [i] ++ l.drop (insAtK K l i l.length)
/-- a stands ahead of b. -/
def befK (K : Nat → Int) (a b : Nat) : Prop := K b < K a ∨ (K b = K a ∧ a < b)
theorem insAtK_le (K : Nat → Int) (l : List Nat) (i : Nat) : ∀ k, insAtK K l i k ≤ k
  | 0 => Nat.le_refl _
  | k + 1 => by
    have := insAtK_le K l i k
    unfold insAtK
    split <;> omega
theorem insAtK_behind (K : Nat → Int) (l : List Nat) (i : Nat) : ∀ k j, insAtK K l i k ≤ j → j < k → K (l.getD j 0) < K i
  | 0, j, _, h => by omega
  | k + 1, j, h1, h2 => by
    unfold insAtK at h1
    split at h1
    · next hk =>
      by_cases e : j = k
      · subst e; exact hk
      · exact insAtK_behind K l i k j h1 (by omega)
    · omega
theorem insAtK_ahead (K : Nat → Int) (l : List Nat) (i : Nat) : ∀ k, 0 < insAtK K l i k → K i ≤ K (l.getD (insAtK K l i k - 1) 0)
  | 0, h => by simp [insAtK] at h
  | k + 1, h => by
    unfold insAtK at h ⊢
    split at h
    · next hk => rw [if_pos hk]; exact insAtK_ahead K l i k h
    · next hk => rw [if_neg hk]; show K i ≤ K (l.getD k 0); omega
theorem insK_perm (K : Nat → Int) (i : Nat) (l : List Nat) : (insK K i l).Perm (i :: l) := by
  unfold insK
  rw [List.append_assoc, List.singleton_append]
  refine List.perm_middle.trans ?_
  rw [List.take_append_drop]
theorem insK_sorted (K : Nat → Int) (i : Nat) {l : List Nat} (h : l.Pairwise (befK K)) (hi : ∀ a ∈ l, a < i) : (insK K i l).Pairwise (befK K) := by
  have hle := insAtK_le K l i l.length
  have hb := insAtK_behind K l i l.length
  have ha := insAtK_ahead K l i l.length
  unfold insK
  generalize insAtK K l i l.length = p at *
  have hpw := h
  rw [← List.take_append_drop p l, List.pairwise_append] at hpw
  obtain ⟨h1, h2, h3⟩ := hpw
  have hgd : ∀ j (hj : j < l.length), l.getD j 0 = l[j] := fun j hj => by rw [List.getD_eq_getElem?_getD, List.getElem?_eq_getElem hj]; rfl
  have hA : ∀ a ∈ l.take p, befK K a i := by
    intro a hm
    obtain ⟨j, hj, rfl⟩ := List.mem_iff_getElem.1 hm
    have hj' : j < p := by rw [List.length_take] at hj; omega
    rw [List.getElem_take]
    have hp := ha (by omega)
    rw [hgd _ (show p - 1 < l.length by omega)] at hp
    have hlt := hi l[j] (List.getElem_mem _)
    have hk : K l[p - 1] ≤ K l[j] := by
      by_cases e : j = p - 1
      · subst e; exact Int.le_refl _
      · have := List.pairwise_iff_getElem.1 h j (p - 1) (by omega) (by omega) (by omega)
        unfold befK at this
        omega
    unfold befK
    omega
  have hB : ∀ b ∈ l.drop p, befK K i b := by
    intro b hm
    obtain ⟨j, hj, rfl⟩ := List.mem_iff_getElem.1 hm
    rw [List.length_drop] at hj
    rw [List.getElem_drop]
    have := hb (p + j) (by omega) (by omega)
    rw [hgd _ (by omega)] at this
    exact .inl this
  rw [List.append_assoc, List.pairwise_append]
  refine ⟨h1, ?_, ?_⟩
  · rw [List.singleton_append, List.pairwise_cons]
    exact ⟨hB, h2⟩
  · intro a hma b hmb
    rw [List.singleton_append, List.mem_cons] at hmb
    rcases hmb with rfl | hmb
    · exact hA a hma
    · exact h3 a hma b hmb

/-- The cut-off part, over the common denominator. -/
def keyL (total : Int) (l : List GHeir) (i : Nat) : Int := total * numL l (l.getD i zGHeir) % (baseD l * wholeL l)
theorem rem_key {total : Int} (ht : 0 ≤ total) {l : List GHeir} (hv : validL l = true) {h : GHeir} (hm : h ∈ l) :
    total * (shareL l h).Num % (shareL l h).Den * (baseD l * wholeL l) = total * numL l h % (baseD l * wholeL l) * (shareL l h).Den := by
  obtain ⟨n, d, e1, e2, hn1, hd1, h0, e3⟩ := ref_frac l hv h hm
  obtain ⟨t, rfl⟩ : ∃ t : Nat, total = (t : Int) := ⟨total.toNat, by omega⟩
  have hbr := baseD_rng hv
  have hwr := wholeL_rng hv
  have hmul : baseD l * wholeL l ≤ 876588 * 420 := Int.mul_le_mul hbr.2 hwr.2 (by omega) (by omega)
  rw [e2] at hmul
  rw [e1, e2, ← e3]
  have hg : 0 < Nat.gcd n d := Nat.gcd_pos_of_pos_right _ h0
  obtain ⟨a, ha⟩ := Nat.gcd_dvd_left n d
  obtain ⟨b, hb⟩ := Nat.gcd_dvd_right n d
  have hf := (fracN_facts n d h0 (by omega) (by omega)).1
  have e4 : (fracN n d).1.Num = ((n / Nat.gcd n d : Nat) : Int) := by rw [hf]
  have e5 : (fracN n d).1.Den = ((d / Nat.gcd n d : Nat) : Int) := by rw [hf]
  rw [e4, e5]
  have q1 : n / Nat.gcd n d = a := by rw [Nat.div_eq_of_eq_mul_right hg ha]
  have q2 : d / Nat.gcd n d = b := by rw [Nat.div_eq_of_eq_mul_right hg hb]
  rw [q1, q2]
  generalize Nat.gcd n d = g at *
  subst ha hb
  rw [← Int.natCast_mul, ← Int.natCast_mul, ← Int.natCast_emod, ← Int.natCast_emod, ← Int.natCast_mul, ← Int.natCast_mul]
  congr 1
  rw [show t * (g * a) = g * (t * a) from Nat.mul_left_comm _ _ _, Nat.mul_mod_mul_left]
  generalize t * a % b = r
  rw [Nat.mul_comm g b, Nat.mul_comm g r, ← Nat.mul_assoc, Nat.mul_right_comm]
def okR (total : Int) (l : List GHeir) (x : GConversion_remainder) : Prop := ∃ i : Nat, x.at_ = (i : Int) ∧ 0 < x.den ∧ x.num * (baseD l * wholeL l) = keyL total l i * x.den
theorem cmp_key {total D kx ki : Int} {x r : GConversion_remainder} (hD : 0 < D) (hx : 0 < x.den) (hr : 0 < r.den) (ex : x.num * D = kx * x.den) (er : r.num * D = ki * r.den) : x.num * r.den < r.num * x.den ↔ kx < ki := by
  have hp : 0 < x.den * r.den := Int.mul_pos hx hr
  have e1 : x.num * r.den * D = kx * (x.den * r.den) := by rw [Int.mul_right_comm, ex, Int.mul_assoc]
  have e2 : r.num * x.den * D = ki * (x.den * r.den) := by rw [Int.mul_right_comm, er, Int.mul_assoc, Int.mul_comm r.den]
  constructor
  · intro h
    have := Int.mul_lt_mul_of_pos_right h hD
    rw [e1, e2] at this
    exact Int.lt_of_mul_lt_mul_right this (by omega)
  · intro h
    have := Int.mul_lt_mul_of_pos_right h hp
    rw [← e1, ← e2] at this
    exact Int.lt_of_mul_lt_mul_right this (by omega)
def atsL (cut : List GConversion_remainder) : List Nat := cut.map fun x => x.at_.toNat
theorem insAtR_K {total : Int} {l : List GHeir} (hD : 0 < baseD l * wholeL l) {cut : List GConversion_remainder} {r : GConversion_remainder} {i : Nat} (hc : ∀ x ∈ cut, okR total l x) (hri : r.at_ = (i : Int)) (hr : 0 < r.den) (er : r.num * (baseD l * wholeL l) = keyL total l i * r.den) :
    ∀ k, k ≤ cut.length → insAtR cut r k = insAtK (keyL total l) (atsL cut) i k
  | 0, _ => rfl
  | k + 1, hk => by
    have hx : cut.getD k zGConversion_remainder = cut[k] := by rw [List.getD_eq_getElem?_getD, List.getElem?_eq_getElem (by omega)]; rfl
    obtain ⟨j, ej, dj, kj⟩ := hc cut[k] (List.getElem_mem _)
    have hg : (atsL cut).getD k 0 = j := by
      unfold atsL
      rw [List.getD_eq_getElem?_getD, List.getElem?_map, List.getElem?_eq_getElem (by omega)]
      simp [ej]
    unfold insAtR insAtK
    rw [hx, hg, insAtR_K hD hc hri hr er k (by omega)]
    have := cmp_key (total := total) hD dj hr kj er
    by_cases h : keyL total l j < keyL total l i
    · rw [if_pos h, if_pos (this.2 h)]
    · rw [if_neg h, if_neg (fun q => h (this.1 q))]
theorem insR_ats {total : Int} {l : List GHeir} (hD : 0 < baseD l * wholeL l) {cut : List GConversion_remainder} {r : GConversion_remainder} {i : Nat} (hc : ∀ x ∈ cut, okR total l x) (hri : r.at_ = (i : Int)) (hr : 0 < r.den) (er : r.num * (baseD l * wholeL l) = keyL total l i * r.den) :
    atsL (insR r cut) = insK (keyL total l) i (atsL cut) := by
  have hl : (atsL cut).length = cut.length := List.length_map _
  unfold insR insK
  rw [hl, insAtR_K hD hc hri hr er cut.length (Nat.le_refl _)]
  unfold atsL
  rw [List.map_append, List.map_append, List.map_take, List.map_drop]
  simp [hri]
theorem divS_cut {total : Int} (ht : 0 ≤ total) {l0 : List GHeir} (hv : validL l0 = true) : ∀ (l : List GHeir) (pre : List GHeir) (m : Int) (out : List GPart) (cut : List GConversion_remainder), l0 = pre ++ l → out.length = pre.length → (∀ x ∈ cut, okR total l0 x) → (atsL cut).Pairwise (befK (keyL total l0)) → (atsL cut).Perm (List.range pre.length) →
    (∀ x ∈ (runE (divG total l0) id l (m, out, cut)).2.2, okR total l0 x) ∧ (atsL (runE (divG total l0) id l (m, out, cut)).2.2).Pairwise (befK (keyL total l0)) ∧ (atsL (runE (divG total l0) id l (m, out, cut)).2.2).Perm (List.range l0.length)
  | [], pre, m, out, cut, e, _, h1, h2, h3 => by
    rw [List.append_nil] at e
    subst e
    exact ⟨h1, h2, h3⟩
  | x :: l, pre, m, out, cut, e, ho, h1, h2, h3 => by
    have hm : x ∈ l0 := by rw [e]; simp
    have hb := baseD_rng hv
    have hw := wholeL_rng hv
    have hD : 0 < baseD l0 * wholeL l0 := Int.mul_pos (by omega) (by omega)
    have hs := shareL_facts hv hm
    have hgd : l0.getD pre.length zGHeir = x := by
      rw [e, List.getD_eq_getElem?_getD, List.getElem?_append_right (Nat.le_refl _), Nat.sub_self]; rfl
    have er : (remL total out.length (shareL l0 x)).num * (baseD l0 * wholeL l0) = keyL total l0 pre.length * (remL total out.length (shareL l0 x)).den := by
      unfold keyL
      rw [hgd]
      exact rem_key ht hv hm
    have hri : (remL total out.length (shareL l0 x)).at_ = ((pre.length : Nat) : Int) := by rw [← ho]; rfl
    have hrd : 0 < (remL total out.length (shareL l0 x)).den := by
      show 0 < (shareL l0 x).Den
      omega
    have hat := insR_ats hD h1 hri hrd er
    have hlt : ∀ a ∈ atsL cut, a < pre.length := fun a ha => List.mem_range.1 (h3.mem_iff.1 ha)
    refine divS_cut ht hv l (pre ++ [x]) _ _ _ (by rw [e]; simp) (by simp [ho]) (fun y hy => ?_) ?_ ?_
    · rcases insR_mem _ _ _ hy with rfl | hy
      · exact ⟨pre.length, hri, hrd, er⟩
      · exact h1 y hy
    · show (atsL (insR (remL total out.length (shareL l0 x)) cut)).Pairwise _
      rw [hat]
      exact insK_sorted _ _ h2 hlt
    · show (atsL (insR (remL total out.length (shareL l0 x)) cut)).Perm _
      rw [hat, List.length_append, List.length_singleton, List.range_succ]
      exact (insK_perm _ _ _).trans ((List.Perm.cons _ h3).trans (List.perm_append_singleton _ _).symm)
/-- Units given, one by one. -/
theorem giveL_fold : ∀ (cut : List GConversion_remainder) (m : Int) (out : List GPart), giveL cut m out = ((atsL cut).take m.toNat).foldl bump out
  | [], m, out => by simp [giveL, runE, atsL]
  | x :: cut, m, out => by
    by_cases hm : 0 < m
    · have e : giveL (x :: cut) m out = giveL cut (m - 1) (bump out x.at_.toNat) := by
        show runE giveG (·.2) cut (if 0 < m then (m - 1, bump out x.at_.toNat) else (m, out)) = _
        rw [if_pos hm]
        rfl
      rw [e, giveL_fold cut (m - 1)]
      obtain ⟨k, hk⟩ : ∃ k : Nat, m = (k : Int) + 1 := ⟨(m - 1).toNat, by omega⟩
      subst hk
      rw [show ((k : Int) + 1).toNat = k + 1 by omega, show ((k : Int) + 1 - 1).toNat = k by omega]
      rfl
    · have e : giveL (x :: cut) m out = giveL cut m out := by
        show runE giveG (·.2) cut (if 0 < m then (m - 1, bump out x.at_.toNat) else (m, out)) = _
        rw [if_neg hm]
        rfl
      rw [e, giveL_fold cut m, show m.toNat = 0 by omega, List.take_zero, List.take_zero]
theorem bump_get (out : List GPart) (a k : Nat) (hk : k < out.length) : (bump out a).getD k zGPart = if a = k then ⟨(out.getD k zGPart).Person, (out.getD k zGPart).Amount + 1⟩ else out.getD k zGPart := by
  unfold bump
  rw [List.getD_eq_getElem?_getD, List.getElem?_set]
  by_cases h : a = k
  · subst h
    rw [if_pos rfl, if_pos hk, if_pos rfl]; rfl
  · rw [if_neg h, if_neg h, ← List.getD_eq_getElem?_getD]
theorem fold_get : ∀ (s : List Nat) (out : List GPart) (k : Nat), s.Nodup → k < out.length → (s.foldl bump out).getD k zGPart = ⟨(out.getD k zGPart).Person, (out.getD k zGPart).Amount + (if k ∈ s then 1 else 0)⟩
  | [], out, k, _, _ => by simp
  | a :: s, out, k, hn, hk => by
    obtain ⟨h1, h2⟩ := List.nodup_cons.1 hn
    rw [List.foldl_cons, fold_get s (bump out a) k h2 (by rw [bump_length]; exact hk), bump_get out a k hk]
    by_cases h : a = k
    · subst h
      rw [if_pos rfl, if_neg h1, if_pos List.mem_cons_self]
      show (⟨_, (out.getD a zGPart).Amount + 1 + 0⟩ : GPart) = _
      rw [Int.add_zero]
    · rw [if_neg h]
      by_cases hm : k ∈ s
      · rw [if_pos hm, if_pos (List.mem_cons_of_mem _ hm)]
      · rw [if_neg hm, if_neg (by intro q; rcases List.mem_cons.1 q with q | q; exact h q.symm; exact hm q)]
theorem fold_length : ∀ (s : List Nat) (out : List GPart), (s.foldl bump out).length = out.length
  | [], _ => rfl
  | a :: s, out => by rw [List.foldl_cons, fold_length s, bump_length]
/-- What is missing behind the parts that are rounded down. -/
def missL (total : Int) (l : List GHeir) : Int := sumL total l - (l.map fun h => partL total (shareL l h)).sum
def downL (total : Int) (l : List GHeir) : List GPart := l.map fun h => ⟨h.Person, partL total (shareL l h)⟩
theorem divide_fold {total : Int} (ht : 0 ≤ total) {l : List GHeir} (hv : validL l = true) : ∃ s : List Nat, s.Pairwise (befK (keyL total l)) ∧ s.Perm (List.range l.length) ∧ divideL total l = (s.take (missL total l).toNat).foldl bump (downL total l) := by
  obtain ⟨a, b, c⟩ := divS_sum total l l (sumL total l) [] []
  have e : divS total l (sumL total l) = runE (divG total l) id l (sumL total l, [], []) := rfl
  obtain ⟨_, h2, h3⟩ := divS_cut ht hv l [] (sumL total l) [] [] rfl rfl (fun x hx => by simp at hx) (by simp [atsL]) (by simp [atsL])
  refine ⟨_, h2, h3, ?_⟩
  unfold divideL
  rw [giveL_fold, e, a, b, List.nil_append]
  rfl
theorem divide_get {total : Int} (ht : 0 ≤ total) {l : List GHeir} (hv : validL l = true) : ∃ s : List Nat, s.Pairwise (befK (keyL total l)) ∧ s.Perm (List.range l.length) ∧ (divideL total l).length = l.length ∧
    ∀ k (hk : k < l.length), (divideL total l).getD k zGPart = ⟨l[k].Person, partL total (shareL l l[k]) + (if k ∈ s.take (missL total l).toNat then 1 else 0)⟩ := by
  obtain ⟨s, h1, h2, h3⟩ := divide_fold ht hv
  have hd : (downL total l).length = l.length := List.length_map _
  refine ⟨s, h1, h2, by rw [h3, fold_length, hd], fun k hk => ?_⟩
  have hn : s.Nodup := h2.nodup_iff.2 List.nodup_range
  rw [h3, fold_get _ _ k (hn.sublist (List.take_sublist _ _)) (by omega)]
  have : (downL total l).getD k zGPart = ⟨l[k].Person, partL total (shareL l l[k])⟩ := by
    unfold downL
    rw [List.getD_eq_getElem?_getD, List.getElem?_map, List.getElem?_eq_getElem hk]
    rfl
  rw [this]
end Go.Ax
