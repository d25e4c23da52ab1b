import Derived.Test.YtepnedfnpbakeaaL94
set_option linter.all false
/- The document's combinations of two lists; its MakeSpans is the program's Make. -/
set_option maxRecDepth 100000
namespace Go.Ax
open Go.Proofs

noncomputable def addS (out : List GSpan) (s : GSpan) : List GSpan := match out.getLast? with
  | none => [s]
  | some x => if x.To = s.From then out.dropLast ++ [⟨x.From, s.To⟩] else out ++ [s]
theorem addS_snoc (p : List GSpan) (x s : GSpan) : addS (p ++ [x]) s = if x.To = s.From then p ++ [⟨x.From, s.To⟩] else (p ++ [x]) ++ [s] := by
  unfold addS
  rw [List.getLast?_concat]
  simp
theorem ref1_add_eq (out : List GSpan) (s : GSpan) (hn : out.length ≤ 900000) : ref1_add out s = some (addS out s) := by
  show ref1_add_p0 out s = _
  unfold ref1_add_p0
  rcases snoc_cases out with rfl | ⟨p, x, rfl⟩
  · rw [show decide ((0 : Int) < ((([] : List GSpan).length : Nat) : Int)) = false from rfl]
    simp only [Bool.false_and, Bool.false_eq_true, false_implies, gd_true, cond_false]
    rw [gd_pos (capS (by simp)), gd_pos (capS (by simp))]
    rfl
  · have hl : (p ++ [x]).length = p.length + 1 := by simp
    have hp : p.length ≤ 1000000 := by omega
    have h0 : decide ((0 : Int) < (((p ++ [x]).length : Nat) : Int)) = true := decide_eq_true (by omega)
    have hlt : ((p.length : Nat) : Int) < (((p ++ [x]).length : Nat) : Int) := by omega
    have hg : (p ++ [x]).getD (Int.toNat ((p.length : Nat) : Int)) zGSpan = x := by
      rw [Int.toNat_natCast]; exact getD_app_right p [] x zGSpan
    have hg0 : (p ++ [x]).getD (0 + Int.toNat ((p.length : Nat) : Int)) zGSpan = x := by
      rw [Nat.zero_add]; exact hg
    have hi0 : (0 : Int) ≤ ((p.length : Nat) : Int) := by omega
    rw [last_ix p x hp, h0, hg, hg0, gd_pos (fun _ => hi0), gd_pos (fun _ => hlt), cond_true, addS_snoc, Nat.zero_add, Int.toNat_natCast, set_last]
    by_cases hc : x.To = s.From
    · rw [beq_iff_eq.2 hc, cond_true, gd_pos (capS (by omega)), gd_pos ⟨hi0, hlt⟩, if_pos hc]
    · rw [beq_eq_false_iff_ne.2 hc, cond_false, gd_pos (capS (by omega)), gd_pos (capS (by omega)), if_neg hc]
theorem add_step {out : List GSpan} {s : GSpan} (hn : NormL (-1) out) (hb : endT (-1) out ≤ s.From) (h1 : 0 ≤ s.From) (h2 : s.From < s.To) (h3 : s.To ≤ 73049) :
    NormL (-1) (addS out s) ∧ (∀ d, Cov (addS out s) d ↔ Cov out d ∨ (s.From ≤ d ∧ d < s.To)) ∧ endT (-1) (addS out s) ≤ s.To ∧ (addS out s).length ≤ out.length + 1 := by
  rcases snoc_cases out with rfl | ⟨p, x, rfl⟩
  · refine ⟨⟨by omega, h2, h3, trivial⟩, fun d => ?_, Int.le_refl _, by simp [addS]⟩
    show Cov [s] d ↔ _
    rw [cov_cons]; simp [cov_nil]
  · obtain ⟨n1, n2, n3, n4⟩ := norm_snoc.1 hn
    rw [endT_snoc] at hb
    rw [addS_snoc]
    by_cases hc : x.To = s.From
    · rw [if_pos hc]
      refine ⟨norm_snoc.2 ⟨n1, n2, by show x.From < s.To; omega, h3⟩, fun d => ?_, by rw [endT_snoc]; exact Int.le_refl _, by simp⟩
      rw [cov_app, cov_app, cov_cons, cov_cons]
      simp only [cov_nil, or_false]
      constructor
      · rintro (h | ⟨h4, h5⟩)
        · exact .inl (.inl h)
        · by_cases hd : d < x.To
          · exact .inl (.inr ⟨h4, hd⟩)
          · exact .inr ⟨by omega, h5⟩
      · rintro ((h | ⟨h4, h5⟩) | ⟨h4, h5⟩)
        · exact .inl h
        · exact .inr ⟨h4, by omega⟩
        · exact .inr ⟨by omega, h5⟩
    · rw [if_neg hc]
      refine ⟨norm_snoc.2 ⟨hn, by rw [endT_snoc]; omega, h2, h3⟩, fun d => ?_, by rw [endT_snoc]; exact Int.le_refl _, by simp⟩
      rw [cov_app (b := [s]), cov_cons]; simp [cov_nil]
/-- Does a list hold a day? -/
def covB (l : List GSpan) (d : Int) : Bool := l.any fun s => decide (s.From ≤ d) && decide (d < s.To)
theorem covB_iff {l : List GSpan} {d : Int} : covB l d = true ↔ Cov l d := by
  unfold covB Cov
  rw [List.any_eq_true]
  constructor
  · rintro ⟨s, hs, h⟩
    rw [Bool.and_eq_true, decide_eq_true_iff, decide_eq_true_iff] at h
    exact ⟨s, hs, h⟩
  · rintro ⟨s, hs, h⟩
    exact ⟨s, hs, by rw [Bool.and_eq_true, decide_eq_true_iff, decide_eq_true_iff]; exact h⟩
/-- A day that exists, of what two lists hold together. -/
def InF (f : Bool → Bool → Bool) (a b : List GSpan) (d : Int) : Prop := f (covB a d) (covB b d) = true ∧ 0 ≤ d ∧ d < 73049
def kindB (kind : Int) (x y : Bool) : Bool := (bif (bif (bif (bif (kind == (1 : Int)) then x else false) then y else false) then true else (bif (kind == (2 : Int)) then (bif x then true else y) else false)) then true else (bif (bif (kind == (3 : Int)) then x else false) then (!y) else false))
theorem edge_rng {l : List GSpan} {x : Int} (h : EdgeOf l x) : 0 ≤ x ∧ x ≤ 73049 := by
  obtain ⟨s, hs, hx⟩ := h
  have := cutL_ok l s hs
  omega
/-- Between two neighbours no span begins or ends. -/
theorem between {e : List Int} {a : List GSpan} {i : Nat} (he : Asc1 e) (hi : i + 1 < e.length) (hE : ∀ x, EdgeOf a x → x ∈ e) {d : Int} (h1 : e[i]'(by omega) ≤ d) (h2 : d < e[i + 1]) :
    (Cov a d ∧ 0 ≤ d ∧ d < 73049) ↔ (Cov a (e[i]'(by omega)) ∧ 0 ≤ e[i]'(by omega) ∧ e[i]'(by omega) < 73049) := by
  have hasc : ∀ j k (hj : j < e.length) (hk : k < e.length), j < k → e[j] < e[k] := fun j k hj hk h => List.pairwise_iff_getElem.1 he j k hj hk h
  have hlo : ∀ x ∈ e, x < e[i + 1] → x ≤ e[i]'(by omega) := by
    intro x hx hlt
    obtain ⟨j, hj, rfl⟩ := List.getElem_of_mem hx
    rcases Nat.lt_trichotomy j i with h | h | h
    · have := hasc j i hj (by omega) h; omega
    · subst h; exact Int.le_refl _
    · by_cases h' : j = i + 1
      · subst h'; omega
      · have := hasc (i + 1) j hi hj (by omega); omega
  have hhi : ∀ x ∈ e, e[i]'(by omega) < x → e[i + 1] ≤ x := by
    intro x hx hlt
    obtain ⟨j, hj, rfl⟩ := List.getElem_of_mem hx
    rcases Nat.lt_trichotomy j (i + 1) with h | h | h
    · by_cases h' : j = i
      · subst h'; omega
      · have := hasc j i hj (by omega) (by omega); omega
    · subst h; exact Int.le_refl _
    · have := hasc (i + 1) j hi hj h; omega
  rw [← cutL_cov, ← cutL_cov]
  constructor
  · rintro ⟨s, hs, h3, h4⟩
    have e1 := hE _ ⟨s, hs, .inl rfl⟩
    have := hlo _ e1 (by omega)
    exact ⟨s, hs, this, by omega⟩
  · rintro ⟨s, hs, h3, h4⟩
    have e2 := hE _ ⟨s, hs, .inr rfl⟩
    have := hhi _ e2 h4
    exact ⟨s, hs, by omega, by omega⟩
theorem combine_loop (a b : List GSpan) (e : List Int) (ha : a.length ≤ 100000) (hb : b.length ≤ 100000) (hel : e.length ≤ 500000) (he : Asc1 e) (hE : ∀ x, x ∈ e ↔ EdgeOf a x ∨ EdgeOf b x) (kind : Int) :
    ∀ (n i : Nat) (out : List GSpan) (hi : i < e.length), e.length = i + 1 + n → NormL (-1) out → endT (-1) out ≤ e[i] → (∀ d, Cov out d ↔ InF (kindB kind) a b d ∧ d < e[i]) → out.length ≤ i →
    ∃ r, fixL (ref1_combine_l1 a b kind e) (out, (i : Int)) = some r ∧ NormL (-1) r ∧ (∀ d, Cov r d ↔ InF (kindB kind) a b d ∧ d < e[e.length - 1]'(by omega)) := by
  intro n
  induction n with
  | zero =>
    intro i out hi h hn ht hc ho
    refine ⟨out, ?_, hn, ?_⟩
    · rw [fixL_eq]
      show (ref1_combine_p0 a b kind e out (i : Int)).bind _ = _
      unfold ref1_combine_p0
      rw [w64_succ (by omega), show i + 1 = e.length by omega, not_lt_len, cond_false]
      rfl
    · have : e.length - 1 = i := by omega
      simp only [this]
      exact hc
  | succ n ih =>
    intro i out hi h hn ht hc ho
    have hi1 : i + 1 < e.length := by omega
    have hlt : e[i] < e[i + 1] := List.pairwise_iff_getElem.1 he i (i + 1) hi hi1 (by omega)
    have r0 : ∀ x ∈ e, 0 ≤ x ∧ x ≤ 73049 := by
      intro x hx
      rcases (hE x).1 hx with h | h <;> exact edge_rng h
    have ri := r0 e[i] (List.getElem_mem hi)
    have rj := r0 e[i + 1] (List.getElem_mem hi1)
    obtain ⟨x, hx1, hx2⟩ := ref1_Contains_eq a e[i] (by omega)
    obtain ⟨y, hy1, hy2⟩ := ref1_Contains_eq b e[i] (by omega)
    have hstep : ref1_combine_p0 a b kind e out (i : Int) = bif (kindB kind x y) then some (.inl (addS out ⟨e[i], e[i + 1]⟩, ((i + 1 : Nat) : Int))) else some (.inl (out, ((i + 1 : Nat) : Int))) := by
      unfold ref1_combine_p0
      rw [w64_succ (by omega), lt_len hi1, cond_true, gd_pos (idx_ok hi), getD_nat0 e _ i hi, hx1, Option.bind_some, gd_pos (idx_ok hi), hy1, Option.bind_some]
      rw [gd_pos (idx_ok hi), gd_pos (idx_ok hi1), getD_nat0 e _ (i + 1) hi1, ref1_add_eq _ _ (by omega), Option.bind_some]
      rfl
    have hbt : ∀ d, e[i] ≤ d → d < e[i + 1] → (InF (kindB kind) a b d ↔ (kindB kind x y) = true) := by
      intro d h1 h2
      have ba := between (a := a) he hi1 (fun z hz => (hE z).2 (.inl hz)) h1 h2
      have bb := between (a := b) he hi1 (fun z hz => (hE z).2 (.inr hz)) h1 h2
      have rd : 0 ≤ d ∧ d < 73049 := by omega
      have ex : covB a d = x := by
        rw [Bool.eq_iff_iff, covB_iff, hx2, ← ba]
        exact ⟨fun h => ⟨h, rd⟩, And.left⟩
      have ey : covB b d = y := by
        rw [Bool.eq_iff_iff, covB_iff, hy2, ← bb]
        exact ⟨fun h => ⟨h, rd⟩, And.left⟩
      unfold InF
      rw [ex, ey]
      exact ⟨And.left, fun h => ⟨h, rd⟩⟩
    rw [fixL_eq]
    show ∃ r, (ref1_combine_p0 a b kind e out (i : Int)).bind _ = some r ∧ _
    rw [hstep]
    cases hxy : (kindB kind x y) with
    | true =>
      rw [hxy] at hbt
      obtain ⟨s1, s2, s3, s4⟩ := add_step (s := ⟨e[i], e[i + 1]⟩) hn ht ri.1 hlt rj.2
      rw [cond_true, Option.bind_some]
      refine ih (i + 1) _ hi1 (by omega) s1 s3 (fun d => ?_) (by omega)
      rw [s2, hc]
      show (InF (kindB kind) a b d ∧ d < e[i]) ∨ (e[i] ≤ d ∧ d < e[i + 1]) ↔ _
      constructor
      · rintro (⟨h1, h2⟩ | ⟨h1, h2⟩)
        · exact ⟨h1, by omega⟩
        · exact ⟨(hbt d h1 h2).2 rfl, h2⟩
      · rintro ⟨h1, h2⟩
        by_cases h3 : d < e[i]
        · exact .inl ⟨h1, h3⟩
        · exact .inr ⟨by omega, h2⟩
    | false =>
      rw [hxy] at hbt
      rw [cond_false, Option.bind_some]
      refine ih (i + 1) _ hi1 (by omega) hn (by omega) (fun d => ?_) (by omega)
      rw [hc]
      constructor
      · rintro ⟨h1, h2⟩; exact ⟨h1, by omega⟩
      · rintro ⟨h1, h2⟩
        refine ⟨h1, ?_⟩
        by_cases h3 : d < e[i]
        · exact h3
        · have := (hbt d (by omega) h2).1 h1
          cases this
theorem ref1_combine_norm (l b : List GSpan) (kind : Int) (hn : l.length ≤ 100000) (hb : b.length ≤ 100000) (hk : kindB kind false false = false) : ∃ r, ref1_combine l b kind = some r ∧ NormL (-1) r ∧ ∀ d, Cov r d ↔ InF (kindB kind) l b d := by
  obtain ⟨e, h1, h2, h3, h4⟩ := ref1_edges_eq l b hn hb
  have key : ∃ r, fixL (ref1_combine_l1 l b kind e) (([] : List GSpan), (0 : Int)) = some r ∧ NormL (-1) r ∧ ∀ d, Cov r d ↔ InF (kindB kind) l b d := by
    have hin : ∀ d, InF (kindB kind) l b d → ∃ x ∈ e, ∃ y ∈ e, x ≤ d ∧ d < y := by
      intro d hd
      have hor : Cov l d ∨ Cov b d := by
        rw [← covB_iff, ← covB_iff]
        have := hd.1
        cases hx : covB l d <;> cases hy : covB b d <;> simp
        rw [hx, hy, hk] at this
        cases this
      rcases hor with hor | hor
      · obtain ⟨t, ht, h⟩ := (cutL_cov l d).2 ⟨hor, hd.2⟩
        exact ⟨t.From, (h3 _).2 (.inl ⟨t, ht, .inl rfl⟩), t.To, (h3 _).2 (.inl ⟨t, ht, .inr rfl⟩), h⟩
      · obtain ⟨t, ht, h⟩ := (cutL_cov b d).2 ⟨hor, hd.2⟩
        exact ⟨t.From, (h3 _).2 (.inr ⟨t, ht, .inl rfl⟩), t.To, (h3 _).2 (.inr ⟨t, ht, .inr rfl⟩), h⟩
    by_cases he : e.length = 0
    · have : e = [] := List.length_eq_zero_iff.1 he
      subst this
      refine ⟨[], ?_, trivial, fun d => ⟨fun h => (cov_nil h).elim, fun h => ?_⟩⟩
      · rw [fixL_eq]; rfl
      · obtain ⟨x, hx, _⟩ := hin d h
        simp at hx
    · have h0 : 0 < e.length := by omega
      have hfirst : ∀ x ∈ e, e[0] ≤ x := by
        intro x hx
        obtain ⟨j, hj, rfl⟩ := List.getElem_of_mem hx
        by_cases hj0 : j = 0
        · subst hj0; exact Int.le_refl _
        · have := List.pairwise_iff_getElem.1 h2 0 j h0 hj (by omega); omega
      have hlast : ∀ x ∈ e, x ≤ e[e.length - 1] := by
        intro x hx
        obtain ⟨j, hj, rfl⟩ := List.getElem_of_mem hx
        by_cases hj0 : j = e.length - 1
        · subst hj0; exact Int.le_refl _
        · have := List.pairwise_iff_getElem.1 h2 j (e.length - 1) hj (by omega) (by omega); omega
      have r0 : 0 ≤ e[0] := by
        rcases (h3 _).1 (List.getElem_mem h0) with h | h <;> exact (edge_rng h).1
      obtain ⟨r, g1, g2, g3⟩ := combine_loop l b e hn hb h4 h2 h3 kind (e.length - 1) 0 [] h0 (by omega) trivial (by show (-1 : Int) ≤ _; omega) (fun d => ⟨fun h => (cov_nil h).elim, fun ⟨h, h'⟩ => by
        obtain ⟨x, hx, _, _, hxd, _⟩ := hin d h
        have := hfirst x hx
        omega⟩) (by simp)
      refine ⟨r, g1, g2, fun d => ?_⟩
      rw [g3]
      constructor
      · exact And.left
      · intro h
        obtain ⟨_, _, y, hy, _, hd⟩ := hin d h
        have := hlast y hy
        exact ⟨h, by omega⟩
  obtain ⟨r, g1, g2, g3⟩ := key
  refine ⟨r, ?_, g2, g3⟩
  show (ref1_edges [l, b]).bind _ = _
  rw [h1, Option.bind_some]
  show (fixL (ref1_combine_l1 l b kind e) (([] : List GSpan), (0 : Int))).bind _ = _
  rw [g1, Option.bind_some]
  rfl
theorem ref1_MakeSpans_eq (l : List GSpan) (hn : l.length ≤ 100000) : ref1_MakeSpans l = some (makeS l) := by
  obtain ⟨r, h1, h2, h3⟩ := ref1_combine_norm l [] 2 hn (by simp) rfl
  obtain ⟨c1, c2, _⟩ := makeS_ok l
  show (ref1_combine l [] 2).bind _ = _
  rw [h1, Option.bind_some, norm_uniq h2 c1 fun d => ?_]
  rw [h3, c2]
  unfold InF
  rw [← covB_iff]
  have : covB [] d = false := rfl
  rw [this]
  cases covB l d <;> simp [kindB]
end Go.Ax
