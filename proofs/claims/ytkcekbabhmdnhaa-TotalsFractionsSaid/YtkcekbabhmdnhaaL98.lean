import Derived.Test.YtkcekbabhmdnhaaL97
set_option linter.all false
/- Counted days that are made: one span behind the other; their sums; the sanity check. -/
set_option maxRecDepth 100000
namespace Go.Ax
open Go.Proofs

/-- Spans one behind the other. -/
def AscS (lo : Int) : List GSpan → Prop
  | [] => True
  | s :: r => lo ≤ s.From ∧ s.From < s.To ∧ s.To ≤ 73049 ∧ AscS s.To r
theorem ascS_mono {lo lo' : Int} (h : lo' ≤ lo) : ∀ {l : List GSpan}, AscS lo l → AscS lo' l
  | [], _ => trivial
  | s :: r, ⟨h1, h2⟩ => ⟨by omega, h2⟩
theorem daysN_app : ∀ a b : List GSpan, daysN (a ++ b) = daysN a + daysN b
  | [], b => by simp [daysN]
  | s :: r, b => by
    rw [List.cons_append]
    show (s.To - s.From) + daysN (r ++ b) = ((s.To - s.From) + daysN r) + daysN b
    rw [daysN_app r b]
    omega
theorem daysN_addS (out : List GSpan) (s : GSpan) : daysN (addS out s) = daysN out + (s.To - s.From) := by
  rcases snoc_cases out with rfl | ⟨p, x, rfl⟩
  · show daysN [s] = _
    simp [daysN]
  · rw [addS_snoc]
    split
    · next h =>
      rw [daysN_app, daysN_app]
      simp only [daysN]
      omega
    · rw [daysN_app (p ++ [x])]
      simp only [daysN]
      omega
theorem asc_fold : ∀ (l out : List GSpan) (lo : Int), 0 ≤ lo → NormL (-1) out → endT (-1) out ≤ lo → AscS lo l →
    NormL (-1) (l.foldl addS out) ∧ (∀ d, Cov (l.foldl addS out) d ↔ Cov out d ∨ Cov l d) ∧ daysN (l.foldl addS out) = daysN out + daysN l
  | [], out, lo, _, hn, _, _ => ⟨hn, fun d => by simp [cov_nil], by simp [daysN]⟩
  | s :: l, out, lo, h0, hn, he, ⟨h1, h2, h3, h4⟩ => by
    obtain ⟨s1, s2, s3, s4⟩ := add_step (s := s) hn (by omega) (by omega) h2 h3
    obtain ⟨f1, f2, f3⟩ := asc_fold l (addS out s) s.To (by omega) s1 s3 h4
    rw [List.foldl_cons]
    refine ⟨f1, fun d => by rw [f2, s2, cov_cons, or_assoc], ?_⟩
    rw [f3, daysN_addS]
    show _ = daysN out + ((s.To - s.From) + daysN l)
    omega
theorem asc_rng : ∀ {l : List GSpan} {lo d : Int}, AscS lo l → Cov l d → lo ≤ d ∧ d < 73049
  | [], _, _, _, hc => (cov_nil hc).elim
  | s :: r, lo, d, ⟨h1, h2, h3, h4⟩, hc => by
    rcases cov_cons.1 hc with h | h
    · omega
    · have := asc_rng h4 h; omega
theorem days_asc {l : List GSpan} {lo : Int} (h0 : 0 ≤ lo) (h : AscS lo l) : daysN (makeS l) = daysN l := by
  obtain ⟨f1, f2, f3⟩ := asc_fold l [] lo h0 trivial (by show (-1 : Int) ≤ lo; omega) h
  obtain ⟨c1, c2, _⟩ := makeS_ok l
  rw [norm_uniq c1 f1 fun d => ?_, f3]
  · simp [daysN]
  · rw [c2, f2]
    constructor
    · exact fun hc => .inr hc.1
    · rintro (hc | hc)
      · exact (cov_nil hc).elim
      · have := asc_rng h hc
        exact ⟨hc, by omega⟩
/-- Counted days, one span behind the other. -/
def AscC (lo : Int) (c : List GCounted) : Prop := AscS lo (c.map fun x => x.Span)
theorem asc_st : ∀ (c : List GCounted) (lo s : Int), AscC lo c → AscS lo (stOf c s)
  | [], _, _, _ => trivial
  | x :: r, lo, s, ⟨h1, h2, h3, h4⟩ => by
    have ih := asc_st r x.Span.To s h4
    have h1' : lo ≤ x.Span.From := h1
    have h2' : x.Span.From < x.Span.To := h2
    rw [stOf_cons]
    cases x.State == s with
    | true => exact ⟨h1, h2, h3, ih⟩
    | false => exact ascS_mono (by omega) ih
theorem own_asc {c : List GCounted} {lo : Int} (h0 : 0 ≤ lo) (h : AscC lo c) (s : Int) : ownS c s = daysN (stOf c s) := days_asc h0 (asc_st c lo s h)
theorem mod_rng (x m : Int) (hm : 0 < m) : 0 ≤ x % m ∧ x % m < m := ⟨Int.emod_nonneg x (by omega), Int.emod_lt_of_pos x hm⟩
def cntF (at_ : Int) (x : GCounted) : Int := at_ + x.Span.From % 30
def cntT (at_ : Int) (x : GCounted) : Int := cntF at_ x + 1 + x.Span.To % 400
def countedL (at_ : Int) : List GCounted → List GCounted
  | [] => []
  | x :: r => ⟨⟨cntF at_ x, cntT at_ x⟩, x.State % 5, 1 + x.Rank % 7⟩ :: countedL (cntT at_ x) r
theorem cnt_rng (at_ : Int) (x : GCounted) : at_ ≤ cntF at_ x ∧ cntF at_ x < cntT at_ x ∧ cntT at_ x ≤ at_ + 429 := by
  have h1 := mod_rng x.Span.From 30 (by omega)
  have h2 := mod_rng x.Span.To 400 (by omega)
  unfold cntT cntF
  omega
theorem countedL_len (at_ : Int) : ∀ l : List GCounted, (countedL at_ l).length = l.length
  | [] => rfl
  | x :: r => by
    unfold countedL
    rw [List.length_cons, List.length_cons, countedL_len _ r]
theorem countedL_asc : ∀ (l : List GCounted) (at_ : Int), at_ + 429 * (l.length : Int) ≤ 73049 → AscC at_ (countedL at_ l)
  | [], _, _ => trivial
  | x :: r, at_, h => by
    have h1 := cnt_rng at_ x
    rw [List.length_cons] at h
    exact ⟨h1.1, h1.2.1, by show cntT at_ x ≤ _; omega, countedL_asc r (cntT at_ x) (by omega)⟩
theorem countedL_st : ∀ (l : List GCounted) (at_ : Int), ∀ x ∈ countedL at_ l, 0 ≤ x.State ∧ x.State < 5
  | [], _, x, hx => by simp [countedL] at hx
  | y :: r, at_, x, hx => by
    unfold countedL at hx
    rcases List.mem_cons.1 hx with rfl | hx
    · exact mod_rng y.State 5 (by omega)
    · exact countedL_st r _ x hx
theorem capC {n : Nat} (h : n ≤ 2000000) : capB n 32 := ⟨by omega, by omega⟩
theorem counted_loop (l : List GCounted) (hl : l.length ≤ 100) : ∀ (n i : Nat) (out : List GCounted) (at_ : Int), l.length = i + n → out.length ≤ i → 0 ≤ at_ → at_ ≤ 429 * (i : Int) →
    fixL (law18_counted_2_l1 l) (out, at_, (i : Int)) = some (out ++ countedL at_ (l.drop i)) := by
  intro n
  induction n with
  | zero =>
    intro i out at_ h ho h0 h1
    have : i = l.length := by omega
    subst this
    rw [fixL_eq]
    show (law18_counted_2_p0 l out at_ ((l.length : Nat) : Int)).bind _ = _
    unfold law18_counted_2_p0
    rw [not_lt_len, cond_false, List.drop_length]
    simp [countedL]
  | succ n ih =>
    intro i out at_ h ho h0 h1
    have hi : i < l.length := by omega
    have hr := cnt_rng at_ l[i]
    have m1 := mod_rng l[i].Span.From 30 (by omega)
    have m2 := mod_rng l[i].Span.To 400 (by omega)
    have m3 := mod_rng l[i].Rank 7 (by omega)
    rw [fixL_eq]
    show (law18_counted_2_p0 l out at_ (i : Int)).bind _ = _
    unfold law18_counted_2_p0
    rw [lt_len hi, cond_true, gd_pos (idx_ok hi), getD_nat l _ i hi, made_Pick_eq _ 30 (by omega), Option.bind_some, gd_pos (idx_ok hi), made_Pick_eq _ 400 (by omega), Option.bind_some, gd_pos (idx_ok hi), made_Pick_eq _ 5 (by omega), Option.bind_some, gd_pos (idx_ok hi), made_Pick_eq _ 7 (by omega), Option.bind_some, gd_pos (capC (by omega)), w64_succ (by omega)]
    rw [if_neg (by omega), if_neg (by omega), if_neg (by omega), if_neg (by omega)]
    have e1 : w64 (at_ + l[i].Span.From % 30) = cntF at_ l[i] := w64_in (by omega) (by omega)
    have e2 : w64 (cntF at_ l[i] + 1) = cntF at_ l[i] + 1 := w64_in (by omega) (by omega)
    have e3 : w64 (cntF at_ l[i] + 1 + l[i].Span.To % 400) = cntT at_ l[i] := by
      have : cntT at_ l[i] = cntF at_ l[i] + 1 + l[i].Span.To % 400 := rfl
      rw [this]
      exact w64_in (by omega) (by omega)
    have e4 : w64 (1 + l[i].Rank % 7) = 1 + l[i].Rank % 7 := w64_in (by omega) (by omega)
    rw [e1, e2, e3, e4, Option.bind_some]
    show fixL (law18_counted_2_l1 l) (out ++ [⟨⟨cntF at_ l[i], cntT at_ l[i]⟩, l[i].State % 5, 1 + l[i].Rank % 7⟩], cntT at_ l[i], ((i + 1 : Nat) : Int)) = _
    rw [ih (i + 1) _ _ (by omega) (by simp; omega) (by omega) (by omega), List.append_assoc, List.drop_eq_getElem_cons hi]
    rfl
theorem counted_eq (l : List GCounted) (hl : l.length ≤ 60) : law18_counted_2 l false = some (countedL 0 l) := by
  have := counted_loop l (by omega) l.length 0 [] 0 (by omega) (by simp) (by omega) (by omega)
  rw [show ((0 : Nat) : Int) = 0 from rfl, List.drop_zero, List.nil_append] at this
  show (fixL (law18_counted_2_l1 l) (([] : List GCounted), (0 : Int), (0 : Int))).bind _ = _
  rw [this]
  rfl
/-- The list of the sanity check. -/
def exC : List GCounted := [(GCounted.mk (GSpan.mk (0 : Int) (100 : Int)) (0 : Int) (1 : Int)), (GCounted.mk (GSpan.mk (100 : Int) (600 : Int)) (1 : Int) (1 : Int)), (GCounted.mk (GSpan.mk (600 : Int) (900 : Int)) (2 : Int) (1 : Int))]
theorem exC_asc : AscC 0 exC := by
  refine ⟨?_, ?_, ?_, ?_, ?_, ?_, ?_, ?_, ?_, trivial⟩ <;> decide
theorem law18_awake_eq : law18_awake = some true := by
  have o : ∀ s, ownS exC s = daysN (stOf exC s) := fun s => own_asc (Int.le_refl 0) exC_asc s
  have o0 : ownS exC 0 = 100 := by rw [o]; rfl
  have o1 : ownS exC 1 = 500 := by rw [o]; rfl
  have o2 : ownS exC 2 = 300 := by rw [o]; rfl
  have o3 : ownS exC 3 = 0 := by rw [o]; rfl
  have o4 : ownS exC 4 = 0 := by rw [o]; rfl
  have o5 : ownS exC 5 = 0 := by rw [o]; rfl
  have f0 : fewS exC 200 0 = true := by unfold fewS; rw [o0]; rfl
  have f1 : fewS exC 200 1 = false := by unfold fewS; rw [o1]; rfl
  have f2 : fewS exC 200 2 = false := by unfold fewS; rw [o2]; rfl
  have f3 : fewS exC 200 3 = false := by unfold fewS; rw [o3]; rfl
  have f4 : fewS exC 200 4 = false := by unfold fewS; rw [o4]; rfl
  have f5 : fewS exC 200 5 = false := by unfold fewS; rw [o5]; rfl
  have hs : sumS exC 6 = 900 := by
    show 0 + ownS exC 0 + ownS exC 1 + ownS exC 2 + ownS exC 3 + ownS exC 4 + ownS exC 5 = 900
    rw [o0, o1, o2, o3, o4, o5]; rfl
  have hb : baseS exC 200 6 = 800 := by
    show (bif fewS exC 200 5 then (bif fewS exC 200 4 then (bif fewS exC 200 3 then (bif fewS exC 200 2 then (bif fewS exC 200 1 then (bif fewS exC 200 0 then (0 : Int) else 0 + ownS exC 0) else (bif fewS exC 200 0 then (0 : Int) else 0 + ownS exC 0) + ownS exC 1) else (bif fewS exC 200 1 then (bif fewS exC 200 0 then (0 : Int) else 0 + ownS exC 0) else (bif fewS exC 200 0 then (0 : Int) else 0 + ownS exC 0) + ownS exC 1) + ownS exC 2) else baseS exC 200 3 + ownS exC 3) else baseS exC 200 4 + ownS exC 4) else baseS exC 200 5 + ownS exC 5) = 800
    have b1 : baseS exC 200 1 = 0 := by show (bif fewS exC 200 0 then (0 : Int) else 0 + ownS exC 0) = 0; rw [f0]; rfl
    have b2 : baseS exC 200 2 = 500 := by show (bif fewS exC 200 1 then baseS exC 200 1 else baseS exC 200 1 + ownS exC 1) = 500; rw [f1, b1, o1]; rfl
    have b3 : baseS exC 200 3 = 800 := by show (bif fewS exC 200 2 then baseS exC 200 2 else baseS exC 200 2 + ownS exC 2) = 800; rw [f2, b2, o2]; rfl
    have b4 : baseS exC 200 4 = 800 := by show (bif fewS exC 200 3 then baseS exC 200 3 else baseS exC 200 3 + ownS exC 3) = 800; rw [f3, b3, o3]; rfl
    have b5 : baseS exC 200 5 = 800 := by show (bif fewS exC 200 4 then baseS exC 200 4 else baseS exC 200 4 + ownS exC 4) = 800; rw [f4, b4, o4]; rfl
    rw [f5, b5, o5]; rfl
  have ht : totAt exC 200 6 = ⟨⟨100, 500, 300, 0, 0, 0⟩, ⟨true, false, false, false, false, false⟩, 900, 800, (lastP exC 6).2⟩ := by
    show GTotal.mk ⟨ownS exC 0, ownS exC 1, ownS exC 2, ownS exC 3, ownS exC 4, ownS exC 5⟩ ⟨fewS exC 200 0, fewS exC 200 1, fewS exC 200 2, fewS exC 200 3, fewS exC 200 4, fewS exC 200 5⟩ (sumS exC 6) (baseS exC 200 6) (lastP exC 6).2 = _
    rw [o0, o1, o2, o3, o4, o5, f0, f1, f2, f3, f4, f5, hs, hb]
  show (totals_Compute exC 200).bind _ = _
  rw [totals_Compute_eq exC 200 (by show 3 ≤ 100000; omega), Option.bind_some, ht]
  have hf : ∀ L, totals_Fraction ⟨⟨100, 500, 300, 0, 0, 0⟩, ⟨true, false, false, false, false, false⟩, 900, 800, L⟩ 1 = some (500, 800) := by
    intro L
    show totals_Fraction_p0 _ _ = _
    unfold totals_Fraction_p0
    rw [show (bif decide ((1 : Int) < 0) then true else decide ((6 : Int) ≤ 1)) = false from rfl, cond_false, gd_pos (by decide)]
    rfl
  rw [hf, Option.bind_some]
  rfl
end Go.Ax
