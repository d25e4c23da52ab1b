import Derived.Test.YtepnedfnpbakeaaL90
set_option linter.all false
/- Normal lists of spans: what days they hold says what they are. -/
set_option maxRecDepth 100000
namespace Go.Ax
open Go.Proofs

/-- A day of a list of spans. -/
def Cov (l : List GSpan) (d : Int) : Prop := ∃ s ∈ l, s.From ≤ d ∧ d < s.To
/-- A normal list behind a day. -/
def NormL (lo : Int) : List GSpan → Prop
  | [] => True
  | s :: r => lo < s.From ∧ s.From < s.To ∧ s.To ≤ 73049 ∧ NormL s.To r
def endT (lo : Int) : List GSpan → Int
  | [] => lo
  | s :: r => endT s.To r

theorem cov_cons {s : GSpan} {r : List GSpan} {d : Int} : Cov (s :: r) d ↔ (s.From ≤ d ∧ d < s.To) ∨ Cov r d := by simp [Cov]
theorem cov_nil {d : Int} : ¬ Cov [] d := by simp [Cov]
theorem cov_app {a b : List GSpan} {d : Int} : Cov (a ++ b) d ↔ Cov a d ∨ Cov b d := by
  unfold Cov
  constructor
  · rintro ⟨s, hs, h⟩
    rcases List.mem_append.1 hs with hs | hs
    · exact .inl ⟨s, hs, h⟩
    · exact .inr ⟨s, hs, h⟩
  · rintro (⟨s, hs, h⟩ | ⟨s, hs, h⟩)
    · exact ⟨s, List.mem_append.2 (.inl hs), h⟩
    · exact ⟨s, List.mem_append.2 (.inr hs), h⟩
theorem norm_mono {lo lo' : Int} (h : lo' ≤ lo) : ∀ {l : List GSpan}, NormL lo l → NormL lo' l
  | [], _ => trivial
  | s :: r, ⟨h1, h2⟩ => ⟨by omega, h2⟩
theorem norm_low : ∀ {l : List GSpan} {lo d : Int}, NormL lo l → Cov l d → lo < d ∧ d < 73049
  | [], _, _, _, hc => (cov_nil hc).elim
  | s :: r, lo, d, ⟨h1, h2, h3, h4⟩, hc => by
    rcases cov_cons.1 hc with h | h
    · omega
    · have := norm_low h4 h
      omega
theorem norm_uniq : ∀ {a b : List GSpan} {lo : Int}, NormL lo a → NormL lo b → (∀ d, Cov a d ↔ Cov b d) → a = b
  | [], [], _, _, _, _ => rfl
  | [], t :: u, _, _, hb, h => (cov_nil ((h t.From).2 (cov_cons.2 (.inl ⟨Int.le_refl _, hb.2.1⟩)))).elim
  | s :: r, [], _, ha, _, h => (cov_nil ((h s.From).1 (cov_cons.2 (.inl ⟨Int.le_refl _, ha.2.1⟩)))).elim
  | s :: r, t :: u, lo, ⟨a1, a2, a3, a4⟩, ⟨b1, b2, b3, b4⟩, h => by
    have hs := (h s.From).1 (cov_cons.2 (.inl ⟨Int.le_refl _, a2⟩))
    have ht := (h t.From).2 (cov_cons.2 (.inl ⟨Int.le_refl _, b2⟩))
    have e1 : s.From = t.From := by
      rcases cov_cons.1 hs with hs | hs
      · rcases cov_cons.1 ht with ht | ht
        · omega
        · have := norm_low a4 ht; omega
      · have := norm_low b4 hs
        rcases cov_cons.1 ht with ht | ht
        · omega
        · have := norm_low a4 ht; omega
    have e2 : s.To = t.To := by
      rcases Int.lt_trichotomy s.To t.To with hlt | he | hlt
      · have := (h s.To).2 (cov_cons.2 (.inl ⟨by omega, hlt⟩))
        rcases cov_cons.1 this with hc | hc
        · omega
        · have := norm_low a4 hc; omega
      · exact he
      · have := (h t.To).1 (cov_cons.2 (.inl ⟨by omega, hlt⟩))
        rcases cov_cons.1 this with hc | hc
        · omega
        · have := norm_low b4 hc; omega
    have e3 : s = t := by
      cases s; cases t
      simp only at e1 e2
      rw [e1, e2]
    subst e3
    rw [norm_uniq a4 b4 fun d => ?_]
    constructor
    · intro hc
      have h1 := norm_low a4 hc
      rcases cov_cons.1 ((h d).1 (cov_cons.2 (.inr hc))) with h2 | h2
      · omega
      · exact h2
    · intro hc
      have h1 := norm_low b4 hc
      rcases cov_cons.1 ((h d).2 (cov_cons.2 (.inr hc))) with h2 | h2
      · omega
      · exact h2
theorem endT_snoc (lo : Int) : ∀ (l : List GSpan) (s : GSpan), endT lo (l ++ [s]) = s.To
  | [], s => rfl
  | t :: r, s => endT_snoc t.To r s
theorem norm_snoc : ∀ {l : List GSpan} {s : GSpan} {lo : Int}, NormL lo (l ++ [s]) ↔ NormL lo l ∧ endT lo l < s.From ∧ s.From < s.To ∧ s.To ≤ 73049
  | [], s, lo => by simp [NormL, endT]
  | t :: r, s, lo => by
    rw [List.cons_append]
    unfold NormL endT
    rw [norm_snoc]
    constructor
    · rintro ⟨h1, h2, h3, h4, h5⟩; exact ⟨⟨h1, h2, h3, h4⟩, h5⟩
    · rintro ⟨⟨h1, h2, h3, h4⟩, h5⟩; exact ⟨h1, h2, h3, h4, h5⟩
theorem endT_ge : ∀ {l : List GSpan} {lo : Int}, NormL lo l → lo ≤ endT lo l ∧ (lo ≤ 73049 → endT lo l ≤ 73049)
  | [], lo, _ => ⟨Int.le_refl _, id⟩
  | s :: r, lo, ⟨h1, h2, h3, h4⟩ => by
    have := endT_ge h4
    unfold endT
    exact ⟨by omega, fun _ => this.2 h3⟩
theorem norm_high : ∀ {l : List GSpan} {lo d : Int}, NormL lo l → Cov l d → d < endT lo l
  | [], _, _, _, hc => (cov_nil hc).elim
  | s :: r, lo, d, ⟨h1, h2, h3, h4⟩, hc => by
    unfold endT
    rcases cov_cons.1 hc with h | h
    · have := (endT_ge h4).1; omega
    · exact norm_high h4 h
theorem snoc_cases {T : Type} (l : List T) : l = [] ∨ ∃ p x, l = p ++ [x] := by
  rcases List.eq_nil_or_concat l with h | ⟨p, x, h⟩
  · exact .inl h
  · exact .inr ⟨p, x, by rw [h]; simp⟩

/-- A span behind a list that is sorted. -/
noncomputable def joinS (out : List GSpan) (s : GSpan) : List GSpan := match out.getLast? with
  | none => [s]
  | some x => if s.From ≤ x.To then out.dropLast ++ [⟨x.From, if x.To < s.To then s.To else x.To⟩] else out ++ [s]
theorem joinS_nil (s : GSpan) : joinS [] s = [s] := rfl
theorem joinS_snoc (p : List GSpan) (x s : GSpan) : joinS (p ++ [x]) s = if s.From ≤ x.To then p ++ [⟨x.From, if x.To < s.To then s.To else x.To⟩] else (p ++ [x]) ++ [s] := by
  unfold joinS
  rw [List.getLast?_concat]
  simp
theorem join_step {out : List GSpan} {s : GSpan} (hn : NormL (-1) out) (hb : ∀ x ∈ out, x.From ≤ s.From) (h1 : 0 ≤ s.From) (h2 : s.From < s.To) (h3 : s.To ≤ 73049) :
    NormL (-1) (joinS out s) ∧ (∀ d, Cov (joinS out s) d ↔ Cov out d ∨ (s.From ≤ d ∧ d < s.To)) ∧ (∀ x ∈ joinS out s, x.From ≤ s.From) ∧ (joinS out s).length ≤ out.length + 1 := by
  rcases snoc_cases out with rfl | ⟨p, x, rfl⟩
  · rw [joinS_nil]
    refine ⟨⟨by omega, h2, h3, trivial⟩, fun d => ?_, fun x hx => ?_, by simp⟩
    · rw [cov_cons]; simp [cov_nil]
    · rw [List.mem_singleton.1 hx]; exact Int.le_refl _
  · obtain ⟨n1, n2, n3, n4⟩ := norm_snoc.1 hn
    have hx := hb x (by simp)
    rw [joinS_snoc]
    by_cases hc : s.From ≤ x.To
    · rw [if_pos hc]
      have hm : x.To ≤ (if x.To < s.To then s.To else x.To) ∧ s.To ≤ (if x.To < s.To then s.To else x.To) ∧ ((if x.To < s.To then s.To else x.To) = x.To ∨ (if x.To < s.To then s.To else x.To) = s.To) := by
        split <;> omega
      generalize (if x.To < s.To then s.To else x.To) = m at hm
      refine ⟨norm_snoc.2 ⟨n1, n2, by show x.From < m; omega, by show m ≤ 73049; omega⟩, fun d => ?_, fun y hy => ?_, by simp⟩
      · rw [cov_app, cov_app, cov_cons, cov_cons]
        simp only [cov_nil, or_false]
        constructor
        · rintro (h | ⟨h4, h5⟩)
          · exact .inl (.inl h)
          · by_cases hd : d < x.To
            · exact .inl (.inr ⟨h4, hd⟩)
            · exact .inr ⟨by omega, by omega⟩
        · rintro ((h | ⟨h4, h5⟩) | ⟨h4, h5⟩)
          · exact .inl h
          · exact .inr ⟨h4, by omega⟩
          · exact .inr ⟨by omega, by omega⟩
      · rcases List.mem_append.1 hy with hy | hy
        · exact hb y (by simp [hy])
        · rw [List.mem_singleton.1 hy]; exact hx
    · rw [if_neg hc]
      refine ⟨norm_snoc.2 ⟨hn, by rw [endT_snoc]; omega, h2, h3⟩, fun d => ?_, fun y hy => ?_, by simp⟩
      · rw [cov_app (b := [s]), cov_cons]; simp [cov_nil]
      · rcases List.mem_append.1 hy with hy | hy
        · exact hb y hy
        · rw [List.mem_singleton.1 hy]; exact Int.le_refl _
theorem join_fold : ∀ (l out : List GSpan), NormL (-1) out → (∀ x ∈ out, ∀ s ∈ l, x.From ≤ s.From) → l.Pairwise (fun a b => a.From ≤ b.From) → (∀ s ∈ l, 0 ≤ s.From ∧ s.From < s.To ∧ s.To ≤ 73049) →
    NormL (-1) (l.foldl joinS out) ∧ (∀ d, Cov (l.foldl joinS out) d ↔ Cov out d ∨ Cov l d) ∧ (l.foldl joinS out).length ≤ out.length + l.length
  | [], out, hn, _, _, _ => ⟨hn, fun d => by simp [cov_nil], by simp⟩
  | s :: l, out, hn, hb, hp, ho => by
    obtain ⟨o1, o2, o3⟩ := ho s (by simp)
    obtain ⟨j1, j2, j3, j4⟩ := join_step hn (fun x hx => hb x hx s (by simp)) o1 o2 o3
    obtain ⟨p1, p2⟩ := List.pairwise_cons.1 hp
    obtain ⟨f1, f2, f3⟩ := join_fold l (joinS out s) j1 (fun x hx t ht => by have := j3 x hx; have := p1 t ht; omega) p2 (fun t ht => ho t (by simp [ht]))
    rw [List.foldl_cons]
    refine ⟨f1, fun d => ?_, by rw [List.length_cons]; omega⟩
    rw [f2, j2, cov_cons, or_assoc]
end Go.Ax
