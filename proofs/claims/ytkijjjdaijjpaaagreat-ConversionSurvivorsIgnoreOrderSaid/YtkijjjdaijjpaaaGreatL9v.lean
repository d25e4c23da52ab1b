import Derived.Test.YtkijjjdaijjpaaaGreatL8v
set_option linter.all false
/- The other text's merge; which lists are merged; lists compared. -/
set_option maxRecDepth 100000
namespace Go.Ax
open Go.Proofs

/-- How far a fact comes in. -/
noncomputable def bnd (out : List GFact) (f : GFact) : Nat → Nat
  | 0 => 0
  | n + 1 => if 0 < idv (out.getD n zGFact) f then bnd out f n else n + 1
theorem bnd_le (out : List GFact) (f : GFact) : ∀ n, bnd out f n ≤ n
  | 0 => Nat.le_refl _
  | n + 1 => by
    unfold bnd
    split
    · have := bnd_le out f n; omega
    · exact Nat.le_refl _
theorem bnd_above (out : List GFact) (f : GFact) : ∀ n i, bnd out f n ≤ i → i < n → idlt f (out.getD i zGFact)
  | 0, i, _, h => by omega
  | n + 1, i, h1, h2 => by
    unfold bnd at h1
    split at h1
    · next hp =>
      by_cases hi : i = n
      · subst hi; exact (idv_pos _ _).1 hp
      · exact bnd_above out f n i h1 (by omega)
    · omega
theorem bnd_at (out : List GFact) (f : GFact) : ∀ n, 0 < bnd out f n → ¬ idlt f (out.getD (bnd out f n - 1) zGFact)
  | 0, h => by simp [bnd] at h
  | n + 1, h => by
    unfold bnd at h ⊢
    split
    · next hp => rw [if_pos hp] at h; exact bnd_at out f n h
    · next hp => intro hc; exact hp ((idv_pos _ _).2 (by simpa using hc))

theorem w64_nat {n : Int} (h : -4611686018427387904 ≤ n) (h' : n ≤ 4611686018427387904) : w64 n = n := w64_in (by omega) (by omega)

/-- Where a fact goes. -/
theorem mergeL_insert (f : GFact) : ∀ (p s : List GFact), (∀ g ∈ p, idlt g f) → (∀ g ∈ s, idlt f g) → mergeL (p ++ s) [f] = p ++ f :: s
  | [], [], _, _ => by simp [mergeL]
  | [], y :: s, _, hs => by
    have h := hs y (by simp)
    rw [List.nil_append, mergeL]
    rcases cmpI_cases y f with ⟨hc, e⟩ | ⟨hc, e⟩ | ⟨hc, e⟩
    · exact (idlt_asymm h hc).elim
    · exact (idlt_not_eq h (ideq_symm hc)).elim
    · rw [if_neg (by omega), if_pos (by omega), mergeL]
      rfl
  | x :: p, s, hp, hs => by
    have h := hp x (by simp)
    rw [List.cons_append, mergeL]
    rcases cmpI_cases x f with ⟨hc, e⟩ | ⟨hc, e⟩ | ⟨hc, e⟩
    · rw [if_pos (by omega), mergeL_insert f p s (fun g hg => hp g (by simp [hg])) hs]
      rfl
    · exact (idlt_not_eq h hc).elim
    · exact (idlt_asymm h hc).elim
theorem mergeL_nil_r : ∀ l : List GFact, mergeL l [] = l
  | [] => by rw [mergeL]
  | x :: l => by rw [mergeL]
theorem mergeL_same (f q : GFact) (he : ideq q f) : ∀ (p s : List GFact), (∀ g ∈ p, idlt g f) → mergeL (p ++ q :: s) [f] = p ++ greaterF q f :: s
  | [], s, _ => by
    rw [List.nil_append, mergeL]
    rcases cmpI_cases q f with ⟨hc, e⟩ | ⟨hc, e⟩ | ⟨hc, e⟩
    · exact (idlt_not_eq hc he).elim
    · rw [if_neg (by omega), if_neg (by omega), mergeL_nil_r]; rfl
    · exact (idlt_not_eq hc (ideq_symm he)).elim
  | x :: p, s, hp => by
    have h := hp x (by simp)
    rw [List.cons_append, mergeL]
    rcases cmpI_cases x f with ⟨hc, e⟩ | ⟨hc, e⟩ | ⟨hc, e⟩
    · rw [if_pos (by omega), mergeL_same f q he p s (fun g hg => hp g (by simp [hg]))]
      rfl
    · exact (idlt_not_eq h hc).elim
    · exact (idlt_asymm h hc).elim

theorem getD_app_right {T : Type} (p s : List T) (x z : T) : (p ++ x :: s).getD p.length z = x := by
  rw [List.getD_eq_getElem?_getD, List.getElem?_append_right (Nat.le_refl _)]
  simp
theorem sub_front {T : Type} (z : T) (p s : List T) : subL z (p ++ s) 0 p.length = p := by
  rw [subL_take (by simp)]
  simp
theorem sub_back {T : Type} (z : T) (p s : List T) : subL z (p ++ s) p.length s.length = s := by
  rw [subL_take (by simp)]
  simp
theorem asc_before : ∀ {p : List GFact} {q : GFact} {s : List GFact}, Asc (p ++ q :: s) → ∀ g ∈ p, idlt g q := by
  intro p q s h g hg
  unfold Asc at h
  rw [List.pairwise_append] at h
  exact h.2.2 g hg q (by simp)

theorem careerMerge_ref (a b : List GFact) : careerMerge a b = ascL (a ++ b) := (careerMerge_ok a b).uniq (ascL_ok (a ++ b)) fun _ => Iff.rfl
end Go.Ax
