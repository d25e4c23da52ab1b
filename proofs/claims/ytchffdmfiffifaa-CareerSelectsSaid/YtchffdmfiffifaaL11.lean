import Derived.Test.YtchffdmfiffifaaL10
import Derived.Test.YtchffdmfiffifaaA5
set_option linter.all false
/- The laws of merging. -/
set_option maxRecDepth 100000
namespace Go.Ax
open Go.Proofs

theorem lessF_version {f g : GFact} (hf : validB f = true) (hg : validB g = true) (h : ideq f g) (hlt : f.Version < g.Version) : lessF f g := by
  have vf := valid_ids hf
  have vg := valid_ids hg
  unfold lessF bytesF headF
  rw [if_pos hf, if_pos hg, h.1, h.2]
  simp only [bigL, List.cons_append, List.nil_append, ltB, byteK]
  right; refine ⟨trivial, ?_⟩
  right; refine ⟨trivial, ?_⟩
  right; refine ⟨trivial, ?_⟩
  left
  omega
theorem ascL_one {f : GFact} (h : validB f = true) : ascL [f] = [f] := by
  unfold ascL
  rw [List.foldl_cons, if_pos h, List.foldl_nil, mergeL]
theorem merge_newer {f g : GFact} (hf : validB f = true) (hg : validB g = true) (h : ideq f g) (hlt : f.Version < g.Version) : careerMerge [g] [f] = [g] := by
  unfold careerMerge
  rw [ascL_one hf, ascL_one hg, mergeL]
  rcases cmpI_cases g f with ⟨hc, e⟩ | ⟨hc, e⟩ | ⟨hc, e⟩
  · exact (idlt_not_eq hc (ideq_symm h)).elim
  · rw [if_neg (by omega), if_neg (by omega), mergeL]
    unfold greaterF
    rw [if_neg fun hc => lessF_irrefl _ (lessF_trans hc (lessF_version hf hg h hlt))]
  · exact (idlt_not_eq hc h).elim

theorem law13_awake_eq : law13_awake = some true := by
  show law13_awake_p0 = _
  unfold law13_awake_p0
  rw [career_Merge_eq _ _ (by simp) (by simp), merge_newer (f := ⟨0, 1, 1, false, 1, 11, 0, ⟨10, 11⟩, 0, 0, 0, 0, 0⟩) (g := ⟨0, 1, 2, false, 1, 11, 0, ⟨10, 11⟩, 0, 0, 0, 0, 0⟩) (by decide) (by decide) ⟨rfl, rfl⟩ (by decide), Option.bind_some, gd_pos (by intro _; decide), gd_pos (by intro _; decide)]
  rfl

theorem careerMerge_same {a b a' b' : List GFact} (h : ∀ f, Top (a ++ b) f ↔ Top (a' ++ b') f) : careerMerge a b = careerMerge a' b' := (careerMerge_ok a b).uniq (careerMerge_ok a' b') h
theorem same_len {a : List GFact} (h : a.length ≤ 1000000) : ref12_SameFacts a a = some true := SameFacts_refl a h

theorem law_CareerMerges (l m : List GHand) (near : Int) : law13_CareerMerges l m near = some true := by
  obtain ⟨a, ha, na⟩ := law13_facts_some l near
  obtain ⟨b, hb, nb⟩ := law13_facts_some m near
  show law13_CareerMerges_p1 l m near = _
  unfold law13_CareerMerges_p1
  have hl := careerMerge_length a b
  have hmr := careerMerge_ok a b
  rw [ha, Option.bind_some, hb, Option.bind_some, career_Merge_eq a b (by omega) (by omega), Option.bind_some, law13_awake_eq, Option.bind_some, cond_true, ref12_Merge_eq a b (by omega) (by omega), Option.bind_some, ← careerMerge_ref,
    SameFacts_refl _ (by omega), Option.bind_some, cond_true, career_Merged_eq a (by omega), Option.bind_some, ref12_Merged_eq a (by omega), Option.bind_some, show (mergedB none a == mergedB none a) = true by simp, cond_true,
    career_Merged_eq _ (by omega), Option.bind_some, mergedB_asc _ none hmr.valids hmr.asc (fun p e => by cases e)]
  rfl

theorem law_CareerLattice (l m n : List GHand) (near : Int) : law13_CareerLattice l m n near = some true := by
  obtain ⟨a, ha, na⟩ := law13_facts_some l near
  obtain ⟨b, hb, nb⟩ := law13_facts_some m near
  obtain ⟨c, hc, nc⟩ := law13_facts_some n near
  show law13_CareerLattice_p1 l m n near = _
  unfold law13_CareerLattice_p1
  have lab := careerMerge_length a b
  have lbc := careerMerge_length b c
  have e1 : careerMerge (careerMerge a b) c = careerMerge a (careerMerge b c) := careerMerge_same fun f => by
    rw [Top_merge (careerMerge_ok a b), Top_merge2 (careerMerge_ok b c), List.append_assoc]
  have e2 : careerMerge a b = careerMerge b a := careerMerge_same fun f => Top_congr (app_comm a b) f
  have e3 : careerMerge a a = careerMerge a [] := careerMerge_same fun f => Top_congr (fun f => by simp) f
  have e4 : careerMerge (careerMerge a b) b = careerMerge a b := careerMerge_same fun f => by
    rw [Top_merge (careerMerge_ok a b)]
    exact Top_congr (fun f => by simp only [List.mem_append]; constructor <;> (intro h; rcases h with h | h <;> simp_all)) f
  have l1 := careerMerge_length a (careerMerge b c)
  have l2 := careerMerge_length a []
  rw [ha, Option.bind_some, hb, Option.bind_some, hc, Option.bind_some, career_Merge_eq a b (by omega) (by omega), Option.bind_some, career_Merge_eq _ c (by omega) (by omega), Option.bind_some,
    career_Merge_eq b c (by omega) (by omega), Option.bind_some, career_Merge_eq a _ (by omega) (by omega), Option.bind_some, e1, SameFacts_refl _ (by omega), Option.bind_some, law13_awake_eq, Option.bind_some, cond_true, cond_true,
    Option.bind_some, career_Merge_eq b a (by omega) (by omega), Option.bind_some, ← e2, SameFacts_refl _ (by omega), Option.bind_some, cond_true, career_Merge_eq a a (by omega) (by omega), Option.bind_some, career_Merge_eq a [] (by omega) (by simp), Option.bind_some,
    e3, SameFacts_refl _ (by simp only [List.length_nil] at l2; omega), Option.bind_some, cond_true, Option.bind_some, career_Merge_eq _ b (by omega) (by omega), Option.bind_some, e4, Option.bind_some, SameFacts_refl _ (by omega), Option.bind_some]
  rfl
end Go.Ax
