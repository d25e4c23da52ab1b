import Derived.Test.YtklbaihmajbbdaaL33a
set_option linter.all false
/- Survivors that are made of numbers. -/
set_option maxRecDepth 100000
namespace Go.Ax

def heirL (i : Nat) (r : GPensionlaw22_Raw) : GHeir := ⟨1 + r.A % 11 + 11 * (i : Int), 1 + r.B % 3, if r.B % 3 = 0 then (if r.D % 5 = 0 then 1 + r.C % 3 else 1 + r.C % 20000) else 0⟩
def heirsFrom : Nat → List GPensionlaw22_Raw → List GHeir
  | _, [] => []
  | i, r :: l => heirL i r :: heirsFrom (i + 1) l
def heirsL (l : List GPensionlaw22_Raw) : List GHeir := heirsFrom 0 (l.take 8)
theorem heirsFrom_length : ∀ (l : List GPensionlaw22_Raw) (i : Nat), (heirsFrom i l).length = l.length
  | [], _ => rfl
  | r :: l, i => by simp [heirsFrom, heirsFrom_length l]
def heirG (r : GPensionlaw22_Raw) (out : List GHeir) : List GHeir ⊕ List GHeir := .inl (out ++ [heirL out.length r])
theorem runE_heirs : ∀ (l : List GPensionlaw22_Raw) (out : List GHeir), runE heirG id l out = out ++ heirsFrom out.length l
  | [], out => by simp [runE, heirsFrom]
  | r :: l, out => by
    show runE heirG id l (out ++ [heirL out.length r]) = _
    rw [runE_heirs l]
    simp [heirsFrom]
theorem heirB_made (i : Nat) (hi : i < 8) (r : GPensionlaw22_Raw) : heirB (heirL i r) = true := by
  have e1 := emod_rng r.A (m := 11) (by omega)
  have e2 := emod_rng r.B (m := 3) (by omega)
  have e3 := emod_rng r.C (m := 3) (by omega)
  have e4 := emod_rng r.C (m := 20000) (by omega)
  unfold heirB heirL
  rw [Bool.and_eq_true]
  refine ⟨by simp only [Bool.and_eq_true, decide_eq_true_eq]; omega, ?_⟩
  by_cases h : r.B % 3 = 0
  · rw [if_pos (by simp only; omega)]
    simp only [h, if_true, Bool.and_eq_true, decide_eq_true_eq]
    split <;> omega
  · rw [if_neg (by simp only; omega)]
    show ((1 + r.B % 3 == 2 || 1 + r.B % 3 == 3) && (if r.B % 3 = 0 then (if r.D % 5 = 0 then 1 + r.C % 3 else 1 + r.C % 20000) else 0) == 0) = true
    rw [if_neg h]
    have : r.B % 3 = 1 ∨ r.B % 3 = 2 := by omega
    rcases this with h | h <;> rw [h] <;> rfl
theorem valid_made : ∀ (l : List GPensionlaw22_Raw) (i : Nat) (pre : List GHeir), i + l.length ≤ 8 → (∀ x ∈ pre, x.Person ≤ 11 * (i : Int)) → runE validG (fun _ => Sum.inl ()) (heirsFrom i l) pre = (Sum.inl () : Unit ⊕ Unit)
  | [], _, _, _, _ => rfl
  | r :: l, i, pre, hl, hp => by
    have hl : i + (l.length + 1) ≤ 8 := hl
    have e1 := emod_rng r.A (m := 11) (by omega)
    have hper : (heirL i r).Person = 1 + r.A % 11 + 11 * (i : Int) := rfl
    have hany : (pre.any fun x => x.Person == (heirL i r).Person) = false := by
      rw [List.any_eq_false]
      intro x hx hh
      have h1 := hp x hx
      have h2 : x.Person = (heirL i r).Person := by simpa using hh
      omega
    show runE validG _ (heirL i r :: heirsFrom (i + 1) l) pre = _
    unfold runE validG
    rw [heirB_made i (by omega) r, hany, show (true && !false) = true from rfl, if_pos rfl]
    refine valid_made l (i + 1) _ (by omega) fun x hx => ?_
    rcases List.mem_append.1 hx with hx | hx
    · have := hp x hx
      omega
    · rw [List.mem_singleton] at hx
      subst hx
      omega
theorem heirsL_valid (l : List GPensionlaw22_Raw) : validL (heirsL l) = true := by
  unfold validL heirsL
  rw [if_neg (by rw [heirsFrom_length, List.length_take]; omega)]
  unfold validE
  rw [valid_made (l.take 8) 0 [] (by rw [List.length_take]; omega) (fun x hx => by simp at hx)]
theorem law22_Heirs_eq (l : List GPensionlaw22_Raw) (hl : l.length ≤ 9223372036854775807) : law22_Heirs l = some (heirsL l) := by
  show (fixL (law22_Heirs_l1 l) ([], ((0 : Nat) : Int))).bind _ = _
  have hlen : (l.take 8).length = min 8 l.length := List.length_take
  have := fixL_list0 (f := law22_Heirs_l1 l) (l.take 8) (fun i (o : List GHeir) => (o, (i : Int))) (fun i o => o.length = i) heirG id [] rfl ?_ ?_ ?_
  · rw [this, runE_heirs, Option.bind_some]
    rfl
  · intro i hi o ho
    show law22_Heirs_p0 l o i = _
    have h1 : i < l.length := by omega
    have h8 : i < 8 := by omega
    have hcap : capB (o.length + 1) 24 := capB_ok (by omega) (by omega)
    have e1 := emod_rng l[i].A (m := 11) (by omega)
    have e2 := emod_rng l[i].B (m := 3) (by omega)
    have e3 := emod_rng l[i].C (m := 3) (by omega)
    have e4 := emod_rng l[i].C (m := 20000) (by omega)
    unfold law22_Heirs_p0
    rw [lt_len h1, cond_true, decide_eq_true (show (i : Int) < 8 by omega), cond_true]
    simp only [gd_pos (idx_ok h1), gd_pos hcap, getD_nat l zGPensionlaw22_Raw i h1, plain_Mod_eq _ 11 (by omega) (by omega), plain_Mod_eq _ 3 (by omega) (by omega), plain_Mod_eq _ 20000 (by omega) (by omega), plain_Mod_eq _ 5 (by omega) (by omega), Option.bind_some]
    rw [w64_succ (by omega), w64_in (n := 11 * (i : Int)) (by omega) (by omega), w64_in (n := 1 + l[i].A % 11) (by omega) (by omega), w64_in (n := 1 + l[i].A % 11 + 11 * (i : Int)) (by omega) (by omega), w64_in (n := 1 + l[i].B % 3) (by omega) (by omega), w64_in (n := 1 + l[i].C % 3) (by omega) (by omega), w64_in (n := 1 + l[i].C % 20000) (by omega) (by omega)]
    unfold heirG heirL
    rw [ho, List.getElem_take]
    by_cases hb : l[i].B % 3 = 0
    · rw [show (1 + l[i].B % 3 == 1) = true from beq_iff_eq.2 (by omega), cond_true, if_pos hb]
      by_cases hd : l[i].D % 5 = 0
      · rw [show (l[i].D % 5 == 0) = true from beq_iff_eq.2 hd, cond_true, if_pos hd]
      · rw [show (l[i].D % 5 == 0) = false from beq_eq_false_iff_ne.2 hd, cond_false, if_neg hd]
    · rw [show (1 + l[i].B % 3 == 1) = false from beq_eq_false_iff_ne.2 (by omega), cond_false, if_neg hb]
  · intro i hi o o' ho hg
    cases hg
    simp [ho]
  · intro o ho
    show law22_Heirs_p0 l o (l.take 8).length = _
    unfold law22_Heirs_p0
    rw [hlen]
    have : (bif decide (((min 8 l.length : Nat) : Int) < ((l.length : Nat) : Int)) then decide (((min 8 l.length : Nat) : Int) < 8) else false) = false := by
      rw [cond_and, Bool.and_eq_false_iff]
      by_cases h : l.length ≤ 8
      · exact .inl (decide_eq_false (by omega))
      · exact .inr (decide_eq_false (by omega))
    rw [this]
    rfl
end Go.Ax
