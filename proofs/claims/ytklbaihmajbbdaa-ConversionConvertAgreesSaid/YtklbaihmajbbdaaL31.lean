import Derived.Test.YtklbaihmajbbdaaL31a
set_option linter.all false
/- Conversion: benefits that are made of numbers; lists that are the same. -/
set_option maxRecDepth 100000
namespace Go.Ax

def netL (r : GPensionlaw22_Raw) : GNet :=
  ⟨r.A % 4, 1 + r.B % 3, if r.D % 9 = 8 then 3 else 1 + r.A % 4 % 2, 0, 0, r.D % 100, amountL r.C⟩
def sameSB (a b : GNet) : Bool := a.State == b.State && a.Benefit == b.Benefit
def netStep (u : Bool) (r : GPensionlaw22_Raw) (out : List GNet) : List GNet := if u && out.any (fun x => sameSB x (netL r)) then out else out ++ [netL r]
theorem nets_inner (l : List GPensionlaw22_Raw) (u : Bool) (o0 : List GNet) (j0 : Int) (n : GNet) (out : List GNet) (j : Int) (hl : out.length ≤ 1000) : ∀ (m k : Nat) (t : Bool), out.length = k + m →
    fixL (law22_Nets_l2 l u o0 j0 n) (out, j, t, (k : Int)) = some (out, j, t || (out.drop k).any (fun x => sameSB x n))
  | 0, k, t, h => by
    have : k = out.length := by omega
    subst this
    rw [fixL_eq]
    show (law22_Nets_p0 l u out j t out.length n).bind _ = _
    unfold law22_Nets_p0
    rw [not_lt_len, cond_false, List.drop_length]
    simp
  | m + 1, k, t, h => by
    have hk : k < out.length := by omega
    rw [fixL_eq]
    show (law22_Nets_p0 l u out j t k n).bind _ = _
    unfold law22_Nets_p0
    rw [lt_len hk, cond_true, gd_pos (fun _ => (idx_ok hk).1), gd_pos (fun _ => (idx_ok hk).2), gd_pos (fun _ => (idx_ok hk).1), gd_pos (fun _ => (idx_ok hk).2), getD_nat0 out zGNet k hk, cond_or, cond_and, w64_succ (by omega)]
    show fixL (law22_Nets_l2 l u o0 j0 n) (out, j, t || sameSB out[k] n, ((k + 1 : Nat) : Int)) = _
    rw [nets_inner l u o0 j0 n out j hl m (k + 1) _ (by omega), List.drop_eq_getElem_cons hk, List.any_cons, Bool.or_assoc]
theorem nets_step (l : List GPensionlaw22_Raw) (u : Bool) (out : List GNet) (i : Nat) (hi : i < l.length) (hl : l.length ≤ 9223372036854775807) (ho : out.length < 10) :
    law22_Nets_p7 l u out i = some (.inl (netStep u l[i] out, ((i + 1 : Nat) : Int))) := by
  unfold law22_Nets_p7
  rw [lt_len hi, cond_true, decide_eq_true (show ((out.length : Nat) : Int) < 10 by omega), cond_true]
  show law22_Nets_p5 l u out i = _
  unfold law22_Nets_p5
  rw [getD_nat l zGPensionlaw22_Raw i hi]
  have e1 := emod_rng l[i].A (m := 4) (by omega)
  have e2 := emod_rng l[i].B (m := 3) (by omega)
  have key : ∀ n : GNet, law22_Nets_p4 l u out i n = some (.inl (if u && out.any (fun x => sameSB x n) then out else out ++ [n], ((i + 1 : Nat) : Int))) := by
    intro n
    show (fixL (law22_Nets_l2 l u out i n) (out, (i : Int), false, ((0 : Nat) : Int))).bind _ = _
    rw [nets_inner l u out i n out i (by omega) out.length 0 false (by omega), Option.bind_some, List.drop_zero, Bool.false_or]
    show law22_Nets_p2 l u out i (out.any fun x => sameSB x n) n = _
    unfold law22_Nets_p2 law22_Nets_p1
    rw [w64_succ (by omega)]
    cases u with
    | false => rw [show (bif !false then true else !(out.any fun x => sameSB x n)) = true from rfl, cond_true, gd_pos (capB_ok (by omega) (by omega))]; rfl
    | true =>
      cases out.any (fun x => sameSB x n) with
      | true => rfl
      | false => rw [show (bif !true then true else !false) = true from rfl, cond_true, gd_pos (capB_ok (by omega) (by omega))]; rfl
  simp only [gd_pos (idx_ok hi), plain_Mod_eq _ 4 (by omega) (by omega), plain_Mod_eq _ 3 (by omega) (by omega), plain_Mod_eq _ 100 (by omega) (by omega), plain_Mod_eq _ 9 (by omega) (by omega), plain_Amount_eq, Option.bind_some, key]
  have t2 : Int.tmod (l[i].A % 4) 2 = l[i].A % 4 % 2 := by rw [Int.tmod_eq_emod_of_nonneg (by omega)]
  rw [t2, w64_in (n := 1 + l[i].B % 3) (by omega) (by omega), w64_in (n := 1 + l[i].A % 4 % 2) (by omega) (by omega)]
  unfold netStep netL
  by_cases h : l[i].D % 9 = 8
  · rw [show (l[i].D % 9 == 8) = true from by rw [h]; rfl, cond_true, if_pos h]
  · rw [show (l[i].D % 9 == 8) = false from beq_eq_false_iff_ne.2 h, cond_false, if_neg h]
def netsG (u : Bool) (r : GPensionlaw22_Raw) (out : List GNet) : List GNet ⊕ List GNet := if out.length < 10 then .inl (netStep u r out) else .inr out
def netsL (u : Bool) (l : List GPensionlaw22_Raw) : List GNet := runE (netsG u) id l []
theorem netStep_len (u : Bool) (r : GPensionlaw22_Raw) (out : List GNet) : (netStep u r out).length ≤ out.length + 1 := by
  unfold netStep
  split <;> simp
theorem law22_Nets_eq (l : List GPensionlaw22_Raw) (u : Bool) (hl : l.length ≤ 9223372036854775807) : law22_Nets l u = some (netsL u l) := by
  show (fixL (law22_Nets_l1 l u) ([], ((0 : Nat) : Int))).bind _ = _
  have := fixL_list0 (f := law22_Nets_l1 l u) l (fun i (o : List GNet) => (o, (i : Int))) (fun i o => o.length ≤ 10) (netsG u) id [] (by simp) ?_ ?_ ?_
  · rw [this]; rfl
  · intro i hi o ho
    show law22_Nets_p7 l u o i = _
    unfold netsG
    by_cases h : o.length < 10
    · rw [if_pos h, nets_step l u o i hi hl h]
    · rw [if_neg h]
      unfold law22_Nets_p7
      rw [lt_len hi, cond_true, decide_eq_false (show ¬ ((o.length : Nat) : Int) < 10 by omega), cond_false]
  · intro i hi o o' ho hg
    unfold netsG at hg
    split at hg
    · next h =>
      cases hg
      have := netStep_len u l[i] o
      omega
    · cases hg
  · intro o ho
    show law22_Nets_p7 l u o l.length = _
    unfold law22_Nets_p7
    rw [not_lt_len, cond_false, cond_false]
    rfl
theorem runE_nets (u : Bool) (P : List GNet → Prop) (hp : ∀ r o, P o → o.length < 10 → P (netStep u r o)) : ∀ (l : List GPensionlaw22_Raw) (o : List GNet), P o → P (runE (netsG u) id l o)
  | [], o, h => h
  | r :: l, o, h => by
    unfold runE netsG
    by_cases hl : o.length < 10
    · rw [if_pos hl]; exact runE_nets u P hp l _ (hp r o h hl)
    · rw [if_neg hl]; exact h
theorem netsL_len (u : Bool) (l : List GPensionlaw22_Raw) : (netsL u l).length ≤ 10 := runE_nets u (fun o => o.length ≤ 10) (fun r o _ h => by have := netStep_len u r o; omega) l [] (by simp)

theorem Same_Net_self (a : List GNet) (ha : a.length ≤ 9223372036854775807) : plain_Same_api_Net a a = some true := by
  show plain_Same_api_Net_p3 a a = _
  unfold plain_Same_api_Net_p3
  rw [bne_self_eq_false, cond_false]
  show (fixL (plain_Same_api_Net_l1 a a) ((0 : Nat) : Int)).bind _ = _
  have := fixL_list0 (f := plain_Same_api_Net_l1 a a) a (fun i (_ : Unit) => (i : Int)) (fun _ _ => True) (fun _ _ => .inl ()) (fun _ => .inr ()) () trivial ?_ (fun _ _ _ _ _ _ => trivial) ?_
  · rw [this, runE_fold]; rfl
  · intro i hi _ _
    show plain_Same_api_Net_p0 a a i = _
    unfold plain_Same_api_Net_p0
    rw [lt_len hi, cond_true, gd_pos (idx_ok hi), gd_pos (idx_ok hi), w64_succ (by omega)]
    simp
  · intro _ _
    show plain_Same_api_Net_p0 a a a.length = _
    unfold plain_Same_api_Net_p0
    rw [not_lt_len, cond_false]
end Go.Ax
