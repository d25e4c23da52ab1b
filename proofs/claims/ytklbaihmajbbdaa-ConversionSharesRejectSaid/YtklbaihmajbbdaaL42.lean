import Derived.Test.YtklbaihmajbbdaaL41
set_option linter.all false
/- One bad survivor is enough. -/
set_option maxRecDepth 100000
namespace Go.Ax

theorem validL_bad {l : List GHeir} {x : GHeir} (hx : x ∈ l) (hb : heirB x = false) : validL l = false := by
  cases hv : validL l with
  | false => rfl
  | true =>
    have := (validL_facts hv).2 x hx
    rw [hb] at this; cases this
theorem validE_apart : ∀ (l pre : List GHeir), runE validG (fun _ => Sum.inl ()) l pre = (Sum.inl () : Unit ⊕ Unit) → l.Pairwise (fun a b => a.Person ≠ b.Person) ∧ ∀ x ∈ pre, ∀ y ∈ l, x.Person ≠ y.Person
  | [], _, _ => ⟨List.Pairwise.nil, fun _ _ y hy => by simp at hy⟩
  | x :: l, pre, e => by
    unfold runE validG at e
    cases hb : (heirB x && !(pre.any fun y => y.Person == x.Person)) with
    | false => rw [hb] at e; simp at e
    | true =>
      rw [hb, if_pos rfl] at e
      rw [Bool.and_eq_true] at hb
      obtain ⟨h1, h2⟩ := validE_apart l _ e
      have h3 : ∀ y ∈ pre, y.Person ≠ x.Person := by
        intro y hy hh
        have : (pre.any fun y => y.Person == x.Person) = true := List.any_eq_true.2 ⟨y, hy, by simpa using hh⟩
        rw [this] at hb
        exact absurd hb.2 (by decide)
      refine ⟨List.pairwise_cons.2 ⟨fun y hy => h2 x (List.mem_append.2 (.inr (List.mem_singleton.2 rfl))) y hy, h1⟩, fun y hy z hz => ?_⟩
      rcases List.mem_cons.1 hz with rfl | hz
      · exact h3 y hy
      · exact h2 y (List.mem_append.2 (.inl hy)) z hz
theorem validL_dup {l : List GHeir} {x : GHeir} (hx : x ∈ l) : validL (l ++ [x]) = false := by
  cases hv : validL (l ++ [x]) with
  | false => rfl
  | true =>
    unfold validL at hv
    split at hv
    · cases hv
    · split at hv
      · next u hu =>
        have := (validE_apart (l ++ [x]) [] hu).1
        rw [List.pairwise_append] at this
        exact absurd rfl (this.2.2 x hx x (List.mem_singleton.2 rfl))
      · cases hv
theorem reject_bad {l : List GHeir} (h : validL l = false) : law22_ConversionSharesReject_p0 l = some true := by
  unfold law22_ConversionSharesReject_p0
  rw [conversion_Shares_eq, Option.bind_some, conversion_Divide_eq, Option.bind_some, h]
  rfl
theorem set_mem {l : List GHeir} {k : Nat} (hk : k < l.length) (x : GHeir) : x ∈ l.set k x := List.mem_set hk x
theorem bad_person {x : GHeir} (h : x.Person < 1 ∨ 99 < x.Person) : heirB x = false := by
  cases hb : heirB x with
  | false => rfl
  | true => have := heirB_facts hb; omega
theorem bad_kind {x : GHeir} (h : 3 < x.Kind) : heirB x = false := by
  cases hb : heirB x with
  | false => rfl
  | true => have := heirB_facts hb; omega
theorem bad_days {x : GHeir} (h : x.Days < 0) : heirB x = false := by
  cases hb : heirB x with
  | false => rfl
  | true => have := heirB_facts hb; omega
theorem law_ConversionSharesReject (r : List GPensionlaw22_Raw) (at_1 what by_1 : Int) (hr : r.length ≤ 9223372036854775807) : law22_ConversionSharesReject r at_1 what by_1 = some true := by
  show law22_ConversionSharesReject_p1 r at_1 what by_1 = _
  unfold law22_ConversionSharesReject_p1
  have hv := heirsL_valid r
  have hlen := (validL_facts hv).1
  rw [law22_Heirs_eq r hr, Option.bind_some, conversion_Shares_eq, Option.bind_some, hv, if_pos rfl, law22_awake_eq, gd_pos (by intro _; rfl)]
  generalize heirsL r = h at hv hlen
  show (bif (((h.length : Nat) : Int) == (0 : Int)) then some true else _) = _
  by_cases h0 : h.length = 0
  · rw [show (((h.length : Nat) : Int) == (0 : Int)) = true from beq_iff_eq.2 (by omega)]; rfl
  rw [show (((h.length : Nat) : Int) == (0 : Int)) = false from beq_eq_false_iff_ne.2 (by omega), cond_false, plain_Mod_eq _ _ (by omega) (by omega), Option.bind_some, plain_Mod_eq _ _ (by omega) (by omega), Option.bind_some, plain_Mod_eq _ _ (by omega) (by omega), Option.bind_some]
  have hk := emod_rng at_1 (m := (h.length : Int)) (by omega)
  have hd := emod_rng by_1 (m := 500) (by omega)
  have hw := emod_rng what (m := 5) (by omega)
  obtain ⟨k, hke⟩ : ∃ k : Nat, at_1 % (h.length : Int) = (k : Int) := ⟨(at_1 % (h.length : Int)).toNat, by omega⟩
  rw [hke] at hk ⊢
  have hkl : k < h.length := by omega
  rw [w64_in (n := 1 + by_1 % 500) (by omega) (by omega), w64_in (n := 0 - (1 + by_1 % 500)) (by omega) (by omega), w64_in (n := 99 + (1 + by_1 % 500)) (by omega) (by omega), w64_in (n := 3 + (1 + by_1 % 500)) (by omega) (by omega)]
  simp only [gd_pos hk, Nat.zero_add, Int.toNat_natCast]
  have c : what % 5 = 0 ∨ what % 5 = 1 ∨ what % 5 = 2 ∨ what % 5 = 3 ∨ what % 5 = 4 := by omega
  rcases c with c | c | c | c | c
  · rw [c]
    exact reject_bad (validL_bad (set_mem hkl _) (bad_person (.inl (by show 0 - (1 + by_1 % 500) < 1; omega))))
  · rw [c]
    exact reject_bad (validL_bad (set_mem hkl _) (bad_person (.inr (by show 99 < 99 + (1 + by_1 % 500); omega))))
  · rw [c]
    exact reject_bad (validL_bad (set_mem hkl _) (bad_kind (by show 3 < 3 + (1 + by_1 % 500); omega)))
  · rw [c]
    exact reject_bad (validL_bad (set_mem hkl _) (bad_days (by show 0 - (1 + by_1 % 500) < 0; omega)))
  · rw [c]
    have hcap : capB (h.length + 1) 24 := capB_ok (by omega) (by omega)
    show gd (capB (h.length + 1) 24) (law22_ConversionSharesReject_p0 (h ++ [h.getD k zGHeir])) = _
    rw [gd_pos hcap]
    refine reject_bad (validL_dup ?_)
    rw [List.getD_eq_getElem?_getD, List.getElem?_eq_getElem hkl]
    exact List.getElem_mem _
end Go.Ax
