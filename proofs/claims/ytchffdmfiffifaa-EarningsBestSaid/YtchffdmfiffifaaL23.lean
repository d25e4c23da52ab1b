import Derived.Test.YtchffdmfiffifaaL22
set_option linter.all false
/- Products of two words, the order of fractions; the best years are never worse. -/
set_option maxRecDepth 100000
namespace Go.Ax
open Go.Proofs

theorem sh32 (k : Nat) : Int.fdiv (k : Int) (2 ^ min (Int.toNat (32 : Int)) 64) = ((k / 4294967296 : Nat) : Int) := by
  rw [show ((2 : Int) ^ min (Int.toNat (32 : Int)) 64) = 4294967296 from rfl, Int.fdiv_eq_ediv_of_nonneg _ (by omega)]; omega
theorem mask32 (k : Nat) (h : k < 18446744073709551616) : IntKind.u64.wrap (BitVec.ofInt 64 (k : Int) &&& BitVec.ofInt 64 (4294967295 : Int)).toNat = ((k % 4294967296 : Nat) : Int) := by
  have e : (BitVec.ofInt 64 (k : Int) &&& BitVec.ofInt 64 (4294967295 : Int)).toNat = k % 4294967296 := by
    rw [show BitVec.ofInt 64 (4294967295 : Int) = BitVec.ofNat 64 (2 ^ 32 - 1) from rfl, BitVec.ofInt_natCast, BitVec.toNat_and, BitVec.toNat_ofNat, BitVec.toNat_ofNat, Nat.mod_eq_of_lt (a := k) (by omega), show (2 ^ 32 - 1) % 2 ^ 64 = 2 ^ 32 - 1 from rfl, Nat.and_two_pow_sub_one_eq_mod]
  rw [e, u64_nat _ (by omega)]
theorem mul_lt32 {a b : Nat} (ha : a < 4294967296) (hb : b < 4294967296) : a * b ≤ 18446744065119617025 := Nat.le_trans (Nat.mul_le_mul (show a ≤ 4294967295 by omega) (show b ≤ 4294967295 by omega)) (by decide)
theorem mul_split (x y : Nat) : x * y = (x / 4294967296 * (y / 4294967296)) * 18446744073709551616 + (x / 4294967296 * (y % 4294967296) + x % 4294967296 * (y / 4294967296)) * 4294967296 + x % 4294967296 * (y % 4294967296) := by
  have hx : x = x / 4294967296 * 4294967296 + x % 4294967296 := by omega
  have hy : y = y / 4294967296 * 4294967296 + y % 4294967296 := by omega
  generalize x / 4294967296 = a at hx ⊢
  generalize x % 4294967296 = b at hx ⊢
  generalize y / 4294967296 = c at hy ⊢
  generalize y % 4294967296 = d at hy ⊢
  subst hx hy
  have : ∀ a b c d : Nat, (a * 4294967296 + b) * (c * 4294967296 + d) = a * c * (4294967296 * 4294967296) + (a * d + b * c) * 4294967296 + b * d := by
    intro a b c d
    simp only [Nat.add_mul, Nat.mul_add]
    have e1 : a * 4294967296 * (c * 4294967296) = a * c * (4294967296 * 4294967296) := Nat.mul_mul_mul_comm _ _ _ _
    have e2 : a * 4294967296 * d = a * d * 4294967296 := Nat.mul_right_comm _ _ _
    have e3 : b * (c * 4294967296) = b * c * 4294967296 := (Nat.mul_assoc _ _ _).symm
    rw [e1, e2, e3]
    omega
  rw [this]
theorem Mul64_eq (x y : Nat) (hx : x < 18446744073709551616) (hy : y < 18446744073709551616) : math_bits_Mul64 x y = some (((x * y / 18446744073709551616 : Nat) : Int), ((x * y % 18446744073709551616 : Nat) : Int)) := by
  show math_bits_Mul64_p0 x y = _
  unfold math_bits_Mul64_p0
  have b0 : x / 4294967296 < 4294967296 := by omega
  have b1 : y / 4294967296 < 4294967296 := by omega
  have b2 : x % 4294967296 < 4294967296 := by omega
  have b3 : y % 4294967296 < 4294967296 := by omega
  have hs := mul_split x y
  simp only [sh32, mask32 x hx, mask32 y hy]
  generalize x / 4294967296 = x1 at *
  generalize x % 4294967296 = x0 at *
  generalize y / 4294967296 = y1 at *
  generalize y % 4294967296 = y0 at *
  have c0 := mul_lt32 b0 b1
  have c1 := mul_lt32 b0 b3
  have c2 := mul_lt32 b2 b1
  have c3 := mul_lt32 b2 b3
  simp only [← Int.natCast_mul]
  have ew : IntKind.u64.wrap ((x * y : Nat) : Int) = ((x * y % 18446744073709551616 : Nat) : Int) := by rw [IntKind.wrap_u64]; omega
  rw [ew]
  generalize x * y = p at *
  generalize x1 * y1 = A at *
  generalize x1 * y0 = B at *
  generalize x0 * y1 = C at *
  generalize x0 * y0 = D at *
  rw [u64_nat A (by omega), u64_nat B (by omega), u64_nat C (by omega), u64_nat D (by omega), sh32, ← Int.natCast_add, u64_nat (B + D / 4294967296) (by omega), mask32 _ (by omega), sh32, ← Int.natCast_add, u64_nat _ (by omega), ← Int.natCast_add, u64_nat _ (by omega), sh32, ← Int.natCast_add, u64_nat _ (by omega)]
  congr 2
  omega
theorem ref1_times_eq (x y : Nat) (hx : x < 18446744073709551616) (hy : y < 18446744073709551616) : ref1_times x y = some ⟨((x * y / 18446744073709551616 : Nat) : Int), ((x * y % 18446744073709551616 : Nat) : Int)⟩ := by
  show ref1_times_p0 x y = _
  unfold ref1_times_p0
  rw [Mul64_eq x y hx hy]; rfl
theorem wide_less (p q : Nat) : ref1_wide_less ⟨((p / 18446744073709551616 : Nat) : Int), ((p % 18446744073709551616 : Nat) : Int)⟩ ⟨((q / 18446744073709551616 : Nat) : Int), ((q % 18446744073709551616 : Nat) : Int)⟩ = some (decide (p < q)) := by
  show ref1_wide_less_p0 _ _ = _
  unfold ref1_wide_less_p0
  simp only [cond_or, cond_and]
  congr 1
  by_cases h : p < q
  · rw [decide_eq_true h]
    by_cases h1 : p / 18446744073709551616 < q / 18446744073709551616
    · rw [decide_eq_true (by omega), Bool.true_or]
    · rw [show (((p / 18446744073709551616 : Nat) : Int) == ((q / 18446744073709551616 : Nat) : Int)) = true from beq_iff_eq.2 (by omega), decide_eq_true (show ((p % 18446744073709551616 : Nat) : Int) < ((q % 18446744073709551616 : Nat) : Int) by omega)]
      simp
  · rw [decide_eq_false h, decide_eq_false (show ¬ ((p / 18446744073709551616 : Nat) : Int) < ((q / 18446744073709551616 : Nat) : Int) by omega), Bool.false_or]
    by_cases h2 : p / 18446744073709551616 = q / 18446744073709551616
    · rw [decide_eq_false (show ¬ ((p % 18446744073709551616 : Nat) : Int) < ((q % 18446744073709551616 : Nat) : Int) by omega), Bool.and_false]
    · rw [show (((p / 18446744073709551616 : Nat) : Int) == ((q / 18446744073709551616 : Nat) : Int)) = false from beq_eq_false_iff_ne.2 (by omega), Bool.false_and]
/-- The order of fractions that are not negative. -/
def ordN (a b c d : Nat) : Int := if a = c ∧ b = d then 0 else if a * d < c * b then -1 else 1
theorem ref1_order_nat (a b c d : Nat) (ha : a ≤ 9223372036854775807) (hb : b ≤ 9223372036854775807) (hc : c ≤ 9223372036854775807) (hd : d ≤ 9223372036854775807) : ref1_order ⟨a, b⟩ ⟨c, d⟩ = some (ordN a b c d) := by
  show ref1_order_p0 _ _ = _
  unfold ref1_order_p0 ordN
  by_cases h : a = c ∧ b = d
  · rw [if_pos h]
    obtain ⟨rfl, rfl⟩ := h
    simp
  · rw [if_neg h]
    have e : (((a : Int) == (c : Int)) && (((b : Int) == (d : Int)) && true)) = false := by
      rw [Bool.and_true, Bool.and_eq_false_iff]
      by_cases h1 : a = c
      · exact .inr (beq_eq_false_iff_ne.2 (by omega))
      · exact .inl (beq_eq_false_iff_ne.2 (by omega))
    show (bif (((a : Int) == (c : Int)) && (((b : Int) == (d : Int)) && true)) then _ else _) = _
    rw [e, cond_false]
    simp only [decide_eq_false (show ¬ (a : Int) < 0 by omega), decide_eq_false (show ¬ (c : Int) < 0 by omega)]
    rw [show (!(false == false)) = false from rfl, cond_false, ref1_size_nat _ (by omega) (by omega), Option.bind_some, u64_nat d (by omega), ref1_times_eq a d (by omega) (by omega), Option.bind_some, ref1_size_nat _ (by omega) (by omega), Option.bind_some, u64_nat b (by omega), ref1_times_eq c b (by omega) (by omega), Option.bind_some, wide_less, Option.bind_some]
    by_cases h1 : a * d < c * b
    · rw [decide_eq_true h1, if_pos h1]; rfl
    · rw [decide_eq_false h1, if_neg h1]; rfl
theorem ref1_Valid_nat (a b : Nat) (ha : a ≤ 1000000000000000) (hb : b ≤ 1000000000) (h0 : 0 < b) (hg : Nat.gcd a b = 1) : ref1_ValidFraction ⟨a, b⟩ = some true := by
  show ref1_ValidFraction_p0 _ = _
  unfold ref1_ValidFraction_p0
  simp only [cond_and, decide_eq_true (show (1 : Int) ≤ (b : Int) by omega), decide_eq_true (show (b : Int) ≤ 1000000000 by omega), decide_eq_true (show (-1000000000000000 : Int) ≤ (a : Int) by omega), decide_eq_true (show (a : Int) ≤ 1000000000000000 by omega), Bool.and_true]
  rw [ref1_size_nat _ (by omega) (by omega), u64_nat b (by omega), getD_some', ref1_gcd_eq, hg, gd_pos (by intro _; rfl), gd_pos (by intro _; rfl)]
  rfl
theorem fracN_facts (n d : Nat) (hd : 0 < d) (h1 : n ≤ 1000000000000000) (h2 : d ≤ 1000000000) : fracN n d = (⟨((n / Nat.gcd n d : Nat) : Int), ((d / Nat.gcd n d : Nat) : Int)⟩, 0) ∧ n / Nat.gcd n d ≤ n ∧ d / Nat.gcd n d ≤ d ∧ 0 < d / Nat.gcd n d ∧ Nat.gcd (n / Nat.gcd n d) (d / Nat.gcd n d) = 1 := by
  have g0 : 0 < Nat.gcd n d := Nat.gcd_pos_of_pos_right _ hd
  have q1 : n / Nat.gcd n d ≤ n := Nat.div_le_self _ _
  have q2 : d / Nat.gcd n d ≤ d := Nat.div_le_self _ _
  refine ⟨?_, q1, q2, Nat.div_pos (Nat.le_of_dvd hd (Nat.gcd_dvd_right n d)) g0, Nat.coprime_div_gcd_div_gcd g0⟩
  unfold fracN
  rw [if_neg (by omega)]
theorem frac_le (n d m e : Nat) (hd : 0 < d) (he : 0 < e) (h : n * e ≤ m * d) : n / Nat.gcd n d * (e / Nat.gcd m e) ≤ m / Nat.gcd m e * (d / Nat.gcd n d) := by
  have g0 : 0 < Nat.gcd n d := Nat.gcd_pos_of_pos_right _ hd
  have g1 : 0 < Nat.gcd m e := Nat.gcd_pos_of_pos_right _ he
  obtain ⟨n', hn⟩ := Nat.gcd_dvd_left n d
  obtain ⟨d', hd'⟩ := Nat.gcd_dvd_right n d
  obtain ⟨m', hm⟩ := Nat.gcd_dvd_left m e
  obtain ⟨e', he'⟩ := Nat.gcd_dvd_right m e
  generalize Nat.gcd n d = g at *
  generalize Nat.gcd m e = k at *
  subst hn hd' hm he'
  rw [Nat.mul_div_cancel_left _ g0, Nat.mul_div_cancel_left _ g0, Nat.mul_div_cancel_left _ g1, Nat.mul_div_cancel_left _ g1]
  have : (g * k) * (n' * e') ≤ (g * k) * (m' * d') := by
    rw [Nat.mul_mul_mul_comm] at h
    rw [Nat.mul_mul_mul_comm k m' g d', Nat.mul_comm k g] at h
    exact h
  exact Nat.le_of_mul_le_mul_left this (Nat.mul_pos g0 g1)

theorem law_EarningsBest (l : List Int) (n : Int) : law19_EarningsBest l n = some true := by
  show law19_EarningsBest_p3 l n = _
  unfold law19_EarningsBest_p3
  by_cases h : 100 < l.length
  · rw [decide_eq_true (show (100 : Int) < (l.length : Int) by omega)]; rfl
  by_cases h0 : l.length = 0
  · have : (((l.length : Nat) : Int) == 0) = true := beq_iff_eq.2 (by omega)
    rw [this, cond_or, Bool.or_true, cond_true]
  rw [decide_eq_false (show ¬ (100 : Int) < (l.length : Int) by omega), cond_false, show (((l.length : Nat) : Int) == 0) = false from beq_eq_false_iff_ne.2 (by omega), cond_false]
  show (fixL (law19_EarningsBest_l1 l n) ([], 0)).bind _ = _
  rw [pickList_loop (f := law19_EarningsBest_l1 l n) id l (by omega) (fun x => x % 1000000) ?_ ?_, Option.bind_some]
  · have hb : ∀ x ∈ l.map (fun x => x % 1000000), 0 ≤ x ∧ x ≤ 1000000 := by
      intro x hx
      obtain ⟨y, _, rfl⟩ := List.mem_map.1 hx
      have := hm y (m := 1000000) (by omega)
      omega
    show law19_EarningsBest_p1 n (l.map fun x => x % 1000000) = _
    have hl : (l.map fun x => x % 1000000).length = l.length := List.length_map _
    generalize (l.map fun x => x % 1000000) = m at hb hl
    unfold law19_EarningsBest_p1
    rw [show (if (45 : Int) < ((m.length : Nat) : Int) then (45 : Int) else ((m.length : Nat) : Int)) = ((min 45 m.length : Nat) : Int) by split <;> omega, made_Pick_eq _ _ (by omega), Option.bind_some, if_neg (by omega)]
    have hk := Go.Ax.hm n (m := ((min 45 m.length : Nat) : Int)) (by omega)
    generalize n % ((min 45 m.length : Nat) : Int) = r at hk
    obtain ⟨k, rfl⟩ : ∃ k : Nat, r = (k : Int) := ⟨r.toNat, by omega⟩
    have ek : w64 ((1 : Int) + (k : Int)) = ((k + 1 : Nat) : Int) := by rw [w64_in (by omega) (by omega)]; omega
    rw [ek, earnings_Base_eq, Option.bind_some, ref8_Best_eq m (k + 1) (by omega) hb (by omega) (by omega) (by omega), Option.bind_some]
    have hf := insAll_facts m
    have havg := best_avg (insAll m) hf.1 (k + 1) (by omega) (by omega)
    rw [hf.2.1, hf.2.2.1] at havg
    have c1 : 0 * (((insAll m).take (k + 1)).length : Int) ≤ ((insAll m).take (k + 1)).sum := sum_ge 0 _ fun y hy => (hb y (hf.2.2.2 y (List.mem_of_mem_take hy))).1
    have c2 : ((insAll m).take (k + 1)).sum ≤ 1000000 * (((insAll m).take (k + 1)).length : Int) := sum_le _ _ fun y hy => (hb y (hf.2.2.2 y (List.mem_of_mem_take hy))).2
    have c3 : 0 * (m.length : Int) ≤ m.sum := sum_ge 0 _ fun y hy => (hb y hy).1
    have c4 : m.sum ≤ 1000000 * (m.length : Int) := sum_le _ _ fun y hy => (hb y hy).2
    rw [List.length_take] at c1 c2
    generalize ((insAll m).take (k + 1)).sum = t at havg c1 c2 ⊢
    obtain ⟨q, rfl⟩ : ∃ q : Nat, t = (q : Int) := ⟨t.toNat, by omega⟩
    obtain ⟨p, hp⟩ : ∃ p : Nat, m.sum = (p : Int) := ⟨m.sum.toNat, by omega⟩
    rw [hp] at havg c3 c4
    have havg' : p * (k + 1) ≤ q * m.length := by
      have : ((p * (k + 1) : Nat) : Int) ≤ ((q * m.length : Nat) : Int) := by
        rw [Int.natCast_mul, Int.natCast_mul]; exact havg
      omega
    have hse : sumE m = .inr (p : Int) := by
      have : ∀ (l : List Int) (s : Int), (∀ x ∈ l, 0 ≤ x ∧ x ≤ 1000000) → runE baseStep Sum.inr l s = Sum.inr (s + l.sum) := by
        intro l
        induction l with
        | nil => intro s _; simp [runE]
        | cons x l ih =>
          intro s hh
          have hx := hh x List.mem_cons_self
          unfold runE baseStep
          rw [if_pos (by simp [amountB]; omega)]
          show runE baseStep Sum.inr l (s + x) = _
          rw [ih _ fun y hy => hh y (List.mem_cons_of_mem _ hy), List.sum_cons, Int.add_assoc]
      have := this m 0 hb
      rw [hp] at this
      simpa [sumE] using this
    have hbase : baseL m = fracN p m.length := by
      unfold baseL
      rw [if_neg (by omega), hse]
      show fracN (p : Int).toNat (max m.length 1) = _
      rw [Int.toNat_natCast, show max m.length 1 = m.length by omega]
    rw [hbase, Int.toNat_natCast]
    obtain ⟨e1, a1, a2, a3, a4⟩ := fracN_facts p m.length (by omega) (by omega) (by omega)
    obtain ⟨e2, b1, b2, b3, b4⟩ := fracN_facts q (k + 1) (by omega) (by omega) (by omega)
    have hle := frac_le p m.length q (k + 1) (by omega) (by omega) havg'
    rw [e1, e2]
    show (ref1_Compare ⟨_, _⟩ ⟨_, _⟩).bind _ = _
    generalize p / Nat.gcd p m.length = u at *
    generalize m.length / Nat.gcd p m.length = v at *
    generalize q / Nat.gcd q (k + 1) = x at *
    generalize (k + 1) / Nat.gcd q (k + 1) = y at *
    have hc : ref1_Compare ⟨(u : Int), (v : Int)⟩ ⟨(x : Int), (y : Int)⟩ = some (ordN u v x y, 0) := by
      show ref1_Compare_p0 _ _ = _
      unfold ref1_Compare_p0
      rw [ref1_Valid_nat u v (by omega) (by omega) (by omega) a4, Option.bind_some, ref1_Valid_nat x y (by omega) (by omega) (by omega) b4, gd_pos (by intro _; rfl), getD_some']
      show (ref1_order ⟨(u : Int), (v : Int)⟩ ⟨(x : Int), (y : Int)⟩).bind _ = _
      rw [ref1_order_nat u v x y (by omega) (by omega) (by omega) (by omega)]
      rfl
    rw [hc, Option.bind_some, law19_awake_eq, Option.bind_some]
    have ho : ordN u v x y ≤ 0 := by
      unfold ordN
      split
      · omega
      · next hne =>
        by_cases hlt : u * y < x * v
        · rw [if_pos hlt]; omega
        · -- equal products of fractions in lowest terms: the same fraction
          exfalso
          have heq : u * y = x * v := by omega
          have d1 : v ∣ y := Nat.Coprime.dvd_of_dvd_mul_left (Nat.Coprime.symm a4) ⟨x, by rw [heq, Nat.mul_comm]⟩
          have d2 : y ∣ v := Nat.Coprime.dvd_of_dvd_mul_left (Nat.Coprime.symm b4) ⟨u, by rw [← heq, Nat.mul_comm]⟩
          have hvy : v = y := Nat.dvd_antisymm d1 d2
          subst hvy
          exact hne ⟨Nat.eq_of_mul_eq_mul_right a3 heq, rfl⟩
    show some (bif (bif (bif true then ((0 : Int) == 0) else false) then ((0 : Int) == 0) else false) then decide (ordN u v x y ≤ 0) else false) = some true
    rw [decide_eq_true ho]; rfl
  · intro i m hi hm'
    show law19_EarningsBest_p0 l n m i = _
    unfold law19_EarningsBest_p0
    rw [lt_len hi, cond_true, gd_pos (idx_ok hi), getD_nat l 0 i hi, w64_succ (by omega), made_Pick_eq _ _ (by omega), Option.bind_some, gd_pos (capB_ok (by omega) (by omega)), if_neg (by omega)]
  · intro m
    show law19_EarningsBest_p0 l n m l.length = _
    unfold law19_EarningsBest_p0
    rw [not_lt_len, cond_false]
    rfl
end Go.Ax
