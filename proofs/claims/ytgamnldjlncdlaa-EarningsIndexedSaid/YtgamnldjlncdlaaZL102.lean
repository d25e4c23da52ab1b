import Derived.Test.YtgamnldjlncdlaaZL90
set_option linter.all false
/- Fractions of naturals: sizes, common divisors, lowest terms. -/
set_option maxRecDepth 100000
namespace Go.Ax
theorem vv {n : Int} (h : 0 ≤ n) (h' : n < 18446744073709551616) : IntKind.u64.wrap n = n := by rw [IntKind.wrap_u64]; omega
theorem cx (k : Nat) (h : k < 18446744073709551616) : IntKind.u64.wrap (k : Int) = k := vv (Int.natCast_nonneg k) (by omega)
theorem i9 (n : Int) (h : 0 ≤ n) (h' : n ≤ 9223372036854775807) : dl n = some n := by
  show l7 n = _
  unfold l7
  rw [decide_eq_false (by omega),cond_false,vv h (by omega)]
theorem BR {f : Int × Int → Option ((Int × Int) ⊕ Int)} (hf : ∀ a b,f (a,b) = (bif (b != (0 : Int)) then gd (b ≠ (0 : Int)) (some (Sum.inl (b,Int.tmod a b))) else some (Sum.inr a))) : ∀ (k a b : Nat),b ≤ k → fixL f ((a : Int),(b : Int)) = some (Nat.gcd a b : Int)
  | 0,a,b,h => by
    have : b = 0 := by omega
    subst this
    rw [rD,hf]
    simp
  | k + 1,a,b,h => by
    rw [rD,hf]
    by_cases hb : b = 0
    · subst hb; simp
    · have e : ((b : Int) != 0) = true := by simp; omega
      rw [e,cond_true,cV (by omega)]
      show fixL f ((b : Int),Int.tmod (a : Int) (b : Int)) = _
      have : Int.tmod (a : Int) (b : Int) = ((a % b : Nat) : Int) := by
        rw [Int.tmod_eq_emod_of_nonneg (by omega)]; omega
      rw [this,BR hf k b (a % b) (by have := Nat.mod_lt a (show b > 0 by omega); omega)]
      rw [Nat.gcd_comm b, ← Nat.gcd_rec,Nat.gcd_comm]
theorem nf (a b : Nat) : iX a b = some (Nat.gcd a b : Int) := by
  show (fixL (kD a b) ((a : Int),(b : Int))).bind (ow a b) = _
  rw [BR (f := kD a b) (fun _ _ => rfl) b a b (Nat.le_refl _)]
  rfl
def vH (n d : Nat) : aq × Int :=
  if 1000000000000000 < n / Nat.gcd n d ∨ 1000000000 < d / Nat.gcd n d then (⟨0,0⟩,2) else (⟨((n / Nat.gcd n d : Nat) : Int),((d / Nat.gcd n d : Nat) : Int)⟩,0)
theorem AS (a b : Nat) : Int.tdiv (a : Int) (b : Int) = ((a / b : Nat) : Int) := by
  rw [Int.tdiv_eq_ediv_of_nonneg (by omega)]; omega
theorem Ih (a b : Nat) : Int.tmod (a : Int) (b : Int) = ((a % b : Nat) : Int) := by
  rw [Int.tmod_eq_emod_of_nonneg (by omega)]; omega
theorem wq (lo y : Nat) (h0 : 0 < y) (h1 : lo < 18446744073709551616) : eF 0 lo y = some (((lo / y : Nat) : Int),((lo % y : Nat) : Int)) := by
  show gO 0 lo y = _
  unfold gO
  have e0 : ((y : Int) == 0) = false := by simp; omega
  rw [e0,cond_false,decide_eq_false (by omega),cond_false,show ((0 : Int) == 0) = true from rfl,cond_true,cV (by omega),cV (by omega),AS,Ih,cx _ (by have := Nat.div_le_self lo y; omega)]
theorem tr (lo d : Nat) (h0 : 0 < d) (h1 : lo < 18446744073709551616) : cP ⟨0,lo⟩ d = some (⟨0,((lo / d : Nat) : Int)⟩,((lo % d : Nat) : Int)) := by
  show ib ⟨0,lo⟩ d = _
  unfold ib
  rw [cV (by omega)]
  show (eF (Int.tmod 0 d) lo d).bind _ = _
  rw [Int.zero_tmod,wq lo d h0 h1,Option.bind_some,cV (by omega),Int.zero_tdiv]
  rfl
theorem xF (n d : Nat) (hn : n ≤ 9223372036854775807) (hd : d ≤ 9223372036854775807) (h0 : 0 < d) : nC false ⟨0,n⟩ d = some (vH n d) := by
  show kd false ⟨0,n⟩ d = _
  unfold kd
  have hg : Nat.gcd d (n % d) = Nat.gcd n d := by rw [Nat.gcd_comm d, ← Nat.gcd_rec,Nat.gcd_comm]
  have g0 : 0 < Nat.gcd n d := Nat.gcd_pos_of_pos_right _ h0
  have q1 : n / Nat.gcd n d ≤ n := Nat.div_le_self _ _
  have q2 : d / Nat.gcd n d ≤ d := Nat.div_le_self _ _
  rw [tr n d h0 (by omega),Option.bind_some]
  show (iX d ((n % d : Nat) : Int)).bind _ = _
  rw [nf,hg,Option.bind_some,tr n _ g0 (by omega),Option.bind_some,cV (by omega),AS,cx (d / Nat.gcd n d) (by omega)]
  unfold vH
  generalize n / Nat.gcd n d = a at q1 ⊢
  generalize d / Nat.gcd n d = b at q2 ⊢
  simp only [su,bne_self_eq_false,Bool.false_or,cond_false]
  by_cases h : 1000000000000000 < a ∨ 1000000000 < b
  · have : (decide ((1000000000000000 : Int) < (a : Int)) || decide ((1000000000 : Int) < (b : Int))) = true := by simp; omega
    rw [if_pos h,this]; rfl
  · have : (decide ((1000000000000000 : Int) < (a : Int)) || decide ((1000000000 : Int) < (b : Int))) = false := by simp; omega
    rw [if_neg h,this,bQ (by omega) (by omega),bQ (by omega) (by omega)]; rfl
theorem tz (n d : Nat) (hn : n ≤ 9223372036854775807) (hd : d ≤ 9223372036854775807) (h0 : 0 < d) : cM n d = some (vH n d) := by
  show fW n d = _
  unfold fW
  have e0 : ((d : Int) == 0) = false := by simp; omega
  rw [e0,cond_false,i9 _ (by omega) (by omega),Option.bind_some,i9 _ (by omega) (by omega),Option.bind_some,decide_eq_false (show ¬ (n : Int) < 0 by omega),decide_eq_false (show ¬ (d : Int) < 0 by omega)]
  rw [show (!(false == false)) = false from rfl,xF n d hn hd h0]
  rfl
theorem wA (n d : Nat) (hd : 0 < d) (h1 : n ≤ 1000000000000000) (h2 : d ≤ 1000000000) : vH n d = (⟨((n / Nat.gcd n d : Nat) : Int),((d / Nat.gcd n d : Nat) : Int)⟩,0) ∧ n / Nat.gcd n d ≤ n ∧ d / Nat.gcd n d ≤ d ∧ 0 < d / Nat.gcd n d ∧ Nat.gcd (n / Nat.gcd n d) (d / Nat.gcd n d) = 1 := by
  have g0 : 0 < Nat.gcd n d := Nat.gcd_pos_of_pos_right _ hd
  have q1 : n / Nat.gcd n d ≤ n := Nat.div_le_self _ _
  have q2 : d / Nat.gcd n d ≤ d := Nat.div_le_self _ _
  refine ⟨?_,q1,q2,Nat.div_pos (Nat.le_of_dvd hd (Nat.gcd_dvd_right n d)) g0,Nat.coprime_div_gcd_div_gcd g0⟩
  unfold vH
  rw [if_neg (by omega)]
end Go.Ax
