import Derived.Test.YtgamnldjlncdlaaGreatZL90
set_option linter.all false
/- Fractions of naturals: sizes, common divisors, lowest terms. -/
set_option maxRecDepth 100000
namespace Go.Ax
theorem UM {n:Int} (h:0≤n) (h':n < 18446744073709551616):IntKind.u64.wrap n = n:=by rw [IntKind.wrap_u64]; omega
theorem Hd (k:Nat) (h:k < 18446744073709551616):IntKind.u64.wrap (k:Int) = k:=UM (Int.natCast_nonneg k) (by omega)
theorem mN (n:Int) (h:0≤n) (h':n≤9223372036854775807):lW n = some n:=by
  show (sh n).opt = _
  simp only [sh,oT]
  rw [decide_eq_false (by omega),cond_false,UM h (by omega)]
theorem O1 {f:Int × Int→Option ((Int × Int) ⊕ Int)} (hf:∀ a b,f (a,b) = (bif (b != (0:Int)) then gd (b≠(0:Int)) (some (Sum.inl (b,Int.tmod a b))) else some (Sum.inr a))):∀ (k a b:Nat),b≤k→fixL f ((a:Int),(b:Int)) = some (Nat.gcd a b:Int)
  | 0,a,b,h=>by
    have:b = 0:=by omega
    subst this
    rw [bS,hf]
    simp
  | k+1,a,b,h=>by
    rw [bS,hf]
    by_cases hb:b = 0
    · subst hb; simp
    · have e:((b:Int) != 0) = true:=by simp; omega
      rw [e,cond_true,aE (by omega)]
      show fixL f ((b:Int),Int.tmod (a:Int) (b:Int)) = _
      have:Int.tmod (a:Int) (b:Int) = ((a % b:Nat):Int):=by
        rw [Int.tmod_eq_emod_of_nonneg (by omega)]; omega
      rw [this,O1 hf k b (a % b) (by have:=Nat.mod_lt a (show b > 0 by omega); omega)]
      rw [Nat.gcd_comm b, ← Nat.gcd_rec,Nat.gcd_comm]
theorem AW (a b:Nat):tV a b = some (Nat.gcd a b:Int):=by
  show (fixL (pV a b) ((a:Int),(b:Int))).bind (wz a b) = _
  rw [O1 (f:=pV a b) (fun _ _=>rfl) b a b (Nat.le_refl _)]
  rfl
def Ha (n d:Nat):aF × Int :=
  if 1000000000000000 < n / Nat.gcd n d∨1000000000 < d / Nat.gcd n d then (⟨0,0⟩,2) else (⟨((n / Nat.gcd n d:Nat):Int),((d / Nat.gcd n d:Nat):Int)⟩,0)
theorem NS (a b:Nat):Int.tdiv (a:Int) (b:Int) = ((a / b:Nat):Int):=by
  rw [Int.tdiv_eq_ediv_of_nonneg (by omega)]; omega
theorem ZD (a b:Nat):Int.tmod (a:Int) (b:Int) = ((a % b:Nat):Int):=by
  rw [Int.tmod_eq_emod_of_nonneg (by omega)]; omega
theorem QP (lo y:Nat) (h0:0 < y) (h1:lo < 18446744073709551616):nI 0 lo y = some (((lo / y:Nat):Int),((lo % y:Nat):Int)):=by
  show (kv 0 lo y).opt = _
  simp only [kv,oT]
  have e0:((y:Int) == 0) = false:=by simp; omega
  rw [e0,cond_false,decide_eq_false (by omega),cond_false,show ((0:Int) == 0) = true from rfl,cond_true,aE (by omega),aE (by omega),NS,ZD,Hd _ (by have:=Nat.div_le_self lo y; omega)]
theorem J2 (lo d:Nat) (h0:0 < d) (h1:lo < 18446744073709551616):pe ⟨0,lo⟩ d = some (⟨0,((lo / d:Nat):Int)⟩,((lo % d:Nat):Int)):=by
  show (ld ⟨0,lo⟩ d).opt = _
  simp only [ld,oT]
  rw [aE (by omega)]
  show (nI (Int.tmod 0 d) lo d).bind _ = _
  rw [Int.zero_tmod,QP lo d h0 h1,Option.bind_some,aE (by omega),Int.zero_tdiv]
  rfl
theorem Kl (n d:Nat) (hn:n≤9223372036854775807) (hd:d≤9223372036854775807) (h0:0 < d):AV false ⟨0,n⟩ d = some (Ha n d):=by
  show (oS false ⟨0,n⟩ d).opt = _
  simp only [oS,oT]
  have hg:Nat.gcd d (n % d) = Nat.gcd n d:=by rw [Nat.gcd_comm d, ← Nat.gcd_rec,Nat.gcd_comm]
  have g0:0 < Nat.gcd n d:=Nat.gcd_pos_of_pos_right _ h0
  have q1:n / Nat.gcd n d≤n:=Nat.div_le_self _ _
  have q2:d / Nat.gcd n d≤d:=Nat.div_le_self _ _
  rw [J2 n d h0 (by omega),Option.bind_some]
  show (tV d ((n % d:Nat):Int)).bind _ = _
  rw [AW,hg,Option.bind_some,J2 n _ g0 (by omega),Option.bind_some,aE (by omega),NS,Hd (d / Nat.gcd n d) (by omega)]
  unfold Ha
  generalize n / Nat.gcd n d = a at q1 ⊢
  generalize d / Nat.gcd n d = b at q2 ⊢
  simp only [m3,bne_self_eq_false,Bool.false_or,cond_false]
  by_cases h:1000000000000000 < a∨1000000000 < b
  · have:(decide ((1000000000000000:Int) < (a:Int))||decide ((1000000000:Int) < (b:Int))) = true:=by simp; omega
    rw [if_pos h,this]; rfl
  · have:(decide ((1000000000000000:Int) < (a:Int))||decide ((1000000000:Int) < (b:Int))) = false:=by simp; omega
    rw [if_neg h,this,bu (by omega) (by omega),bu (by omega) (by omega)]; rfl
theorem EA (n d:Nat) (hn:n≤9223372036854775807) (hd:d≤9223372036854775807) (h0:0 < d):fm n d = some (Ha n d):=by
  show (jg n d).opt = _
  simp only [jg,oT]
  have e0:((d:Int) == 0) = false:=by simp; omega
  rw [e0,cond_false,mN _ (by omega) (by omega),Option.bind_some,mN _ (by omega) (by omega),Option.bind_some,decide_eq_false (show ¬ (n:Int) < 0 by omega),decide_eq_false (show ¬ (d:Int) < 0 by omega)]
  rw [show (!(false == false)) = false from rfl,Kl n d hn hd h0]
  rfl
theorem H8 (n d:Nat) (hd:0 < d) (h1:n≤1000000000000000) (h2:d≤1000000000):Ha n d = (⟨((n / Nat.gcd n d:Nat):Int),((d / Nat.gcd n d:Nat):Int)⟩,0)∧n / Nat.gcd n d≤n∧d / Nat.gcd n d≤d∧0 < d / Nat.gcd n d∧Nat.gcd (n / Nat.gcd n d) (d / Nat.gcd n d) = 1:=by
  have g0:0 < Nat.gcd n d:=Nat.gcd_pos_of_pos_right _ hd
  have q1:n / Nat.gcd n d≤n:=Nat.div_le_self _ _
  have q2:d / Nat.gcd n d≤d:=Nat.div_le_self _ _
  refine ⟨?_,q1,q2,Nat.div_pos (Nat.le_of_dvd hd (Nat.gcd_dvd_right n d)) g0,Nat.coprime_div_gcd_div_gcd g0⟩
  unfold Ha
  rw [if_neg (by omega)]
end Go.Ax
