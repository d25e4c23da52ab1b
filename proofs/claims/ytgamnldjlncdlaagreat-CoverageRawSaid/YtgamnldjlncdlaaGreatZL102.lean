import Derived.Test.YtgamnldjlncdlaaGreatZL90
set_option linter.all false
/- Fractions of naturals: sizes, common divisors, lowest terms. -/
set_option maxRecDepth 100000
namespace Go.Ax
theorem VV {n:Int} (h:0≤n) (h':n < 18446744073709551616):IntKind.u64.wrap n = n:=by rw [IntKind.wrap_u64]; omega
theorem Ii (k:Nat) (h:k < 18446744073709551616):IntKind.u64.wrap (k:Int) = k:=VV (Int.natCast_nonneg k) (by omega)
theorem mY (n:Int) (h:0≤n) (h':n≤9223372036854775807):l9 n = some n:=by
  show (sa n).opt = _
  simp only [sa,oT]
  rw [decide_eq_false (by omega),cond_false,VV h (by omega)]
theorem Rq {f:Int × Int→Option ((Int × Int) ⊕ Int)} (hf:∀ a b,f (a,b) = (bif (b != (0:Int)) then gd (b≠(0:Int)) (some (Sum.inl (b,Int.tmod a b))) else some (Sum.inr a))):∀ (k a b:Nat),b≤k→fixL f ((a:Int),(b:Int)) = some (Nat.gcd a b:Int)
  | 0,a,b,h=>by
    have:b = 0:=by omega
    subst this
    rw [bU,hf]
    simp
  | k+1,a,b,h=>by
    rw [bU,hf]
    by_cases hb:b = 0
    · subst hb; simp
    · have e:((b:Int) != 0) = true:=by simp; omega
      rw [e,cond_true,aD (by omega)]
      show fixL f ((b:Int),Int.tmod (a:Int) (b:Int)) = _
      have:Int.tmod (a:Int) (b:Int) = ((a % b:Nat):Int):=by
        rw [Int.tmod_eq_emod_of_nonneg (by omega)]; omega
      rw [this,Rq hf k b (a % b) (by have:=Nat.mod_lt a (show b > 0 by omega); omega)]
      rw [Nat.gcd_comm b, ← Nat.gcd_rec,Nat.gcd_comm]
theorem Br (a b:Nat):uc a b = some (Nat.gcd a b:Int):=by
  show (fixL (qk a b) ((a:Int),(b:Int))).bind (xh a b) = _
  rw [Rq (f:=qk a b) (fun _ _=>rfl) b a b (Nat.le_refl _)]
  rfl
def IC (n d:Nat):aH × Int :=
  if 1000000000000000 < n / Nat.gcd n d∨1000000000 < d / Nat.gcd n d then (⟨0,0⟩,2) else (⟨((n / Nat.gcd n d:Nat):Int),((d / Nat.gcd n d:Nat):Int)⟩,0)
theorem Pe (a b:Nat):Int.tdiv (a:Int) (b:Int) = ((a / b:Nat):Int):=by
  rw [Int.tdiv_eq_ediv_of_nonneg (by omega)]; omega
theorem aaY (a b:Nat):Int.tmod (a:Int) (b:Int) = ((a % b:Nat):Int):=by
  rw [Int.tmod_eq_emod_of_nonneg (by omega)]; omega
theorem R3 (lo y:Nat) (h0:0 < y) (h1:lo < 18446744073709551616):nL 0 lo y = some (((lo / y:Nat):Int),((lo % y:Nat):Int)):=by
  show (kt 0 lo y).opt = _
  simp only [kt,oT]
  have e0:((y:Int) == 0) = false:=by simp; omega
  rw [e0,cond_false,decide_eq_false (by omega),cond_false,show ((0:Int) == 0) = true from rfl,cond_true,aD (by omega),aD (by omega),Pe,aaY,Ii _ (by have:=Nat.div_le_self lo y; omega)]
theorem Mt (lo d:Nat) (h0:0 < d) (h1:lo < 18446744073709551616):pp ⟨0,lo⟩ d = some (⟨0,((lo / d:Nat):Int)⟩,((lo % d:Nat):Int)):=by
  show (lh ⟨0,lo⟩ d).opt = _
  simp only [lh,oT]
  rw [aD (by omega)]
  show (nL (Int.tmod 0 d) lo d).bind _ = _
  rw [Int.zero_tmod,R3 lo d h0 h1,Option.bind_some,aD (by omega),Int.zero_tdiv]
  rfl
theorem Lt (n d:Nat) (hn:n≤9223372036854775807) (hd:d≤9223372036854775807) (h0:0 < d):Bg false ⟨0,n⟩ d = some (IC n d):=by
  show (pw false ⟨0,n⟩ d).opt = _
  simp only [pw,oT]
  have hg:Nat.gcd d (n % d) = Nat.gcd n d:=by rw [Nat.gcd_comm d, ← Nat.gcd_rec,Nat.gcd_comm]
  have g0:0 < Nat.gcd n d:=Nat.gcd_pos_of_pos_right _ h0
  have q1:n / Nat.gcd n d≤n:=Nat.div_le_self _ _
  have q2:d / Nat.gcd n d≤d:=Nat.div_le_self _ _
  rw [Mt n d h0 (by omega),Option.bind_some]
  show (uc d ((n % d:Nat):Int)).bind _ = _
  rw [Br,hg,Option.bind_some,Mt n _ g0 (by omega),Option.bind_some,aD (by omega),Pe,Ii (d / Nat.gcd n d) (by omega)]
  unfold IC
  generalize n / Nat.gcd n d = a at q1 ⊢
  generalize d / Nat.gcd n d = b at q2 ⊢
  simp only [lQ,bne_self_eq_false,Bool.false_or,cond_false]
  by_cases h:1000000000000000 < a∨1000000000 < b
  · have:(decide ((1000000000000000:Int) < (a:Int))||decide ((1000000000:Int) < (b:Int))) = true:=by simp; omega
    rw [if_pos h,this]; rfl
  · have:(decide ((1000000000000000:Int) < (a:Int))||decide ((1000000000:Int) < (b:Int))) = false:=by simp; omega
    rw [if_neg h,this,bu (by omega) (by omega),bu (by omega) (by omega)]; rfl
theorem F0 (n d:Nat) (hn:n≤9223372036854775807) (hd:d≤9223372036854775807) (h0:0 < d):fk n d = some (IC n d):=by
  show (jo n d).opt = _
  simp only [jo,oT]
  have e0:((d:Int) == 0) = false:=by simp; omega
  rw [e0,cond_false,mY _ (by omega) (by omega),Option.bind_some,mY _ (by omega) (by omega),Option.bind_some,decide_eq_false (show ¬ (n:Int) < 0 by omega),decide_eq_false (show ¬ (d:Int) < 0 by omega)]
  rw [show (!(false == false)) = false from rfl,Lt n d hn hd h0]
  rfl
theorem Jh (n d:Nat) (hd:0 < d) (h1:n≤1000000000000000) (h2:d≤1000000000):IC n d = (⟨((n / Nat.gcd n d:Nat):Int),((d / Nat.gcd n d:Nat):Int)⟩,0)∧n / Nat.gcd n d≤n∧d / Nat.gcd n d≤d∧0 < d / Nat.gcd n d∧Nat.gcd (n / Nat.gcd n d) (d / Nat.gcd n d) = 1:=by
  have g0:0 < Nat.gcd n d:=Nat.gcd_pos_of_pos_right _ hd
  have q1:n / Nat.gcd n d≤n:=Nat.div_le_self _ _
  have q2:d / Nat.gcd n d≤d:=Nat.div_le_self _ _
  refine ⟨?_,q1,q2,Nat.div_pos (Nat.le_of_dvd hd (Nat.gcd_dvd_right n d)) g0,Nat.coprime_div_gcd_div_gcd g0⟩
  unfold IC
  rw [if_neg (by omega)]
end Go.Ax
