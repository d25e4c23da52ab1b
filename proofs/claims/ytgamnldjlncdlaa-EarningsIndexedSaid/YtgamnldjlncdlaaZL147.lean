import Derived.Test.YtgamnldjlncdlaaZL146
set_option linter.all false
/- The amount of a year, indexed: both answer alike. -/
set_option maxRecDepth 100000
namespace Go.Ax
open Go.Proofs
theorem wN (v : am) (y : Int) : eg v y = es v y := rfl
theorem Du {tot : Prop} (v : am) (y : Int) (h : jx v) : En tot zW (es v y) := by
  obtain ⟨-,⟨hl,hs⟩, -⟩ := h
  unfold es m1 mN
  refine En.bind (R := fun b => b < 0 ∨ b < (v.Series.length : Int)) ?_ fun b hb => ?_
  · refine En.fixL (fun s => (s.1 < 0 ∨ s.1 < (v.Series.length : Int)) ∧ 0 ≤ s.2 ∧ s.2 ≤ (v.Series.length : Int)) (fun s => (v.Series.length - s.2).toNat) ⟨.inl (by decide),by simp,by simp⟩ ?_
    rintro ⟨b,i⟩ ⟨h1,h2,h3⟩
    simp only [] at h1 h2 h3
    show En _ _ (jY y b i v)
    unfold jY
    refine En.bif (fun hc => ?_) fun _ => .some h1
    have hc := of_decide_eq_true hc
    have hw : ak (i + 1) = i + 1 := bQ (by omega) (by omega)
    have key : ∀ c : Bool,((!decide (b < 0)) && c) = true → 0 ≤ b := by
      intro c h
      have h := (Bool.and_eq_true_iff.1 h).1
      simp at h
      omega
    refine En.gd ⟨h2,hc⟩ (En.gd (fun h => key _ h) (En.gd (fun h => ?_) (En.bif (fun _ => .some ?_) fun _ => .some ?_)))
    · have := key _ h
      omega
    · simp only [hw]; omega
    · simp only [hw]; omega
  · show En _ _ (j5 b v)
    unfold j5
    refine En.bif (fun _ => .some ⟨1,1,rfl,by omega,by omega,by omega,by omega,rfl⟩) fun hc => ?_
    have hc : 0 ≤ b := by have := of_decide_eq_false hc; omega
    have hb : b < (v.Series.length : Int) := by omega
    exact En.gd ⟨hc,hb⟩ (.some (hs _ (sG (l := v.Series) (i := b.toNat) (by omega))))
theorem KK (a b : Nat) : jA a b = some (Nat.gcd a b : Int) := by
  rw [← nf]
  rfl
theorem xz (a b : Nat) (h : zW ⟨(a : Int),(b : Int)⟩) : cX ⟨(a : Int),(b : Int)⟩ = some true := by
  obtain ⟨a',b',e,h1,h2,h3,h4,h5⟩ := h
  have ea : a = a' := by have := congrArg aq.Num e; simp only [] at this; omega
  have eb : b = b' := by have := congrArg aq.Den e; simp only [] at this; omega
  subst ea eb
  unfold cX kw im kv
  have e1 : cC (a : Int) = some (a : Int) := by
    unfold cC iK
    rw [show decide ((a : Int) < 0) = false by simp,cond_false,cx a (by omega)]
  have e2 : cC (b : Int) = some (b : Int) := by
    unfold cC iK
    rw [show decide ((b : Int) < 0) = false by simp,cond_false,cx b (by omega)]
  simp only [e1,e2,mq,Option.isSome_some,KK,h5]
  rw [cV (by simp),cV (by simp),cV (by simp)]
  rw [show decide ((1 : Int) ≤ (b : Int)) = true by simp; omega,show decide ((b : Int) ≤ 1000000000) = true by simp; omega,show decide ((-1000000000000000 : Int) ≤ (a : Int)) = true from decide_eq_true (by omega),show decide ((a : Int) ≤ 1000000000000000) = true by simp; omega,show decide ((0 : Int) < (a : Int)) = true by simp; omega,show decide ((a : Int) ≤ 10000000000000) = true by simp; omega,show decide ((b : Int) ≤ 10000) = true by simp; omega]
  rfl
theorem xN (a b : Nat) (h : zW ⟨(a : Int),(b : Int)⟩) : dY ⟨(a : Int),(b : Int)⟩ = some true := by
  obtain ⟨a',b',e,h1,h2,h3,h4,h5⟩ := h
  have ea : a = a' := by have := congrArg aq.Num e; simp only [] at this; omega
  have eb : b = b' := by have := congrArg aq.Den e; simp only [] at this; omega
  subst ea eb
  unfold dY m6
  rw [rx a b (by omega) (by omega) (by omega) h5]
  simp only [Option.bind_some]
  rw [show decide ((0 : Int) < (a : Int)) = true by simp; omega,show decide ((a : Int) ≤ 10000000000000) = true by simp; omega,show decide ((b : Int) ≤ 10000) = true by simp; omega]
  rfl
theorem No {m a d : Nat} (hm : m ≤ 1000000000000) (ha : a ≤ 4000) (hd : d ≤ 1000) : m * a ≤ 4000000000000000 ∧ m * a * d ≤ 4000000000000000000 ∧ m * (a * d) = m * a * d ∧ a * d ≤ 4000000 := by
  have h1 : m * a ≤ 1000000000000 * 4000 := Nat.mul_le_mul hm ha
  have h2 : m * a * d ≤ 1000000000000 * 4000 * 1000 := Nat.mul_le_mul h1 hd
  have h3 : a * d ≤ 4000 * 1000 := Nat.mul_le_mul ha hd
  exact ⟨by omega,by omega,(Nat.mul_assoc m a d).symm,by omega⟩
theorem Hk (m a d b c : Nat) (hm : m ≤ 1000000000000) (ha : a ≤ 4000) (hd : d ≤ 1000) (hb : b ≤ 1000) (hc : c ≤ 4000) (hb1 : 1 ≤ b) (hc1 : 1 ≤ c) :
    i7 (m : Int) (a : Int) (d : Int) (b : Int) (c : Int) = some (if 1000000000000 < m * a * d / (b * c) then (0,2) else (((m * a * d / (b * c) : Nat) : Int),0)) := by
  obtain ⟨h1,h2,h3,h4⟩ := No hm ha hd
  have h5 : b * c ≤ 4000000 := by have := Nat.mul_le_mul hb hc; omega
  have h6 : 1 ≤ b * c := Nat.mul_pos hb1 hc1
  unfold i7 lq
  rw [cx m (by omega),cx a (by omega),cx d (by omega),tU m a (by omega) (by omega)]
  simp only [Option.bind_some]
  rw [show m * a / 18446744073709551616 = 0 by omega,show m * a % 18446744073709551616 = m * a by omega,xj 0 d (by omega) (by omega),Option.bind_some,tU (m * a) d (by omega) (by omega),Option.bind_some]
  simp only [Nat.zero_mul,Nat.zero_div,Nat.zero_mod]
  rw [show m * a * d / 18446744073709551616 = 0 by omega,show m * a * d % 18446744073709551616 = m * a * d by omega]
  generalize hx : m * a * d = x at *
  rw [show (((0 : Nat) : Int) != 0) = false from rfl,cond_false,cx b (by omega),cx c (by omega), ← Int.natCast_mul]
  generalize hy : b * c = y at *
  rw [cx y (by omega)]
  have hplus : il ⟨((0 : Nat) : Int),(x : Int)⟩ ⟨((0 : Nat) : Int),0⟩ = some ⟨0,(x : Int)⟩ := by
    unfold il kp fG
    simp only []
    rw [cV (by omega),Option.bind_some,show ((x : Int) + 0 + 0) % 18446744073709551616 = x by omega,show ((x : Int) + 0 + 0) / 18446744073709551616 = 0 by omega]
    rfl
  rw [hplus,Option.bind_some]
  have hround : jP false ⟨0,(x : Int)⟩ (y : Int) (aA.mk 1 1) = some (if 1000000000000 < x / y then (0,2) else (((x / y : Nat) : Int),0)) := by
    unfold jP l5
    have e1 : IntKind.u64.wrap ((y : Int) * IntKind.u64.wrap (1 : Int)) = (y : Int) := by
      rw [vv (n := 1) (by omega) (by omega),Int.mul_one,cx y (by omega)]
    simp only [e1]
    rw [tr x y (by omega) (by omega),Option.bind_some]
    have hq : x / y ≤ x := Nat.div_le_self x y
    generalize x / y = q at *
    simp only []
    rw [show ((0 : Int) != 0) = false from rfl,cond_false]
    by_cases hlt : 1000000000000 < q
    · rw [if_pos hlt,show decide ((1000000000000 : Int) < (q : Int)) = true by simp; omega,cond_true]
    · rw [if_neg hlt,show decide ((1000000000000 : Int) < (q : Int)) = false by simp; omega,cond_false]
      unfold mn cS
      simp only [show ((1 : Int) == 1) = true from rfl,cond_true,cond_false]
      rw [vv (n := 1) (by omega) (by omega),cV (by omega),show Int.tdiv 1000000000000 1 = 1000000000000 from rfl,vv (n := 1000000000000) (by omega) (by omega),show decide ((1000000000000 : Int) < (q : Int)) = false by simp; omega,cond_false,Int.mul_one,cx q (by omega),bQ (by omega) (by omega)]
  rw [hround,Option.bind_some]
theorem ul (v : am) (m y r : Int) (h : jx v) : ∃ x,dM v m y r = some x ∧ fy v m y r = some x := by
  obtain ⟨f,hf,a,b,rfl,ha1,ha2,hb1,hb2,hg⟩ := (Du (tot := True) v r h).ends
  obtain ⟨g,hgg,c,d,rfl,hc1,hc2,hd1,hd2,hg2⟩ := (Du (tot := True) v y h).ends
  have ok1 : zW ⟨(a : Int),(b : Int)⟩ := ⟨a,b,rfl,ha1,ha2,hb1,hb2,hg⟩
  have ok2 : zW ⟨(c : Int),(d : Int)⟩ := ⟨c,d,rfl,hc1,hc2,hd1,hd2,hg2⟩
  unfold dM jU fy l4
  rw [wN,wN,hf,hgg]
  simp only [Option.bind_some,xz a b ok1,xz c d ok2,xN a b ok1,xN c d ok2,mq,Option.isSome_some]
  rw [cV (by simp),cV (by simp),cV (by simp),cV (by simp)]
  by_cases hm : m < 0 ∨ 1000000000000 < m
  · have : (bif decide (m < 0) then true else decide (1000000000000 < m)) = true := by rw [su]; simpa using hm
    rw [this]
    exact ⟨_,rfl,rfl⟩
  · have : (bif decide (m < 0) then true else decide (1000000000000 < m)) = false := by rw [su]; simpa using hm
    rw [this]
    obtain ⟨m,rfl⟩ := Int.eq_ofNat_of_zero_le (show 0 ≤ m by omega)
    have hm2 : m ≤ 1000000000000 := by omega
    obtain ⟨h1,h2,h3,h4⟩ := No hm2 ha2 hd2
    have h5 : b * c ≤ 4000000 := by have := Nat.mul_le_mul hb2 hc2; omega
    have h6 : 1 ≤ b * c := Nat.mul_pos hb1 hc1
    simp only [cond_false,Bool.not_true]
    rw [Hk m a d b c hm2 ha2 hd2 hb2 hc2 hb1 hc1,Option.bind_some]
    refine ⟨_, ?_,rfl⟩
    rw [cx m (by omega),cx a (by omega),cx b (by omega),cx c (by omega),cx d (by omega), ← Int.natCast_mul, ← Int.natCast_mul,cx (a * d) (by omega),cx (b * c) (by omega),xj m (a * d) (by omega) (by omega),h3]
    generalize m * a * d = x at *
    generalize b * c = y at *
    simp only [Option.bind_some]
    rw [show x / 18446744073709551616 = 0 by omega,show x % 18446744073709551616 = x by omega,show decide ((y : Int) ≤ ((0 : Nat) : Int)) = false by simp; omega,cond_false,show ((0 : Nat) : Int) = 0 from rfl,wq x y (by omega) (by omega),Option.bind_some]
    have hq : x / y ≤ x := Nat.div_le_self x y
    generalize x / y = q at *
    by_cases hlt : 1000000000000 < q
    · rw [if_pos hlt,show decide ((1000000000000 : Int) < (q : Int)) = true by simp; omega,cond_true]
    · rw [if_neg hlt,show decide ((1000000000000 : Int) < (q : Int)) = false by simp; omega,cond_false,bQ (by omega) (by omega)]
end Go.Ax
