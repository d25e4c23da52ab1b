import Derived.Test.YtnnblpijaoocaaaGreatWP0
set_option linter.all false
/- Fractions, decimals, words, trees: what is asked of them ends. -/
set_option maxRecDepth 100000
namespace Go.Ax
theorem Ny:∀ (k:Nat) (a b:Int),b.toNat≤k→0≤a→0≤b→En (fun r=>0≤r∧(0 < a∨0 < b→0 < r)) (mr a b):=by
 intro k
 induction k with
 | zero =>
  intro a b h0 h1 h2
  rw [rS]
  exact En.ifn (fun h=>absurd (show b = 0 by omega) h) fun h=>.some ⟨h1,fun h'=>by omega⟩
 | succ k ih =>
  intro a b h0 h1 h2
  rw [rS]
  refine En.ifn (fun h=>En.gd h ?_) fun h=>.some ⟨h1,fun h'=>by omega⟩
  have g1:Int.tmod a b = a % b:=Int.tmod_eq_emod_of_nonneg h1
  have g2:=Int.emod_nonneg a h
  have g3:=Int.emod_lt_of_pos a (show 0 < b by omega)
  rw [g1]
  exact (ih b (a % b) (by omega) h2 g2).weak fun r hr=>⟨hr.1,fun _=>hr.2 (by omega)⟩
theorem zm (n:Int) (h1:-9223372036854775808≤n) (h2:n≤9223372036854775807):En (fun r=>0≤r∧r≤9223372036854775808∧(n≠0→0 < r)∧(0≤n→r = n)) (l9 n):=by
 rw [Id]
 refine En.ifd (fun h=>?_) fun h=>?_
 ·rw [al (n:=n+1) (by omega) (by omega),al (n:=0 - (n+1)) (by omega) (by omega),GT (n:=0 - (n+1)) (by omega) (by omega),GT (by omega) (by omega)]
  exact .some ⟨by omega,by omega,fun _=>by omega,fun _=>by omega⟩
 ·rw [GT (by omega) (by omega)]
  exact .some ⟨by omega,by omega,fun _=>by omega,fun _=>rfl⟩
theorem NT (lo y:Int) (h1:0≤lo) (h2:1≤y):En (fun r=>0≤r.1∧0≤r.2∧r.2 < y) (mD 0 lo y):=by
 rw [xN]
 refine En.ifi (fun h=>by omega) fun _=>?_
 rw [tT]
 refine En.ifd (fun h=>by omega) fun _=>?_
 rw [sY]
 refine En.ifi (fun _=>En.gd (by omega) (En.gd (by omega) (.some ⟨(yU _).1, ?_, ?_⟩))) fun h=>absurd rfl h
 ·show 0≤Int.tmod lo y
  rw [Int.tmod_eq_emod_of_nonneg h1];exact Int.emod_nonneg _ (by omega)
 ·show Int.tmod lo y < y
  rw [Int.tmod_eq_emod_of_nonneg h1];exact Int.emod_lt_of_pos _ (by omega)
theorem Kg (lo d:Int) (h1:0≤lo) (h2:1≤d):En (fun r=>0≤r.1.lo∧0≤r.2∧r.2 < d) (kO ⟨0,lo⟩ d):=by
 rw [zx]
 refine En.gd (by omega) ?_
 rw [show Int.tmod (⟨0,lo⟩:GPensionref1_wide).hi d = 0 from Int.zero_tmod d]
 exact En.bind (NT lo d h1 h2) fun r hr=>En.gd (by omega) (.some hr)
def vd (f:GFraction):Prop:=-1000000000000000≤f.Num∧f.Num≤1000000000000000∧0≤f.Den∧f.Den≤1000000000
theorem vd.zero:vd ⟨0,0⟩:=⟨by decide,by decide,by decide,by decide⟩
theorem MF (neg:Bool) (lo d:Int) (h1:0≤lo) (h2:1≤d) (h3:d≤18446744073709551615):En (fun r=>vd r.1) (tg neg ⟨0,lo⟩ d):=by
 rw [D3]
 refine En.bind (Kg lo d h1 h2) fun r0 h4=>?_
 rw [zX]
 refine En.bind (Ny _ d r0.2 (Nat.le_refl _) (by omega) h4.2.1) fun r1 h5=>?_
 have h6:0 < r1:=h5.2 (.inl (by omega))
 refine En.bind (Kg lo r1 h1 (by omega)) fun r2 h7=>En.gd (by omega) ?_
 refine En.or (fun _=>.some vd.zero) fun hc hd=>?_
 rw [oN,Bool.or_eq_false_iff] at hc
 have g1:=nE hc.2
 have g2:=nE hd
 have g3:=(yU (Int.tdiv d r1)).1
 have g4:ac (IntKind.wrap .u64 (Int.tdiv d r1)) = IntKind.wrap .u64 (Int.tdiv d r1):=al (by omega) (by omega)
 have g5:ac r2.1.lo = r2.1.lo:=al (by omega) (by omega)
 rw [g4,g5]
 have g6:=h7.1
 refine En.bif (fun _=>.some ⟨?_, ?_,g3,by show IntKind.wrap .u64 (Int.tdiv d r1)≤_;omega⟩) fun _=>.some ⟨by show _≤r2.1.lo;omega,by show r2.1.lo≤_;omega,g3,by show IntKind.wrap .u64 (Int.tdiv d r1)≤_;omega⟩
 ·show _≤ac (0 - r2.1.lo)
  rw [al (by omega) (by omega)];omega
 ·show ac (0 - r2.1.lo)≤_
  rw [al (by omega) (by omega)];omega
theorem rW (n d:Int) (h1:-9223372036854775808≤n) (h2:n≤9223372036854775807) (h3:-9223372036854775808≤d) (h4:d≤9223372036854775807):En (fun r=>vd r.1) (k7 n d):=by
 rw [vH]
 refine En.ifi (fun _=>.some vd.zero) fun hd=>En.bind (zm n h1 h2) fun r0 g0=>En.bind (zm d h3 h4) fun r1 g1=>?_
 have:=g1.2.2.1 hd
 exact En.bind (MF _ r0 r1 g0.1 (by omega) (by omega)) fun r hr=>.some hr
theorem uC (s:ByteArray) (hs:s.size≤8000):En (fun r=>vd r.1) (km s):=by
 rw [Cj]
 refine En.bind (HI s hs) fun r hr=>En.not (fun _=>.some vd.zero) fun ho=>?_
 obtain ⟨ha,hb⟩:=hr ho
 generalize r.1 = a at ha
 generalize r.2.1 = b at hb
 have key:∀ (k:Nat) (num i:Int) (j:Nat) (t:GFraction),(a.size:Int)+b.size - i≤k→0≤i→i≤a.size+b.size→(-9223372036854775808≤num∧num≤9223372036854775807)→(j = 0∨(j:Int)+a.size≤i) →
   En (fun r=>vd r.1) (fG a b r.2.2.1 num ((10:Int) ^ j) i t):=by
  intro k
  have pw:∀ j:Nat,j≤4→1≤(10:Int) ^ j∧(10:Int) ^ j≤10000:=by
   intro j hj
   match j,hj with
   | 0,_=>decide
   | 1,_=>decide
   | 2,_=>decide
   | 3,_=>decide
   | 4,_=>decide
  induction k with
  | zero =>
   intro num i j t h0 h1 h2 h3 h4
   rw [mW,al (n:=(a.size:Int)+b.size) (by omega) (by omega)]
   refine En.ifd (fun h=>by omega) fun _=>En.bind (rW num _ h3.1 h3.2 ?_ ?_) fun r hr=>.some hr
   ·have:=(pw j (by omega)).1;omega
   ·have:=(pw j (by omega)).2;omega
  | succ k ih =>
   intro num i j t h0 h1 h2 h3 h4
   have hp:=pw j (by omega)
   rw [mW,al (n:=(a.size:Int)+b.size) (by omega) (by omega)]
   refine En.ifd (fun h=>?_) fun _=>En.bind (rW num _ h3.1 h3.2 (by omega) (by omega)) fun r hr=>.some hr
   rw [al (n:=i+1) (by omega) (by omega),al (n:=(10:Int) ^ j*10) (by omega) (by omega)]
   refine En.gd (by omega) (En.gd h1 (En.gd (by rw [ByteArray.size_append];omega) (En.ifd (fun g=>?_) fun g=>?_)))
   ·rw [← Int.pow_succ]
    exact ih _ _ _ _ (by omega) (by omega) (by omega) (Dn _) (.inr (by omega))
   ·exact ih _ _ _ _ (by omega) (by omega) (by omega) (Dn _) (by omega)
 exact key _ 0 0 0 _ (Int.self_le_toNat _) (by omega) (by omega) ⟨by omega,by omega⟩ (.inl rfl)
theorem MP (s:ByteArray) (hs:s.size≤9000000000):En (fun _=>True) (sR s):=by
 rw [D1]
 have key:∀ (k:Nat) (i:Int),(s.size:Int) - i≤k→0≤i→En (fun _=>True) (fh s i):=by
  intro k
  induction k with
  | zero =>
   intro i h0 h1
   rw [oU]
   exact En.ifd (fun h=>by omega) fun _=>.some trivial
  | succ k ih =>
   intro i h0 h1
   rw [oU]
   refine En.ifd (fun h=>?_) fun _=>.some trivial
   rw [al (by omega) (by omega)]
   have g:=ih (i+1) (by omega) (by omega)
   exact En.gd h1 (En.gd h (En.bind (FF _) fun _ _=>En.not (fun _=>En.bif (fun _=>.some trivial) fun _=>En.gd h1 (En.gd h (En.bind (AK _) fun _ _=>En.not (fun _=>En.gd h1 (En.gd h (En.bif (fun _=>.some trivial) fun _=>g))) fun _=>g))) fun _=>g))
 exact key s.size 0 (by omega) (by omega)
theorem KU (s:ByteArray):En (fun _=>True) (qZ s):=by
 have e:∀ b,En (fun _=>True) (ax b):=fun b=>by rw [wI];exact En.bif (fun _=>.some trivial) fun _=>.some trivial
 rw [CK]
 repeat' first | exact e _ | refine En.bif (fun _=>?_) (fun _=>?_)
theorem sH (s:ByteArray) (hs:s.size≤9000000000):En (fun _=>True) (jy s):=by
 rw [Eh]
 exact En.bind (MP s hs) fun _ _=>En.bif (fun _=>En.bind (KU s) fun _ _=>.some trivial) fun _=>.some trivial
theorem KN (s:ByteArray):En (fun _=>True) (sk s):=by
 rw [Hr]
 repeat' first | exact En.some trivial | refine En.bif (fun _=>?_) (fun _=>?_)
theorem BK (s:ByteArray):En (fun _=>True) (j9 s):=by
 rw [BU]
 repeat' first | exact En.some trivial | refine En.bif (fun _=>?_) (fun _=>?_)
theorem Kx (s:ByteArray):En (fun _=>True) (kx s):=by
 rw [Ir]
 repeat' first | exact En.some trivial | refine En.bif (fun _=>?_) (fun _=>?_)
theorem MD (op:Int):En (fun _=>True) (sX op):=by
 rw [EE]
 repeat' first | exact En.some trivial | refine En.bif (fun _=>?_) (fun _=>?_)
theorem KJ (op:Int):En (fun _=>True) (rT op):=by
 rw [Hn]
 repeat' first | exact En.some trivial | refine En.bif (fun _=>?_) (fun _=>?_)
theorem OW (op:Int):En (fun _=>True) (ub op):=by
 have e:∀ a b,En (fun _=>True) (cJ a b):=fun a b=>by
  rw [uG]
  repeat' first | exact En.some trivial | refine En.bif (fun _=>?_) (fun _=>?_)
 rw [F9]
 repeat' first | exact e _ _ | exact En.some trivial | refine En.bif (fun _=>?_) (fun _=>?_)
theorem yk (n o:Int):En (fun _=>True) (lA n o):=by
 have key:∀ (l:List ByteArray) (hl:l.length≤100) (k:Nat) (i:Int),(l.length:Int) - i≤k→0≤i→En (fun _=>True) (bQ n o i l):=by
  intro l hl k
  induction k with
  | zero =>
   intro i h0 h1
   rw [oS]
   refine En.and (fun h _=>?_) fun _=>.some trivial
   have:=dX h;omega
  | succ k ih =>
   intro i h0 h1
   rw [oS]
   refine En.and (fun h _=>?_) fun _=>.some trivial
   have h:=dX h
   rw [al (by omega) (by omega)]
   have g:=ih (i+1) (by omega) (by omega)
   repeat' first | exact g | exact En.some trivial | refine En.gd h1 ?_ | refine En.gd h ?_ | refine En.bind (KN _) fun _ _=>?_ | refine En.bind (BK _) fun _ _=>?_ | refine En.bind (Kx _) fun _ _=>?_ | refine En.bif (fun _=>?_) (fun _=>?_)
 rw [C8]
 exact key _ (by decide) 100 0 (by simp) (by omega)
theorem qS (f:GFraction):En (fun b=>b = true→1≤f.Den∧f.Den≤1000000000∧-1000000000000000≤f.Num∧f.Num≤1000000000000000) (gK f):=by
 rw [tY]
 refine En.bif (fun h=>?_) fun _=>.some (fun h=>by cases h)
 simp only [fW,Bool.and_eq_true,decide_eq_true_eq] at h
 refine En.bind (zm f.Num (by omega) (by omega)) fun r0 h0=>?_
 rw [zX]
 exact En.bind (Ny _ _ _ (Nat.le_refl _) h0.1 (yU _).1) fun r1 _=>.some fun _=>by omega
theorem MQ:(ab [48,49,50,51,52,53,54,55,56,57]).size = 10:=ao _
theorem rx (d:Int) (h:0≤d) (h':d < 10):(ByteArray.extract (ab [48,49,50,51,52,53,54,55,56,57]) d.toNat (d+1).toNat).size = 1:=by
 rw [ByteArray.size_extract,MQ]
 omega
theorem M6 (n:Int) (h1:0≤n) (h2:n≤9223372036854775807):En (fun s=>s.size≤30) (lF n 1):=by
 rw [Em]
 have key:∀ (k:Nat) (n:Int) (s:ByteArray),0≤n→n < (10:Int) ^ k→n≤9223372036854775807→s.size+k≤30→(0 < n∨1≤s.size∨1≤k)→En (fun s=>s.size≤30) (jQ n 1 s):=by
  intro k
  induction k with
  | zero =>
   intro n s h1 h2 h3 h4 h5
   simp at h2
   rw [oJ]
   refine En.or (fun h=>?_) fun _ _=>.some (by omega)
   rcases h with h | h
   ·have:=dX h;omega
   ·have:=dX h;omega
  | succ k ih =>
   intro n s h1 h2 h3 h4 h5
   rw [Int.pow_succ] at h2
   rw [oJ]
   have e1:Int.tmod n 10 = n % 10:=Int.tmod_eq_emod_of_nonneg h1
   have e2:Int.tdiv n 10 = n / 10:=Int.tdiv_eq_ediv_of_nonneg h1
   rw [e1,e2,al (n:=n % 10+1) (by omega) (by omega),al (n:=n / 10) (by omega) (by omega),rx (n % 10) (by omega) (by omega)]
   refine En.or (fun h=>?_) fun _ _=>.some (by omega)
   refine En.gd (by omega) (En.gd (by omega) (En.gd (by omega) (En.gd (by omega) (ih _ _ (by omega) (by omega) (by omega) ?_ (.inr (.inl ?_))))))
   ·rw [ByteArray.size_append,rx (n % 10) (by omega) (by omega)];omega
   ·rw [ByteArray.size_append,rx (n % 10) (by omega) (by omega)];omega
 exact key 20 n _ h1 (by omega) h2 (by rw [ao];simp) (.inr (.inr (by omega)))
theorem zu (n:Int) (h1:0≤n) (h2:n≤9223372036854775807):En (fun s=>s.size≤30) (jF ⟨n,1⟩):=by
 rw [s9]
 refine En.bind (qS _) fun b hb=>En.not (fun _=>.some (by rw [ao];simp)) fun _=>?_
 refine En.bind (zm n (by omega) h2) fun r hr=>?_
 have hrn:r = n:=hr.2.2.2 h1
 have hd:En (fun s=>s.size≤30) (lF (ac r) 1):=by
  rw [hrn,al (by omega) h2];exact M6 n h1 h2
 refine En.bind hd fun s hs=>En.ifd (fun h=>by simp only [] at h;omega) fun _=>?_
 rw [o6]
 exact En.ifn (fun h=>absurd rfl h) fun _=>.some hs
theorem qO (v:GFraction) (dim:Int):En (fun _=>True) (hU v dim):=by
 obtain ⟨n,d⟩:=v
 rw [tU]
 refine En.bind (qS _) fun b hb=>?_
 refine En.go (fun h=>?_) (En.or (fun _=>.some trivial) fun hc hdim=>?_)
 ·simp only [oN,Bool.and_true,Bool.not_eq_true',Bool.or_eq_false_iff,Bool.not_eq_false'] at h
  have:=hb h.1;simp only [] at this ⊢; omega
 ·simp only [oN,Bool.or_eq_false_iff,Bool.not_eq_false',decide_eq_false_iff_not] at hc hdim
  obtain ⟨⟨⟨hv,hn⟩,hm⟩,hlo⟩:=hc
  have hm:=CU.1 hm
  obtain ⟨g1,g2,g3,g4⟩:=hb hv
  simp only [] at g1 g2 g3 g4 hn hm ⊢
  have hn0:0≤n:=by omega
  have e1:Int.tdiv n d = n / d:=Int.tdiv_eq_ediv_of_nonneg hn0
  have e2:Int.tdiv 10000 d = 10000 / d:=Int.tdiv_eq_ediv_of_nonneg (by omega)
  have e3:(10000:Int) % d = 0:=by rw [← Int.tmod_eq_emod_of_nonneg (by omega)];exact hm
  have q0:0≤n / d:=Int.ediv_nonneg hn0 (by omega)
  have q1:n / d≤n:=Int.ediv_le_self d hn0
  have c0:0≤10000 / d:=Int.ediv_nonneg (by omega) (by omega)
  have c1:d*(10000 / d) = 10000:=by have:=Int.mul_ediv_add_emod 10000 d;omega
  have r0:=Int.mul_ediv_add_emod n d
  have r1:=Int.emod_nonneg n (show d≠0 by omega)
  have r2:=Int.emod_lt_of_pos n (show 0 < d by omega)
  have r3:n - n / d*d = n % d:=by rw [Int.mul_comm];omega
  have c2:10000 / d≤10000:=Int.ediv_le_self d (by omega)
  have hk:(n % d)*(10000 / d) < 10000:=by
   have h1:(n % d)*(10000 / d)≤(d - 1)*(10000 / d):=Int.mul_le_mul_of_nonneg_right (by omega) c0
   have h2:(d - 1)*(10000 / d) = 10000 - 10000 / d:=by rw [Int.sub_mul,c1,Int.one_mul]
   have h3:0 < 10000 / d:=by
    rcases Int.lt_or_eq_of_le c0 with h | h
    ·exact h
    ·rw [← h] at c1;simp at c1
   omega
  have hk0:0≤(n % d)*(10000 / d):=Int.mul_nonneg r1 c0
  rw [e1,e2,al (n:=n / d) (by omega) (by omega)]
  refine En.gd (by omega) (En.ifd (fun _=>.some trivial) fun hq=>En.bind (zu _ q0 (by omega)) fun s hs=>En.gd (by omega) ?_)
  have hqd:0≤n / d*d∧n / d*d≤n:=by
   have h0:0≤n / d*d:=Int.mul_nonneg q0 (by omega)
   have:n / d*d = d*(n / d):=Int.mul_comm _ _
   omega
  rw [al (n:=n / d*d) (by omega) (by omega),al (n:=n - n / d*d) (by omega) (by omega),r3,al (n:=10000 / d) (by omega) (by omega),al (n:=(n % d)*(10000 / d)) (by omega) (by omega)]
  generalize (n % d)*(10000 / d) = rest at hk hk0
  have loop:∀ (k:Nat) (s:ByteArray) (rest:Int),k≤4→0≤rest→rest < (10:Int) ^ k→s.size≤100 - k→En (fun _=>True) (cZ dim s rest (((10:Int) ^ k) / 10)):=by
   intro k
   induction k with
   | zero =>
    intro s rest hk h0 h1 h2
    simp at h1
    rw [iV,al (n:=dim - 2) (by omega) (by omega)]
    refine En.ifd (fun h=>by omega) fun _=>En.gd (by omega) (En.gd (by omega) (En.gd ?_ (.some trivial)))
    have:(gD [(ab []),(ab [100]),(ab [109])] (dim - 2).toNat (ab [])).size≤1:=by
     have hd:dim = 2∨dim = 3∨dim = 4:=by omega
     rcases hd with rfl | rfl | rfl <;> decide
    omega
   | succ k ih =>
    intro s rest hk h0 h1 h2
    have p1:(10:Int) ^ (k+1) / 10 = 10 ^ k:=by rw [Int.pow_succ];omega
    rw [Int.pow_succ] at h1
    have p2:1≤(10:Int) ^ k∧(10:Int) ^ k≤1000:=by
     have:k = 0∨k = 1∨k = 2∨k = 3:=by omega
     rcases this with rfl | rfl | rfl | rfl <;> decide
    rw [p1,iV]
    generalize (10:Int) ^ k = K at *
    have e4:Int.tdiv rest K = rest / K:=Int.tdiv_eq_ediv_of_nonneg h0
    have e5:Int.tmod rest K = rest % K:=Int.tmod_eq_emod_of_nonneg h0
    have e6:Int.tdiv K 10 = K / 10:=Int.tdiv_eq_ediv_of_nonneg (by omega)
    have m0:=Int.emod_nonneg rest (show K≠0 by omega)
    have m1:=Int.emod_lt_of_pos rest (show 0 < K by omega)
    have d0:0≤rest / K:=Int.ediv_nonneg h0 (by omega)
    have d1:rest / K < 10:=Int.ediv_lt_of_lt_mul (by omega) (by omega)
    rw [e4,e5,e6,al (n:=rest / K) (by omega) (by omega),al (n:=rest / K+1) (by omega) (by omega),rx _ d0 d1,al (n:=K / 10) (by omega) (by omega),al (n:=dim - 2) (by omega) (by omega)]
    refine En.ifd (fun h=>?_) fun _=>En.gd (by omega) (En.gd (by omega) (En.gd ?_ (.some trivial)))
    ·exact En.gd (by omega) (En.gd (by omega) (En.gd (by omega) (En.gd (by omega) (En.gd (by omega) (En.gd (by omega) (En.gd (by omega) (ih _ _ (by omega) m0 m1 (by rw [ByteArray.size_append,rx _ d0 d1];omega))))))))
    ·have:(gD [(ab []),(ab [100]),(ab [109])] (dim - 2).toNat (ab [])).size≤1:=by
      have hd:dim = 2∨dim = 3∨dim = 4:=by omega
      rcases hd with rfl | rfl | rfl <;> decide
     omega
  refine En.ifd (fun _=>En.gd (by omega) ?_) fun _=>?_
  ·exact loop 4 _ rest (by omega) hk0 (by omega) (by rw [ByteArray.size_append,ao];simp;omega)
  ·exact loop 4 _ rest (by omega) hk0 (by omega) (by omega)
inductive pm:GExpr→Prop
  | mk (e:GExpr) (h1:e.Name.size≤8000) (h2:e.Args.length≤3) (h3:∀ a∈e.Args,pm a):pm e
theorem bG (e:GExpr):(⟨e.Op,e.Value,e.Dim,e.Name,e.Args⟩:GExpr) = e:=by cases e;rfl
theorem O8 {e:GExpr} (h:pm e):En (fun _=>True) (pE e):=by
 induction h with
 | mk e h1 h2 h3 ih =>
  rw [F5]
  have key:∀ (k:Nat) (n i:Int),(e.Args.length:Int) - i≤k→0≤i→En (fun _=>True) (kY n i e.Op e.Value e.Dim e.Name e.Args):=by
   intro k
   induction k with
   | zero =>
    intro n i h0 h1
    rw [pn]
    exact En.ifd (fun h=>by omega) fun _=>.some trivial
   | succ k ihk =>
    intro n i h0 h1
    rw [pn,bG]
    refine En.ifd (fun h=>?_) fun _=>.some trivial
    rw [al (n:=i+1) (by omega) (by omega)]
    exact En.gd h1 (En.gd h (En.bind (ih _ (oL h1 h)) fun r _=>ihk _ _ (by omega) (by omega)))
  exact key _ 0 0 (Int.self_le_toNat _) (by omega)
theorem PF {e:GExpr} (h:pm e):En (fun _=>True) (sj e):=by
 induction h with
 | mk e h1 h2 h3 ih =>
  rw [Ji]
  have key:∀ (k:Nat) (n i:Int),(e.Args.length:Int) - i≤k→0≤i→En (fun _=>True) (lR n i e.Op e.Value e.Dim e.Name e.Args):=by
   intro k
   induction k with
   | zero =>
    intro n i h0 h1
    rw [qE]
    exact En.ifd (fun h=>by omega) fun _=>.some trivial
   | succ k ihk =>
    intro n i h0 h1
    rw [qE,bG]
    refine En.ifd (fun h=>?_) fun _=>.some trivial
    rw [al (n:=i+1) (by omega) (by omega)]
    exact En.gd h1 (En.gd h (En.bind (ih _ (oL h1 h)) fun r _=>ihk _ _ (by omega) (by omega)))
  exact key _ 1 0 (Int.self_le_toNat _) (by omega)
theorem Mw {e:GExpr} (h:pm e):En (fun _=>True) (ol e):=by
 induction h with
 | mk e h1 h2 h3 ih =>
  rw [DL]
  have key:∀ (z:Bool) (k:Nat) (i:Int),(e.Args.length:Int) - i≤k→0≤i→En (fun _=>True) (i7 z i e.Op e.Value e.Dim e.Name e.Args):=by
   intro z k
   induction k with
   | zero =>
    intro i h0 h1
    rw [np]
    exact En.ifd (fun h=>by omega) fun _=>.some trivial
   | succ k ihk =>
    intro i h0 h1
    rw [np,bG]
    refine En.ifd (fun h=>?_) fun _=>.some trivial
    rw [al (n:=i+1) (by omega) (by omega)]
    exact En.gd h1 (En.gd h (En.bind (ih _ (oL h1 h)) fun r _=>En.bif (fun _=>.some trivial) fun _=>ihk _ (by omega) (by omega)))
  refine En.bind (KJ _) fun _ _=>En.bif (fun _=>.some trivial) fun _=>En.bif (fun _=>En.bind (qO _ _) fun _ _=>.some trivial) fun _=>En.bif (fun _=>?_) fun _=>En.bif (fun _=>.some trivial) fun _=>key _ _ 0 (Int.self_le_toNat _) (by omega)
  exact En.bif (fun _=>En.bif (fun _=>En.bind (sH _ (by omega)) fun _ _=>.some trivial) fun _=>.some trivial) fun _=>.some trivial
theorem mw {e:GExpr} (h:pm e):En (fun _=>True) (fR e):=by
 rw [zN,bG]
 exact En.bind (O8 h) fun _ _=>En.bif (fun _=>En.bind (PF h) fun _ _=>En.bif (fun _=>En.bind (Mw h) fun _ _=>.some trivial) fun _=>.some trivial) fun _=>.some trivial
end Go.Ax
