import Derived.Test.YtokecajedkojlaaGreatZP6
set_option linter.all false
/- Years of the calendar. -/
set_option maxRecDepth 100000
namespace Go.Ax
def yS (n:Int):Int:=365*n+(if 0 < n then (n - 1) / 4 else 0)
def dx (n:Int):Bool:=decide (0 < n∧n % 4 = 0)
def yL (n:Int):Int:=if dx n = true then 366 else 365
theorem xi (n:Int) (h:0≤n):yS (n+1) = yS n+yL n:=by
  unfold yS yL dx
  simp only [decide_eq_true_eq]
  split <;> split <;> split <;> omega
theorem Lf {n:Int} (h0:0≤n) (h:n≤200):0≤yS n∧yS n≤73049:=by unfold yS; split <;> omega
theorem Mz (n:Int):365≤yL n∧yL n≤366:=by unfold yL; split <;> omega
theorem Jd {n:Int} (h0:0≤n) (h:n≤199) (a b c:Bool) (ha:a = true↔(1900+n) % 4 = 0) (hb:b = true↔(1900+n) % 100≠0) (hc:c = true↔(1900+n) % 400 = 0) :
    (bif (bif a then b else false) then true else c) = dx n∧(bif a then (bif b then true else c) else false) = dx n:=by
  unfold dx
  have e:(0 < n∧n % 4 = 0)↔((a = true∧b = true)∨c = true):=by
    rw [ha,hb,hc]; omega
  have e2:c = true→a = true:=by rw [ha,hc]; omega
  rw [show decide (0 < n∧n % 4 = 0) = decide ((a = true∧b = true)∨c = true) from decide_eq_decide.2 e]
  cases a <;> cases b <;> cases c <;> simp_all
theorem pg {a b:Int} (h:0≤a):Int.tmod a b = a % b:=Int.tmod_eq_emod_of_nonneg h
theorem u7 {a b:Int} (h:0≤a):Int.tdiv a b = a / b:=Int.tdiv_eq_ediv_of_nonneg h
theorem L5 {n:Int} (h0:0≤n) (h:n≤199):nT (1900+n) = some (dx n):=by
  rw [DB,uJ (by simp),uJ (by simp),pg (by omega),pg (by omega),pg (by omega)]
  rw [(Jd h0 h _ _ _ (by rw [cY]) (by rw [mB]) (by rw [cY])).1]
theorem Tz {n:Int} (h0:0≤n) (h:n≤199):vF (1900+n) = some (dx n):=by
  rw [A8,uJ (by simp),uJ (by simp),pg (by omega),pg (by omega),pg (by omega)]
  rw [(Jd h0 h _ _ _ (by rw [cY]) (by rw [mB]) (by rw [cY])).2]
def mL (lp:Bool) (m:Int):Int:=if m = 2 then (if lp = true then 29 else 28) else if m = 4∨m = 6∨m = 9∨m = 11 then 30 else 31
theorem o9 (lp:Bool) (m:Int):28≤mL lp m∧mL lp m≤31:=by unfold mL; split <;> split <;> omega
theorem Rm {m:Int} (h1:1≤m) (h2:m≤12):m = 1∨m = 2∨m = 3∨m = 4∨m = 5∨m = 6∨m = 7∨m = 8∨m = 9∨m = 10∨m = 11∨m = 12:=by omega
theorem uo {n m:Int} (h0:0≤n) (h:n≤199) (h1:1≤m) (h2:m≤12):cF (1900+n) m = some (mL (dx n) m):=by
  rw [vh,L5 h0 h,Option.bind_some]
  generalize dx n = b
  rcases Rm h1 h2 with rfl | rfl | rfl | rfl | rfl | rfl | rfl | rfl | rfl | rfl | rfl | rfl <;> cases b <;> kernel_rfl
theorem Vc {n m:Int} (h0:0≤n) (h:n≤199) (h1:1≤m) (h2:m≤12):iU (1900+n) m = some (mL (dx n) m):=by
  rw [xP,Tz h0 h,Option.bind_some]
  generalize dx n = b
  rcases Rm h1 h2 with rfl | rfl | rfl | rfl | rfl | rfl | rfl | rfl | rfl | rfl | rfl | rfl <;> cases b <;> kernel_rfl
def gj (lp:Bool):Nat→Int
  | 0=>0
  | m+1=>gj lp m+mL lp ((m:Int)+1)
theorem BW (lp:Bool) (m:Nat):gj lp (m+1) = gj lp m+mL lp ((m:Int)+1):=rfl
theorem ui (lp:Bool):∀ m:Nat,0≤gj lp m∧gj lp m≤31*m
  | 0=>by simp [gj]
  | m+1=>by
    have:=ui lp m
    have:=o9 lp ((m:Int)+1)
    rw [gj]; omega
theorem vM (n:Int):gj (dx n) 12 = yL n:=by
  unfold yL
  generalize dx n = b
  cases b <;> rfl
theorem Ju (lp:Bool) (m:Nat):∀ k:Nat,gj lp m≤gj lp (m+k)
  | 0=>Int.le_refl _
  | k+1=>by
    have:=Ju lp m k
    have:=o9 lp ((m+k:Nat)+1:Int)
    rw [← Nat.add_assoc,gj]; omega
theorem UO {n:Int} (h0:0≤n) (h:n≤199):∀ (k m:Nat) (rest:Int),m+k = 12→0≤rest→rest < gj (dx n) 12 - gj (dx n) m→En (fun r=>r.1 = 1900+n∧r.2.2.2 = true) (iB (1900+n) ((m:Int)+1) rest):=by
  intro k
  induction k with
  | zero=>intro m rest hm hr hl; rw [show m = 12 by omega] at hl; omega
  | succ k ih =>
    intro m rest hm hr hl
    have u1:=ui (dx n) 12
    have u2:=ui (dx n) m
    have u3:=o9 (dx n) ((m:Int)+1)
    rw [xH,uo h0 h (by omega) (by omega),Option.bind_some,Option.bind_some]
    refine En.ifd (fun hle=>?_) fun _=>.some ⟨rfl,rfl⟩
    rw [ai (n:=(m:Int)+1+1) (by omega) (by omega),ai (n:=rest - _) (by omega) (by omega)]
    have:=ih (m+1) (rest - mL (dx n) ((m:Int)+1)) (by omega) (by omega) (by rw [BW (dx n) m]; omega)
    exact this
theorem yd {n:Int} (h0:0≤n) (h:n≤200):fE (1900+n) = some (yS n):=by
  rw [xl,ai (n:=1900+n - 1900) (by omega) (by omega),show 1900+n - 1900 = n by omega,ai (n:=365*n) (by omega) (by omega),ai (n:=n - 1) (by omega) (by omega)]
  unfold yS
  by_cases hn:0 < n
  · rw [ay hn,cond_true,if_pos hn,u7 (by omega),ai (n:=(n - 1) / 4) (by omega) (by omega),ai (by omega) (by omega)]
  · rw [aB hn,cond_false,if_neg hn]; simp
theorem Uk {n:Int} (h0:0≤n) (h:n≤199):kX (1900+n) = some (yL n):=by
  rw [wv,L5 h0 h,Option.bind_some]
  unfold yL
  cases dx n <;> rfl
def yr (d:Int):Int:=if d < 365 then 0 else 1+(4*(d - 365)+3) / 1461
theorem Qk {d:Int} (h0:0≤d):0≤yr d∧yS (yr d)≤d∧d < yS (yr d+1):=by
  unfold yr yS
  split
  · simp; omega
  · split <;> split <;> omega
theorem IT {n d:Int} (hn:0≤n) (h1:yS n≤d) (h2:d < yS (n+1)):n = yr d:=by
  unfold yS at h1 h2
  unfold yr
  split at h1 <;> split at h2 <;> split <;> omega
theorem uU {d:Int} (h0:0≤d) (h:d≤73048):0≤yr d∧yr d≤199:=by
  unfold yr; split <;> omega
theorem Pt {a b:Int} (h:a≤b) (h0:0≤a):yr a≤yr b:=by
  unfold yr; split <;> split <;> omega
theorem OX {a b:Int} (h:a≤b) (h0:0≤a):yS a≤yS b:=by
  unfold yS; split <;> split <;> omega
theorem Vo {d:Int} (hd0:0≤d) (hd:d≤73048):∀ (k:Nat) (n:Int),200 - n≤k→0≤n→n≤199→yS n≤d→En (fun r=>r.1 = 1900+yr d∧r.2.2.2 = true) (je d (1900+n)):=by
  intro k
  induction k with
  | zero=>intro n hk h0 h hs; omega
  | succ k ih =>
    intro n hk h0 h hs
    have y1:=Lf h0 (by omega)
    have y2:=Mz n
    have y3:=xi n h0
    rw [yJ,yd h0 (by omega),Option.bind_some,Uk h0 h,Option.bind_some,Option.bind_some,ai (n:=yS n+yL n) (by omega) (by omega)]
    refine En.ifd (fun hle=>?_) fun hle=>?_
    · rw [ai (by omega) (by omega),show 1900+n+1 = 1900+(n+1) by omega]
      have:n≠199:=by
        rintro rfl
        rw [← y3] at hle
        have:yS (199+1) = 73049:=rfl
        omega
      exact ih (n+1) (by omega) (by omega) (by omega) (by omega)
    · rw [ai (n:=d - yS n) (by omega) (by omega), ← IT h0 hs (by omega)]
      have:=UO h0 h 12 0 (d - yS n) (by omega) (by omega) (by rw [vM]; simp only [gj]; omega)
      exact this
theorem LH {d:Int} (hd0:0≤d) (hd:d≤73048):En (fun r=>r.1 = 1900+yr d∧r.2.2.2 = true) (nU d):=by
  rw [D6,Cr,Option.bind_some,ay hd0,ay hd,cond_true,Bool.not_true,cond_false,u7 hd0,ai (n:=d / 366) (by omega) (by omega),ai (by omega) (by omega)]
  refine Vo hd0 hd 200 (d / 366) (by omega) (by omega) (by omega) ?_
  unfold yS; split <;> omega
theorem VA {n:Int} (h0:0≤n) (h:n≤199):∀ (k m:Nat) (day:Int),m+k = 11→-1000000≤day→day≤1000000+gj (dx n) m→jn (1900+n) 12 day ((m:Int)+1) = some (day+(gj (dx n) 11 - gj (dx n) m),true):=by
  intro k
  induction k with
  | zero =>
    intro m day hm h1 h2
    rw [show m = 11 by omega,jQ,aB (by omega),cond_false,Int.sub_self,Int.add_zero]
  | succ k ih =>
    intro m day hm h1 h2
    have u2:=ui (dx n) m
    have u3:=o9 (dx n) ((m:Int)+1)
    rw [jQ,ay (by omega),cond_true,uo h0 h (by omega) (by omega),Option.bind_some,ai (by omega) (by omega),ai (n:=(m:Int)+1+1) (by omega) (by omega)]
    have:=ih (m+1) (day+mL (dx n) ((m:Int)+1)) (by omega) (by omega) (by rw [BW (dx n) m]; omega)
    rw [BW (dx n) m] at this
    refine Eq.trans this ?_
    congr 2
    omega
theorem Sy {n:Int} (h0:0≤n) (h:n≤199):sH (1900+n) = some ⟨yS n,yS (n+1)⟩:=by
  have y1:=Lf h0 (show n≤200 by omega)
  have y2:=Mz n
  have y3:=xi n h0
  have d1:lM (1900+n) 1 1 = some (yS n,true):=by
    rw [vH,aB (by omega),cond_false,aB (by omega),cond_false,aB (by omega),cond_false,aB (by omega),cond_false,cond_false,uo h0 h (by omega) (by omega),Option.bind_some,
      aB (by have:=o9 (dx n) 1; omega),cond_false,yd h0 (by omega),Option.bind_some,ai (n:=yS n+1) (by omega) (by omega),ai (by omega) (by omega),jQ,aB (by omega),cond_false,Int.add_sub_cancel]
  have d2:lM (1900+n) 12 31 = some (yS (n+1) - 1,true):=by
    rw [vH,aB (by omega),cond_false,aB (by omega),cond_false,aB (by omega),cond_false,aB (by omega),cond_false,aB (by omega),cond_false,uo h0 h (by omega) (by omega),Option.bind_some,
      aB (by have:mL (dx n) 12 = 31:=rfl; omega),cond_false,yd h0 (by omega),Option.bind_some,ai (n:=yS n+31) (by omega) (by omega),ai (by omega) (by omega)]
    have:=VA h0 h 11 0 (yS n+31 - 1) (by omega) (by omega) (by simp only [gj]; omega)
    refine Eq.trans this ?_
    congr 2
    have e:gj (dx n) 12 = gj (dx n) 11+mL (dx n) 12:=rfl
    have e2:mL (dx n) 12 = 31:=rfl
    have e3:=vM n
    simp only [gj] at e e3 ⊢
    omega
  rw [DH,d1,Option.bind_some,d2,Option.bind_some,ai (by simp only []; omega) (by simp only []; omega)]
  simp
def sM:Nat→Int
  | 0=>0
  | m+1=>sM m+mL (dx ((m:Int) / 12)) ((m:Int) % 12+1)
theorem OY (m:Nat):sM (m+1) = sM m+mL (dx ((m:Int) / 12)) ((m:Int) % 12+1):=rfl
theorem FM:∀ m:Nat,0≤sM m∧sM m≤31*m
  | 0=>by simp [sM]
  | m+1=>by
    have:=FM m
    have:=o9 (dx ((m:Int) / 12)) ((m:Int) % 12+1)
    rw [sM]; omega
theorem KT (n:Nat):∀ j:Nat,j≤12→sM (12*n+j) = sM (12*n)+gj (dx n) j
  | 0,_=>by simp [gj]
  | j+1,h=>by
    have:=KT n j (by omega)
    rw [← Nat.add_assoc,sM,this,gj]
    rw [show (((12*n+j:Nat):Int) / 12) = (n:Int) by omega,show (((12*n+j:Nat):Int) % 12) = (j:Int) by omega]
    omega
theorem B7:∀ n:Nat,sM (12*n) = yS n
  | 0=>rfl
  | n+1=>by
    rw [show 12*(n+1) = 12*n+12 by omega,KT n 12 (Nat.le_refl _),B7 n,vM,show ((n+1:Nat):Int) = (n:Int)+1 by omega,xi n (by omega)]
theorem RW {m:Nat} (hm:m < 2400):iU (ab (1900+(ab (Int.tdiv (m:Int) 12)))) (ab ((Int.tmod (m:Int) 12)+1)) = some (mL (dx ((m:Int) / 12)) ((m:Int) % 12+1)):=by
  rw [u7 (by omega),pg (by omega),ai (n:=(m:Int) / 12) (by omega) (by omega),ai (n:=1900+_) (by omega) (by omega),ai (by omega) (by omega),Vc (by omega) (by omega) (by omega) (by omega)]
theorem U6 (M:Nat) (hM:M≤2400):∀ (k m:Nat),m+k = M→jK (M:Int) (sM m) (m:Int) = some (sM M):=by
  intro k
  induction k with
  | zero=>intro m hm; rw [show m = M by omega,jk,bg,cond_false]
  | succ k ih =>
    intro m hm
    have:=FM m
    have:=o9 (dx ((m:Int) / 12)) ((m:Int) % 12+1)
    rw [jk,aT (by omega),cond_true,RW (by omega),Option.bind_some,ai (by omega) (by omega),ai (n:=(m:Int)+1) (by omega) (by omega)]
    have:=ih (m+1) (by omega)
    exact this
theorem RR {n:Int} (h0:0≤n) (h:n≤199):iN (12*n) = some (yS n,true):=by
  obtain ⟨k,rfl⟩:∃ k:Nat,n = k:=⟨n.toNat,by omega⟩
  rw [sh,bJ,Option.bind_some,ay (by omega),cond_true,ay (by omega),Bool.not_true,cond_false,Aa]
  have:=U6 (12*k) (by omega) (12*k) 0 (by omega)
  rw [B7,show ((12*k:Nat):Int) = 12*(k:Int) by omega] at this
  rw [show sM 0 = 0 from rfl,show ((0:Nat):Int) = 0 from rfl] at this
  rw [this,Option.bind_some]
theorem QM:iN (12*200) = some (0,false):=by
  rw [sh,bJ,Option.bind_some]
  rfl
theorem SU:∀ (k m:Nat) (d:Int),m+k = 2400→0≤d→d < sM 2400 - sM m→En (fun r=>∃ M:Nat,M < 2400∧r.1 = (M:Int)∧sM M≤sM m+d∧sM m+d < sM (M+1)∧0≤r.2∧r.2≤31) (jT d (m:Int)):=by
  intro k
  induction k with
  | zero=>intro m d hm h0 hl; rw [show m = 2400 by omega] at hl; omega
  | succ k ih =>
    intro m d hm h0 hl
    have s1:=FM m
    have s2:=FM 2400
    have s3:=o9 (dx ((m:Int) / 12)) ((m:Int) % 12+1)
    rw [Ao,RW (by omega),Option.bind_some]
    refine En.ifd (fun hlt=>.some ⟨m,by omega,rfl,by omega,by rw [sM]; omega,h0,by simp only []; omega⟩) fun hlt=>?_
    rw [ai (by omega) (by omega),ai (n:=(m:Int)+1) (by omega) (by omega)]
    have:=ih (m+1) (d - mL (dx ((m:Int) / 12)) ((m:Int) % 12+1)) (by omega) (by omega) (by rw [OY m]; omega)
    refine En.weak this ?_
    rintro y ⟨M,a1,a2,a3,a4,a5⟩
    rw [OY m] at a3 a4
    exact ⟨M,a1,a2,by omega,by omega,a5⟩
theorem MA {d:Int} (hd0:0≤d) (hd:d≤73048):En (fun r=>r.1 = 1900+yr d∧r.2.2.2 = true) (vW d):=by
  rw [LM,dW,Option.bind_some,ay hd0,ay hd,cond_true,Bool.not_true,cond_false,FF]
  have e:sM 2400 = 73049:=B7 200
  have:=SU 2400 0 d (by omega) hd0 (by rw [e]; simp only [sM]; omega)
  refine .bind this ?_
  rintro y ⟨M,a1,a2,a3,a4,a5,a6⟩
  rw [show sM 0 = 0 from rfl,Int.zero_add] at a3 a4
  refine .some ⟨?_,rfl⟩
  simp only []
  rw [a2,u7 (by omega),ai (n:=(M:Int) / 12) (by omega) (by omega),ai (by omega) (by omega)]
  congr 1
  have hq:M = 12*(M / 12)+M % 12:=by omega
  have i1:=KT (M / 12) (M % 12) (by omega)
  have i2:=KT (M / 12) (M % 12+1) (by omega)
  rw [← hq] at i1
  rw [← Nat.add_assoc, ← hq] at i2
  rw [B7] at i1 i2
  have u:=ui (dx ((M / 12:Nat):Int)) (M % 12)
  have v:=Ju (dx ((M / 12:Nat):Int)) (M % 12+1) (11 - M % 12)
  rw [show M % 12+1+(11 - M % 12) = 12 by omega,vM] at v
  have w:=xi ((M / 12:Nat):Int) (by omega)
  rw [show (M:Int) / 12 = ((M / 12:Nat):Int) by omega]
  exact IT (by omega) (by omega) (by omega)
end Go.Ax
set_option linter.all false
/- Amounts of money in other currencies. -/
set_option maxRecDepth 100000
namespace Go.Ax
def aN:List GRate:=[(⟨1,0,(⟨1,1⟩:GFraction)⟩:GRate),(⟨2,0,(⟨3,2⟩:GFraction)⟩:GRate),(⟨3,0,(⟨1,7⟩:GFraction)⟩:GRate),(⟨3,1150,(⟨1,9⟩:GFraction)⟩:GRate)]
def bN:List GRate:=[(⟨2,0,(⟨3,2⟩:GFraction)⟩:GRate),(⟨3,0,(⟨1,7⟩:GFraction)⟩:GRate),(⟨3,1150,(⟨1,9⟩:GFraction)⟩:GRate)]
theorem jP {x:Int} (h0:0≤x) (h:x≤2399):dO x = some true:=by
  rw [Ij,xJ,wk,Option.bind_some,ay h0,ay h,cond_true,Bool.not_true,cond_false,u7 h0,pg h0,ai (n:=x / 12) (by omega) (by omega),ai (n:=1900+_) (by omega) (by omega),
    ai (n:=x % 12+1) (by omega) (by omega),uo (by omega) (by omega) (by omega) (by omega),Option.bind_some,Option.bind_some]
  rw [ay (by have:=o9 (dx (x / 12)) (x % 12+1); omega)]
theorem Kz:aX 1 1 = some 1:=by
  refine Eq.trans (b:=aX 1 0) (by rw [bh]; kernel_rfl) ?_
  rw [bh]; kernel_rfl
theorem Sw:bO 1 1 = some 1:=by
  refine Eq.trans (b:=bO 1 0) (by rw [bw]; kernel_rfl) ?_
  rw [bw]; kernel_rfl
theorem Uh:bM ⟨1,1⟩ = some true:=by
  rw [js]
  have e1:cL 1 = some 1:=by rw [dt]; kernel_rfl
  have e2:cL 1 = some 1:=by rw [dt]; kernel_rfl
  simp only [e1,e2,Option.bind_some,lc,Kz] <;> (show _ = _; kernel_rfl)
theorem TA:aH ⟨1,1⟩ = some true:=by
  rw [eh]
  have e1:ea 1 = some 1:=by rw [jE]; kernel_rfl
  have e2:IntKind.wrap .u64 1 = 1:=by kernel_rfl
  simp only [e1,e2,Option.bind_some,kJ,Sw] <;> (show _ = _; kernel_rfl)
theorem Kx:aX 3 2 = some 1:=by
  refine Eq.trans (b:=aX 2 1) (by rw [bh]; kernel_rfl) ?_
  refine Eq.trans (b:=aX 1 0) (by rw [bh]; kernel_rfl) ?_
  rw [bh]; kernel_rfl
theorem SI:bO 3 2 = some 1:=by
  refine Eq.trans (b:=bO 2 1) (by rw [bw]; kernel_rfl) ?_
  refine Eq.trans (b:=bO 1 0) (by rw [bw]; kernel_rfl) ?_
  rw [bw]; kernel_rfl
theorem Ng:bM ⟨3,2⟩ = some true:=by
  rw [js]
  have e1:cL 3 = some 3:=by rw [dt]; kernel_rfl
  have e2:cL 2 = some 2:=by rw [dt]; kernel_rfl
  simp only [e1,e2,Option.bind_some,lc,Kx] <;> (show _ = _; kernel_rfl)
theorem NK:aH ⟨3,2⟩ = some true:=by
  rw [eh]
  have e1:ea 3 = some 3:=by rw [jE]; kernel_rfl
  have e2:IntKind.wrap .u64 2 = 2:=by kernel_rfl
  simp only [e1,e2,Option.bind_some,kJ,SI] <;> (show _ = _; kernel_rfl)
theorem Kg:aX 1 7 = some 1:=by
  refine Eq.trans (b:=aX 7 1) (by rw [bh]; kernel_rfl) ?_
  refine Eq.trans (b:=aX 1 0) (by rw [bh]; kernel_rfl) ?_
  rw [bh]; kernel_rfl
theorem Sl:bO 1 7 = some 1:=by
  refine Eq.trans (b:=bO 7 1) (by rw [bw]; kernel_rfl) ?_
  refine Eq.trans (b:=bO 1 0) (by rw [bw]; kernel_rfl) ?_
  rw [bw]; kernel_rfl
theorem MH:bM ⟨1,7⟩ = some true:=by
  rw [js]
  have e1:cL 1 = some 1:=by rw [dt]; kernel_rfl
  have e2:cL 7 = some 7:=by rw [dt]; kernel_rfl
  simp only [e1,e2,Option.bind_some,lc,Kg] <;> (show _ = _; kernel_rfl)
theorem Mr:aH ⟨1,7⟩ = some true:=by
  rw [eh]
  have e1:ea 1 = some 1:=by rw [jE]; kernel_rfl
  have e2:IntKind.wrap .u64 7 = 7:=by kernel_rfl
  simp only [e1,e2,Option.bind_some,kJ,Sl] <;> (show _ = _; kernel_rfl)
theorem KP:aX 1 9 = some 1:=by
  refine Eq.trans (b:=aX 9 1) (by rw [bh]; kernel_rfl) ?_
  refine Eq.trans (b:=aX 1 0) (by rw [bh]; kernel_rfl) ?_
  rw [bh]; kernel_rfl
theorem SJ:bO 1 9 = some 1:=by
  refine Eq.trans (b:=bO 9 1) (by rw [bw]; kernel_rfl) ?_
  refine Eq.trans (b:=bO 1 0) (by rw [bw]; kernel_rfl) ?_
  rw [bw]; kernel_rfl
theorem K6:bM ⟨1,9⟩ = some true:=by
  rw [js]
  have e1:cL 1 = some 1:=by rw [dt]; kernel_rfl
  have e2:cL 9 = some 9:=by rw [dt]; kernel_rfl
  simp only [e1,e2,Option.bind_some,lc,KP] <;> (show _ = _; kernel_rfl)
theorem M6:aH ⟨1,9⟩ = some true:=by
  rw [eh]
  have e1:ea 1 = some 1:=by rw [jE]; kernel_rfl
  have e2:IntKind.wrap .u64 9 = 9:=by kernel_rfl
  simp only [e1,e2,Option.bind_some,kJ,SJ] <;> (show _ = _; kernel_rfl)
theorem UU:eW aN = some 0:=by
  rw [qc]
  refine Eq.trans (b:=aQ aN aN 4 0) (by kernel_rfl) ?_
  refine Eq.trans (b:=aQ aN aN 4 1) ?_ ?_
  · rw [bc]
    have a1:cx (gD aN (0:Int).toNat (zS .GRate)).Currency = some true:=by rw [co]; kernel_rfl
    have a2:dO (gD aN (0:Int).toNat (zS .GRate)).Month = some true:=jP (x:=0) (by decide) (by decide)
    have a3:bM (gD aN (0:Int).toNat (zS .GRate)).Value = some true:=Uh
    have a4:bI (gD aN (0:Int).toNat (zS .GRate)).Value.Num = some true:=by rw [bA]; kernel_rfl
    have a5:bI (gD aN (0:Int).toNat (zS .GRate)).Value.Den = some true:=by rw [bA]; kernel_rfl
    rw [a1,a2,a3,a4,a5] <;> (show _ = _; kernel_rfl)
  refine Eq.trans (b:=aQ aN aN 4 2) ?_ ?_
  · rw [bc]
    have a1:cx (gD aN (1:Int).toNat (zS .GRate)).Currency = some true:=by rw [co]; kernel_rfl
    have a2:dO (gD aN (1:Int).toNat (zS .GRate)).Month = some true:=jP (x:=0) (by decide) (by decide)
    have a3:bM (gD aN (1:Int).toNat (zS .GRate)).Value = some true:=Ng
    have a4:bI (gD aN (1:Int).toNat (zS .GRate)).Value.Num = some true:=by rw [bA]; kernel_rfl
    have a5:bI (gD aN (1:Int).toNat (zS .GRate)).Value.Den = some true:=by rw [bA]; kernel_rfl
    rw [a1,a2,a3,a4,a5] <;> (show _ = _; kernel_rfl)
  refine Eq.trans (b:=aQ aN aN 4 3) ?_ ?_
  · rw [bc]
    have a1:cx (gD aN (2:Int).toNat (zS .GRate)).Currency = some true:=by rw [co]; kernel_rfl
    have a2:dO (gD aN (2:Int).toNat (zS .GRate)).Month = some true:=jP (x:=0) (by decide) (by decide)
    have a3:bM (gD aN (2:Int).toNat (zS .GRate)).Value = some true:=MH
    have a4:bI (gD aN (2:Int).toNat (zS .GRate)).Value.Num = some true:=by rw [bA]; kernel_rfl
    have a5:bI (gD aN (2:Int).toNat (zS .GRate)).Value.Den = some true:=by rw [bA]; kernel_rfl
    rw [a1,a2,a3,a4,a5] <;> (show _ = _; kernel_rfl)
  refine Eq.trans (b:=aQ aN aN 4 4) ?_ ?_
  · rw [bc]
    have a1:cx (gD aN (3:Int).toNat (zS .GRate)).Currency = some true:=by rw [co]; kernel_rfl
    have a2:dO (gD aN (3:Int).toNat (zS .GRate)).Month = some true:=jP (x:=1150) (by decide) (by decide)
    have a3:bM (gD aN (3:Int).toNat (zS .GRate)).Value = some true:=K6
    have a4:bI (gD aN (3:Int).toNat (zS .GRate)).Value.Num = some true:=by rw [bA]; kernel_rfl
    have a5:bI (gD aN (3:Int).toNat (zS .GRate)).Value.Den = some true:=by rw [bA]; kernel_rfl
    rw [a1,a2,a3,a4,a5] <;> (show _ = _; kernel_rfl)
  rw [bc]; kernel_rfl
theorem U2:dL aN = some 0:=by
  rw [rK]
  refine Eq.trans (b:=aU aN 0) (by kernel_rfl) ?_
  refine Eq.trans (b:=aU aN 1) ?_ ?_
  · rw [bn]
    have a2:bZ (gD aN (0:Int).toNat (zS .GRate)).Month = some true:=by rw [bJ]; kernel_rfl
    have a3:aH (gD aN (0:Int).toNat (zS .GRate)).Value = some true:=TA
    rw [a2,a3] <;> (show _ = _; kernel_rfl)
  refine Eq.trans (b:=aU aN 2) ?_ ?_
  · rw [bn]
    have a2:bZ (gD aN (1:Int).toNat (zS .GRate)).Month = some true:=by rw [bJ]; kernel_rfl
    have a3:aH (gD aN (1:Int).toNat (zS .GRate)).Value = some true:=NK
    rw [a2,a3] <;> (show _ = _; kernel_rfl)
  refine Eq.trans (b:=aU aN 3) ?_ ?_
  · rw [bn]
    have a2:bZ (gD aN (2:Int).toNat (zS .GRate)).Month = some true:=by rw [bJ]; kernel_rfl
    have a3:aH (gD aN (2:Int).toNat (zS .GRate)).Value = some true:=Mr
    rw [a2,a3] <;> (show _ = _; kernel_rfl)
  refine Eq.trans (b:=aU aN 4) ?_ ?_
  · rw [bn]
    have a2:bZ (gD aN (3:Int).toNat (zS .GRate)).Month = some true:=by rw [bJ]; kernel_rfl
    have a3:aH (gD aN (3:Int).toNat (zS .GRate)).Value = some true:=M6
    rw [a2,a3] <;> (show _ = _; kernel_rfl)
  rw [bn]; kernel_rfl
theorem UA:eW bN = some 0:=by
  rw [qc]
  refine Eq.trans (b:=aQ bN bN 3 0) (by kernel_rfl) ?_
  refine Eq.trans (b:=aQ bN bN 3 1) ?_ ?_
  · rw [bc]
    have a1:cx (gD bN (0:Int).toNat (zS .GRate)).Currency = some true:=by rw [co]; kernel_rfl
    have a2:dO (gD bN (0:Int).toNat (zS .GRate)).Month = some true:=jP (x:=0) (by decide) (by decide)
    have a3:bM (gD bN (0:Int).toNat (zS .GRate)).Value = some true:=Ng
    have a4:bI (gD bN (0:Int).toNat (zS .GRate)).Value.Num = some true:=by rw [bA]; kernel_rfl
    have a5:bI (gD bN (0:Int).toNat (zS .GRate)).Value.Den = some true:=by rw [bA]; kernel_rfl
    rw [a1,a2,a3,a4,a5] <;> (show _ = _; kernel_rfl)
  refine Eq.trans (b:=aQ bN bN 3 2) ?_ ?_
  · rw [bc]
    have a1:cx (gD bN (1:Int).toNat (zS .GRate)).Currency = some true:=by rw [co]; kernel_rfl
    have a2:dO (gD bN (1:Int).toNat (zS .GRate)).Month = some true:=jP (x:=0) (by decide) (by decide)
    have a3:bM (gD bN (1:Int).toNat (zS .GRate)).Value = some true:=MH
    have a4:bI (gD bN (1:Int).toNat (zS .GRate)).Value.Num = some true:=by rw [bA]; kernel_rfl
    have a5:bI (gD bN (1:Int).toNat (zS .GRate)).Value.Den = some true:=by rw [bA]; kernel_rfl
    rw [a1,a2,a3,a4,a5] <;> (show _ = _; kernel_rfl)
  refine Eq.trans (b:=aQ bN bN 3 3) ?_ ?_
  · rw [bc]
    have a1:cx (gD bN (2:Int).toNat (zS .GRate)).Currency = some true:=by rw [co]; kernel_rfl
    have a2:dO (gD bN (2:Int).toNat (zS .GRate)).Month = some true:=jP (x:=1150) (by decide) (by decide)
    have a3:bM (gD bN (2:Int).toNat (zS .GRate)).Value = some true:=K6
    have a4:bI (gD bN (2:Int).toNat (zS .GRate)).Value.Num = some true:=by rw [bA]; kernel_rfl
    have a5:bI (gD bN (2:Int).toNat (zS .GRate)).Value.Den = some true:=by rw [bA]; kernel_rfl
    rw [a1,a2,a3,a4,a5] <;> (show _ = _; kernel_rfl)
  rw [bc]; kernel_rfl
theorem UN:dL bN = some 0:=by
  rw [rK]
  refine Eq.trans (b:=aU bN 0) (by kernel_rfl) ?_
  refine Eq.trans (b:=aU bN 1) ?_ ?_
  · rw [bn]
    have a2:bZ (gD bN (0:Int).toNat (zS .GRate)).Month = some true:=by rw [bJ]; kernel_rfl
    have a3:aH (gD bN (0:Int).toNat (zS .GRate)).Value = some true:=NK
    rw [a2,a3] <;> (show _ = _; kernel_rfl)
  refine Eq.trans (b:=aU bN 2) ?_ ?_
  · rw [bn]
    have a2:bZ (gD bN (1:Int).toNat (zS .GRate)).Month = some true:=by rw [bJ]; kernel_rfl
    have a3:aH (gD bN (1:Int).toNat (zS .GRate)).Value = some true:=Mr
    rw [a2,a3] <;> (show _ = _; kernel_rfl)
  refine Eq.trans (b:=aU bN 3) ?_ ?_
  · rw [bn]
    have a2:bZ (gD bN (2:Int).toNat (zS .GRate)).Month = some true:=by rw [bJ]; kernel_rfl
    have a3:aH (gD bN (2:Int).toNat (zS .GRate)).Value = some true:=M6
    rw [a2,a3] <;> (show _ = _; kernel_rfl)
  rw [bn]; kernel_rfl
structure lH (t:List GRate):Prop where
  len:t.length≤4
  rng:∀ r∈t,(1≤r.Value.Num∧r.Value.Num≤3)∧1≤r.Value.Den∧r.Value.Den≤9
  m:eW t = some 0
  r:dL t = some 0
theorem yj:lH aN:=⟨by decide,by unfold aN; decide,UU,U2⟩
theorem TS:lH bN:=⟨by decide,by unfold bN; decide,UA,UN⟩
theorem Ql (t:List GRate) (hl:t.length≤4) (c m:Int) (z:GFraction):∀ (k i:Nat) (b:Int),i+k = t.length→-1≤b→b < (t.length:Int) →
    ∃ r,iQ t c m b t (t.length:Int) (i:Int) z = some r∧iF t c m b (i:Int) z = some r∧(r.2 = true→∃ x∈t,r.1 = x.Value):=by
  intro k
  induction k with
  | zero =>
    intro i b hi hb hb2
    rw [show i = t.length by omega,rS,rF,bg,cond_false,cond_false]
    by_cases h:b < 0
    · rw [ay h,cond_true]; exact ⟨_,rfl,rfl,fun h=>by cases h⟩
    · rw [aB h,cond_false,aP (by omega),aP hb2]
      exact ⟨_,rfl,rfl,fun _=>⟨_,cB (by omega) hb2,rfl⟩⟩
  | succ k ih =>
    intro i b hi hb hb2
    have hlt:i < t.length:=by omega
    rw [rS,rF,aT hlt,br,cond_true,cond_true,bf hlt (by omega)]
    simp only [Bool.or_true,aC]
    have hb':∀ {x:Bool},((!(aa (b < 0)))&&x) = true→aa (0≤b) = true:=fun h=>by
      rw [Bool.and_eq_true] at h
      have:=h.1
      exact ay (by have:=mJ (p:=b < 0) (by simpa using this); omega)
    rw [ay hb2]
    simp only [Bool.or_true,aC]
    rw [qS hb',qS hb']
    generalize (bif (bif (af (gD t ((i:Int)).toNat (zS .GRate)).Currency c) then aa ((gD t ((i:Int)).toNat (zS .GRate)).Month≤m) else false) then (bif aa (b < 0) then true else aa ((gD t b.toNat (zS .GRate)).Month < (gD t ((i:Int)).toNat (zS .GRate)).Month)) else false) = q
    cases q
    · exact ih (i+1) b (by omega) hb hb2
    · exact ih (i+1) (i:Int) (by omega) (by omega) (by omega)
theorem J6 (t:List GRate) (hl:t.length≤4) (c m:Int):∃ r,qW t c m = some r∧rm t c m = some r∧(r.2 = true→∃ x∈t,r.1 = x.Value):=by
  rw [G0,HC]
  exact Ql t hl c m _ t.length 0 (-1) (by omega) (by omega) (by omega)
theorem Pf {lo y:Int} (h0:0≤lo) (hl:lo≤1000000000000000000) (hy:1≤y):iG 0 lo y = some (lo / y,lo % y):=by
  have hq:lo / y≤lo:=Int.ediv_le_self y h0
  have hq0:0≤lo / y:=Int.ediv_nonneg h0 (by omega)
  rw [rr,fI.2 (by omega),cond_false,og,aB (by omega),cond_false,nt,i7,cond_true,aP (by omega),aP (by omega),u7 h0,pg h0,ek hq0 (by omega)]
theorem td {lo d:Int} (h0:0≤lo) (hl:lo≤500000000000) (hd:1≤d) (hd2:d≤1000):o7 false 0 lo d ⟨1,1⟩ = some (lo / d,0)∧oW false ⟨0,lo⟩ d ⟨1,1⟩ = some (lo / d,0):=by
  have hq:lo / d≤lo:=Int.ediv_le_self d h0
  have hq0:0≤lo / d:=Int.ediv_nonneg h0 (by omega)
  have e1:IntKind.wrap .u64 (d*IntKind.wrap .u64 1) = d:=by
    rw [ek (n:=1) (by omega) (by omega),Int.mul_one,ek (by omega) (by omega)]
  constructor
  · rw [Fo]
    simp only [e1]
    rw [aB (by omega),cond_false,Pf h0 (by omega) hd,Option.bind_some]
    simp only []
    rw [aB (by omega),cond_false,cond_false,ai (n:=lo / d) (by omega) (by omega),yU]
    simp only []
    rw [fI.2 (by omega),cond_false,fI.2 (by omega),cond_false,fI.2 (by omega),cond_false,xW,cond_false,xR]
    simp only []
    rw [aP (by omega),qS (fun _=>ay (by omega)),show ab (Int.tdiv 1000000000000 1) = 1000000000000 by kernel_rfl,show ab (Int.tdiv (-1000000000000) 1) = -1000000000000 by kernel_rfl,aB (by omega),cond_false,aB (by omega),cond_false,Int.mul_one,ai (by omega) (by omega)]
  · rw [Gn]
    simp only [e1]
    rw [s5,aP (by omega)]
    simp only []
    rw [show Int.tmod 0 d = 0 by simp,show Int.tdiv 0 d = 0 by simp,Pf h0 (by omega) hd,Option.bind_some,aP (by omega),Option.bind_some]
    simp only []
    rw [show aJ (IntKind.wrap .u64 0) 0 = false by kernel_rfl,cond_false,aB (by omega),cond_false,show af 1 1 = true by kernel_rfl,cond_true,cond_false,cond_false]
    rw [show IntKind.wrap .u64 1 = 1 by kernel_rfl,yZ,aP (by decide),show IntKind.wrap .u64 (Int.tdiv 1000000000000 1) = 1000000000000 by kernel_rfl,aB (by omega),cond_false,cond_false,Int.mul_one,ek (by omega) (by omega),ai (by omega) (by omega)]
theorem DS {x:Int} (h0:0≤x) (h:x≤4294967295):IntKind.wrap .u64 (qI 64 x 4294967295) = x:=by
  obtain ⟨k,rfl⟩:∃ k:Nat,x = k:=⟨x.toNat,by omega⟩
  have e:(BitVec.ofInt 64 (k:Int) &&& BitVec.ofInt 64 (4294967295:Int)).toNat = k % 4294967296:=by
    rw [show BitVec.ofInt 64 (4294967295:Int) = BitVec.ofNat 64 (2 ^ 32 - 1) from rfl,BitVec.ofInt_natCast,BitVec.toNat_and,BitVec.toNat_ofNat,BitVec.toNat_ofNat,Nat.mod_eq_of_lt (a:=k) (by omega),show (2 ^ 32 - 1) % 2 ^ 64 = 2 ^ 32 - 1 from rfl,Nat.and_two_pow_sub_one_eq_mod]
  show IntKind.wrap .u64 ((BitVec.ofInt 64 (k:Int) &&& BitVec.ofInt 64 (4294967295:Int)).toNat:Int) = k
  rw [e,ek (by omega) (by omega)]
  omega
theorem UF {a b:Int} (a0:0≤a) (ha:a≤4294967295) (b0:0≤b) (hb:b≤27):lr a b = some (0,a*b):=by
  have hab:0≤a*b:=Int.mul_nonneg a0 b0
  have hab2:a*b≤115964116965:=by
    have:=Int.mul_le_mul ha hb b0 (by omega:(0:Int)≤4294967295)
    omega
  have f1:Int.fdiv a 4294967296 = 0:=by rw [Int.fdiv_eq_ediv_of_nonneg _ (by omega)]; omega
  have f2:Int.fdiv b 4294967296 = 0:=by rw [Int.fdiv_eq_ediv_of_nonneg _ (by omega)]; omega
  have f3:0≤Int.fdiv (a*b) 4294967296∧Int.fdiv (a*b) 4294967296≤27:=by rw [Int.fdiv_eq_ediv_of_nonneg _ (by omega)]; omega
  rw [BE,DS a0 ha,DS b0 (by omega),f1,f2,Int.zero_mul,Int.zero_mul,Int.mul_zero,ek (n:=a*b) hab (by omega),ek (n:=0) (by omega) (by omega)]
  simp only [Int.zero_add,Int.add_zero]
  rw [ek (n:=Int.fdiv (a*b) 4294967296) f3.1 (by omega),DS f3.1 (by omega)]
  have f4:Int.fdiv (Int.fdiv (a*b) 4294967296) 4294967296 = 0:=by rw [Int.fdiv_eq_ediv_of_nonneg _ (by omega)]; omega
  rw [f4,ek (n:=Int.fdiv (a*b) 4294967296) f3.1 (by omega),f4]
  rfl
theorem N4 {x c to m:Int} {t:List GRate} (ht:lH t) (hx0:0≤x) (hx:x≤1000000000) (hto1:1≤to) (hto2:to≤999) (hm0:0≤m) (hm:m≤2399) :
    ∃ r:Int × Int,kx x c to m t ⟨1,1⟩ = some r∧pb x c to m t ⟨1,1⟩ = some r∧(0≤r.1∧r.1≤27000000000)∧(c = to→r = (x,0)):=by
  have v1:kP ⟨1,1⟩ = some true:=by rw [wA]; refine Eq.trans (b:=cE true ⟨1,1⟩) (by kernel_rfl) ?_; rw [sr]; kernel_rfl
  have v2:iM ⟨1,1⟩ = some true:=by rw [jz]; kernel_rfl
  rw [Ek,Gs,Fi,Ah,Option.bind_some,Option.bind_some,ay (by omega),ay (by omega),cond_true,Bool.not_true,cond_false,cond_false,co,oD,Option.bind_some,Option.bind_some]
  by_cases hc:1≤c∧c≤999
  case neg =>
    have e:(bif aa (1≤c) then aa (c≤999) else false) = false:=by
      by_cases h:1≤c
      · rw [ay h,cond_true,aB (fun h2=>hc ⟨h,h2⟩)]
      · rw [aB h,cond_false]
    rw [e,Bool.not_false,cond_true,cond_true]
    exact ⟨_,rfl,rfl,by simp,fun h=>absurd ⟨by omega,by omega⟩ hc⟩
  rw [ay hc.1,ay hc.2,cond_true,Bool.not_true,cond_false,cond_false,co,oD,Option.bind_some,Option.bind_some,ay hto1,ay hto2,cond_true,Bool.not_true,cond_false,cond_false,jP hm0 hm,bJ,
    Option.bind_some,Option.bind_some,ay hm0,ay hm,cond_true,Bool.not_true,cond_false,cond_false,v1,v2,Option.bind_some,Option.bind_some,Bool.not_true,cond_false,cond_false,ht.m,ht.r,Option.bind_some,Option.bind_some,mo.2 rfl,cond_false,cond_false]
  have s1:tG x = some x:=by rw [Kc,aB (by omega),cond_false,ek hx0 (by omega)]
  have s2:ea x = some x:=by rw [jE,aB (by omega),cond_false,ek hx0 (by omega)]
  rw [s1,s2,Option.bind_some,Option.bind_some,aB (show ¬ x < 0 by omega)]
  by_cases he:c = to
  · rw [cY.2 he,cond_true,cond_true,(td hx0 (by omega) (by omega) (by omega)).1,(td hx0 (by omega) (by omega) (by omega)).2,Int.ediv_one]
    simp only [Option.bind_some]
    exact ⟨_,rfl,rfl,by simp only []; omega,fun _=>rfl⟩
  · rw [fI.2 he,cond_false,cond_false]
    obtain ⟨r,h1,h2,h3⟩:=J6 t ht.len c m
    obtain ⟨q,g1,g2,g3⟩:=J6 t ht.len to m
    rw [h1,h2,g1,g2]
    simp only [Option.bind_some]
    cases hr:r.2 with
    | false=>exact ⟨_,rfl,rfl,by simp,fun h=>absurd h he⟩
    | true =>
      cases hq:q.2 with
      | false=>exact ⟨_,rfl,rfl,by simp,fun h=>absurd h he⟩
      | true =>
        obtain ⟨a,a1,a2⟩:=h3 hr
        obtain ⟨b,b1,b2⟩:=g3 hq
        obtain ⟨⟨n1,n2⟩,d1,d2⟩:=ht.rng a a1
        obtain ⟨⟨n3,n4⟩,d3,d4⟩:=ht.rng b b1
        rw [a2,b2]
        generalize a.Value.Num = A at *
        generalize a.Value.Den = B at *
        generalize b.Value.Num = C at *
        generalize b.Value.Den = D at *
        have e1:1≤A*D∧A*D≤27:=⟨Int.mul_pos (by omega) (by omega),by have:=Int.mul_le_mul n2 d4 (by omega) (by omega:(0:Int)≤3); omega⟩
        have e2:1≤B*C∧B*C≤27:=⟨Int.mul_pos (by omega) (by omega),by have:=Int.mul_le_mul d2 n4 (by omega) (by omega:(0:Int)≤9); omega⟩
        have e3:0≤x*(A*D)∧x*(A*D)≤27000000000:=⟨Int.mul_nonneg hx0 (by omega),by have:=Int.mul_le_mul hx e1.2 (by omega) (by omega:(0:Int)≤1000000000); omega⟩
        have e4:0≤x*(A*D) / (B*C)∧x*(A*D) / (B*C)≤x*(A*D):=⟨Int.ediv_nonneg e3.1 (by omega),Int.ediv_le_self _ e3.1⟩
        simp only [Bool.not_true,cond_false]
        rw [ek (n:=A) (by omega) (by omega),ek (n:=D) (by omega) (by omega),ek (n:=B) (by omega) (by omega),ek (n:=C) (by omega) (by omega),ek (n:=A*D) (by omega) (by omega),ek (n:=B*C) (by omega) (by omega),
          Kv,UF hx0 (by omega) (by omega) e1.2]
        simp only [Option.bind_some]
        rw [(td e3.1 (by omega) e2.1 (by omega)).1,(td e3.1 (by omega) e2.1 (by omega)).2]
        simp only [Option.bind_some]
        exact ⟨_,rfl,rfl,by simp only []; omega,fun h=>absurd h he⟩
end Go.Ax
