import Derived.Test.YtokecajedkojlaaGreatZP6
set_option linter.all false
/- Years of the calendar. -/
set_option maxRecDepth 100000
namespace Go.Ax
def yS (n:Int):Int:=365*n+(if 0 < n then (n - 1) / 4 else 0)
def dz (n:Int):Bool:=decide (0 < n∧n % 4 = 0)
def yL (n:Int):Int:=if dz n = true then 366 else 365
theorem xH (n:Int) (h:0≤n):yS (n+1) = yS n+yL n:=by
  unfold yS yL dz
  simp only [decide_eq_true_eq]
  split <;> split <;> split <;> omega
theorem NA {n:Int} (h0:0≤n) (h:n≤200):0≤yS n∧yS n≤73049:=by unfold yS; split <;> omega
theorem Nj (n:Int):365≤yL n∧yL n≤366:=by unfold yL; split <;> omega
theorem JE {n:Int} (h0:0≤n) (h:n≤199) (a b c:Bool) (ha:a = true↔(1900+n) % 4 = 0) (hb:b = true↔(1900+n) % 100≠0) (hc:c = true↔(1900+n) % 400 = 0) :
    (bif (bif a then b else false) then true else c) = dz n∧(bif a then (bif b then true else c) else false) = dz n:=by
  unfold dz
  have e:(0 < n∧n % 4 = 0)↔((a = true∧b = true)∨c = true):=by
    rw [ha,hb,hc]; omega
  have e2:c = true→a = true:=by rw [ha,hc]; omega
  rw [show decide (0 < n∧n % 4 = 0) = decide ((a = true∧b = true)∨c = true) from decide_eq_decide.2 e]
  cases a <;> cases b <;> cases c <;> simp_all
theorem pc {a b:Int} (h:0≤a):Int.tmod a b = a % b:=Int.tmod_eq_emod_of_nonneg h
theorem uj {a b:Int} (h:0≤a):Int.tdiv a b = a / b:=Int.tdiv_eq_ediv_of_nonneg h
theorem Oe {n:Int} (h0:0≤n) (h:n≤199):n9 (1900+n) = some (dz n):=by
  rw [E4,vq (by simp),vq (by simp),pc (by omega),pc (by omega),pc (by omega)]
  rw [(JE h0 h _ _ _ (by rw [cA]) (by rw [mE]) (by rw [cA])).1]
theorem T4 {n:Int} (h0:0≤n) (h:n≤199):vN (1900+n) = some (dz n):=by
  rw [BK,vq (by simp),vq (by simp),pc (by omega),pc (by omega),pc (by omega)]
  rw [(JE h0 h _ _ _ (by rw [cA]) (by rw [mE]) (by rw [cA])).2]
def mL (lp:Bool) (m:Int):Int:=if m = 2 then (if lp = true then 29 else 28) else if m = 4∨m = 6∨m = 9∨m = 11 then 30 else 31
theorem oX (lp:Bool) (m:Int):28≤mL lp m∧mL lp m≤31:=by unfold mL; split <;> split <;> omega
theorem Tk {m:Int} (h1:1≤m) (h2:m≤12):m = 1∨m = 2∨m = 3∨m = 4∨m = 5∨m = 6∨m = 7∨m = 8∨m = 9∨m = 10∨m = 11∨m = 12:=by omega
theorem vb {n m:Int} (h0:0≤n) (h:n≤199) (h1:1≤m) (h2:m≤12):cB (1900+n) m = some (mL (dz n) m):=by
  rw [vD,Oe h0 h,Option.bind_some]
  generalize dz n = b
  rcases Tk h1 h2 with rfl | rfl | rfl | rfl | rfl | rfl | rfl | rfl | rfl | rfl | rfl | rfl <;> cases b <;> kernel_rfl
theorem Vp {n m:Int} (h0:0≤n) (h:n≤199) (h1:1≤m) (h2:m≤12):je (1900+n) m = some (mL (dz n) m):=by
  rw [xx,T4 h0 h,Option.bind_some]
  generalize dz n = b
  rcases Tk h1 h2 with rfl | rfl | rfl | rfl | rfl | rfl | rfl | rfl | rfl | rfl | rfl | rfl <;> cases b <;> kernel_rfl
def gE (lp:Bool):Nat→Int
  | 0=>0
  | m+1=>gE lp m+mL lp ((m:Int)+1)
theorem A4 (lp:Bool) (m:Nat):gE lp (m+1) = gE lp m+mL lp ((m:Int)+1):=rfl
theorem uR (lp:Bool):∀ m:Nat,0≤gE lp m∧gE lp m≤31*m
  | 0=>by simp [gE]
  | m+1=>by
    have:=uR lp m
    have:=oX lp ((m:Int)+1)
    rw [gE]; omega
theorem vY (n:Int):gE (dz n) 12 = yL n:=by
  unfold yL
  generalize dz n = b
  cases b <;> rfl
theorem Kk (lp:Bool) (m:Nat):∀ k:Nat,gE lp m≤gE lp (m+k)
  | 0=>Int.le_refl _
  | k+1=>by
    have:=Kk lp m k
    have:=oX lp ((m+k:Nat)+1:Int)
    rw [← Nat.add_assoc,gE]; omega
theorem VH {n:Int} (h0:0≤n) (h:n≤199):∀ (k m:Nat) (rest:Int),m+k = 12→0≤rest→rest < gE (dz n) 12 - gE (dz n) m→En (fun r=>r.1 = 1900+n∧r.2.2.2 = true) (iF (1900+n) ((m:Int)+1) rest):=by
  intro k
  induction k with
  | zero=>intro m rest hm hr hl; rw [show m = 12 by omega] at hl; omega
  | succ k ih =>
    intro m rest hm hr hl
    have u1:=uR (dz n) 12
    have u2:=uR (dz n) m
    have u3:=oX (dz n) ((m:Int)+1)
    rw [xP,vb h0 h (by omega) (by omega),Option.bind_some,Option.bind_some]
    refine En.ifd (fun hle=>?_) fun _=>.some ⟨rfl,rfl⟩
    rw [ah (n:=(m:Int)+1+1) (by omega) (by omega),ah (n:=rest - _) (by omega) (by omega)]
    have:=ih (m+1) (rest - mL (dz n) ((m:Int)+1)) (by omega) (by omega) (by rw [A4 (dz n) m]; omega)
    exact this
theorem zL {n:Int} (h0:0≤n) (h:n≤200):fG (1900+n) = some (yS n):=by
  rw [yb,ah (n:=1900+n - 1900) (by omega) (by omega),show 1900+n - 1900 = n by omega,ah (n:=365*n) (by omega) (by omega),ah (n:=n - 1) (by omega) (by omega)]
  unfold yS
  by_cases hn:0 < n
  · rw [aB hn,cond_true,if_pos hn,uj (by omega),ah (n:=(n - 1) / 4) (by omega) (by omega),ah (by omega) (by omega)]
  · rw [aE hn,cond_false,if_neg hn]; simp
theorem Ut {n:Int} (h0:0≤n) (h:n≤199):lc (1900+n) = some (yL n):=by
  rw [wM,Oe h0 h,Option.bind_some]
  unfold yL
  cases dz n <;> rfl
def yr (d:Int):Int:=if d < 365 then 0 else 1+(4*(d - 365)+3) / 1461
theorem QJ {d:Int} (h0:0≤d):0≤yr d∧yS (yr d)≤d∧d < yS (yr d+1):=by
  unfold yr yS
  split
  · simp; omega
  · split <;> split <;> omega
theorem xA {n d:Int} (hn:0≤n) (h1:yS n≤d) (h2:d < yS (n+1)):n = yr d:=by
  unfold yS at h1 h2
  unfold yr
  split at h1 <;> split at h2 <;> split <;> omega
theorem ug {d:Int} (h0:0≤d) (h:d≤73048):0≤yr d∧yr d≤199:=by
  unfold yr; split <;> omega
theorem P7 {a b:Int} (h:a≤b) (h0:0≤a):yr a≤yr b:=by
  unfold yr; split <;> split <;> omega
theorem P6 {a b:Int} (h:a≤b) (h0:0≤a):yS a≤yS b:=by
  unfold yS; split <;> split <;> omega
theorem Wu {d:Int} (hd0:0≤d) (hd:d≤73048):∀ (k:Nat) (n:Int),200 - n≤k→0≤n→n≤199→yS n≤d→En (fun r=>r.1 = 1900+yr d∧r.2.2.2 = true) (jj d (1900+n)):=by
  intro k
  induction k with
  | zero=>intro n hk h0 h hs; omega
  | succ k ih =>
    intro n hk h0 h hs
    have y1:=NA h0 (by omega)
    have y2:=Nj n
    have y3:=xH n h0
    rw [zm,zL h0 (by omega),Option.bind_some,Ut h0 h,Option.bind_some,Option.bind_some,ah (n:=yS n+yL n) (by omega) (by omega)]
    refine En.ifd (fun hle=>?_) fun hle=>?_
    · rw [ah (by omega) (by omega),show 1900+n+1 = 1900+(n+1) by omega]
      have:n≠199:=by
        rintro rfl
        rw [← y3] at hle
        have:yS (199+1) = 73049:=rfl
        omega
      exact ih (n+1) (by omega) (by omega) (by omega) (by omega)
    · rw [ah (n:=d - yS n) (by omega) (by omega), ← xA h0 hs (by omega)]
      have:=VH h0 h 12 0 (d - yS n) (by omega) (by omega) (by rw [vY]; simp only [gE]; omega)
      exact this
theorem NT {d:Int} (hd0:0≤d) (hd:d≤73048):En (fun r=>r.1 = 1900+yr d∧r.2.2.2 = true) (oc d):=by
  rw [EI,CR,Option.bind_some,aB hd0,aB hd,cond_true,Bool.not_true,cond_false,uj hd0,ah (n:=d / 366) (by omega) (by omega),ah (by omega) (by omega)]
  refine Wu hd0 hd 200 (d / 366) (by omega) (by omega) (by omega) ?_
  unfold yS; split <;> omega
theorem Wv {n:Int} (h0:0≤n) (h:n≤199):∀ (k m:Nat) (day:Int),m+k = 11→-1000000≤day→day≤1000000+gE (dz n) m→jl (1900+n) 12 day ((m:Int)+1) = some (day+(gE (dz n) 11 - gE (dz n) m),true):=by
  intro k
  induction k with
  | zero =>
    intro m day hm h1 h2
    rw [show m = 11 by omega,ku,aE (by omega),cond_false,Int.sub_self,Int.add_zero]
  | succ k ih =>
    intro m day hm h1 h2
    have u2:=uR (dz n) m
    have u3:=oX (dz n) ((m:Int)+1)
    rw [ku,aB (by omega),cond_true,vb h0 h (by omega) (by omega),Option.bind_some,ah (by omega) (by omega),ah (n:=(m:Int)+1+1) (by omega) (by omega)]
    have:=ih (m+1) (day+mL (dz n) ((m:Int)+1)) (by omega) (by omega) (by rw [A4 (dz n) m]; omega)
    rw [A4 (dz n) m] at this
    refine Eq.trans this ?_
    congr 2
    omega
theorem S4 {n:Int} (h0:0≤n) (h:n≤199):sH (1900+n) = some ⟨yS n,yS (n+1)⟩:=by
  have y1:=NA h0 (show n≤200 by omega)
  have y2:=Nj n
  have y3:=xH n h0
  have d1:md (1900+n) 1 1 = some (yS n,true):=by
    rw [vW,aE (by omega),cond_false,aE (by omega),cond_false,aE (by omega),cond_false,aE (by omega),cond_false,cond_false,vb h0 h (by omega) (by omega),Option.bind_some,
      aE (by have:=oX (dz n) 1; omega),cond_false,zL h0 (by omega),Option.bind_some,ah (n:=yS n+1) (by omega) (by omega),ah (by omega) (by omega),ku,aE (by omega),cond_false,Int.add_sub_cancel]
  have d2:md (1900+n) 12 31 = some (yS (n+1) - 1,true):=by
    rw [vW,aE (by omega),cond_false,aE (by omega),cond_false,aE (by omega),cond_false,aE (by omega),cond_false,aE (by omega),cond_false,vb h0 h (by omega) (by omega),Option.bind_some,
      aE (by have:mL (dz n) 12 = 31:=rfl; omega),cond_false,zL h0 (by omega),Option.bind_some,ah (n:=yS n+31) (by omega) (by omega),ah (by omega) (by omega)]
    have:=Wv h0 h 11 0 (yS n+31 - 1) (by omega) (by omega) (by simp only [gE]; omega)
    refine Eq.trans this ?_
    congr 2
    have e:gE (dz n) 12 = gE (dz n) 11+mL (dz n) 12:=rfl
    have e2:mL (dz n) 12 = 31:=rfl
    have e3:=vY n
    simp only [gE] at e e3 ⊢
    omega
  rw [DJ,d1,Option.bind_some,d2,Option.bind_some,ah (by simp only []; omega) (by simp only []; omega)]
  simp
def sM:Nat→Int
  | 0=>0
  | m+1=>sM m+mL (dz ((m:Int) / 12)) ((m:Int) % 12+1)
theorem PW (m:Nat):sM (m+1) = sM m+mL (dz ((m:Int) / 12)) ((m:Int) % 12+1):=rfl
theorem Gk:∀ m:Nat,0≤sM m∧sM m≤31*m
  | 0=>by simp [sM]
  | m+1=>by
    have:=Gk m
    have:=oX (dz ((m:Int) / 12)) ((m:Int) % 12+1)
    rw [sM]; omega
theorem Lx (n:Nat):∀ j:Nat,j≤12→sM (12*n+j) = sM (12*n)+gE (dz n) j
  | 0,_=>by simp [gE]
  | j+1,h=>by
    have:=Lx n j (by omega)
    rw [← Nat.add_assoc,sM,this,gE]
    rw [show (((12*n+j:Nat):Int) / 12) = (n:Int) by omega,show (((12*n+j:Nat):Int) % 12) = (j:Int) by omega]
    omega
theorem CB:∀ n:Nat,sM (12*n) = yS n
  | 0=>rfl
  | n+1=>by
    rw [show 12*(n+1) = 12*n+12 by omega,Lx n 12 (Nat.le_refl _),CB n,vY,show ((n+1:Nat):Int) = (n:Int)+1 by omega,xH n (by omega)]
theorem Te {m:Nat} (hm:m < 2400):je (ab (1900+(ab (Int.tdiv (m:Int) 12)))) (ab ((Int.tmod (m:Int) 12)+1)) = some (mL (dz ((m:Int) / 12)) ((m:Int) % 12+1)):=by
  rw [uj (by omega),pc (by omega),ah (n:=(m:Int) / 12) (by omega) (by omega),ah (n:=1900+_) (by omega) (by omega),ah (by omega) (by omega),Vp (by omega) (by omega) (by omega) (by omega)]
theorem Vn (M:Nat) (hM:M≤2400):∀ (k m:Nat),m+k = M→jF (M:Int) (sM m) (m:Int) = some (sM M):=by
  intro k
  induction k with
  | zero=>intro m hm; rw [show m = M by omega,jB,aX,cond_false]
  | succ k ih =>
    intro m hm
    have:=Gk m
    have:=oX (dz ((m:Int) / 12)) ((m:Int) % 12+1)
    rw [jB,aP (by omega),cond_true,Te (by omega),Option.bind_some,ah (by omega) (by omega),ah (n:=(m:Int)+1) (by omega) (by omega)]
    have:=ih (m+1) (by omega)
    exact this
theorem Ti {n:Int} (h0:0≤n) (h:n≤199):iI (12*n) = some (yS n,true):=by
  obtain ⟨k,rfl⟩:∃ k:Nat,n = k:=⟨n.toNat,by omega⟩
  rw [rP,dg,Option.bind_some,aB (by omega),cond_true,aB (by omega),Bool.not_true,cond_false,Ar]
  have:=Vn (12*k) (by omega) (12*k) 0 (by omega)
  rw [CB,show ((12*k:Nat):Int) = 12*(k:Int) by omega] at this
  rw [show sM 0 = 0 from rfl,show ((0:Nat):Int) = 0 from rfl] at this
  rw [this,Option.bind_some]
theorem Rx:iI (12*200) = some (0,false):=by
  rw [rP,dg,Option.bind_some]
  rfl
theorem Sq:∀ (k m:Nat) (d:Int),m+k = 2400→0≤d→d < sM 2400 - sM m→En (fun r=>∃ M:Nat,M < 2400∧r.1 = (M:Int)∧sM M≤sM m+d∧sM m+d < sM (M+1)∧0≤r.2∧r.2≤31) (j0 d (m:Int)):=by
  intro k
  induction k with
  | zero=>intro m d hm h0 hl; rw [show m = 2400 by omega] at hl; omega
  | succ k ih =>
    intro m d hm h0 hl
    have s1:=Gk m
    have s2:=Gk 2400
    have s3:=oX (dz ((m:Int) / 12)) ((m:Int) % 12+1)
    rw [AR,Te (by omega),Option.bind_some]
    refine En.ifd (fun hlt=>.some ⟨m,by omega,rfl,by omega,by rw [sM]; omega,h0,by simp only []; omega⟩) fun hlt=>?_
    rw [ah (by omega) (by omega),ah (n:=(m:Int)+1) (by omega) (by omega)]
    have:=ih (m+1) (d - mL (dz ((m:Int) / 12)) ((m:Int) % 12+1)) (by omega) (by omega) (by rw [PW m]; omega)
    refine En.weak this ?_
    rintro y ⟨M,a1,a2,a3,a4,a5⟩
    rw [PW m] at a3 a4
    exact ⟨M,a1,a2,by omega,by omega,a5⟩
theorem Mp {d:Int} (hd0:0≤d) (hd:d≤73048):En (fun r=>r.1 = 1900+yr d∧r.2.2.2 = true) (vQ d):=by
  rw [Mw,dY,Option.bind_some,aB hd0,aB hd,cond_true,Bool.not_true,cond_false,F5]
  have e:sM 2400 = 73049:=CB 200
  have:=Sq 2400 0 d (by omega) hd0 (by rw [e]; simp only [sM]; omega)
  refine .bind this ?_
  rintro y ⟨M,a1,a2,a3,a4,a5,a6⟩
  rw [show sM 0 = 0 from rfl,Int.zero_add] at a3 a4
  refine .some ⟨?_,rfl⟩
  simp only []
  rw [a2,uj (by omega),ah (n:=(M:Int) / 12) (by omega) (by omega),ah (by omega) (by omega)]
  congr 1
  have hq:M = 12*(M / 12)+M % 12:=by omega
  have i1:=Lx (M / 12) (M % 12) (by omega)
  have i2:=Lx (M / 12) (M % 12+1) (by omega)
  rw [← hq] at i1
  rw [← Nat.add_assoc, ← hq] at i2
  rw [CB] at i1 i2
  have u:=uR (dz ((M / 12:Nat):Int)) (M % 12)
  have v:=Kk (dz ((M / 12:Nat):Int)) (M % 12+1) (11 - M % 12)
  rw [show M % 12+1+(11 - M % 12) = 12 by omega,vY] at v
  have w:=xH ((M / 12:Nat):Int) (by omega)
  rw [show (M:Int) / 12 = ((M / 12:Nat):Int) by omega]
  exact xA (by omega) (by omega) (by omega)
end Go.Ax
set_option linter.all false
/- Amounts of money in other currencies. -/
set_option maxRecDepth 100000
namespace Go.Ax
def aO:List GRate:=[(⟨1,0,(⟨1,1⟩:GFraction)⟩:GRate),(⟨2,0,(⟨3,2⟩:GFraction)⟩:GRate),(⟨3,0,(⟨1,7⟩:GFraction)⟩:GRate),(⟨3,1150,(⟨1,9⟩:GFraction)⟩:GRate)]
theorem rO {x:Int} (h0:0≤x) (h:x≤2399):gJ x = some true:=by
  rw [HB,yl,wG,Option.bind_some,aB h0,aB h,cond_true,Bool.not_true,cond_false,uj h0,pc h0,ah (n:=x / 12) (by omega) (by omega),ah (n:=1900+_) (by omega) (by omega),
    ah (n:=x % 12+1) (by omega) (by omega),vb (by omega) (by omega) (by omega) (by omega),Option.bind_some,Option.bind_some]
  rw [aB (by have:=oX (dz (x / 12)) (x % 12+1); omega)]
theorem KE:be 1 1 = some 1:=by
  refine Eq.trans (b:=be 1 0) (by rw [bi]; kernel_rfl) ?_
  rw [bi]; kernel_rfl
theorem SH:bJ 1 1 = some 1:=by
  refine Eq.trans (b:=bJ 1 0) (by rw [bu]; kernel_rfl) ?_
  rw [bu]; kernel_rfl
theorem TI:cK ⟨1,1⟩ = some true:=by
  rw [jn]
  have e1:cH 1 = some 1:=by rw [df]; kernel_rfl
  have e2:cH 1 = some 1:=by rw [df]; kernel_rfl
  simp only [e1,e2,Option.bind_some,lw,KE] <;> (show _ = _; kernel_rfl)
theorem TW:aS ⟨1,1⟩ = some true:=by
  rw [ep]
  have e1:ek 1 = some 1:=by rw [jT]; kernel_rfl
  have e2:IntKind.wrap .u64 1 = 1:=by kernel_rfl
  simp only [e1,e2,Option.bind_some,kV,SH] <;> (show _ = _; kernel_rfl)
theorem KI:be 3 2 = some 1:=by
  refine Eq.trans (b:=be 2 1) (by rw [bi]; kernel_rfl) ?_
  refine Eq.trans (b:=be 1 0) (by rw [bi]; kernel_rfl) ?_
  rw [bi]; kernel_rfl
theorem S2:bJ 3 2 = some 1:=by
  refine Eq.trans (b:=bJ 2 1) (by rw [bu]; kernel_rfl) ?_
  refine Eq.trans (b:=bJ 1 0) (by rw [bu]; kernel_rfl) ?_
  rw [bu]; kernel_rfl
theorem TE:cK ⟨3,2⟩ = some true:=by
  rw [jn]
  have e1:cH 3 = some 3:=by rw [df]; kernel_rfl
  have e2:cH 2 = some 2:=by rw [df]; kernel_rfl
  simp only [e1,e2,Option.bind_some,lw,KI] <;> (show _ = _; kernel_rfl)
theorem Uj:aS ⟨3,2⟩ = some true:=by
  rw [ep]
  have e1:ek 3 = some 3:=by rw [jT]; kernel_rfl
  have e2:IntKind.wrap .u64 2 = 2:=by kernel_rfl
  simp only [e1,e2,Option.bind_some,kV,S2] <;> (show _ = _; kernel_rfl)
theorem KN:be 1 7 = some 1:=by
  refine Eq.trans (b:=be 7 1) (by rw [bi]; kernel_rfl) ?_
  refine Eq.trans (b:=be 1 0) (by rw [bi]; kernel_rfl) ?_
  rw [bi]; kernel_rfl
theorem TA:bJ 1 7 = some 1:=by
  refine Eq.trans (b:=bJ 7 1) (by rw [bu]; kernel_rfl) ?_
  refine Eq.trans (b:=bJ 1 0) (by rw [bu]; kernel_rfl) ?_
  rw [bu]; kernel_rfl
theorem U1:cK ⟨1,7⟩ = some true:=by
  rw [jn]
  have e1:cH 1 = some 1:=by rw [df]; kernel_rfl
  have e2:cH 7 = some 7:=by rw [df]; kernel_rfl
  simp only [e1,e2,Option.bind_some,lw,KN] <;> (show _ = _; kernel_rfl)
theorem UW:aS ⟨1,7⟩ = some true:=by
  rw [ep]
  have e1:ek 1 = some 1:=by rw [jT]; kernel_rfl
  have e2:IntKind.wrap .u64 7 = 7:=by kernel_rfl
  simp only [e1,e2,Option.bind_some,kV,TA] <;> (show _ = _; kernel_rfl)
theorem KH:be 1 9 = some 1:=by
  refine Eq.trans (b:=be 9 1) (by rw [bi]; kernel_rfl) ?_
  refine Eq.trans (b:=be 1 0) (by rw [bi]; kernel_rfl) ?_
  rw [bi]; kernel_rfl
theorem Sm:bJ 1 9 = some 1:=by
  refine Eq.trans (b:=bJ 9 1) (by rw [bu]; kernel_rfl) ?_
  refine Eq.trans (b:=bJ 1 0) (by rw [bu]; kernel_rfl) ?_
  rw [bu]; kernel_rfl
theorem UC:cK ⟨1,9⟩ = some true:=by
  rw [jn]
  have e1:cH 1 = some 1:=by rw [df]; kernel_rfl
  have e2:cH 9 = some 9:=by rw [df]; kernel_rfl
  simp only [e1,e2,Option.bind_some,lw,KH] <;> (show _ = _; kernel_rfl)
theorem UT:aS ⟨1,9⟩ = some true:=by
  rw [ep]
  have e1:ek 1 = some 1:=by rw [jT]; kernel_rfl
  have e2:IntKind.wrap .u64 9 = 9:=by kernel_rfl
  simp only [e1,e2,Option.bind_some,kV,Sm] <;> (show _ = _; kernel_rfl)
theorem VQ:fb aO = some 0:=by
  rw [qr]
  refine Eq.trans (b:=bF aO aO 4 0) (by kernel_rfl) ?_
  refine Eq.trans (b:=bF aO aO 4 1) ?_ ?_
  · rw [cx]
    have a1:em (gD aO (0:Int).toNat (zS .GRate)).Currency = some true:=by rw [eM]; kernel_rfl
    have a2:gJ (gD aO (0:Int).toNat (zS .GRate)).Month = some true:=rO (x:=0) (by decide) (by decide)
    have a3:cK (gD aO (0:Int).toNat (zS .GRate)).Value = some true:=TI
    have a4:dU (gD aO (0:Int).toNat (zS .GRate)).Value.Num = some true:=by rw [eo]; kernel_rfl
    have a5:dU (gD aO (0:Int).toNat (zS .GRate)).Value.Den = some true:=by rw [eo]; kernel_rfl
    rw [a1,a2,a3,a4,a5] <;> (show _ = _; kernel_rfl)
  refine Eq.trans (b:=bF aO aO 4 2) ?_ ?_
  · rw [cx]
    have a1:em (gD aO (1:Int).toNat (zS .GRate)).Currency = some true:=by rw [eM]; kernel_rfl
    have a2:gJ (gD aO (1:Int).toNat (zS .GRate)).Month = some true:=rO (x:=0) (by decide) (by decide)
    have a3:cK (gD aO (1:Int).toNat (zS .GRate)).Value = some true:=TE
    have a4:dU (gD aO (1:Int).toNat (zS .GRate)).Value.Num = some true:=by rw [eo]; kernel_rfl
    have a5:dU (gD aO (1:Int).toNat (zS .GRate)).Value.Den = some true:=by rw [eo]; kernel_rfl
    rw [a1,a2,a3,a4,a5] <;> (show _ = _; kernel_rfl)
  refine Eq.trans (b:=bF aO aO 4 3) ?_ ?_
  · rw [cx]
    have a1:em (gD aO (2:Int).toNat (zS .GRate)).Currency = some true:=by rw [eM]; kernel_rfl
    have a2:gJ (gD aO (2:Int).toNat (zS .GRate)).Month = some true:=rO (x:=0) (by decide) (by decide)
    have a3:cK (gD aO (2:Int).toNat (zS .GRate)).Value = some true:=U1
    have a4:dU (gD aO (2:Int).toNat (zS .GRate)).Value.Num = some true:=by rw [eo]; kernel_rfl
    have a5:dU (gD aO (2:Int).toNat (zS .GRate)).Value.Den = some true:=by rw [eo]; kernel_rfl
    rw [a1,a2,a3,a4,a5] <;> (show _ = _; kernel_rfl)
  refine Eq.trans (b:=bF aO aO 4 4) ?_ ?_
  · rw [cx]
    have a1:em (gD aO (3:Int).toNat (zS .GRate)).Currency = some true:=by rw [eM]; kernel_rfl
    have a2:gJ (gD aO (3:Int).toNat (zS .GRate)).Month = some true:=rO (x:=1150) (by decide) (by decide)
    have a3:cK (gD aO (3:Int).toNat (zS .GRate)).Value = some true:=UC
    have a4:dU (gD aO (3:Int).toNat (zS .GRate)).Value.Num = some true:=by rw [eo]; kernel_rfl
    have a5:dU (gD aO (3:Int).toNat (zS .GRate)).Value.Den = some true:=by rw [eo]; kernel_rfl
    rw [a1,a2,a3,a4,a5] <;> (show _ = _; kernel_rfl)
  rw [cx]; kernel_rfl
theorem VU:dN aO = some 0:=by
  rw [sD]
  refine Eq.trans (b:=bN aO 0) (by kernel_rfl) ?_
  refine Eq.trans (b:=bN aO 1) ?_ ?_
  · rw [cL]
    have a2:dO (gD aO (0:Int).toNat (zS .GRate)).Month = some true:=by rw [dg]; kernel_rfl
    have a3:aS (gD aO (0:Int).toNat (zS .GRate)).Value = some true:=TW
    rw [a2,a3] <;> (show _ = _; kernel_rfl)
  refine Eq.trans (b:=bN aO 2) ?_ ?_
  · rw [cL]
    have a2:dO (gD aO (1:Int).toNat (zS .GRate)).Month = some true:=by rw [dg]; kernel_rfl
    have a3:aS (gD aO (1:Int).toNat (zS .GRate)).Value = some true:=Uj
    rw [a2,a3] <;> (show _ = _; kernel_rfl)
  refine Eq.trans (b:=bN aO 3) ?_ ?_
  · rw [cL]
    have a2:dO (gD aO (2:Int).toNat (zS .GRate)).Month = some true:=by rw [dg]; kernel_rfl
    have a3:aS (gD aO (2:Int).toNat (zS .GRate)).Value = some true:=UW
    rw [a2,a3] <;> (show _ = _; kernel_rfl)
  refine Eq.trans (b:=bN aO 4) ?_ ?_
  · rw [cL]
    have a2:dO (gD aO (3:Int).toNat (zS .GRate)).Month = some true:=by rw [dg]; kernel_rfl
    have a3:aS (gD aO (3:Int).toNat (zS .GRate)).Value = some true:=UT
    rw [a2,a3] <;> (show _ = _; kernel_rfl)
  rw [cL]; kernel_rfl
theorem VW:fb [] = some 0:=by
  rw [qr]
  refine Eq.trans (b:=bF [] [] 0 0) (by kernel_rfl) ?_
  rw [cx]; kernel_rfl
theorem VG:dN [] = some 0:=by
  rw [sD]
  refine Eq.trans (b:=bN [] 0) (by kernel_rfl) ?_
  rw [cL]; kernel_rfl
structure pn (t:List GRate):Prop where
  len:t.length≤4
  rng:∀ r∈t,(1≤r.Value.Num∧r.Value.Num≤3)∧1≤r.Value.Den∧r.Value.Den≤9
  m:fb t = some 0
  r:dN t = some 0
theorem Uo:pn aO:=⟨by decide,by unfold aO; decide,VQ,VU⟩
theorem Ot:pn []:=⟨by decide,by simp,VW,VG⟩
theorem QK (t:List GRate) (hl:t.length≤4) (c m:Int) (z:GFraction):∀ (k i:Nat) (b:Int),i+k = t.length→-1≤b→b < (t.length:Int) →
    ∃ r,iy t c m b t (t.length:Int) (i:Int) z = some r∧iQ t c m b (i:Int) z = some r∧(r.2 = true→∃ x∈t,r.1 = x.Value):=by
  intro k
  induction k with
  | zero =>
    intro i b hi hb hb2
    rw [show i = t.length by omega,rS,rZ,aX,cond_false,cond_false]
    by_cases h:b < 0
    · rw [aB h,cond_true]; exact ⟨_,rfl,rfl,fun h=>by cases h⟩
    · rw [aE h,cond_false,aT (by omega),aT hb2]
      exact ⟨_,rfl,rfl,fun _=>⟨_,cw (by omega) hb2,rfl⟩⟩
  | succ k ih =>
    intro i b hi hb hb2
    have hlt:i < t.length:=by omega
    rw [rS,rZ,aP hlt,bj,cond_true,cond_true,aW hlt (by omega)]
    simp only [Bool.or_true,ay]
    have hb':∀ {x:Bool},((!(aa (b < 0)))&&x) = true→aa (0≤b) = true:=fun h=>by
      rw [Bool.and_eq_true] at h
      have:=h.1
      exact aB (by have:=mK (p:=b < 0) (by simpa using this); omega)
    rw [aB hb2]
    simp only [Bool.or_true,ay]
    rw [rr hb',rr hb']
    generalize (bif (bif (af (gD t ((i:Int)).toNat (zS .GRate)).Currency c) then aa ((gD t ((i:Int)).toNat (zS .GRate)).Month≤m) else false) then (bif aa (b < 0) then true else aa ((gD t b.toNat (zS .GRate)).Month < (gD t ((i:Int)).toNat (zS .GRate)).Month)) else false) = q
    cases q
    · exact ih (i+1) b (by omega) hb hb2
    · exact ih (i+1) (i:Int) (by omega) (by omega) (by omega)
theorem Kz (t:List GRate) (hl:t.length≤4) (c m:Int):∃ r,q9 t c m = some r∧q5 t c m = some r∧(r.2 = true→∃ x∈t,r.1 = x.Value):=by
  rw [Jk,Hz]
  exact QK t hl c m _ t.length 0 (-1) (by omega) (by omega) (by omega)
theorem Ps {lo y:Int} (h0:0≤lo) (hl:lo≤1000000000000000000) (hy:1≤y):iD 0 lo y = some (lo / y,lo % y):=by
  have hq:lo / y≤lo:=Int.ediv_le_self y h0
  have hq0:0≤lo / y:=Int.ediv_nonneg h0 (by omega)
  rw [sf,fx.2 (by omega),cond_false,ow,aE (by omega),cond_false,nC,j9,cond_true,aT (by omega),aT (by omega),uj h0,pc h0,et hq0 (by omega)]
theorem tE {lo d:Int} (h0:0≤lo) (hl:lo≤500000000000) (hd:1≤d) (hd2:d≤1000):pk false 0 lo d ⟨1,1⟩ = some (lo / d,0)∧pj false ⟨0,lo⟩ d ⟨1,1⟩ = some (lo / d,0):=by
  have hq:lo / d≤lo:=Int.ediv_le_self d h0
  have hq0:0≤lo / d:=Int.ediv_nonneg h0 (by omega)
  have e1:IntKind.wrap .u64 (d*IntKind.wrap .u64 1) = d:=by
    rw [et (n:=1) (by omega) (by omega),Int.mul_one,et (by omega) (by omega)]
  constructor
  · rw [Gv]
    simp only [e1]
    rw [aE (by omega),cond_false,Ps h0 (by omega) hd,Option.bind_some]
    simp only []
    rw [aE (by omega),cond_false,cond_false,ah (n:=lo / d) (by omega) (by omega),yR]
    simp only []
    rw [fx.2 (by omega),cond_false,fx.2 (by omega),cond_false,fx.2 (by omega),cond_false,xz,cond_false,yc]
    simp only []
    rw [aT (by omega),rr (fun _=>aB (by omega)),show ab (Int.tdiv 1000000000000 1) = 1000000000000 by kernel_rfl,show ab (Int.tdiv (-1000000000000) 1) = -1000000000000 by kernel_rfl,aE (by omega),cond_false,aE (by omega),cond_false,Int.mul_one,ah (by omega) (by omega)]
  · rw [Fq]
    simp only [e1]
    rw [th,aT (by omega)]
    simp only []
    rw [show Int.tmod 0 d = 0 by simp,show Int.tdiv 0 d = 0 by simp,Ps h0 (by omega) hd,Option.bind_some,aT (by omega),Option.bind_some]
    simp only []
    rw [show aK (IntKind.wrap .u64 0) 0 = false by kernel_rfl,cond_false,aE (by omega),cond_false,show af 1 1 = true by kernel_rfl,cond_true,cond_false,cond_false]
    rw [show IntKind.wrap .u64 1 = 1 by kernel_rfl,zu,aT (by decide),show IntKind.wrap .u64 (Int.tdiv 1000000000000 1) = 1000000000000 by kernel_rfl,aE (by omega),cond_false,cond_false,Int.mul_one,et (by omega) (by omega),ah (by omega) (by omega)]
theorem DS {x:Int} (h0:0≤x) (h:x≤4294967295):IntKind.wrap .u64 (qJ 64 x 4294967295) = x:=by
  obtain ⟨k,rfl⟩:∃ k:Nat,x = k:=⟨x.toNat,by omega⟩
  have e:(BitVec.ofInt 64 (k:Int) &&& BitVec.ofInt 64 (4294967295:Int)).toNat = k % 4294967296:=by
    rw [show BitVec.ofInt 64 (4294967295:Int) = BitVec.ofNat 64 (2 ^ 32 - 1) from rfl,BitVec.ofInt_natCast,BitVec.toNat_and,BitVec.toNat_ofNat,BitVec.toNat_ofNat,Nat.mod_eq_of_lt (a:=k) (by omega),show (2 ^ 32 - 1) % 2 ^ 64 = 2 ^ 32 - 1 from rfl,Nat.and_two_pow_sub_one_eq_mod]
  show IntKind.wrap .u64 ((BitVec.ofInt 64 (k:Int) &&& BitVec.ofInt 64 (4294967295:Int)).toNat:Int) = k
  rw [e,et (by omega) (by omega)]
  omega
theorem Vz {a b:Int} (a0:0≤a) (ha:a≤4294967295) (b0:0≤b) (hb:b≤27):lL a b = some (0,a*b):=by
  have hab:0≤a*b:=Int.mul_nonneg a0 b0
  have hab2:a*b≤115964116965:=by
    have:=Int.mul_le_mul ha hb b0 (by omega:(0:Int)≤4294967295)
    omega
  have f1:Int.fdiv a 4294967296 = 0:=by rw [Int.fdiv_eq_ediv_of_nonneg _ (by omega)]; omega
  have f2:Int.fdiv b 4294967296 = 0:=by rw [Int.fdiv_eq_ediv_of_nonneg _ (by omega)]; omega
  have f3:0≤Int.fdiv (a*b) 4294967296∧Int.fdiv (a*b) 4294967296≤27:=by rw [Int.fdiv_eq_ediv_of_nonneg _ (by omega)]; omega
  rw [Bi,DS a0 ha,DS b0 (by omega),f1,f2,Int.zero_mul,Int.zero_mul,Int.mul_zero,et (n:=a*b) hab (by omega),et (n:=0) (by omega) (by omega)]
  simp only [Int.zero_add,Int.add_zero]
  rw [et (n:=Int.fdiv (a*b) 4294967296) f3.1 (by omega),DS f3.1 (by omega)]
  have f4:Int.fdiv (Int.fdiv (a*b) 4294967296) 4294967296 = 0:=by rw [Int.fdiv_eq_ediv_of_nonneg _ (by omega)]; omega
  rw [f4,et (n:=Int.fdiv (a*b) 4294967296) f3.1 (by omega),f4]
  rfl
theorem OU {x c to m:Int} {t:List GRate} (ht:pn t) (hx0:0≤x) (hx:x≤1000000000) (hto1:1≤to) (hto2:to≤999) (hm0:0≤m) (hm:m≤2399) :
    ∃ r:Int × Int,kK x c to m t ⟨1,1⟩ = some r∧ph x c to m t ⟨1,1⟩ = some r∧(0≤r.1∧r.1≤27000000000)∧(c = to→r = (x,0)):=by
  have v1:la ⟨1,1⟩ = some true:=by rw [wW]; refine Eq.trans (b:=cy true ⟨1,1⟩) (by kernel_rfl) ?_; rw [sK]; kernel_rfl
  have v2:iJ ⟨1,1⟩ = some true:=by rw [jL]; kernel_rfl
  rw [DU,FX,Ga,AM,Option.bind_some,Option.bind_some,aB (by omega),aB (by omega),cond_true,Bool.not_true,cond_false,cond_false,eM,oN,Option.bind_some,Option.bind_some]
  by_cases hc:1≤c∧c≤999
  case neg =>
    have e:(bif aa (1≤c) then aa (c≤999) else false) = false:=by
      by_cases h:1≤c
      · rw [aB h,cond_true,aE (fun h2=>hc ⟨h,h2⟩)]
      · rw [aE h,cond_false]
    rw [e,Bool.not_false,cond_true,cond_true]
    exact ⟨_,rfl,rfl,by simp,fun h=>absurd ⟨by omega,by omega⟩ hc⟩
  rw [aB hc.1,aB hc.2,cond_true,Bool.not_true,cond_false,cond_false,eM,oN,Option.bind_some,Option.bind_some,aB hto1,aB hto2,cond_true,Bool.not_true,cond_false,cond_false,rO hm0 hm,dg,
    Option.bind_some,Option.bind_some,aB hm0,aB hm,cond_true,Bool.not_true,cond_false,cond_false,v1,v2,Option.bind_some,Option.bind_some,Bool.not_true,cond_false,cond_false,ht.m,ht.r,Option.bind_some,Option.bind_some,lE.2 rfl,cond_false,cond_false]
  have s1:tT x = some x:=by rw [Lp,aE (by omega),cond_false,et hx0 (by omega)]
  have s2:ek x = some x:=by rw [jT,aE (by omega),cond_false,et hx0 (by omega)]
  rw [s1,s2,Option.bind_some,Option.bind_some,aE (show ¬ x < 0 by omega)]
  by_cases he:c = to
  · rw [cA.2 he,cond_true,cond_true,(tE hx0 (by omega) (by omega) (by omega)).1,(tE hx0 (by omega) (by omega) (by omega)).2,Int.ediv_one]
    simp only [Option.bind_some]
    exact ⟨_,rfl,rfl,by simp only []; omega,fun _=>rfl⟩
  · rw [fx.2 he,cond_false,cond_false]
    obtain ⟨r,h1,h2,h3⟩:=Kz t ht.len c m
    obtain ⟨q,g1,g2,g3⟩:=Kz t ht.len to m
    rw [h1,h2,g1,g2]
    simp only [Option.bind_some]
    cases hr:r.2 with
    | false=>exact ⟨_,rfl,rfl,by simp,fun h=>absurd h he⟩
    | true =>
      cases hq:q.2 with
      | false=>exact ⟨_,rfl,rfl,by simp,fun h=>absurd h he⟩
      | true =>
        obtain ⟨a,a1,a2⟩:=h3 hr
        obtain ⟨b,b1,b2⟩:=g3 hq
        obtain ⟨⟨n1,n2⟩,d1,d2⟩:=ht.rng a a1
        obtain ⟨⟨n3,n4⟩,d3,d4⟩:=ht.rng b b1
        rw [a2,b2]
        generalize a.Value.Num = A at *
        generalize a.Value.Den = B at *
        generalize b.Value.Num = C at *
        generalize b.Value.Den = D at *
        have e1:1≤A*D∧A*D≤27:=⟨Int.mul_pos (by omega) (by omega),by have:=Int.mul_le_mul n2 d4 (by omega) (by omega:(0:Int)≤3); omega⟩
        have e2:1≤B*C∧B*C≤27:=⟨Int.mul_pos (by omega) (by omega),by have:=Int.mul_le_mul d2 n4 (by omega) (by omega:(0:Int)≤9); omega⟩
        have e3:0≤x*(A*D)∧x*(A*D)≤27000000000:=⟨Int.mul_nonneg hx0 (by omega),by have:=Int.mul_le_mul hx e1.2 (by omega) (by omega:(0:Int)≤1000000000); omega⟩
        have e4:0≤x*(A*D) / (B*C)∧x*(A*D) / (B*C)≤x*(A*D):=⟨Int.ediv_nonneg e3.1 (by omega),Int.ediv_le_self _ e3.1⟩
        simp only [Bool.not_true,cond_false]
        rw [et (n:=A) (by omega) (by omega),et (n:=D) (by omega) (by omega),et (n:=B) (by omega) (by omega),et (n:=C) (by omega) (by omega),et (n:=A*D) (by omega) (by omega),et (n:=B*C) (by omega) (by omega),
          Lf,Vz hx0 (by omega) (by omega) e1.2]
        simp only [Option.bind_some]
        rw [(tE e3.1 (by omega) e2.1 (by omega)).1,(tE e3.1 (by omega) e2.1 (by omega)).2]
        simp only [Option.bind_some]
        exact ⟨_,rfl,rfl,by simp only []; omega,fun h=>absurd h he⟩
end Go.Ax
