import Derived.Test.YtbjfcadcipfolaaGreatZP52
set_option linter.all false
/- Bodies of documents: both texts read the same. -/
set_option maxRecDepth 100000
namespace Go.Ax
def qF (b:List Int):GFact × Bool:=if (uB b).2.2 = true∧(uB b).2.1 = (b.length:Int) then ((uB b).1,true) else (H4,false)
theorem DX (b:List Int) (r0:GFact × Int × Bool):(bif (bif (!r0.2.2) then true else (aT r0.2.1 (b.length:Int))) then some ((⟨0,0,0,false,0,0,0,(⟨0,0⟩:GSpan),0,0,0,0,0⟩:GFact),false) else some (r0.1,true)) = some (if r0.2.2 = true∧r0.2.1 = (b.length:Int) then (r0.1,true) else (H4,false)):=by
 cases h1:r0.2.2 with
 | false=>rfl
 | true =>
  by_cases h2:r0.2.1 = (b.length:Int)
  ·rw [bW.2 h2,if_pos ⟨rfl,h2⟩];rfl
  ·rw [bT.2 h2,if_neg (fun h=>h2 h.2)];rfl
theorem w9 {b:List Int} (hb:aA b) (hB:b.length≤1000000000000):om b = some (qF b):=by
 rw [yC,Da hb hB,Option.bind_some,DX];rfl
theorem BG {b:List Int} (hb:aA b) (hB:b.length≤1000000000000):tr b = some (qF b):=by
 rw [Dl,A0 hb hB,Option.bind_some,DX];rfl
theorem Iw {b:List Int} (hb:aA b) {f:GFact} (h:qF b = (f,true)):bH f = true∧dH f = b:=by
 unfold qF at h
 split at h
 ·next hc =>
  have e:uB b = (f,(b.length:Int),true):=by
   have:=(Prod.mk.inj h).1
   rw [← this, ← hc.1, ← hc.2]
  obtain ⟨h1,_,_,h4⟩:=Ls hb e
  exact ⟨h1,by rw [h4,Int.toNat_natCast,List.take_length]⟩
 ·cases h
def ml (c:GClaim):Bool:=ap c.Issuer 0 5&&ap c.Number 1 999&&ap c.Person 1 99&&ap c.Benefit 1 5&&ap c.Ref 0 99&&ap c.Day 0 73048
theorem sf (v l h:Int):aR v l h = some (ap v l h):=by rw [Bq,dM];rfl
theorem jZ (v l h:Int):aV v l h = some (ap v l h):=by rw [Af,dM];rfl
theorem Ml (d:Int):oo d = some (ap d 0 73048):=by rw [yn,dM];rfl
theorem vg (d:Int):fV d = some (ap d 0 2399):=by rw [vh,dM];rfl
theorem AN (c:GClaim):iV c = some (ml c):=by
 rw [rH]
 simp only [sf,Option.bind_some]
 unfold ml
 cases ap c.Issuer 0 5 <;> cases ap c.Number 1 999 <;> cases ap c.Person 1 99 <;> cases ap c.Benefit 1 5 <;> cases ap c.Ref 0 99 <;> cases ap c.Day 0 73048 <;> rfl
def mn (c:GClaim):List Int:=aq c.Issuer 1++(aq c.Number 2++(aq c.Person 1++(aq c.Benefit 1++(aq c.Ref 1++aq c.Day 3))))
theorem IP (v:Int):aJ v 1 = some (aq v 1):=fK v (n:=1) (by omega)
theorem xU (v:Int):aJ v 2 = some (aq v 2):=fK v (n:=2) (by omega)
theorem NJ (v:Int):aJ v 3 = some (aq v 3):=fK v (n:=3) (by omega)
theorem HH (v:Int):aJ v 4 = some (aq v 4):=fK v (n:=4) (by omega)
theorem KQ (v:Int):aJ v 5 = some (aq v 5):=fK v (n:=5) (by omega)
theorem NT (v:Int):aJ v 6 = some (aq v 6):=fK v (n:=6) (by omega)
theorem oG (c:GClaim):kT c = some (if ml c = true then (mn c,true) else ([],false)):=by
 rw [xQ]
 simp only [jZ,Ml,Option.bind_some,IP,xU,NJ]
 rw [kX _ (by simp [ay]) (by simp),Option.bind_some]
 unfold ml mn
 cases ap c.Issuer 0 5 <;> cases ap c.Number 1 999 <;> cases ap c.Person 1 99 <;> cases ap c.Benefit 1 5 <;> cases ap c.Ref 0 99 <;> cases ap c.Day 0 73048 <;> simp
def Fd:GClaim:=⟨0,0,0,0,0,0⟩
def kg (b:List Int):GClaim:=⟨gD b 0 0,ax (aj b 1 2),gD b 3 0,gD b 4 0,gD b 5 0,ax (aj b 6 3)⟩
def pC (b:List Int):GClaim × Bool:=if b.length = 9∧ml (kg b) = true then (kg b,true) else (Fd,false)
theorem nx {n:Nat} {b:List Int} (i:Nat) (h:aA b) (hn:n≤7) (hb:i+n≤b.length) (hB:b.length≤1000000000000):ao (n:Int) ⟨b.drop i⟩ = some (ax (aj b i n),⟨b.drop (i+n)⟩):=by
 rw [yL (h.drop i) hn (by rw [List.length_drop];omega) (by rw [List.length_drop];omega),List.drop_drop];rfl
theorem rm {b:List Int} {i:Nat} (h:i < b.length):ax (aj b i 1) = gD b i 0:=B2 i h
theorem uZ {b:List Int} (hb:aA b) (hB:b.length≤1000000000000):mK b = some (pC b):=by
 rw [xa]
 unfold pC
 by_cases h9:b.length = 9
 ·have n0:=nx (n:=1) 0 hb (by omega) (by omega) hB
  have n1:=nx (n:=2) 1 hb (by omega) (by omega) hB
  have n3:=nx (n:=1) 3 hb (by omega) (by omega) hB
  have n4:=nx (n:=1) 4 hb (by omega) (by omega) hB
  have n5:=nx (n:=1) 5 hb (by omega) (by omega) hB
  have n6:=nx (n:=3) 6 hb (by omega) (by omega) hB
  simp only [Int.cast_ofNat_Int,List.drop_zero] at n0 n1 n3 n4 n5 n6
  rw [bW.2 (by omega),cond_false]
  simp only [n0,n1,n3,n4,n5,n6,Option.bind_some,Nat.zero_add,Nat.reduceAdd,AN]
  rw [rm (by omega),rm (by omega),rm (by omega),rm (by omega)]
  show (bif !ml (kg b) then some (Fd,false) else some (kg b,true)) = _
  cases ml (kg b) with
  | false=>simp
  | true=>simp [h9]
 ·rw [bT.2 (by omega),cond_true,if_neg (fun h=>h9 h.1)];rfl
theorem xz {b:List Int} (hb:aA b) (i:Nat):ae (gD b i 0) = gD b i 0:=by have:=hb.gD i;exact aD (by omega) (by omega)
theorem y5 {b:List Int} {i n:Nat} (h:b.length = i+n):aj b i ((b.length:Int) - (i:Int)).toNat = aj b i n:=by
 congr 1;omega
theorem ct {b:List Int} {i n:Nat}:(aj b i n).length≤n:=by unfold aj;rw [List.length_take];omega
theorem zU {b:List Int} (hb:aA b):rR b = some (pC b):=by
 rw [AS]
 unfold pC
 by_cases h9:b.length = 9
 ·have e:=y5 (b:=b) (i:=6) (n:=3) (by omega)
  simp only [Int.cast_ofNat_Int] at e
  rw [bW.2 (by omega),cond_false,ac (by omega),ac (by omega),bt (hb.sub 1 2) (Nat.le_trans ct (by omega)),Option.bind_some,ac (by omega),ac (by omega),ac (by omega),ac (by omega),ac (by omega),e,
   bt (hb.sub 6 3) (Nat.le_trans ct (by omega)),Option.bind_some,xz hb,xz hb,xz hb,xz hb,oG,Option.bind_some]
  show (bif !(if ml (kg b) = true then (mn (kg b),true) else ([],false)).2 then some (Fd,false) else some (kg b,true)) = _
  cases ml (kg b) with
  | false=>simp
  | true=>simp [h9]
 ·rw [bT.2 (by omega),cond_true,if_neg (fun h=>h9 h.1)];rfl
def fw (r:GRequest):Bool:=ap r.Person 1 99&&ap r.Month 0 2399&&ap r.Amount 0 1000000000000
theorem pu (r:GRequest):ep r = some (fw r):=by
 rw [pE]
 simp only [sf,Option.bind_some]
 unfold fw
 cases ap r.Person 1 99 <;> cases ap r.Month 0 2399 <;> cases ap r.Amount 0 1000000000000 <;> rfl
def cD (r:GRequest):List Int:=aq r.Person 1++(aq r.Month 2++aq r.Amount 5)
theorem mA (r:GRequest):jg r = some (if fw r = true then (cD r,true) else ([],false)):=by
 rw [vW]
 simp only [jZ,vg,Option.bind_some,IP,xU,KQ]
 rw [kX _ (by simp [ay]) (by simp),Option.bind_some]
 unfold fw cD
 cases ap r.Person 1 99 <;> cases ap r.Month 0 2399 <;> cases ap r.Amount 0 1000000000000 <;> simp
def fM (b:List Int):GRequest:=⟨gD b 0 0,ax (aj b 1 2),ax (aj b 3 5)⟩
def mP (b:List Int):GRequest × Bool:=if b.length = 8∧fw (fM b) = true then (fM b,true) else (⟨0,0,0⟩,false)
theorem ti {b:List Int} (hb:aA b) (hB:b.length≤1000000000000):k6 b = some (mP b):=by
 rw [uU]
 unfold mP
 by_cases h9:b.length = 8
 ·have n0:=nx (n:=1) 0 hb (by omega) (by omega) hB
  have n1:=nx (n:=2) 1 hb (by omega) (by omega) hB
  have n3:=nx (n:=5) 3 hb (by omega) (by omega) hB
  simp only [Int.cast_ofNat_Int,List.drop_zero] at n0 n1 n3
  rw [bW.2 (by omega),cond_false]
  simp only [n0,n1,n3,Option.bind_some,Nat.zero_add,Nat.reduceAdd,pu]
  rw [rm (by omega)]
  show (bif !fw (fM b) then some (⟨0,0,0⟩,false) else some (fM b,true)) = _
  cases fw (fM b) with
  | false=>simp
  | true=>simp [h9]
 ·rw [bT.2 (by omega),cond_true,if_neg (fun h=>h9 h.1)]
theorem xh {b:List Int} (hb:aA b):oy b = some (mP b):=by
 rw [yt]
 unfold mP
 by_cases h9:b.length = 8
 ·have e:=y5 (b:=b) (i:=3) (n:=5) (by omega)
  simp only [Int.cast_ofNat_Int] at e
  rw [bW.2 (by omega),cond_false,ac (by omega),ac (by omega),bt (hb.sub 1 2) (Nat.le_trans ct (by omega)),Option.bind_some,ac (by omega),ac (by omega),e,
   bt (hb.sub 3 5) (Nat.le_trans ct (by omega)),Option.bind_some,xz hb,mA,Option.bind_some]
  show (bif !(if fw (fM b) = true then (cD (fM b),true) else ([],false)).2 then some (⟨0,0,0⟩,false) else some (fM b,true)) = _
  cases fw (fM b) with
  | false=>simp
  | true=>simp [h9]
 ·rw [bT.2 (by omega),cond_true,if_neg (fun h=>h9 h.1)]
def ua (r:GRemittance):Bool:=ap r.To 0 5&&ap r.Person 1 99&&ap r.Month 0 2399&&ap r.Request 1 999&&ap r.Sent 1 1000000000000&&ap r.Credited 1 1000000000000
theorem D8 (r:GRemittance):fu r = some (ua r):=by
 rw [nD]
 simp only [sf,Option.bind_some]
 unfold ua
 cases ap r.To 0 5 <;> cases ap r.Person 1 99 <;> cases ap r.Month 0 2399 <;> cases ap r.Request 1 999 <;> cases ap r.Sent 1 1000000000000 <;> cases ap r.Credited 1 1000000000000 <;> rfl
def p7 (r:GRemittance):List Int:=aq r.To 1++(aq r.Person 1++(aq r.Month 2++(aq r.Request 2++(aq r.Sent 5++aq r.Credited 5))))
theorem kD (r:GRemittance):gj r = some (if ua r = true then (p7 r,true) else ([],false)):=by
 rw [rT]
 simp only [jZ,vg,Option.bind_some,IP,xU,KQ]
 rw [kX _ (by simp [ay]) (by simp),Option.bind_some]
 unfold ua p7
 cases ap r.To 0 5 <;> cases ap r.Person 1 99 <;> cases ap r.Month 0 2399 <;> cases ap r.Request 1 999 <;> cases ap r.Sent 1 1000000000000 <;> cases ap r.Credited 1 1000000000000 <;> simp
def oT (b:List Int):GRemittance:=⟨gD b 0 0,gD b 1 0,ax (aj b 2 2),ax (aj b 4 2),ax (aj b 6 5),ax (aj b 11 5)⟩
def xX (b:List Int):GRemittance × Bool:=if b.length = 16∧ua (oT b) = true then (oT b,true) else (⟨0,0,0,0,0,0⟩,false)
theorem qq {b:List Int} (hb:aA b) (hB:b.length≤1000000000000):iS b = some (xX b):=by
 rw [rG]
 unfold xX
 by_cases h9:b.length = 16
 ·have n0:=nx (n:=1) 0 hb (by omega) (by omega) hB
  have n1:=nx (n:=1) 1 hb (by omega) (by omega) hB
  have n2:=nx (n:=2) 2 hb (by omega) (by omega) hB
  have n4:=nx (n:=2) 4 hb (by omega) (by omega) hB
  have n6:=nx (n:=5) 6 hb (by omega) (by omega) hB
  have n11:=nx (n:=5) 11 hb (by omega) (by omega) hB
  simp only [Int.cast_ofNat_Int,List.drop_zero] at n0 n1 n2 n4 n6 n11
  rw [bW.2 (by omega),cond_false]
  simp only [n0,n1,n2,n4,n6,n11,Option.bind_some,Nat.zero_add,Nat.reduceAdd,D8]
  rw [rm (by omega),rm (by omega)]
  show (bif !ua (oT b) then some (⟨0,0,0,0,0,0⟩,false) else some (oT b,true)) = _
  cases ua (oT b) with
  | false=>simp
  | true=>simp [h9]
 ·rw [bT.2 (by omega),cond_true,if_neg (fun h=>h9 h.1)]
theorem uv {b:List Int} (hb:aA b):k7 b = some (xX b):=by
 rw [uO]
 unfold xX
 by_cases h9:b.length = 16
 ·have e:=y5 (b:=b) (i:=11) (n:=5) (by omega)
  simp only [Int.cast_ofNat_Int] at e
  rw [bW.2 (by omega),cond_false,ac (by omega),ac (by omega),ac (by omega),bt (hb.sub 2 2) (Nat.le_trans ct (by omega)),Option.bind_some,ac (by omega),bt (hb.sub 4 2) (Nat.le_trans ct (by omega)),Option.bind_some,ac (by omega),
   bt (hb.sub 6 5) (Nat.le_trans ct (by omega)),Option.bind_some,ac (by omega),ac (by omega),e,bt (hb.sub 11 5) (Nat.le_trans ct (by omega)),Option.bind_some,xz hb,xz hb,kD,Option.bind_some]
  show (bif !(if ua (oT b) = true then (p7 (oT b),true) else ([],false)).2 then some (⟨0,0,0,0,0,0⟩,false) else some (oT b,true)) = _
  cases ua (oT b) with
  | false=>simp
  | true=>simp [h9]
 ·rw [bT.2 (by omega),cond_true,if_neg (fun h=>h9 h.1)]
def jT (n:GNotice):Bool:=ap n.Person 1 99&&ap n.Month 0 2399&&ap n.Due 0 1000000000000&&ap n.Settled (-1000000000000) 1000000000000
theorem zz (n:GNotice):il n = some (jT n):=by
 rw [qw]
 simp only [sf,Option.bind_some]
 unfold jT
 cases ap n.Person 1 99 <;> cases ap n.Month 0 2399 <;> cases ap n.Due 0 1000000000000 <;> cases ap n.Settled (-1000000000000) 1000000000000 <;> rfl
def kJ (n:GNotice):List Int:=aq n.Person 1++(aq n.Month 2++(aq n.Due 5++aq (ae (n.Settled+1000000000000)) 6))
theorem nH (n:GNotice):kh n = some (if jT n = true then (kJ n,true) else ([],false)):=by
 rw [w6]
 simp only [jZ,vg,Option.bind_some,IP,xU,KQ,NT]
 rw [kX _ (by simp [ay]) (by simp),Option.bind_some]
 unfold jT kJ
 cases ap n.Person 1 99 <;> cases ap n.Month 0 2399 <;> cases ap n.Due 0 1000000000000 <;> cases ap n.Settled (-1000000000000) 1000000000000 <;> simp
def iy (b:List Int):GNotice:=⟨gD b 0 0,ax (aj b 1 2),ax (aj b 3 5),ae (ax (aj b 8 6) - 1000000000000)⟩
def pi (b:List Int):GNotice × Bool:=if b.length = 14∧jT (iy b) = true then (iy b,true) else (⟨0,0,0,0⟩,false)
theorem uT {b:List Int} (hb:aA b) (hB:b.length≤1000000000000):mw b = some (pi b):=by
 rw [wr]
 unfold pi
 by_cases h9:b.length = 14
 ·have n0:=nx (n:=1) 0 hb (by omega) (by omega) hB
  have n1:=nx (n:=2) 1 hb (by omega) (by omega) hB
  have n3:=nx (n:=5) 3 hb (by omega) (by omega) hB
  have n8:=nx (n:=6) 8 hb (by omega) (by omega) hB
  simp only [Int.cast_ofNat_Int,List.drop_zero] at n0 n1 n3 n8
  rw [bW.2 (by omega),cond_false]
  simp only [n0,n1,n3,n8,Option.bind_some,Nat.zero_add,Nat.reduceAdd,zz]
  rw [rm (by omega)]
  show (bif !jT (iy b) then some (⟨0,0,0,0⟩,false) else some (iy b,true)) = _
  cases jT (iy b) with
  | false=>simp
  | true=>simp [h9]
 ·rw [bT.2 (by omega),cond_true,if_neg (fun h=>h9 h.1)]
theorem ym {b:List Int} (hb:aA b):p6 b = some (pi b):=by
 rw [zG]
 unfold pi
 by_cases h9:b.length = 14
 ·have e:=y5 (b:=b) (i:=8) (n:=6) (by omega)
  simp only [Int.cast_ofNat_Int] at e
  rw [bW.2 (by omega),cond_false,ac (by omega),ac (by omega),bt (hb.sub 1 2) (Nat.le_trans ct (by omega)),Option.bind_some,ac (by omega),bt (hb.sub 3 5) (Nat.le_trans ct (by omega)),Option.bind_some,ac (by omega),ac (by omega),e,
   bt (hb.sub 8 6) (Nat.le_trans ct (by omega)),Option.bind_some,xz hb,nH,Option.bind_some]
  show (bif !(if jT (iy b) = true then (kJ (iy b),true) else ([],false)).2 then some (⟨0,0,0,0⟩,false) else some (iy b,true)) = _
  cases jT (iy b) with
  | false=>simp
  | true=>simp [h9]
 ·rw [bT.2 (by omega),cond_true,if_neg (fun h=>h9 h.1)]
def l5 (kind sender:Int) (b:List Int):Bool :=
 if kind = 1 then (qF b).2&&ak (qF b).1.Issuer sender else if kind = 2 then (pC b).2&&ak (pC b).1.Issuer sender else if kind = 3 then (mP b).2 else
 if kind = 4 then (xX b).2&&aT (xX b).1.To sender else if kind = 5 then (pi b).2 else false
theorem M0 (k n:Int):ak k n = decide (k = n):=by
 by_cases h:k = n
 ·rw [aZ.2 h,decide_eq_true h]
 ·rw [gz.2 h,decide_eq_false h]
theorem C5 {d:GDocument} (hb:aA d.Body) (hB:d.Body.length≤1000000000000):ga d = some (l5 d.Kind d.Sender d.Body):=by
 rw [ss,w9 hb hB,uZ hb hB,ti hb hB,qq hb hB,uT hb hB]
 simp only [Option.bind_some,dM,M0 d.Kind]
 unfold l5
 by_cases h1:d.Kind = 1
 ·simp [h1]
 by_cases h2:d.Kind = 2
 ·simp [h2]
 by_cases h3:d.Kind = 3
 ·simp [h3]
 by_cases h4:d.Kind = 4
 ·simp [h4]
 by_cases h5:d.Kind = 5
 ·simp [h5]
 ·simp [h1,h2,h3,h4,h5]
theorem Bx {b:List Int} (k s:Int) (hb:aA b) (hB:b.length≤1000000000000):oU k s b = some (l5 k s b):=by
 rw [Dr,BG hb hB,zU hb,xh hb,uv hb,ym hb]
 simp only [Option.bind_some,dM,M0 k]
 unfold l5
 by_cases h1:k = 1
 ·simp [h1]
 by_cases h2:k = 2
 ·simp [h2]
 by_cases h3:k = 3
 ·simp [h3]
 by_cases h4:k = 4
 ·simp [h4]
 by_cases h5:k = 5
 ·simp [h5]
 ·simp [h1,h2,h3,h4,h5]
def cV (d:GDocument):Bool:=ap d.Sender 0 5&&ap d.Number 1 999&&(aa (1 < d.Number)||ak d.Prev 0)&&l5 d.Kind d.Sender d.Body
theorem nG {d:GDocument} (hb:aA d.Body) (hB:d.Body.length≤1000000000000):fg d = some (cV d):=by
 rw [wZ,sf,sf,C5 hb hB]
 simp only [Option.bind_some]
 unfold cV
 cases ap d.Sender 0 5 <;> cases ap d.Number 1 999 <;> cases aa (1 < d.Number) <;> cases ak d.Prev 0 <;> simp
theorem qu {d:GDocument} (hb:aA d.Body) (hB:d.Body.length≤1000000000000):iO d = some (cV d):=by
 rw [ro,jZ,jZ,Bx _ _ hb hB]
 simp only [Option.bind_some]
 unfold cV
 cases ap d.Sender 0 5 <;> cases ap d.Number 1 999 <;> cases aa (1 < d.Number) <;> cases ak d.Prev 0 <;> simp
theorem ij {d:GDocument}:cV d = true↔(0≤d.Sender∧d.Sender≤5)∧(1≤d.Number∧d.Number≤999)∧(1 < d.Number∨d.Prev = 0)∧l5 d.Kind d.Sender d.Body = true:=by
 unfold cV
 simp only [Bool.and_eq_true,xw,Bool.or_eq_true,aa,decide_eq_true_eq,aZ,and_assoc]
theorem o8 {k s:Int} {b:List Int} (h:l5 k s b = true):1≤k∧k≤5:=by
 unfold l5 at h
 repeat' split at h
 all_goals first | omega | cases h
theorem C1 {k s:Int} {b:List Int} (hb:aA b) (h:l5 k s b = true):b.length≤43:=by
 unfold l5 at h
 have one:∀ {α:Type} {p q:α × Bool} {n:Nat} {c:Prop} [Decidable c],(if b.length = n∧c then p else q).2 = true→q.2 = false→b.length = n:=by
  intro α p q n c _ h hq
  split at h
  ·next hc=>exact hc.1
  ·rw [hq] at h;cases h
 split at h
 ·rw [Bool.and_eq_true] at h
  have e:qF b = ((qF b).1,true):=by rw [← h.1]
  have:=(Iw hb e).2
  rw [← this]
  exact (uo _).2
 split at h
 ·rw [Bool.and_eq_true] at h
  have:=one (h.1:(pC b).2 = true) rfl
  omega
 split at h
 ·have:=one (h:(mP b).2 = true) rfl
  omega
 split at h
 ·rw [Bool.and_eq_true] at h
  have:=one (h.1:(xX b).2 = true) rfl
  omega
 split at h
 ·have:=one (h:(pi b).2 = true) rfl
  omega
 ·cases h
end Go.Ax
set_option linter.all false
/- Encodings of documents: both texts write and read the same. -/
set_option maxRecDepth 100000
namespace Go.Ax
def AI:GDocument:=⟨0,0,0,0,[]⟩
def gN (d:GDocument):List Int:=[68,d.Kind,d.Sender]++(aq d.Number 2++(aq d.Prev 4++(aq (d.Body.length:Int) 2++d.Body)))
def eI (d:GDocument):List Int:=gN d++aq (jz (gN d)) 4
theorem pq (d:GDocument):(gN d).length = d.Body.length+11:=by simp [gN,ay];omega
theorem yj (d:GDocument):(eI d).length = d.Body.length+15:=by unfold eI;rw [List.length_append,pq,ay]
theorem BN {d:GDocument} (h:cV d = true) (hb:aA d.Body):aA (gN d):=by
 obtain ⟨h1,h2,h3,h4⟩:=ij.1 h
 have hk:=o8 h4
 unfold gN
 exact bi.2 ⟨cY.2 ⟨by omega,cY.2 ⟨by omega,cY.2 ⟨by omega,mL⟩⟩⟩,bi.2 ⟨aS _ _,bi.2 ⟨aS _ _,bi.2 ⟨aS _ _,hb⟩⟩⟩⟩
theorem AU {d:GDocument} (h:cV d = true) (hb:aA d.Body):aA (eI d):=bi.2 ⟨BN h hb,aS _ _⟩
def t7 (d:GDocument):Prop:=aA d.Body∧0≤d.Prev∧d.Prev < 4294967296
theorem pT {d:GDocument} (h:t7 d) (hB:d.Body.length≤1000000):gM d = some (if cV d = true then (eI d,0) else ([],1)):=by
 obtain ⟨hb,hp0,hp1⟩:=h
 rw [yX,qu hb (by omega),Option.bind_some]
 cases hv:cV d with
 | false=>rfl
 | true =>
  obtain ⟨h1,h2,h3,h4⟩:=ij.1 hv
  have hk:=o8 h4
  rw [show (!true) = false from rfl,cond_false,xU,Option.bind_some,aD (by omega) (by omega),HH,Option.bind_some,xU,Option.bind_some,zr (by omega) (by omega),zr (by omega) (by omega),kX _ (by simp [ay];omega) (by simp),Option.bind_some]
  have e:[[68,d.Kind,d.Sender],aq d.Number 2,aq d.Prev 4,aq (d.Body.length:Int) 2,d.Body].flatten = gN d:=by
   unfold gN;simp
  have hc:=tT (gN d)
  rw [e,nO (BN hv hb) (by rw [pq];omega),Option.bind_some,aD (by omega) (by omega),HH,Option.bind_some,kX _ (by simp [ay,pq];omega) (by simp),Option.bind_some]
  simp [eI]
theorem mG {d:GDocument} (h:t7 d) (hB:d.Body.length≤1000000):i7 d = some (if cV d = true then (eI d,0) else ([],1)):=by
 obtain ⟨hb,hp0,hp1⟩:=h
 rw [vz,nG hb (by omega),Option.bind_some]
 cases hv:cV d with
 | false=>rfl
 | true =>
  obtain ⟨h1,h2,h3,h4⟩:=ij.1 hv
  have hk:=o8 h4
  have n2:∀ v b,b.length≤100→aQ v 2 b = some (b++aq v 2):=fun v b hb=>l9 v (n:=2) (by omega) b (by omega)
  have n4:∀ v b,b.length≤2000000→aQ v 4 b = some (b++aq v 4):=fun v b hb=>l9 v (n:=4) (by omega) b (by omega)
  have hc:=tT (gN d)
  rw [show (!true) = false from rfl,cond_false,zr (by omega) (by omega),zr (by omega) (by omega),n2 _ _ (by simp),Option.bind_some,aD (by omega) (by omega),n4 _ _ (by simp [ay]),Option.bind_some,n2 _ _ (by simp [ay]),Option.bind_some]
  have e:[68,d.Kind,d.Sender]++aq d.Number 2++aq d.Prev 4++aq (d.Body.length:Int) 2++d.Body = gN d:=by
   unfold gN;simp
  have hl:([68,d.Kind,d.Sender]++aq d.Number 2++aq d.Prev 4++aq (d.Body.length:Int) 2).length = 11:=by simp [ay]
  rw [ac (by rw [hl];omega),ac (by rw [hl];omega),e,gT (BN hv hb) (by rw [pq];omega),Option.bind_some,aD (by omega) (by omega),n4 _ _ (by rw [pq];omega),Option.bind_some]
  rfl
def an (b:List Int):GDocument:=⟨gD b 2 0,ax (aj b 3 2),gD b 1 0,ax (aj b 5 4),aj b 11 (b.length - 15)⟩
def cZ (b:List Int):Bool:=aa (15≤b.length)&&(ak (gD b 0 0) 68&&(ak (ax (aj b 9 2)) ((b.length:Int) - 15)&&(ak (ax (b.drop (b.length - 4))) (jz (b.take (b.length - 4)))&&cV (an b))))
def k8 (b:List Int):GDocument × Int:=if cZ b = true then (an b,0) else (AI,11)
theorem xM {b:List Int} (hb:aA b):t7 (an b):=by
 refine ⟨hb.sub _ _, ?_⟩
 exact j6 (hb.sub 5 4) (n:=4) ct (by decide)
theorem L4 (b:List Int) {i n j m:Nat} (h:j+m≤n):aj (aj b i n) j m = aj b (i+j) m:=by
 unfold aj
 rw [List.drop_take,List.take_take,List.drop_drop]
 congr 1
 omega
theorem jU {b:List Int} (h:cZ b = false):k8 b = (AI,11):=by unfold k8;rw [h,if_neg (by simp)]
theorem mt {b:List Int} (h:b.length≤140737488355328):fc b = some b:=by
 show vJ b = some b
 unfold vJ
 exact ac h
theorem iU {b:List Int} (hb:aA b) (hB:b.length≤140737488355328):eo b = some (k8 b):=by
 rw [wx]
 by_cases h15:15≤b.length
 ·rw [bJ (by omega),cond_false,ac (by omega)]
  have hs:=hb.sub 1 10
  have hsl:(aj b 1 10).length = 10:=by unfold aj;rw [List.length_take,List.length_drop];omega
  have n0:=nx (n:=1) 0 hs (by omega) (by omega) (by omega)
  have n1:=nx (n:=1) 1 hs (by omega) (by omega) (by omega)
  have n2:=nx (n:=2) 2 hs (by omega) (by omega) (by omega)
  have n4:=nx (n:=4) 4 hs (by omega) (by omega) (by omega)
  have n8:=nx (n:=2) 8 hs (by omega) (by omega) (by omega)
  rw [L4 b (by omega)] at n0 n1 n2 n4 n8
  simp only [Int.cast_ofNat_Int,List.drop_zero,Nat.zero_add,Nat.reduceAdd] at n0 n1 n2 n4 n8
  have hw:ae ((b.length:Int) - 4) = ((b.length - 4:Nat):Int):=by rw [aD (by omega) (by omega)];omega
  have e1:aj b 11 (((b.length - 4:Nat):Int) - 11).toNat = aj b 11 (b.length - 15):=by congr 1;omega
  have hbl:(aj b 11 (b.length - 15)).length = b.length - 15:=by unfold aj;rw [List.length_take,List.length_drop];omega
  rw [n0,Option.bind_some,n1,Option.bind_some,n2,Option.bind_some,n4,Option.bind_some,hw,ac (by omega),ac (by omega),e1,mt (by omega),Option.bind_some,ac (by omega),ac (by omega),ac (by omega),ac (by omega),rm (by omega),rm (by omega)]
  by_cases h0:gD b 0 0 = 68
  ·rw [bW.2 h0,cond_false,n8,Option.bind_some,hbl]
   by_cases h9:ax (aj b 9 2) = ((b.length - 15:Nat):Int)
   ·have hr:=j6 (hb.sub 9 2) (n:=2) ct (B:=65536) (by decide)
    have hlen:b.length≤65550:=by omega
    rw [bW.2 h9,cond_false]
    have e2:aj b ((b.length - 4:Nat):Int).toNat ((b.length:Int) - ((b.length - 4:Nat):Int)).toNat = b.drop (b.length - 4):=by
     rw [kU b (by omega) (by omega),Int.toNat_natCast]
    have hdl:(b.drop (b.length - 4)).length = 4:=by rw [List.length_drop];omega
    have t4:=yL (n:=4) (hb.drop (b.length - 4)) (by omega) (by omega) (by omega)
    simp only [Int.cast_ofNat_Int] at t4
    rw [e2,t4,Option.bind_some,Bool.false_or,Bool.false_or,ac (by omega),ac (by omega),uq b (by omega),Int.toNat_natCast,gT (hb.take _) (by rw [List.length_take];omega),Option.bind_some,List.take_of_length_le (by omega)]
    have h4:=j6 (hb.drop (b.length - 4)) (n:=4) (by omega) (B:=4294967296) (by decide)
    have hp:=j6 (hb.sub 5 4) (n:=4) ct (B:=4294967296) (by decide)
    show (bif aT (IntKind.wrap .u32 (ax (b.drop (b.length - 4)))) (jz (b.take (b.length - 4))) then _ else _) = _
    rw [eT h4.1 h4.2,eT hp.1 hp.2]
    by_cases hc:ax (b.drop (b.length - 4)) = jz (b.take (b.length - 4))
    ·rw [bW.2 hc,cond_false]
     have hv:fg (an b) = some (cV (an b)):=nG (hb.sub _ _) (by show (aj b 11 _).length≤_;omega)
     show ((fg (an b)).bind fun r8=>bif !r8 then some (AI,11) else some (an b,0)) = _
     rw [hv,Option.bind_some]
     unfold k8 cZ
     rw [bf h15,aZ.2 h0,aZ.2 (show ax (aj b 9 2) = (b.length:Int) - 15 by omega),aZ.2 hc]
     cases cV (an b) <;> rfl
    ·rw [bT.2 hc,cond_true,jU]
     ·rfl
     ·unfold cZ;rw [gz.2 hc];simp
   ·rw [bT.2 h9,cond_true,jU]
    ·rfl
    ·unfold cZ;rw [gz.2 (show ax (aj b 9 2)≠(b.length:Int) - 15 by omega)];simp
  ·rw [bT.2 h0,cond_true,jU]
   ·rfl
   ·unfold cZ;rw [gz.2 h0];simp
 ·rw [bf (by omega),cond_true,jU]
  ·rfl
  ·unfold cZ;rw [bJ h15];rfl
theorem Lx {b:List Int} (hb:aA b) (h15:15≤b.length) (h0:gD b 0 0 = 68) (h9:ax (aj b 9 2) = (b.length:Int) - 15):gN (an b) = b.take (b.length - 4):=by
 have e:b.take (b.length - 4) = b.take 3++(aj b 3 2++(aj b 5 4++(aj b 9 2++aj b 11 (b.length - 15)))):=by
  rw [show b.length - 4 = 3+(2+(4+(2+(b.length - 15)))) by omega,List.take_add,List.take_add,List.take_add,List.take_add,List.drop_drop,List.drop_drop,List.drop_drop]
  rfl
 have l2:∀ i,i+2≤b.length→(aj b i 2).length = 2:=fun i hi=>by unfold aj;rw [List.length_take,List.length_drop];omega
 have l4:(aj b 5 4).length = 4:=by unfold aj;rw [List.length_take,List.length_drop];omega
 have b2:∀ i,i+2≤b.length→aq (ax (aj b i 2)) 2 = aj b i 2:=fun i hi=>by
  have:=jr (hb.sub i 2);rwa [l2 i hi] at this
 have b4:aq (ax (aj b 5 4)) 4 = aj b 5 4:=by have:=jr (hb.sub 5 4);rwa [l4] at this
 have hbl:((aj b 11 (b.length - 15)).length:Int) = ax (aj b 9 2):=by unfold aj at *; rw [List.length_take,List.length_drop];omega
 have e3:b.take 3 = [gD b 0 0,gD b 1 0,gD b 2 0]:=by
  match b,h15 with
  | a0 :: a1 :: a2 :: r,_=>rfl
 rw [e,e3,h0]
 unfold gN an
 simp only
 rw [b2 3 (by omega),b4,hbl,b2 9 (by omega)]
theorem G3 {b:List Int} (hb:aA b) (h15:15≤b.length) (h0:gD b 0 0 = 68) (h9:ax (aj b 9 2) = (b.length:Int) - 15):eI (an b) = b↔ax (b.drop (b.length - 4)) = jz (b.take (b.length - 4)):=by
 have hp:=Lx hb h15 h0 h9
 have hdl:(b.drop (b.length - 4)).length = 4:=by rw [List.length_drop];omega
 unfold eI
 rw [hp]
 have hc:=tT (b.take (b.length - 4))
 constructor
 ·intro h
  have h1:b.take (b.length - 4)++aq (jz (b.take (b.length - 4))) 4 = b.take (b.length - 4)++b.drop (b.length - 4):=by rw [h,List.take_append_drop]
  have h2:=List.append_cancel_left h1
  rw [← h2,sJ]
  show jz (b.take (b.length - 4)) % 4294967296 = _
  omega
 ·intro h
  have:=jr (hb.drop (b.length - 4))
  rw [hdl] at this
  rw [← h,this,List.take_append_drop]
theorem lI {b:List Int} (hb:aA b):cZ b = true↔15≤b.length∧gD b 0 0 = 68∧ax (aj b 9 2) = (b.length:Int) - 15∧eI (an b) = b∧cV (an b) = true:=by
 unfold cZ
 simp only [Bool.and_eq_true,aa,decide_eq_true_eq,aZ]
 constructor
 ·rintro ⟨h1,h2,h3,h4,h5⟩
  exact ⟨h1,h2,h3,(G3 hb h1 h2 h3).2 h4,h5⟩
 ·rintro ⟨h1,h2,h3,h4,h5⟩
  exact ⟨h1,h2,h3,(G3 hb h1 h2 h3).1 h4,h5⟩
theorem yx {b:List Int} (hb:aA b) (hB:b.length≤9223372036854775807):qh b = some (k8 b):=by
 rw [zX]
 by_cases h15:15≤b.length
 ·rw [bJ (by omega),cond_false,ac (by omega),bt (hb.sub 9 2) (Nat.le_trans ct (by omega)),Option.bind_some,aD (by omega) (by omega)]
  by_cases h9:ax (aj b 9 2) = (b.length:Int) - 15
  ·have hr:=j6 (hb.sub 9 2) (n:=2) ct (B:=65536) (by decide)
   have hlen:b.length≤65550:=by omega
   rw [bW.2 h9.symm,cond_false,ac (by omega)]
   by_cases h0:gD b 0 0 = 68
   ·have hw:ae ((b.length:Int) - 4) = ((b.length - 4:Nat):Int):=by rw [aD (by omega) (by omega)];omega
    have e1:aj b 11 (((b.length - 4:Nat):Int) - 11).toNat = aj b 11 (b.length - 15):=by congr 1;omega
    have hbl:(aj b 11 (b.length - 15)).length = b.length - 15:=by unfold aj;rw [List.length_take,List.length_drop];omega
    have hp:=j6 (hb.sub 5 4) (n:=4) ct (B:=4294967296) (by decide)
    rw [bW.2 h0,cond_false,ac (by omega),ac (by omega),ac (by omega),bt (hb.sub 3 2) (Nat.le_trans ct (by omega)),Option.bind_some,ac (by omega),bt (hb.sub 5 4) (Nat.le_trans ct (by omega)),Option.bind_some,hw,ac (by omega),ac (by omega),e1,ac (by omega),ac (by omega),eT hp.1 hp.2,xz hb,xz hb]
    have he:gM (an b) = _:=pT (xM hb) (by show (aj b 11 _).length≤_;omega)
    show ((gM (an b)).bind fun r3=>bif (bif (aT r3.2 0) then true else (!(lP (bg r3.1) (bg b)))) then some (AI,11) else some (an b,0)) = _
    rw [he,Option.bind_some]
    cases hv:cV (an b) with
    | false =>
     rw [jU]
     ·rfl
     ·unfold cZ;rw [hv];simp
    | true =>
     rw [if_pos rfl]
     show (bif (bif (aT 0 0) then true else (!(lP (bg (eI (an b))) (bg b)))) then some (AI,11) else some (an b,0)) = _
     rw [og (AU hv (hb.sub _ _)) hb]
     by_cases hc:eI (an b) = b
     ·rw [decide_eq_true hc]
      unfold k8
      rw [if_pos ((lI hb).2 ⟨h15,h0,h9,hc,hv⟩)]
      rfl
     ·rw [decide_eq_false hc,jU]
      ·rfl
      ·cases hd:cZ b with
       | false=>rfl
       | true=>exact absurd ((lI hb).1 hd).2.2.2.1 hc
   ·rw [bT.2 h0,cond_true,jU]
    ·rfl
    ·unfold cZ;rw [gz.2 h0];simp
  ·rw [bT.2 (fun h=>h9 h.symm),cond_true,jU]
   ·rfl
   ·unfold cZ;rw [gz.2 h9];simp
 ·rw [bf (by omega),cond_true,jU]
  ·rfl
  ·unfold cZ;rw [bJ h15];rfl
theorem Mn {b:List Int} (hb:aA b) (h:(k8 b).2 = 0):cZ b = true∧(k8 b).1 = an b:=by
 unfold k8 at h ⊢
 split at h
 ·next hd=>exact ⟨hd,by rw [if_pos hd]⟩
 ·cases h
theorem LZ {d:GDocument} (hv:cV d = true) (hd:t7 d):k8 (eI d) = (d,0):=by
 obtain ⟨h1,h2,h3,h4⟩:=ij.1 hv
 have hk:=o8 h4
 have hl:=C1 hd.1 h4
 have hlen:=yj d
 have hb:=AU hv hd.1
 have n2:∀ v:Int,0≤v→v < 65536→ax (aq v 2) = v:=fun v h0 h1=>by rw [sJ];show v % 65536 = v;omega
 have n4:∀ v:Int,0≤v→v < 4294967296→ax (aq v 4) = v:=fun v h0 h1=>by rw [sJ];show v % 4294967296 = v;omega
 have form:eI d = 68 :: d.Kind :: d.Sender :: (aq d.Number 2++(aq d.Prev 4++(aq (d.Body.length:Int) 2++(d.Body++aq (jz (gN d)) 4)))):=by
  unfold eI gN;simp
 have a2:∀ (v:Int) (r:List Int),(aq v 2++r).take 2 = aq v 2:=fun v r=>List.take_left' (ay v 2)
 have d2:∀ (v:Int) (r:List Int),(aq v 2++r).drop 2 = r:=fun v r=>List.drop_left' (ay v 2)
 have a4:∀ (v:Int) (r:List Int),(aq v 4++r).take 4 = aq v 4:=fun v r=>List.take_left' (ay v 4)
 have d4:∀ (v:Int) (r:List Int),(aq v 4++r).drop 4 = r:=fun v r=>List.drop_left' (ay v 4)
 have x3:(eI d).drop 3 = aq d.Number 2++(aq d.Prev 4++(aq (d.Body.length:Int) 2++(d.Body++aq (jz (gN d)) 4))):=by rw [form];rfl
 have x5:(eI d).drop 5 = aq d.Prev 4++(aq (d.Body.length:Int) 2++(d.Body++aq (jz (gN d)) 4)):=by
  rw [show 5 = 3+2 from rfl, ← List.drop_drop,x3,d2]
 have x9:(eI d).drop 9 = aq (d.Body.length:Int) 2++(d.Body++aq (jz (gN d)) 4):=by
  rw [show 9 = 5+4 from rfl, ← List.drop_drop,x5,d4]
 have x11:(eI d).drop 11 = d.Body++aq (jz (gN d)) 4:=by
  rw [show 11 = 9+2 from rfl, ← List.drop_drop,x9,d2]
 have e:an (eI d) = d:=by
  unfold an aj
  rw [x3,x5,x11,a2,a4,n2 _ (by omega) (by omega),n4 _ hd.2.1 hd.2.2,hlen,show d.Body.length+15 - 15 = d.Body.length by omega,List.take_left' rfl,form]
  rfl
 have hdec:cZ (eI d) = true:=(lI hb).2 ⟨by omega,by rw [form];rfl,by unfold aj;rw [x9,a2,n2 _ (by omega) (by omega),hlen];omega,by rw [e],by rw [e];exact hv⟩
 unfold k8
 rw [if_pos hdec,e]
end Go.Ax
