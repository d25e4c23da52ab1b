import Derived.Test.YtbjfcadcipfolaaGreatZP52
set_option linter.all false
/- Bodies of documents: both texts read the same. -/
set_option maxRecDepth 100000
namespace Go.Ax
def uV (b:List Int):GFact × Bool:=if (yB b).2.2 = true∧(yB b).2.1 = (b.length:Int) then ((yB b).1,true) else (M3,false)
theorem JD (b:List Int) (r0:GFact × Int × Bool):(bif (bif (!r0.2.2) then true else (aQ r0.2.1 (b.length:Int))) then some ((⟨0,0,0,false,0,0,0,(⟨0,0⟩:GSpan),0,0,0,0,0⟩:GFact),false) else some (r0.1,true)) = some (if r0.2.2 = true∧r0.2.1 = (b.length:Int) then (r0.1,true) else (M3,false)):=by
 cases h1:r0.2.2 with
 | false=>rfl
 | true =>
  by_cases h2:r0.2.1 = (b.length:Int)
  ·rw [bj.2 h2,if_pos ⟨rfl,h2⟩];rfl
  ·rw [bS.2 h2,if_neg (fun h=>h2 h.2)];rfl
theorem A9 {b:List Int} (hb:aB b) (hB:b.length≤1000000000000):rI b = some (uV b):=by
 rw [CA,G6 hb hB,Option.bind_some,JD];rfl
theorem EB {b:List Int} (hb:aB b) (hB:b.length≤1000000000000):xK b = some (uV b):=by
 rw [Ha,Fu hb hB,Option.bind_some,JD];rfl
theorem M1 {b:List Int} (hb:aB b) {f:GFact} (h:uV b = (f,true)):cq f = true∧eL f = b:=by
 unfold uV at h
 split at h
 ·next hc =>
  have e:yB b = (f,(b.length:Int),true):=by
   have:=(Prod.mk.inj h).1
   rw [← this, ← hc.1, ← hc.2]
  obtain ⟨h1,_,_,h4⟩:=OV hb e
  exact ⟨h1,by rw [h4,Int.toNat_natCast,List.take_length]⟩
 ·cases h
def oP (c:GClaim):Bool:=ar c.Issuer 0 5&&ar c.Number 1 999&&ar c.Person 1 99&&ar c.Benefit 1 5&&ar c.Ref 0 99&&ar c.Day 0 73048
theorem wE (v l h:Int):bd v l h = some (ar v l h):=by rw [EK,dS];rfl
theorem lQ (v l h:Int):bn v l h = some (ar v l h):=by rw [Dr,dS];rfl
theorem QG (d:Int):rk d = some (ar d 0 73048):=by rw [B5,dS];rfl
theorem zp (d:Int):iv d = some (ar d 0 2399):=by rw [zQ,dS];rfl
theorem Fw (c:GClaim):kn c = some (oP c):=by
 rw [vq]
 simp only [wE,Option.bind_some]
 unfold oP
 cases ar c.Issuer 0 5 <;> cases ar c.Number 1 999 <;> cases ar c.Person 1 99 <;> cases ar c.Benefit 1 5 <;> cases ar c.Ref 0 99 <;> cases ar c.Day 0 73048 <;> rfl
def oE (c:GClaim):List Int:=au c.Issuer 1++(au c.Number 2++(au c.Person 1++(au c.Benefit 1++(au c.Ref 1++au c.Day 3))))
theorem MX (v:Int):aN v 1 = some (au v 1):=ii v (n:=1) (by omega)
theorem BY (v:Int):aN v 2 = some (au v 2):=ii v (n:=2) (by omega)
theorem Sg (v:Int):aN v 3 = some (au v 3):=ii v (n:=3) (by omega)
theorem L3 (v:Int):aN v 4 = some (au v 4):=ii v (n:=4) (by omega)
theorem Pl (v:Int):aN v 5 = some (au v 5):=ii v (n:=5) (by omega)
theorem Sh (v:Int):aN v 6 = some (au v 6):=ii v (n:=6) (by omega)
theorem rQ (c:GClaim):mK c = some (if oP c = true then (oE c,true) else ([],false)):=by
 rw [Cy]
 simp only [lQ,QG,Option.bind_some,MX,BY,Sg]
 rw [m4 _ (by simp [aA]) (by simp),Option.bind_some]
 unfold oP oE
 cases ar c.Issuer 0 5 <;> cases ar c.Number 1 999 <;> cases ar c.Person 1 99 <;> cases ar c.Benefit 1 5 <;> cases ar c.Ref 0 99 <;> cases ar c.Day 0 73048 <;> simp
def JC:GClaim:=⟨0,0,0,0,0,0⟩
def lT (b:List Int):GClaim:=⟨gD b 0 0,aC (ak b 1 2),gD b 3 0,gD b 4 0,gD b 5 0,aC (ak b 6 3)⟩
def tQ (b:List Int):GClaim × Bool:=if b.length = 9∧oP (lT b) = true then (lT b,true) else (JC,false)
theorem nx {n:Nat} {b:List Int} (i:Nat) (h:aB b) (hn:n≤7) (hb:i+n≤b.length) (hB:b.length≤1000000000000):aq (n:Int) ⟨b.drop i⟩ = some (aC (ak b i n),⟨b.drop (i+n)⟩):=by
 rw [BP (h.drop i) hn (by rw [List.length_drop];omega) (by rw [List.length_drop];omega),List.drop_drop];rfl
theorem vU {b:List Int} {i:Nat} (h:i < b.length):aC (ak b i 1) = gD b i 0:=EZ i h
theorem zf {b:List Int} (hb:aB b) (hB:b.length≤1000000000000):p5 b = some (tQ b):=by
 rw [Bg]
 unfold tQ
 by_cases h9:b.length = 9
 ·have n0:=nx (n:=1) 0 hb (by omega) (by omega) hB
  have n1:=nx (n:=2) 1 hb (by omega) (by omega) hB
  have n3:=nx (n:=1) 3 hb (by omega) (by omega) hB
  have n4:=nx (n:=1) 4 hb (by omega) (by omega) hB
  have n5:=nx (n:=1) 5 hb (by omega) (by omega) hB
  have n6:=nx (n:=3) 6 hb (by omega) (by omega) hB
  simp only [Int.cast_ofNat_Int,List.drop_zero] at n0 n1 n3 n4 n5 n6
  rw [bj.2 (by omega),cond_false]
  simp only [n0,n1,n3,n4,n5,n6,Option.bind_some,Nat.zero_add,Nat.reduceAdd,Fw]
  rw [vU (by omega),vU (by omega),vU (by omega),vU (by omega)]
  show (bif !oP (lT b) then some (JC,false) else some (lT b,true)) = _
  cases oP (lT b) with
  | false=>simp
  | true=>simp [h9]
 ·rw [bS.2 (by omega),cond_true,if_neg (fun h=>h9 h.1)];rfl
theorem BI {b:List Int} (hb:aB b) (i:Nat):ac (gD b i 0) = gD b i 0:=by have:=hb.gD i;exact ay (by omega) (by omega)
theorem D2 {b:List Int} {i n:Nat} (h:b.length = i+n):ak b i ((b.length:Int) - (i:Int)).toNat = ak b i n:=by
 congr 1;omega
theorem cm {b:List Int} {i n:Nat}:(ak b i n).length≤n:=by unfold ak;rw [List.length_take];omega
theorem Ef {b:List Int} (hb:aB b):vI b = some (tQ b):=by
 rw [Fe]
 unfold tQ
 by_cases h9:b.length = 9
 ·have e:=D2 (b:=b) (i:=6) (n:=3) (by omega)
  simp only [Int.cast_ofNat_Int] at e
  rw [bj.2 (by omega),cond_false,ab (by omega),ab (by omega),bf (hb.sub 1 2) (Nat.le_trans cm (by omega)),Option.bind_some,ab (by omega),ab (by omega),ab (by omega),ab (by omega),ab (by omega),e,
   bf (hb.sub 6 3) (Nat.le_trans cm (by omega)),Option.bind_some,BI hb,BI hb,BI hb,BI hb,rQ,Option.bind_some]
  show (bif !(if oP (lT b) = true then (oE (lT b),true) else ([],false)).2 then some (JC,false) else some (lT b,true)) = _
  cases oP (lT b) with
  | false=>simp
  | true=>simp [h9]
 ·rw [bS.2 (by omega),cond_true,if_neg (fun h=>h9 h.1)];rfl
def gM (r:GRequest):Bool:=ar r.Person 1 99&&ar r.Month 0 2399&&ar r.Amount 0 1000000000000
theorem tN (r:GRequest):fT r = some (gM r):=by
 rw [tP]
 simp only [wE,Option.bind_some]
 unfold gM
 cases ar r.Person 1 99 <;> cases ar r.Month 0 2399 <;> cases ar r.Amount 0 1000000000000 <;> rfl
def dq (r:GRequest):List Int:=au r.Person 1++(au r.Month 2++au r.Amount 5)
theorem pq (r:GRequest):kP r = some (if gM r = true then (dq r,true) else ([],false)):=by
 rw [zD]
 simp only [lQ,zp,Option.bind_some,MX,BY,Pl]
 rw [m4 _ (by simp [aA]) (by simp),Option.bind_some]
 unfold gM dq
 cases ar r.Person 1 99 <;> cases ar r.Month 0 2399 <;> cases ar r.Amount 0 1000000000000 <;> simp
def ir (b:List Int):GRequest:=⟨gD b 0 0,aC (ak b 1 2),aC (ak b 3 5)⟩
def pT (b:List Int):GRequest × Bool:=if b.length = 8∧gM (ir b) = true then (ir b,true) else (⟨0,0,0⟩,false)
theorem xQ {b:List Int} (hb:aB b) (hB:b.length≤1000000000000):mT b = some (pT b):=by
 rw [y0]
 unfold pT
 by_cases h9:b.length = 8
 ·have n0:=nx (n:=1) 0 hb (by omega) (by omega) hB
  have n1:=nx (n:=2) 1 hb (by omega) (by omega) hB
  have n3:=nx (n:=5) 3 hb (by omega) (by omega) hB
  simp only [Int.cast_ofNat_Int,List.drop_zero] at n0 n1 n3
  rw [bj.2 (by omega),cond_false]
  simp only [n0,n1,n3,Option.bind_some,Nat.zero_add,Nat.reduceAdd,tN]
  rw [vU (by omega)]
  show (bif !gM (ir b) then some (⟨0,0,0⟩,false) else some (ir b,true)) = _
  cases gM (ir b) with
  | false=>simp
  | true=>simp [h9]
 ·rw [bS.2 (by omega),cond_true,if_neg (fun h=>h9 h.1)]
theorem Bk {b:List Int} (hb:aB b):rC b = some (pT b):=by
 rw [Cw]
 unfold pT
 by_cases h9:b.length = 8
 ·have e:=D2 (b:=b) (i:=3) (n:=5) (by omega)
  simp only [Int.cast_ofNat_Int] at e
  rw [bj.2 (by omega),cond_false,ab (by omega),ab (by omega),bf (hb.sub 1 2) (Nat.le_trans cm (by omega)),Option.bind_some,ab (by omega),ab (by omega),e,
   bf (hb.sub 3 5) (Nat.le_trans cm (by omega)),Option.bind_some,BI hb,pq,Option.bind_some]
  show (bif !(if gM (ir b) = true then (dq (ir b),true) else ([],false)).2 then some (⟨0,0,0⟩,false) else some (ir b,true)) = _
  cases gM (ir b) with
  | false=>simp
  | true=>simp [h9]
 ·rw [bS.2 (by omega),cond_true,if_neg (fun h=>h9 h.1)]
def xG (r:GRemittance):Bool:=ar r.To 0 5&&ar r.Person 1 99&&ar r.Month 0 2399&&ar r.Request 1 999&&ar r.Sent 1 1000000000000&&ar r.Credited 1 1000000000000
theorem HE (r:GRemittance):gQ r = some (xG r):=by
 rw [qX]
 simp only [wE,Option.bind_some]
 unfold xG
 cases ar r.To 0 5 <;> cases ar r.Person 1 99 <;> cases ar r.Month 0 2399 <;> cases ar r.Request 1 999 <;> cases ar r.Sent 1 1000000000000 <;> cases ar r.Credited 1 1000000000000 <;> rfl
def tF (r:GRemittance):List Int:=au r.To 1++(au r.Person 1++(au r.Month 2++(au r.Request 2++(au r.Sent 5++au r.Credited 5))))
theorem mD (r:GRemittance):iC r = some (if xG r = true then (tF r,true) else ([],false)):=by
 rw [wU]
 simp only [lQ,zp,Option.bind_some,MX,BY,Pl]
 rw [m4 _ (by simp [aA]) (by simp),Option.bind_some]
 unfold xG tF
 cases ar r.To 0 5 <;> cases ar r.Person 1 99 <;> cases ar r.Month 0 2399 <;> cases ar r.Request 1 999 <;> cases ar r.Sent 1 1000000000000 <;> cases ar r.Credited 1 1000000000000 <;> simp
def sN (b:List Int):GRemittance:=⟨gD b 0 0,gD b 1 0,aC (ak b 2 2),aC (ak b 4 2),aC (ak b 6 5),aC (ak b 11 5)⟩
def Ck (b:List Int):GRemittance × Bool:=if b.length = 16∧xG (sN b) = true then (sN b,true) else (⟨0,0,0,0,0,0⟩,false)
theorem ul {b:List Int} (hb:aB b) (hB:b.length≤1000000000000):kr b = some (Ck b):=by
 rw [vM]
 unfold Ck
 by_cases h9:b.length = 16
 ·have n0:=nx (n:=1) 0 hb (by omega) (by omega) hB
  have n1:=nx (n:=1) 1 hb (by omega) (by omega) hB
  have n2:=nx (n:=2) 2 hb (by omega) (by omega) hB
  have n4:=nx (n:=2) 4 hb (by omega) (by omega) hB
  have n6:=nx (n:=5) 6 hb (by omega) (by omega) hB
  have n11:=nx (n:=5) 11 hb (by omega) (by omega) hB
  simp only [Int.cast_ofNat_Int,List.drop_zero] at n0 n1 n2 n4 n6 n11
  rw [bj.2 (by omega),cond_false]
  simp only [n0,n1,n2,n4,n6,n11,Option.bind_some,Nat.zero_add,Nat.reduceAdd,HE]
  rw [vU (by omega),vU (by omega)]
  show (bif !xG (sN b) then some (⟨0,0,0,0,0,0⟩,false) else some (sN b,true)) = _
  cases xG (sN b) with
  | false=>simp
  | true=>simp [h9]
 ·rw [bS.2 (by omega),cond_true,if_neg (fun h=>h9 h.1)]
theorem xx {b:List Int} (hb:aB b):m5 b = some (Ck b):=by
 rw [yP]
 unfold Ck
 by_cases h9:b.length = 16
 ·have e:=D2 (b:=b) (i:=11) (n:=5) (by omega)
  simp only [Int.cast_ofNat_Int] at e
  rw [bj.2 (by omega),cond_false,ab (by omega),ab (by omega),ab (by omega),bf (hb.sub 2 2) (Nat.le_trans cm (by omega)),Option.bind_some,ab (by omega),bf (hb.sub 4 2) (Nat.le_trans cm (by omega)),Option.bind_some,ab (by omega),
   bf (hb.sub 6 5) (Nat.le_trans cm (by omega)),Option.bind_some,ab (by omega),ab (by omega),e,bf (hb.sub 11 5) (Nat.le_trans cm (by omega)),Option.bind_some,BI hb,BI hb,mD,Option.bind_some]
  show (bif !(if xG (sN b) = true then (tF (sN b),true) else ([],false)).2 then some (⟨0,0,0,0,0,0⟩,false) else some (sN b,true)) = _
  cases xG (sN b) with
  | false=>simp
  | true=>simp [h9]
 ·rw [bS.2 (by omega),cond_true,if_neg (fun h=>h9 h.1)]
def lY (n:GNotice):Bool:=ar n.Person 1 99&&ar n.Month 0 2399&&ar n.Due 0 1000000000000&&ar n.Settled (-1000000000000) 1000000000000
theorem Dv (n:GNotice):jN n = some (lY n):=by
 rw [ux]
 simp only [wE,Option.bind_some]
 unfold lY
 cases ar n.Person 1 99 <;> cases ar n.Month 0 2399 <;> cases ar n.Due 0 1000000000000 <;> cases ar n.Settled (-1000000000000) 1000000000000 <;> rfl
def mG (n:GNotice):List Int:=au n.Person 1++(au n.Month 2++(au n.Due 5++au (ac (n.Settled+1000000000000)) 6))
theorem qY (n:GNotice):lJ n = some (if lY n = true then (mG n,true) else ([],false)):=by
 rw [Ba]
 simp only [lQ,zp,Option.bind_some,MX,BY,Pl,Sh]
 rw [m4 _ (by simp [aA]) (by simp),Option.bind_some]
 unfold lY mG
 cases ar n.Person 1 99 <;> cases ar n.Month 0 2399 <;> cases ar n.Due 0 1000000000000 <;> cases ar n.Settled (-1000000000000) 1000000000000 <;> simp
def jV (b:List Int):GNotice:=⟨gD b 0 0,aC (ak b 1 2),aC (ak b 3 5),ac (aC (ak b 8 6) - 1000000000000)⟩
def sT (b:List Int):GNotice × Bool:=if b.length = 14∧lY (jV b) = true then (jV b,true) else (⟨0,0,0,0⟩,false)
theorem yZ {b:List Int} (hb:aB b) (hB:b.length≤1000000000000):o6 b = some (sT b):=by
 rw [zu]
 unfold sT
 by_cases h9:b.length = 14
 ·have n0:=nx (n:=1) 0 hb (by omega) (by omega) hB
  have n1:=nx (n:=2) 1 hb (by omega) (by omega) hB
  have n3:=nx (n:=5) 3 hb (by omega) (by omega) hB
  have n8:=nx (n:=6) 8 hb (by omega) (by omega) hB
  simp only [Int.cast_ofNat_Int,List.drop_zero] at n0 n1 n3 n8
  rw [bj.2 (by omega),cond_false]
  simp only [n0,n1,n3,n8,Option.bind_some,Nat.zero_add,Nat.reduceAdd,Dv]
  rw [vU (by omega)]
  show (bif !lY (jV b) then some (⟨0,0,0,0⟩,false) else some (jV b,true)) = _
  cases lY (jV b) with
  | false=>simp
  | true=>simp [h9]
 ·rw [bS.2 (by omega),cond_true,if_neg (fun h=>h9 h.1)]
theorem C1 {b:List Int} (hb:aB b):tY b = some (sT b):=by
 rw [Dz]
 unfold sT
 by_cases h9:b.length = 14
 ·have e:=D2 (b:=b) (i:=8) (n:=6) (by omega)
  simp only [Int.cast_ofNat_Int] at e
  rw [bj.2 (by omega),cond_false,ab (by omega),ab (by omega),bf (hb.sub 1 2) (Nat.le_trans cm (by omega)),Option.bind_some,ab (by omega),bf (hb.sub 3 5) (Nat.le_trans cm (by omega)),Option.bind_some,ab (by omega),ab (by omega),e,
   bf (hb.sub 8 6) (Nat.le_trans cm (by omega)),Option.bind_some,BI hb,qY,Option.bind_some]
  show (bif !(if lY (jV b) = true then (mG (jV b),true) else ([],false)).2 then some (⟨0,0,0,0⟩,false) else some (jV b,true)) = _
  cases lY (jV b) with
  | false=>simp
  | true=>simp [h9]
 ·rw [bS.2 (by omega),cond_true,if_neg (fun h=>h9 h.1)]
def oF (kind sender:Int) (b:List Int):Bool :=
 if kind = 1 then (uV b).2&&am (uV b).1.Issuer sender else if kind = 2 then (tQ b).2&&am (tQ b).1.Issuer sender else if kind = 3 then (pT b).2 else
 if kind = 4 then (Ck b).2&&aQ (Ck b).1.To sender else if kind = 5 then (sT b).2 else false
theorem Rv (k n:Int):am k n = decide (k = n):=by
 by_cases h:k = n
 ·rw [aZ.2 h,decide_eq_true h]
 ·rw [eJ.2 h,decide_eq_false h]
theorem Ho {d:GDocument} (hb:aB d.Body) (hB:d.Body.length≤1000000000000):iE d = some (oF d.Kind d.Sender d.Body):=by
 rw [wq,A9 hb hB,zf hb hB,xQ hb hB,ul hb hB,yZ hb hB]
 simp only [Option.bind_some,dS,Rv d.Kind]
 unfold oF
 by_cases h1:d.Kind = 1
 ·simp [h1]
 by_cases h2:d.Kind = 2
 ·simp [h2]
 by_cases h3:d.Kind = 3
 ·simp [h3]
 by_cases h4:d.Kind = 4
 ·simp [h4]
 by_cases h5:d.Kind = 5
 ·simp [h5]
 ·simp [h1,h2,h3,h4,h5]
theorem Fh {b:List Int} (k s:Int) (hb:aB b) (hB:b.length≤1000000000000):sh k s b = some (oF k s b):=by
 rw [Hs,EB hb hB,Ef hb,Bk hb,xx hb,C1 hb]
 simp only [Option.bind_some,dS,Rv k]
 unfold oF
 by_cases h1:k = 1
 ·simp [h1]
 by_cases h2:k = 2
 ·simp [h2]
 by_cases h3:k = 3
 ·simp [h3]
 by_cases h4:k = 4
 ·simp [h4]
 by_cases h5:k = 5
 ·simp [h5]
 ·simp [h1,h2,h3,h4,h5]
def dE (d:GDocument):Bool:=ar d.Sender 0 5&&ar d.Number 1 999&&(aa (1 < d.Number)||am d.Prev 0)&&oF d.Kind d.Sender d.Body
theorem q9 {d:GDocument} (hb:aB d.Body) (hB:d.Body.length≤1000000000000):gF d = some (dE d):=by
 rw [Bb,wE,wE,Ho hb hB]
 simp only [Option.bind_some]
 unfold dE
 cases ar d.Sender 0 5 <;> cases ar d.Number 1 999 <;> cases aa (1 < d.Number) <;> cases am d.Prev 0 <;> simp
theorem ue {d:GDocument} (hb:aB d.Body) (hB:d.Body.length≤1000000000000):ko d = some (dE d):=by
 rw [vV,lQ,lQ,Fh _ _ hb hB]
 simp only [Option.bind_some]
 unfold dE
 cases ar d.Sender 0 5 <;> cases ar d.Number 1 999 <;> cases aa (1 < d.Number) <;> cases am d.Prev 0 <;> simp
theorem gm {d:GDocument}:dE d = true↔(0≤d.Sender∧d.Sender≤5)∧(1≤d.Number∧d.Number≤999)∧(1 < d.Number∨d.Prev = 0)∧oF d.Kind d.Sender d.Body = true:=by
 unfold dE
 simp only [Bool.and_eq_true,Bu,Bool.or_eq_true,aa,decide_eq_true_eq,aZ,and_assoc]
theorem ss {k s:Int} {b:List Int} (h:oF k s b = true):1≤k∧k≤5:=by
 unfold oF at h
 repeat' split at h
 all_goals first | omega | cases h
theorem GR {k s:Int} {b:List Int} (hb:aB b) (h:oF k s b = true):b.length≤43:=by
 unfold oF at h
 have one:∀ {α:Type} {p q:α × Bool} {n:Nat} {c:Prop} [Decidable c],(if b.length = n∧c then p else q).2 = true→q.2 = false→b.length = n:=by
  intro α p q n c _ h hq
  split at h
  ·next hc=>exact hc.1
  ·rw [hq] at h;cases h
 split at h
 ·rw [Bool.and_eq_true] at h
  have e:uV b = ((uV b).1,true):=by rw [← h.1]
  have:=(M1 hb e).2
  rw [← this]
  exact (xI _).2
 split at h
 ·rw [Bool.and_eq_true] at h
  have:=one (h.1:(tQ b).2 = true) rfl
  omega
 split at h
 ·have:=one (h:(pT b).2 = true) rfl
  omega
 split at h
 ·rw [Bool.and_eq_true] at h
  have:=one (h.1:(Ck b).2 = true) rfl
  omega
 split at h
 ·have:=one (h:(sT b).2 = true) rfl
  omega
 ·cases h
end Go.Ax
set_option linter.all false
/- Encodings of documents: both texts write and read the same. -/
set_option maxRecDepth 100000
namespace Go.Ax
def EE:GDocument:=⟨0,0,0,0,[]⟩
def jg (d:GDocument):List Int:=[68,d.Kind,d.Sender]++(au d.Number 2++(au d.Prev 4++(au (d.Body.length:Int) 2++d.Body)))
def fZ (d:GDocument):List Int:=jg d++au (iL (jg d)) 4
theorem tJ (d:GDocument):(jg d).length = d.Body.length+11:=by simp [jg,aA];omega
theorem Ca (d:GDocument):(fZ d).length = d.Body.length+15:=by unfold fZ;rw [List.length_append,tJ,aA]
theorem Fn {d:GDocument} (h:dE d = true) (hb:aB d.Body):aB (jg d):=by
 obtain ⟨h1,h2,h3,h4⟩:=gm.1 h
 have hk:=ss h4
 unfold jg
 exact bF.2 ⟨dY.2 ⟨by omega,dY.2 ⟨by omega,dY.2 ⟨by omega,pY⟩⟩⟩,bF.2 ⟨be _ _,bF.2 ⟨be _ _,bF.2 ⟨be _ _,hb⟩⟩⟩⟩
theorem FS {d:GDocument} (h:dE d = true) (hb:aB d.Body):aB (fZ d):=bF.2 ⟨Fn h hb,be _ _⟩
def u6 (d:GDocument):Prop:=aB d.Body∧0≤d.Prev∧d.Prev < 4294967296
theorem ng {d:GDocument} (h:u6 d) (hB:d.Body.length≤1000000):gI d = some (if dE d = true then (fZ d,0) else ([],1)):=by
 obtain ⟨hb,hp0,hp1⟩:=h
 rw [DB,ue hb (by omega),Option.bind_some]
 cases hv:dE d with
 | false=>rfl
 | true =>
  obtain ⟨h1,h2,h3,h4⟩:=gm.1 hv
  have hk:=ss h4
  rw [show (!true) = false from rfl,cond_false,BY,Option.bind_some,ay (by omega) (by omega),L3,Option.bind_some,BY,Option.bind_some,Di (by omega) (by omega),Di (by omega) (by omega),m4 _ (by simp [aA];omega) (by simp),Option.bind_some]
  have e:[[68,d.Kind,d.Sender],au d.Number 2,au d.Prev 4,au (d.Body.length:Int) 2,d.Body].flatten = jg d:=by
   unfold jg;simp
  have hc:=tM (jg d)
  rw [e,qz (Fn hv hb) (by rw [tJ];omega),Option.bind_some,ay (by omega) (by omega),L3,Option.bind_some,m4 _ (by simp [aA,tJ];omega) (by simp),Option.bind_some]
  simp [fZ]
theorem pw {d:GDocument} (h:u6 d) (hB:d.Body.length≤1000000):kI d = some (if dE d = true then (fZ d,0) else ([],1)):=by
 obtain ⟨hb,hp0,hp1⟩:=h
 rw [zK,q9 hb (by omega),Option.bind_some]
 cases hv:dE d with
 | false=>rfl
 | true =>
  obtain ⟨h1,h2,h3,h4⟩:=gm.1 hv
  have hk:=ss h4
  have n2:∀ v b,b.length≤100→ba v 2 b = some (b++au v 2):=fun v b hb=>od v (n:=2) (by omega) b (by omega)
  have n4:∀ v b,b.length≤2000000→ba v 4 b = some (b++au v 4):=fun v b hb=>od v (n:=4) (by omega) b (by omega)
  have hc:=tM (jg d)
  rw [show (!true) = false from rfl,cond_false,Di (by omega) (by omega),Di (by omega) (by omega),n2 _ _ (by simp),Option.bind_some,ay (by omega) (by omega),n4 _ _ (by simp [aA]),Option.bind_some,n2 _ _ (by simp [aA]),Option.bind_some]
  have e:[68,d.Kind,d.Sender]++au d.Number 2++au d.Prev 4++au (d.Body.length:Int) 2++d.Body = jg d:=by
   unfold jg;simp
  have hl:([68,d.Kind,d.Sender]++au d.Number 2++au d.Prev 4++au (d.Body.length:Int) 2).length = 11:=by simp [aA]
  rw [ab (by rw [hl];omega),ab (by rw [hl];omega),e,jm (Fn hv hb) (by rw [tJ];omega),Option.bind_some,ay (by omega) (by omega),n4 _ _ (by rw [tJ];omega),Option.bind_some]
  rfl
def ah (b:List Int):GDocument:=⟨gD b 2 0,aC (ak b 3 2),gD b 1 0,aC (ak b 5 4),ak b 11 (b.length - 15)⟩
def cP (b:List Int):Bool:=aa (15≤b.length)&&(am (gD b 0 0) 68&&(am (aC (ak b 9 2)) ((b.length:Int) - 15)&&(am (aC (b.drop (b.length - 4))) (iL (b.take (b.length - 4)))&&dE (ah b))))
def pR (b:List Int):GDocument × Int:=if cP b = true then (ah b,0) else (EE,11)
theorem BR {b:List Int} (hb:aB b):u6 (ah b):=by
 refine ⟨hb.sub _ _, ?_⟩
 exact kg (hb.sub 5 4) (n:=4) cm (by decide)
theorem Qv (b:List Int) {i n j m:Nat} (h:j+m≤n):ak (ak b i n) j m = ak b (i+j) m:=by
 unfold ak
 rw [List.drop_take,List.take_take,List.drop_drop]
 congr 1
 omega
theorem ma {b:List Int} (h:cP b = false):pR b = (EE,11):=by unfold pR;rw [h,if_neg (by simp)]
theorem ox {b:List Int} (h:b.length≤140737488355328):gC b = some b:=by
 show y8 b = some b
 unfold y8
 exact ab h
theorem pm {b:List Int} (hb:aB b) (hB:b.length≤140737488355328):iJ b = some (pR b):=by
 rw [zg]
 by_cases h15:15≤b.length
 ·rw [bp (by omega),cond_false,ab (by omega)]
  have hs:=hb.sub 1 10
  have hsl:(ak b 1 10).length = 10:=by unfold ak;rw [List.length_take,List.length_drop];omega
  have n0:=nx (n:=1) 0 hs (by omega) (by omega) (by omega)
  have n1:=nx (n:=1) 1 hs (by omega) (by omega) (by omega)
  have n2:=nx (n:=2) 2 hs (by omega) (by omega) (by omega)
  have n4:=nx (n:=4) 4 hs (by omega) (by omega) (by omega)
  have n8:=nx (n:=2) 8 hs (by omega) (by omega) (by omega)
  rw [Qv b (by omega)] at n0 n1 n2 n4 n8
  simp only [Int.cast_ofNat_Int,List.drop_zero,Nat.zero_add,Nat.reduceAdd] at n0 n1 n2 n4 n8
  have hw:ac ((b.length:Int) - 4) = ((b.length - 4:Nat):Int):=by rw [ay (by omega) (by omega)];omega
  have e1:ak b 11 (((b.length - 4:Nat):Int) - 11).toNat = ak b 11 (b.length - 15):=by congr 1;omega
  have hbl:(ak b 11 (b.length - 15)).length = b.length - 15:=by unfold ak;rw [List.length_take,List.length_drop];omega
  rw [n0,Option.bind_some,n1,Option.bind_some,n2,Option.bind_some,n4,Option.bind_some,hw,ab (by omega),ab (by omega),e1,ox (by omega),Option.bind_some,ab (by omega),ab (by omega),ab (by omega),ab (by omega),vU (by omega),vU (by omega)]
  by_cases h0:gD b 0 0 = 68
  ·rw [bj.2 h0,cond_false,n8,Option.bind_some,hbl]
   by_cases h9:aC (ak b 9 2) = ((b.length - 15:Nat):Int)
   ·have hr:=kg (hb.sub 9 2) (n:=2) cm (B:=65536) (by decide)
    have hlen:b.length≤65550:=by omega
    rw [bj.2 h9,cond_false]
    have e2:ak b ((b.length - 4:Nat):Int).toNat ((b.length:Int) - ((b.length - 4:Nat):Int)).toNat = b.drop (b.length - 4):=by
     rw [jF b (by omega) (by omega),Int.toNat_natCast]
    have hdl:(b.drop (b.length - 4)).length = 4:=by rw [List.length_drop];omega
    have t4:=BP (n:=4) (hb.drop (b.length - 4)) (by omega) (by omega) (by omega)
    simp only [Int.cast_ofNat_Int] at t4
    rw [e2,t4,Option.bind_some,Bool.false_or,Bool.false_or,ab (by omega),ab (by omega),xZ b (by omega),Int.toNat_natCast,jm (hb.take _) (by rw [List.length_take];omega),Option.bind_some,List.take_of_length_le (by omega)]
    have h4:=kg (hb.drop (b.length - 4)) (n:=4) (by omega) (B:=4294967296) (by decide)
    have hp:=kg (hb.sub 5 4) (n:=4) cm (B:=4294967296) (by decide)
    show (bif aQ (IntKind.wrap .u32 (aC (b.drop (b.length - 4)))) (iL (b.take (b.length - 4))) then _ else _) = _
    rw [fC h4.1 h4.2,fC hp.1 hp.2]
    by_cases hc:aC (b.drop (b.length - 4)) = iL (b.take (b.length - 4))
    ·rw [bj.2 hc,cond_false]
     have hv:gF (ah b) = some (dE (ah b)):=q9 (hb.sub _ _) (by show (ak b 11 _).length≤_;omega)
     show ((gF (ah b)).bind fun r8=>bif !r8 then some (EE,11) else some (ah b,0)) = _
     rw [hv,Option.bind_some]
     unfold pR cP
     rw [aV h15,aZ.2 h0,aZ.2 (show aC (ak b 9 2) = (b.length:Int) - 15 by omega),aZ.2 hc]
     cases dE (ah b) <;> rfl
    ·rw [bS.2 hc,cond_true,ma]
     ·rfl
     ·unfold cP;rw [eJ.2 hc];simp
   ·rw [bS.2 h9,cond_true,ma]
    ·rfl
    ·unfold cP;rw [eJ.2 (show aC (ak b 9 2)≠(b.length:Int) - 15 by omega)];simp
  ·rw [bS.2 h0,cond_true,ma]
   ·rfl
   ·unfold cP;rw [eJ.2 h0];simp
 ·rw [aV (by omega),cond_true,ma]
  ·rfl
  ·unfold cP;rw [bp h15];rfl
theorem PP {b:List Int} (hb:aB b) (h15:15≤b.length) (h0:gD b 0 0 = 68) (h9:aC (ak b 9 2) = (b.length:Int) - 15):jg (ah b) = b.take (b.length - 4):=by
 have e:b.take (b.length - 4) = b.take 3++(ak b 3 2++(ak b 5 4++(ak b 9 2++ak b 11 (b.length - 15)))):=by
  rw [show b.length - 4 = 3+(2+(4+(2+(b.length - 15)))) by omega,List.take_add,List.take_add,List.take_add,List.take_add,List.drop_drop,List.drop_drop,List.drop_drop]
  rfl
 have l2:∀ i,i+2≤b.length→(ak b i 2).length = 2:=fun i hi=>by unfold ak;rw [List.length_take,List.length_drop];omega
 have l4:(ak b 5 4).length = 4:=by unfold ak;rw [List.length_take,List.length_drop];omega
 have b2:∀ i,i+2≤b.length→au (aC (ak b i 2)) 2 = ak b i 2:=fun i hi=>by
  have:=iQ (hb.sub i 2);rwa [l2 i hi] at this
 have b4:au (aC (ak b 5 4)) 4 = ak b 5 4:=by have:=iQ (hb.sub 5 4);rwa [l4] at this
 have hbl:((ak b 11 (b.length - 15)).length:Int) = aC (ak b 9 2):=by unfold ak at *; rw [List.length_take,List.length_drop];omega
 have e3:b.take 3 = [gD b 0 0,gD b 1 0,gD b 2 0]:=by
  match b,h15 with
  | a0 :: a1 :: a2 :: r,_=>rfl
 rw [e,e3,h0]
 unfold jg ah
 simp only
 rw [b2 3 (by omega),b4,hbl,b2 9 (by omega)]
theorem LJ {b:List Int} (hb:aB b) (h15:15≤b.length) (h0:gD b 0 0 = 68) (h9:aC (ak b 9 2) = (b.length:Int) - 15):fZ (ah b) = b↔aC (b.drop (b.length - 4)) = iL (b.take (b.length - 4)):=by
 have hp:=PP hb h15 h0 h9
 have hdl:(b.drop (b.length - 4)).length = 4:=by rw [List.length_drop];omega
 unfold fZ
 rw [hp]
 have hc:=tM (b.take (b.length - 4))
 constructor
 ·intro h
  have h1:b.take (b.length - 4)++au (iL (b.take (b.length - 4))) 4 = b.take (b.length - 4)++b.drop (b.length - 4):=by rw [h,List.take_append_drop]
  have h2:=List.append_cancel_left h1
  rw [← h2,sQ]
  show iL (b.take (b.length - 4)) % 4294967296 = _
  omega
 ·intro h
  have:=iQ (hb.drop (b.length - 4))
  rw [hdl] at this
  rw [← h,this,List.take_append_drop]
theorem jt {b:List Int} (hb:aB b):cP b = true↔15≤b.length∧gD b 0 0 = 68∧aC (ak b 9 2) = (b.length:Int) - 15∧fZ (ah b) = b∧dE (ah b) = true:=by
 unfold cP
 simp only [Bool.and_eq_true,aa,decide_eq_true_eq,aZ]
 constructor
 ·rintro ⟨h1,h2,h3,h4,h5⟩
  exact ⟨h1,h2,h3,(LJ hb h1 h2 h3).2 h4,h5⟩
 ·rintro ⟨h1,h2,h3,h4,h5⟩
  exact ⟨h1,h2,h3,(LJ hb h1 h2 h3).1 h4,h5⟩
theorem nc {b:List Int} (hb:aB b) (hB:b.length≤9223372036854775807):k8 b = some (pR b):=by
 rw [D7]
 by_cases h15:15≤b.length
 ·rw [bp (by omega),cond_false,ab (by omega),bf (hb.sub 9 2) (Nat.le_trans cm (by omega)),Option.bind_some,ay (by omega) (by omega)]
  by_cases h9:aC (ak b 9 2) = (b.length:Int) - 15
  ·have hr:=kg (hb.sub 9 2) (n:=2) cm (B:=65536) (by decide)
   have hlen:b.length≤65550:=by omega
   rw [bj.2 h9.symm,cond_false,ab (by omega)]
   by_cases h0:gD b 0 0 = 68
   ·have hw:ac ((b.length:Int) - 4) = ((b.length - 4:Nat):Int):=by rw [ay (by omega) (by omega)];omega
    have e1:ak b 11 (((b.length - 4:Nat):Int) - 11).toNat = ak b 11 (b.length - 15):=by congr 1;omega
    have hbl:(ak b 11 (b.length - 15)).length = b.length - 15:=by unfold ak;rw [List.length_take,List.length_drop];omega
    have hp:=kg (hb.sub 5 4) (n:=4) cm (B:=4294967296) (by decide)
    rw [bj.2 h0,cond_false,ab (by omega),ab (by omega),ab (by omega),bf (hb.sub 3 2) (Nat.le_trans cm (by omega)),Option.bind_some,ab (by omega),bf (hb.sub 5 4) (Nat.le_trans cm (by omega)),Option.bind_some,hw,ab (by omega),ab (by omega),e1,ab (by omega),ab (by omega),fC hp.1 hp.2,BI hb,BI hb]
    have he:gI (ah b) = _:=ng (BR hb) (by show (ak b 11 _).length≤_;omega)
    show ((gI (ah b)).bind fun r3=>bif (bif (aQ r3.2 0) then true else (!(ot (bz r3.1) (bz b)))) then some (EE,11) else some (ah b,0)) = _
    rw [he,Option.bind_some]
    cases hv:dE (ah b) with
    | false =>
     rw [ma]
     ·rfl
     ·unfold cP;rw [hv];simp
    | true =>
     rw [if_pos rfl]
     show (bif (bif (aQ 0 0) then true else (!(ot (bz (fZ (ah b))) (bz b)))) then some (EE,11) else some (ah b,0)) = _
     rw [qx (FS hv (hb.sub _ _)) hb]
     by_cases hc:fZ (ah b) = b
     ·rw [decide_eq_true hc]
      unfold pR
      rw [if_pos ((jt hb).2 ⟨h15,h0,h9,hc,hv⟩)]
      rfl
     ·rw [decide_eq_false hc,ma]
      ·rfl
      ·cases hd:cP b with
       | false=>rfl
       | true=>exact absurd ((jt hb).1 hd).2.2.2.1 hc
   ·rw [bS.2 h0,cond_true,ma]
    ·rfl
    ·unfold cP;rw [eJ.2 h0];simp
  ·rw [bS.2 (fun h=>h9 h.symm),cond_true,ma]
   ·rfl
   ·unfold cP;rw [eJ.2 h9];simp
 ·rw [aV (by omega),cond_true,ma]
  ·rfl
  ·unfold cP;rw [bp h15];rfl
theorem Qr {b:List Int} (hb:aB b) (h:(pR b).2 = 0):cP b = true∧(pR b).1 = ah b:=by
 unfold pR at h ⊢
 split at h
 ·next hd=>exact ⟨hd,by rw [if_pos hd]⟩
 ·cases h
theorem Q5 {d:GDocument} (hv:dE d = true) (hd:u6 d):pR (fZ d) = (d,0):=by
 obtain ⟨h1,h2,h3,h4⟩:=gm.1 hv
 have hk:=ss h4
 have hl:=GR hd.1 h4
 have hlen:=Ca d
 have hb:=FS hv hd.1
 have n2:∀ v:Int,0≤v→v < 65536→aC (au v 2) = v:=fun v h0 h1=>by rw [sQ];show v % 65536 = v;omega
 have n4:∀ v:Int,0≤v→v < 4294967296→aC (au v 4) = v:=fun v h0 h1=>by rw [sQ];show v % 4294967296 = v;omega
 have form:fZ d = 68 :: d.Kind :: d.Sender :: (au d.Number 2++(au d.Prev 4++(au (d.Body.length:Int) 2++(d.Body++au (iL (jg d)) 4)))):=by
  unfold fZ jg;simp
 have a2:∀ (v:Int) (r:List Int),(au v 2++r).take 2 = au v 2:=fun v r=>List.take_left' (aA v 2)
 have d2:∀ (v:Int) (r:List Int),(au v 2++r).drop 2 = r:=fun v r=>List.drop_left' (aA v 2)
 have a4:∀ (v:Int) (r:List Int),(au v 4++r).take 4 = au v 4:=fun v r=>List.take_left' (aA v 4)
 have d4:∀ (v:Int) (r:List Int),(au v 4++r).drop 4 = r:=fun v r=>List.drop_left' (aA v 4)
 have x3:(fZ d).drop 3 = au d.Number 2++(au d.Prev 4++(au (d.Body.length:Int) 2++(d.Body++au (iL (jg d)) 4))):=by rw [form];rfl
 have x5:(fZ d).drop 5 = au d.Prev 4++(au (d.Body.length:Int) 2++(d.Body++au (iL (jg d)) 4)):=by
  rw [show 5 = 3+2 from rfl, ← List.drop_drop,x3,d2]
 have x9:(fZ d).drop 9 = au (d.Body.length:Int) 2++(d.Body++au (iL (jg d)) 4):=by
  rw [show 9 = 5+4 from rfl, ← List.drop_drop,x5,d4]
 have x11:(fZ d).drop 11 = d.Body++au (iL (jg d)) 4:=by
  rw [show 11 = 9+2 from rfl, ← List.drop_drop,x9,d2]
 have e:ah (fZ d) = d:=by
  unfold ah ak
  rw [x3,x5,x11,a2,a4,n2 _ (by omega) (by omega),n4 _ hd.2.1 hd.2.2,hlen,show d.Body.length+15 - 15 = d.Body.length by omega,List.take_left' rfl,form]
  rfl
 have hdec:cP (fZ d) = true:=(jt hb).2 ⟨by omega,by rw [form];rfl,by unfold ak;rw [x9,a2,n2 _ (by omega) (by omega),hlen];omega,by rw [e],by rw [e];exact hv⟩
 unfold pR
 rw [if_pos hdec,e]
end Go.Ax
