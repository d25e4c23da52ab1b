import Derived.Test.YtbjfcadcipfolaaGreatYP52
set_option linter.all false
/- Bodies of documents: both texts read the same. -/
set_option maxRecDepth 100000
namespace Go.Ax
def lq (b:List Int):GFact × Bool:=if (xX b).2.2 = true∧(xX b).2.1 = (b.length:Int) then ((xX b).1,true) else (MM,false)
theorem Iu (b:List Int) (r0:GFact × Int × Bool):(bif (bif (!r0.2.2) then true else (aV r0.2.1 (b.length:Int))) then some ((⟨0,0,0,false,0,0,0,(⟨0,0⟩:GSpan),0,0,0,0,0⟩:GFact),false) else some (r0.1,true)) = some (if r0.2.2 = true∧r0.2.1 = (b.length:Int) then (r0.1,true) else (MM,false)):=by
 cases h1:r0.2.2 with
 | false=>rfl
 | true =>
  by_cases h2:r0.2.1 = (b.length:Int)
  ·rw [bQ.2 h2,if_pos ⟨rfl,h2⟩];rfl
  ·rw [bS.2 h2,if_neg (fun h=>h2 h.2)];rfl
theorem qW {b:List Int} (hb:aG b) (hB:b.length≤1000000000000):mD b = some (lq b):=by
 rw [Ca,GS hb hB,Option.bind_some,Iu];rfl
theorem vh {b:List Int} (hb:aG b) (hB:b.length≤1000000000000):rH b = some (lq b):=by
 rw [GK,DW hb hB,Option.bind_some,Iu];rfl
theorem Lt {b:List Int} (hb:aG b) {f:GFact} (h:lq b = (f,true)):aB f = true∧bt f = b:=by
 unfold lq at h
 split at h
 ·next hc =>
  have e:xX b = (f,(b.length:Int),true):=by
   have:=(Prod.mk.inj h).1
   rw [← this, ← hc.1, ← hc.2]
  obtain ⟨h1,_,_,h4⟩:=Oj hb e
  exact ⟨h1,by rw [h4,Int.toNat_natCast,List.take_length]⟩
 ·cases h
def om (c:GClaim):Bool:=ar c.Issuer 0 5&&ar c.Number 1 999&&ar c.Person 1 99&&ar c.Benefit 1 5&&ar c.Ref 0 99&&ar c.Day 0 73048
theorem vQ (v l h:Int):aU v l h = some (ar v l h):=by rw [Eg,cc];rfl
theorem lJ (v l h:Int):bd v l h = some (ar v l h):=by rw [CH,cc];rfl
theorem P1 (d:Int):qK d = some (ar d 0 73048):=by rw [Bi,cc];rfl
theorem zj (d:Int):hU d = some (ar d 0 2399):=by rw [yW,cc];rfl
theorem D8 (c:GClaim):kd c = some (om c):=by
 rw [u3]
 simp only [vQ,Option.bind_some]
 unfold om
 cases ar c.Issuer 0 5 <;> cases ar c.Number 1 999 <;> cases ar c.Person 1 99 <;> cases ar c.Benefit 1 5 <;> cases ar c.Ref 0 99 <;> cases ar c.Day 0 73048 <;> rfl
def oC (c:GClaim):List Int:=am c.Issuer 1++(am c.Number 2++(am c.Person 1++(am c.Benefit 1++(am c.Ref 1++am c.Day 3))))
theorem Mw (v:Int):aQ v 1 = some (am v 1):=gJ v (n:=1) (by omega)
theorem Ex (v:Int):aQ v 2 = some (am v 2):=gJ v (n:=2) (by omega)
theorem RR (v:Int):aQ v 3 = some (am v 3):=gJ v (n:=3) (by omega)
theorem Q8 (v:Int):aQ v 4 = some (am v 4):=gJ v (n:=4) (by omega)
theorem OV (v:Int):aQ v 5 = some (am v 5):=gJ v (n:=5) (by omega)
theorem RW (v:Int):aQ v 6 = some (am v 6):=gJ v (n:=6) (by omega)
theorem qQ (c:GClaim):my c = some (if om c = true then (oC c,true) else ([],false)):=by
 rw [Bz]
 simp only [lJ,P1,Option.bind_some,Mw,Ex,RR]
 rw [o3 _ (by simp [av]) (by simp),Option.bind_some]
 unfold om oC
 cases ar c.Issuer 0 5 <;> cases ar c.Number 1 999 <;> cases ar c.Person 1 99 <;> cases ar c.Benefit 1 5 <;> cases ar c.Ref 0 99 <;> cases ar c.Day 0 73048 <;> simp
def H4:GClaim:=⟨0,0,0,0,0,0⟩
def lM (b:List Int):GClaim:=⟨gD b 0 0,aC (af b 1 2),gD b 3 0,gD b 4 0,gD b 5 0,aC (af b 6 3)⟩
def jS (b:List Int):GClaim × Bool:=if b.length = 9∧om (lM b) = true then (lM b,true) else (H4,false)
theorem nx {n:Nat} {b:List Int} (i:Nat) (h:aG b) (hn:n≤7) (hb:i+n≤b.length) (hB:b.length≤1000000000000):aq (n:Int) ⟨b.drop i⟩ = some (aC (af b i n),⟨b.drop (i+n)⟩):=by
 rw [Bt (h.drop i) hn (by rw [List.length_drop];omega) (by rw [List.length_drop];omega),List.drop_drop];rfl
theorem uN {b:List Int} {i:Nat} (h:i < b.length):aC (af b i 1) = gD b i 0:=EC i h
theorem qi {b:List Int} (hb:aG b) (hB:b.length≤1000000000000):lD b = some (jS b):=by
 rw [Ar]
 unfold jS
 by_cases h9:b.length = 9
 ·have n0:=nx (n:=1) 0 hb (by omega) (by omega) hB
  have n1:=nx (n:=2) 1 hb (by omega) (by omega) hB
  have n3:=nx (n:=1) 3 hb (by omega) (by omega) hB
  have n4:=nx (n:=1) 4 hb (by omega) (by omega) hB
  have n5:=nx (n:=1) 5 hb (by omega) (by omega) hB
  have n6:=nx (n:=3) 6 hb (by omega) (by omega) hB
  simp only [Int.cast_ofNat_Int,List.drop_zero] at n0 n1 n3 n4 n5 n6
  rw [bQ.2 (by omega),cond_false]
  simp only [n0,n1,n3,n4,n5,n6,Option.bind_some,Nat.zero_add,Nat.reduceAdd,D8]
  rw [uN (by omega),uN (by omega),uN (by omega),uN (by omega)]
  show (bif !om (lM b) then some (H4,false) else some (lM b,true)) = _
  cases om (lM b) with
  | false=>simp
  | true=>simp [h9]
 ·rw [bS.2 (by omega),cond_true,if_neg (fun h=>h9 h.1)];rfl
theorem AY {b:List Int} (hb:aG b) (i:Nat):ac (gD b i 0) = gD b i 0:=by have:=hb.gD i;exact aA (by omega) (by omega)
theorem CZ {b:List Int} {i n:Nat} (h:b.length = i+n):af b i ((b.length:Int) - (i:Int)).toNat = af b i n:=by
 congr 1;omega
theorem cN {b:List Int} {i n:Nat}:(af b i n).length≤n:=by unfold af;rw [List.length_take];omega
theorem ua {b:List Int} (hb:aG b):pX b = some (jS b):=by
 rw [DX]
 unfold jS
 by_cases h9:b.length = 9
 ·have e:=CZ (b:=b) (i:=6) (n:=3) (by omega)
  simp only [Int.cast_ofNat_Int] at e
  rw [bQ.2 (by omega),cond_false,ab (by omega),ab (by omega),bE (hb.sub 1 2) (Nat.le_trans cN (by omega)),Option.bind_some,ab (by omega),ab (by omega),ab (by omega),ab (by omega),ab (by omega),e,
   bE (hb.sub 6 3) (Nat.le_trans cN (by omega)),Option.bind_some,AY hb,AY hb,AY hb,AY hb,qQ,Option.bind_some]
  show (bif !(if om (lM b) = true then (oC (lM b),true) else ([],false)).2 then some (H4,false) else some (lM b,true)) = _
  cases om (lM b) with
  | false=>simp
  | true=>simp [h9]
 ·rw [bS.2 (by omega),cond_true,if_neg (fun h=>h9 h.1)];rfl
def ga (r:GRequest):Bool:=ar r.Person 1 99&&ar r.Month 0 2399&&ar r.Amount 0 1000000000000
theorem sL (r:GRequest):e8 r = some (ga r):=by
 rw [so]
 simp only [vQ,Option.bind_some]
 unfold ga
 cases ar r.Person 1 99 <;> cases ar r.Month 0 2399 <;> cases ar r.Amount 0 1000000000000 <;> rfl
def da (r:GRequest):List Int:=am r.Person 1++(am r.Month 2++am r.Amount 5)
theorem oR (r:GRequest):kr r = some (if ga r = true then (da r,true) else ([],false)):=by
 rw [yY]
 simp only [lJ,zj,Option.bind_some,Mw,Ex,OV]
 rw [o3 _ (by simp [av]) (by simp),Option.bind_some]
 unfold ga da
 cases ar r.Person 1 99 <;> cases ar r.Month 0 2399 <;> cases ar r.Amount 0 1000000000000 <;> simp
def il (b:List Int):GRequest:=⟨gD b 0 0,aC (af b 1 2),aC (af b 3 5)⟩
def pn (b:List Int):GRequest × Bool:=if b.length = 8∧ga (il b) = true then (il b,true) else (⟨0,0,0⟩,false)
theorem wB {b:List Int} (hb:aG b) (hB:b.length≤1000000000000):mU b = some (pn b):=by
 rw [yi]
 unfold pn
 by_cases h9:b.length = 8
 ·have n0:=nx (n:=1) 0 hb (by omega) (by omega) hB
  have n1:=nx (n:=2) 1 hb (by omega) (by omega) hB
  have n3:=nx (n:=5) 3 hb (by omega) (by omega) hB
  simp only [Int.cast_ofNat_Int,List.drop_zero] at n0 n1 n3
  rw [bQ.2 (by omega),cond_false]
  simp only [n0,n1,n3,Option.bind_some,Nat.zero_add,Nat.reduceAdd,sL]
  rw [uN (by omega)]
  show (bif !ga (il b) then some (⟨0,0,0⟩,false) else some (il b,true)) = _
  cases ga (il b) with
  | false=>simp
  | true=>simp [h9]
 ·rw [bS.2 (by omega),cond_true,if_neg (fun h=>h9 h.1)]
theorem AB {b:List Int} (hb:aG b):qJ b = some (pn b):=by
 rw [B2]
 unfold pn
 by_cases h9:b.length = 8
 ·have e:=CZ (b:=b) (i:=3) (n:=5) (by omega)
  simp only [Int.cast_ofNat_Int] at e
  rw [bQ.2 (by omega),cond_false,ab (by omega),ab (by omega),bE (hb.sub 1 2) (Nat.le_trans cN (by omega)),Option.bind_some,ab (by omega),ab (by omega),e,
   bE (hb.sub 3 5) (Nat.le_trans cN (by omega)),Option.bind_some,AY hb,oR,Option.bind_some]
  show (bif !(if ga (il b) = true then (da (il b),true) else ([],false)).2 then some (⟨0,0,0⟩,false) else some (il b,true)) = _
  cases ga (il b) with
  | false=>simp
  | true=>simp [h9]
 ·rw [bS.2 (by omega),cond_true,if_neg (fun h=>h9 h.1)]
def w0 (r:GRemittance):Bool:=ar r.To 0 5&&ar r.Person 1 99&&ar r.Month 0 2399&&ar r.Request 1 999&&ar r.Sent 1 1000000000000&&ar r.Credited 1 1000000000000
theorem IN (r:GRemittance):fY r = some (w0 r):=by
 rw [ql]
 simp only [vQ,Option.bind_some]
 unfold w0
 cases ar r.To 0 5 <;> cases ar r.Person 1 99 <;> cases ar r.Month 0 2399 <;> cases ar r.Request 1 999 <;> cases ar r.Sent 1 1000000000000 <;> cases ar r.Credited 1 1000000000000 <;> rfl
def sP (r:GRemittance):List Int:=am r.To 1++(am r.Person 1++(am r.Month 2++(am r.Request 2++(am r.Sent 5++am r.Credited 5))))
theorem ma (r:GRemittance):hY r = some (if w0 r = true then (sP r,true) else ([],false)):=by
 rw [vq]
 simp only [lJ,zj,Option.bind_some,Mw,Ex,OV]
 rw [o3 _ (by simp [av]) (by simp),Option.bind_some]
 unfold w0 sP
 cases ar r.To 0 5 <;> cases ar r.Person 1 99 <;> cases ar r.Month 0 2399 <;> cases ar r.Request 1 999 <;> cases ar r.Sent 1 1000000000000 <;> cases ar r.Credited 1 1000000000000 <;> simp
def q8 (b:List Int):GRemittance:=⟨gD b 0 0,gD b 1 0,aC (af b 2 2),aC (af b 4 2),aC (af b 6 5),aC (af b 11 5)⟩
def BW (b:List Int):GRemittance × Bool:=if b.length = 16∧w0 (q8 b) = true then (q8 b,true) else (⟨0,0,0,0,0,0⟩,false)
theorem tr {b:List Int} (hb:aG b) (hB:b.length≤1000000000000):j8 b = some (BW b):=by
 rw [uY]
 unfold BW
 by_cases h9:b.length = 16
 ·have n0:=nx (n:=1) 0 hb (by omega) (by omega) hB
  have n1:=nx (n:=1) 1 hb (by omega) (by omega) hB
  have n2:=nx (n:=2) 2 hb (by omega) (by omega) hB
  have n4:=nx (n:=2) 4 hb (by omega) (by omega) hB
  have n6:=nx (n:=5) 6 hb (by omega) (by omega) hB
  have n11:=nx (n:=5) 11 hb (by omega) (by omega) hB
  simp only [Int.cast_ofNat_Int,List.drop_zero] at n0 n1 n2 n4 n6 n11
  rw [bQ.2 (by omega),cond_false]
  simp only [n0,n1,n2,n4,n6,n11,Option.bind_some,Nat.zero_add,Nat.reduceAdd,IN]
  rw [uN (by omega),uN (by omega)]
  show (bif !w0 (q8 b) then some (⟨0,0,0,0,0,0⟩,false) else some (q8 b,true)) = _
  cases w0 (q8 b) with
  | false=>simp
  | true=>simp [h9]
 ·rw [bS.2 (by omega),cond_true,if_neg (fun h=>h9 h.1)]
theorem wu {b:List Int} (hb:aG b):mW b = some (BW b):=by
 rw [x6]
 unfold BW
 by_cases h9:b.length = 16
 ·have e:=CZ (b:=b) (i:=11) (n:=5) (by omega)
  simp only [Int.cast_ofNat_Int] at e
  rw [bQ.2 (by omega),cond_false,ab (by omega),ab (by omega),ab (by omega),bE (hb.sub 2 2) (Nat.le_trans cN (by omega)),Option.bind_some,ab (by omega),bE (hb.sub 4 2) (Nat.le_trans cN (by omega)),Option.bind_some,ab (by omega),
   bE (hb.sub 6 5) (Nat.le_trans cN (by omega)),Option.bind_some,ab (by omega),ab (by omega),e,bE (hb.sub 11 5) (Nat.le_trans cN (by omega)),Option.bind_some,AY hb,AY hb,ma,Option.bind_some]
  show (bif !(if w0 (q8 b) = true then (sP (q8 b),true) else ([],false)).2 then some (⟨0,0,0,0,0,0⟩,false) else some (q8 b,true)) = _
  cases w0 (q8 b) with
  | false=>simp
  | true=>simp [h9]
 ·rw [bS.2 (by omega),cond_true,if_neg (fun h=>h9 h.1)]
def lz (n:GNotice):Bool:=ar n.Person 1 99&&ar n.Month 0 2399&&ar n.Due 0 1000000000000&&ar n.Settled (-1000000000000) 1000000000000
theorem DA (n:GNotice):jw n = some (lz n):=by
 rw [tG]
 simp only [vQ,Option.bind_some]
 unfold lz
 cases ar n.Person 1 99 <;> cases ar n.Month 0 2399 <;> cases ar n.Due 0 1000000000000 <;> cases ar n.Settled (-1000000000000) 1000000000000 <;> rfl
def mw (n:GNotice):List Int:=am n.Person 1++(am n.Month 2++(am n.Due 5++am (ac (n.Settled+1000000000000)) 6))
theorem p8 (n:GNotice):lH n = some (if lz n = true then (mw n,true) else ([],false)):=by
 rw [Aw]
 simp only [lJ,zj,Option.bind_some,Mw,Ex,OV,RW]
 rw [o3 _ (by simp [av]) (by simp),Option.bind_some]
 unfold lz mw
 cases ar n.Person 1 99 <;> cases ar n.Month 0 2399 <;> cases ar n.Due 0 1000000000000 <;> cases ar n.Settled (-1000000000000) 1000000000000 <;> simp
def ju (b:List Int):GNotice:=⟨gD b 0 0,aC (af b 1 2),aC (af b 3 5),ac (aC (af b 8 6) - 1000000000000)⟩
def rV (b:List Int):GNotice × Bool:=if b.length = 14∧lz (ju b) = true then (ju b,true) else (⟨0,0,0,0⟩,false)
theorem yf {b:List Int} (hb:aG b) (hB:b.length≤1000000000000):oq b = some (rV b):=by
 rw [yu]
 unfold rV
 by_cases h9:b.length = 14
 ·have n0:=nx (n:=1) 0 hb (by omega) (by omega) hB
  have n1:=nx (n:=2) 1 hb (by omega) (by omega) hB
  have n3:=nx (n:=5) 3 hb (by omega) (by omega) hB
  have n8:=nx (n:=6) 8 hb (by omega) (by omega) hB
  simp only [Int.cast_ofNat_Int,List.drop_zero] at n0 n1 n3 n8
  rw [bQ.2 (by omega),cond_false]
  simp only [n0,n1,n3,n8,Option.bind_some,Nat.zero_add,Nat.reduceAdd,DA]
  rw [uN (by omega)]
  show (bif !lz (ju b) then some (⟨0,0,0,0⟩,false) else some (ju b,true)) = _
  cases lz (ju b) with
  | false=>simp
  | true=>simp [h9]
 ·rw [bS.2 (by omega),cond_true,if_neg (fun h=>h9 h.1)]
theorem B1 {b:List Int} (hb:aG b):sq b = some (rV b):=by
 rw [CP]
 unfold rV
 by_cases h9:b.length = 14
 ·have e:=CZ (b:=b) (i:=8) (n:=6) (by omega)
  simp only [Int.cast_ofNat_Int] at e
  rw [bQ.2 (by omega),cond_false,ab (by omega),ab (by omega),bE (hb.sub 1 2) (Nat.le_trans cN (by omega)),Option.bind_some,ab (by omega),bE (hb.sub 3 5) (Nat.le_trans cN (by omega)),Option.bind_some,ab (by omega),ab (by omega),e,
   bE (hb.sub 8 6) (Nat.le_trans cN (by omega)),Option.bind_some,AY hb,p8,Option.bind_some]
  show (bif !(if lz (ju b) = true then (mw (ju b),true) else ([],false)).2 then some (⟨0,0,0,0⟩,false) else some (ju b,true)) = _
  cases lz (ju b) with
  | false=>simp
  | true=>simp [h9]
 ·rw [bS.2 (by omega),cond_true,if_neg (fun h=>h9 h.1)]
def lI (kind sender:Int) (b:List Int):Bool :=
 if kind = 1 then (lq b).2&&ak (lq b).1.Issuer sender else if kind = 2 then (jS b).2&&ak (jS b).1.Issuer sender else if kind = 3 then (pn b).2 else
 if kind = 4 then (BW b).2&&aV (BW b).1.To sender else if kind = 5 then (rV b).2 else false
theorem QC (k n:Int):ak k n = decide (k = n):=by
 by_cases h:k = n
 ·rw [aY.2 h,decide_eq_true h]
 ·rw [eF.2 h,decide_eq_false h]
theorem GN {d:GDocument} (hb:aG d.Body) (hB:d.Body.length≤1000000000000):im d = some (lI d.Kind d.Sender d.Body):=by
 rw [vH,qW hb hB,qi hb hB,wB hb hB,tr hb hB,yf hb hB]
 simp only [Option.bind_some,cc,QC d.Kind]
 unfold lI
 by_cases h1:d.Kind = 1
 ·simp [h1]
 by_cases h2:d.Kind = 2
 ·simp [h2]
 by_cases h3:d.Kind = 3
 ·simp [h3]
 by_cases h4:d.Kind = 4
 ·simp [h4]
 by_cases h5:d.Kind = 5
 ·simp [h5]
 ·simp [h1,h2,h3,h4,h5]
theorem Fo {b:List Int} (k s:Int) (hb:aG b) (hB:b.length≤1000000000000):rQ k s b = some (lI k s b):=by
 rw [Gx,vh hb hB,ua hb,AB hb,wu hb,B1 hb]
 simp only [Option.bind_some,cc,QC k]
 unfold lI
 by_cases h1:k = 1
 ·simp [h1]
 by_cases h2:k = 2
 ·simp [h2]
 by_cases h3:k = 3
 ·simp [h3]
 by_cases h4:k = 4
 ·simp [h4]
 by_cases h5:k = 5
 ·simp [h5]
 ·simp [h1,h2,h3,h4,h5]
def bT (d:GDocument):Bool:=ar d.Sender 0 5&&ar d.Number 1 999&&(aa (1 < d.Number)||ak d.Prev 0)&&lI d.Kind d.Sender d.Body
theorem qn {d:GDocument} (hb:aG d.Body) (hB:d.Body.length≤1000000000000):fP d = some (bT d):=by
 rw [Aq,vQ,vQ,GN hb hB]
 simp only [Option.bind_some]
 unfold bT
 cases ar d.Sender 0 5 <;> cases ar d.Number 1 999 <;> cases aa (1 < d.Number) <;> cases ak d.Prev 0 <;> simp
theorem tq {d:GDocument} (hb:aG d.Body) (hB:d.Body.length≤1000000000000):j7 d = some (bT d):=by
 rw [uR,lJ,lJ,Fo _ _ hb hB]
 simp only [Option.bind_some]
 unfold bT
 cases ar d.Sender 0 5 <;> cases ar d.Number 1 999 <;> cases aa (1 < d.Number) <;> cases ak d.Prev 0 <;> simp
theorem ez {d:GDocument}:bT d = true↔(0≤d.Sender∧d.Sender≤5)∧(1≤d.Number∧d.Number≤999)∧(1 < d.Number∨d.Prev = 0)∧lI d.Kind d.Sender d.Body = true:=by
 unfold bT
 simp only [Bool.and_eq_true,uM,Bool.or_eq_true,aa,decide_eq_true_eq,aY,and_assoc]
theorem rn {k s:Int} {b:List Int} (h:lI k s b = true):1≤k∧k≤5:=by
 unfold lI at h
 repeat' split at h
 all_goals first | omega | cases h
theorem yp {k s:Int} {b:List Int} (hb:aG b) (h:lI k s b = true):b.length≤43:=by
 unfold lI at h
 have one:∀ {α:Type} {p q:α × Bool} {n:Nat} {c:Prop} [Decidable c],(if b.length = n∧c then p else q).2 = true→q.2 = false→b.length = n:=by
  intro α p q n c _ h hq
  split at h
  ·next hc=>exact hc.1
  ·rw [hq] at h;cases h
 split at h
 ·rw [Bool.and_eq_true] at h
  have e:lq b = ((lq b).1,true):=by rw [← h.1]
  have:=(Lt hb e).2
  rw [← this]
  exact (wH _).2
 split at h
 ·rw [Bool.and_eq_true] at h
  have:=one (h.1:(jS b).2 = true) rfl
  omega
 split at h
 ·have:=one (h:(pn b).2 = true) rfl
  omega
 split at h
 ·rw [Bool.and_eq_true] at h
  have:=one (h.1:(BW b).2 = true) rfl
  omega
 split at h
 ·have:=one (h:(rV b).2 = true) rfl
  omega
 ·cases h
end Go.Ax
set_option linter.all false
/- Encodings of documents: both texts write and read the same. -/
set_option maxRecDepth 100000
namespace Go.Ax
def EA:GDocument:=⟨0,0,0,0,[]⟩
def jd (d:GDocument):List Int:=[68,d.Kind,d.Sender]++(am d.Number 2++(am d.Prev 4++(am (d.Body.length:Int) 2++d.Body)))
def fg (d:GDocument):List Int:=jd d++am (kL (jd d)) 4
theorem sZ (d:GDocument):(jd d).length = d.Body.length+11:=by simp [jd,av];omega
theorem Bu (d:GDocument):(fg d).length = d.Body.length+15:=by unfold fg;rw [List.length_append,sZ,av]
theorem Fl {d:GDocument} (h:bT d = true) (hb:aG d.Body):aG (jd d):=by
 obtain ⟨h1,h2,h3,h4⟩:=ez.1 h
 have hk:=rn h4
 unfold jd
 exact bC.2 ⟨cT.2 ⟨by omega,cT.2 ⟨by omega,cT.2 ⟨by omega,pl⟩⟩⟩,bC.2 ⟨aW _ _,bC.2 ⟨aW _ _,bC.2 ⟨aW _ _,hb⟩⟩⟩⟩
theorem Fp {d:GDocument} (h:bT d = true) (hb:aG d.Body):aG (fg d):=bC.2 ⟨Fl h hb,aW _ _⟩
def kA (d:GDocument):Prop:=aG d.Body∧0≤d.Prev∧d.Prev < 4294967296
theorem mL {d:GDocument} (h:kA d) (hB:d.Body.length≤1000000):gq d = some (if bT d = true then (fg d,0) else ([],1)):=by
 obtain ⟨hb,hp0,hp1⟩:=h
 rw [Dq,tq hb (by omega),Option.bind_some]
 cases hv:bT d with
 | false=>rfl
 | true =>
  obtain ⟨h1,h2,h3,h4⟩:=ez.1 hv
  have hk:=rn h4
  rw [show (!true) = false from rfl,cond_false,Ex,Option.bind_some,aA (by omega) (by omega),Q8,Option.bind_some,Ex,Option.bind_some,Ch (by omega) (by omega),Ch (by omega) (by omega),o3 _ (by simp [av];omega) (by simp),Option.bind_some]
  have e:[[68,d.Kind,d.Sender],am d.Number 2,am d.Prev 4,am (d.Body.length:Int) 2,d.Body].flatten = jd d:=by
   unfold jd;simp
  have hc:=BG (jd d)
  rw [e,yX (Fl hv hb) (by rw [sZ];omega),Option.bind_some,aA (by omega) (by omega),Q8,Option.bind_some,o3 _ (by simp [av,sZ];omega) (by simp),Option.bind_some]
  simp [fg]
theorem oM {d:GDocument} (h:kA d) (hB:d.Body.length≤1000000):kz d = some (if bT d = true then (fg d,0) else ([],1)):=by
 obtain ⟨hb,hp0,hp1⟩:=h
 rw [yA,qn hb (by omega),Option.bind_some]
 cases hv:bT d with
 | false=>rfl
 | true =>
  obtain ⟨h1,h2,h3,h4⟩:=ez.1 hv
  have hk:=rn h4
  have n2:∀ v b,b.length≤100→aS v 2 b = some (b++am v 2):=fun v b hb=>nS v (n:=2) (by omega) b (by omega)
  have n4:∀ v b,b.length≤2000000→aS v 4 b = some (b++am v 4):=fun v b hb=>nS v (n:=4) (by omega) b (by omega)
  have hc:=BG (jd d)
  rw [show (!true) = false from rfl,cond_false,Ch (by omega) (by omega),Ch (by omega) (by omega),n2 _ _ (by simp),Option.bind_some,aA (by omega) (by omega),n4 _ _ (by simp [av]),Option.bind_some,n2 _ _ (by simp [av]),Option.bind_some]
  have e:[68,d.Kind,d.Sender]++am d.Number 2++am d.Prev 4++am (d.Body.length:Int) 2++d.Body = jd d:=by
   unfold jd;simp
  have hl:([68,d.Kind,d.Sender]++am d.Number 2++am d.Prev 4++am (d.Body.length:Int) 2).length = 11:=by simp [av]
  rw [ab (by rw [hl];omega),ab (by rw [hl];omega),e,iV (Fl hv hb) (by rw [sZ];omega),Option.bind_some,aA (by omega) (by omega),n4 _ _ (by rw [sZ];omega),Option.bind_some]
  rfl
def ap (b:List Int):GDocument:=⟨gD b 2 0,aC (af b 3 2),gD b 1 0,aC (af b 5 4),af b 11 (b.length - 15)⟩
def dl (b:List Int):Bool:=aa (15≤b.length)&&(ak (gD b 0 0) 68&&(ak (aC (af b 9 2)) ((b.length:Int) - 15)&&(ak (aC (b.drop (b.length - 4))) (kL (b.take (b.length - 4)))&&bT (ap b))))
def pe (b:List Int):GDocument × Int:=if dl b = true then (ap b,0) else (EA,11)
theorem Bd {b:List Int} (hb:aG b):kA (ap b):=by
 refine ⟨hb.sub _ _, ?_⟩
 exact lF (hb.sub 5 4) (n:=4) cN (by decide)
theorem PQ (b:List Int) {i n j m:Nat} (h:j+m≤n):af (af b i n) j m = af b (i+j) m:=by
 unfold af
 rw [List.drop_take,List.take_take,List.drop_drop]
 congr 1
 omega
theorem lA {b:List Int} (h:dl b = false):pe b = (EA,11):=by unfold pe;rw [h,if_neg (by simp)]
theorem nX {b:List Int} (h:b.length≤140737488355328):fN b = some b:=by
 show zC b = some b
 unfold zC
 exact ab h
theorem oS {b:List Int} (hb:aG b) (hB:b.length≤140737488355328):iA b = some (pe b):=by
 rw [y3]
 by_cases h15:15≤b.length
 ·rw [aX (by omega),cond_false,ab (by omega)]
  have hs:=hb.sub 1 10
  have hsl:(af b 1 10).length = 10:=by unfold af;rw [List.length_take,List.length_drop];omega
  have n0:=nx (n:=1) 0 hs (by omega) (by omega) (by omega)
  have n1:=nx (n:=1) 1 hs (by omega) (by omega) (by omega)
  have n2:=nx (n:=2) 2 hs (by omega) (by omega) (by omega)
  have n4:=nx (n:=4) 4 hs (by omega) (by omega) (by omega)
  have n8:=nx (n:=2) 8 hs (by omega) (by omega) (by omega)
  rw [PQ b (by omega)] at n0 n1 n2 n4 n8
  simp only [Int.cast_ofNat_Int,List.drop_zero,Nat.zero_add,Nat.reduceAdd] at n0 n1 n2 n4 n8
  have hw:ac ((b.length:Int) - 4) = ((b.length - 4:Nat):Int):=by rw [aA (by omega) (by omega)];omega
  have e1:af b 11 (((b.length - 4:Nat):Int) - 11).toNat = af b 11 (b.length - 15):=by congr 1;omega
  have hbl:(af b 11 (b.length - 15)).length = b.length - 15:=by unfold af;rw [List.length_take,List.length_drop];omega
  rw [n0,Option.bind_some,n1,Option.bind_some,n2,Option.bind_some,n4,Option.bind_some,hw,ab (by omega),ab (by omega),e1,nX (by omega),Option.bind_some,ab (by omega),ab (by omega),ab (by omega),ab (by omega),uN (by omega),uN (by omega)]
  by_cases h0:gD b 0 0 = 68
  ·rw [bQ.2 h0,cond_false,n8,Option.bind_some,hbl]
   by_cases h9:aC (af b 9 2) = ((b.length - 15:Nat):Int)
   ·have hr:=lF (hb.sub 9 2) (n:=2) cN (B:=65536) (by decide)
    have hlen:b.length≤65550:=by omega
    rw [bQ.2 h9,cond_false]
    have e2:af b ((b.length - 4:Nat):Int).toNat ((b.length:Int) - ((b.length - 4:Nat):Int)).toNat = b.drop (b.length - 4):=by
     rw [jI b (by omega) (by omega),Int.toNat_natCast]
    have hdl:(b.drop (b.length - 4)).length = 4:=by rw [List.length_drop];omega
    have t4:=Bt (n:=4) (hb.drop (b.length - 4)) (by omega) (by omega) (by omega)
    simp only [Int.cast_ofNat_Int] at t4
    rw [e2,t4,Option.bind_some,Bool.false_or,Bool.false_or,ab (by omega),ab (by omega),wY b (by omega),Int.toNat_natCast,iV (hb.take _) (by rw [List.length_take];omega),Option.bind_some,List.take_of_length_le (by omega)]
    have h4:=lF (hb.drop (b.length - 4)) (n:=4) (by omega) (B:=4294967296) (by decide)
    have hp:=lF (hb.sub 5 4) (n:=4) cN (B:=4294967296) (by decide)
    show (bif aV (IntKind.wrap .u32 (aC (b.drop (b.length - 4)))) (kL (b.take (b.length - 4))) then _ else _) = _
    rw [fw h4.1 h4.2,fw hp.1 hp.2]
    by_cases hc:aC (b.drop (b.length - 4)) = kL (b.take (b.length - 4))
    ·rw [bQ.2 hc,cond_false]
     have hv:fP (ap b) = some (bT (ap b)):=qn (hb.sub _ _) (by show (af b 11 _).length≤_;omega)
     show ((fP (ap b)).bind fun r8=>bif !r8 then some (EA,11) else some (ap b,0)) = _
     rw [hv,Option.bind_some]
     unfold pe dl
     rw [aT h15,aY.2 h0,aY.2 (show aC (af b 9 2) = (b.length:Int) - 15 by omega),aY.2 hc]
     cases bT (ap b) <;> rfl
    ·rw [bS.2 hc,cond_true,lA]
     ·rfl
     ·unfold dl;rw [eF.2 hc];simp
   ·rw [bS.2 h9,cond_true,lA]
    ·rfl
    ·unfold dl;rw [eF.2 (show aC (af b 9 2)≠(b.length:Int) - 15 by omega)];simp
  ·rw [bS.2 h0,cond_true,lA]
   ·rfl
   ·unfold dl;rw [eF.2 h0];simp
 ·rw [aT (by omega),cond_true,lA]
  ·rfl
  ·unfold dl;rw [aX h15];rfl
theorem Pc {b:List Int} (hb:aG b) (h15:15≤b.length) (h0:gD b 0 0 = 68) (h9:aC (af b 9 2) = (b.length:Int) - 15):jd (ap b) = b.take (b.length - 4):=by
 have e:b.take (b.length - 4) = b.take 3++(af b 3 2++(af b 5 4++(af b 9 2++af b 11 (b.length - 15)))):=by
  rw [show b.length - 4 = 3+(2+(4+(2+(b.length - 15)))) by omega,List.take_add,List.take_add,List.take_add,List.take_add,List.drop_drop,List.drop_drop,List.drop_drop]
  rfl
 have l2:∀ i,i+2≤b.length→(af b i 2).length = 2:=fun i hi=>by unfold af;rw [List.length_take,List.length_drop];omega
 have l4:(af b 5 4).length = 4:=by unfold af;rw [List.length_take,List.length_drop];omega
 have b2:∀ i,i+2≤b.length→am (aC (af b i 2)) 2 = af b i 2:=fun i hi=>by
  have:=mQ (hb.sub i 2);rwa [l2 i hi] at this
 have b4:am (aC (af b 5 4)) 4 = af b 5 4:=by have:=mQ (hb.sub 5 4);rwa [l4] at this
 have hbl:((af b 11 (b.length - 15)).length:Int) = aC (af b 9 2):=by unfold af at *; rw [List.length_take,List.length_drop];omega
 have e3:b.take 3 = [gD b 0 0,gD b 1 0,gD b 2 0]:=by
  match b,h15 with
  | a0 :: a1 :: a2 :: r,_=>rfl
 rw [e,e3,h0]
 unfold jd ap
 simp only
 rw [b2 3 (by omega),b4,hbl,b2 9 (by omega)]
theorem KE {b:List Int} (hb:aG b) (h15:15≤b.length) (h0:gD b 0 0 = 68) (h9:aC (af b 9 2) = (b.length:Int) - 15):fg (ap b) = b↔aC (b.drop (b.length - 4)) = kL (b.take (b.length - 4)):=by
 have hp:=Pc hb h15 h0 h9
 have hdl:(b.drop (b.length - 4)).length = 4:=by rw [List.length_drop];omega
 unfold fg
 rw [hp]
 have hc:=BG (b.take (b.length - 4))
 constructor
 ·intro h
  have h1:b.take (b.length - 4)++am (kL (b.take (b.length - 4))) 4 = b.take (b.length - 4)++b.drop (b.length - 4):=by rw [h,List.take_append_drop]
  have h2:=List.append_cancel_left h1
  rw [← h2,oZ]
  show kL (b.take (b.length - 4)) % 4294967296 = _
  omega
 ·intro h
  have:=mQ (hb.drop (b.length - 4))
  rw [hdl] at this
  rw [← h,this,List.take_append_drop]
theorem k7 {b:List Int} (hb:aG b):dl b = true↔15≤b.length∧gD b 0 0 = 68∧aC (af b 9 2) = (b.length:Int) - 15∧fg (ap b) = b∧bT (ap b) = true:=by
 unfold dl
 simp only [Bool.and_eq_true,aa,decide_eq_true_eq,aY]
 constructor
 ·rintro ⟨h1,h2,h3,h4,h5⟩
  exact ⟨h1,h2,h3,(KE hb h1 h2 h3).2 h4,h5⟩
 ·rintro ⟨h1,h2,h3,h4,h5⟩
  exact ⟨h1,h2,h3,(KE hb h1 h2 h3).1 h4,h5⟩
theorem Bk {b:List Int} (hb:aG b) (hB:b.length≤9223372036854775807):sX b = some (pe b):=by
 rw [Cx]
 by_cases h15:15≤b.length
 ·rw [aX (by omega),cond_false,ab (by omega),bE (hb.sub 9 2) (Nat.le_trans cN (by omega)),Option.bind_some,aA (by omega) (by omega)]
  by_cases h9:aC (af b 9 2) = (b.length:Int) - 15
  ·have hr:=lF (hb.sub 9 2) (n:=2) cN (B:=65536) (by decide)
   have hlen:b.length≤65550:=by omega
   rw [bQ.2 h9.symm,cond_false,ab (by omega)]
   by_cases h0:gD b 0 0 = 68
   ·have hw:ac ((b.length:Int) - 4) = ((b.length - 4:Nat):Int):=by rw [aA (by omega) (by omega)];omega
    have e1:af b 11 (((b.length - 4:Nat):Int) - 11).toNat = af b 11 (b.length - 15):=by congr 1;omega
    have hbl:(af b 11 (b.length - 15)).length = b.length - 15:=by unfold af;rw [List.length_take,List.length_drop];omega
    have hp:=lF (hb.sub 5 4) (n:=4) cN (B:=4294967296) (by decide)
    rw [bQ.2 h0,cond_false,ab (by omega),ab (by omega),ab (by omega),bE (hb.sub 3 2) (Nat.le_trans cN (by omega)),Option.bind_some,ab (by omega),bE (hb.sub 5 4) (Nat.le_trans cN (by omega)),Option.bind_some,hw,ab (by omega),ab (by omega),e1,ab (by omega),ab (by omega),fw hp.1 hp.2,AY hb,AY hb]
    have he:gq (ap b) = _:=mL (Bd hb) (by show (af b 11 _).length≤_;omega)
    show ((gq (ap b)).bind fun r3=>bif (bif (aV r3.2 0) then true else (!(n7 (aZ r3.1) (aZ b)))) then some (EA,11) else some (ap b,0)) = _
    rw [he,Option.bind_some]
    cases hv:bT (ap b) with
    | false =>
     rw [lA]
     ·rfl
     ·unfold dl;rw [hv];simp
    | true =>
     rw [if_pos rfl]
     show (bif (bif (aV 0 0) then true else (!(n7 (aZ (fg (ap b))) (aZ b)))) then some (EA,11) else some (ap b,0)) = _
     rw [qv (Fp hv (hb.sub _ _)) hb]
     by_cases hc:fg (ap b) = b
     ·rw [decide_eq_true hc]
      unfold pe
      rw [if_pos ((k7 hb).2 ⟨h15,h0,h9,hc,hv⟩)]
      rfl
     ·rw [decide_eq_false hc,lA]
      ·rfl
      ·cases hd:dl b with
       | false=>rfl
       | true=>exact absurd ((k7 hb).1 hd).2.2.2.1 hc
   ·rw [bS.2 h0,cond_true,lA]
    ·rfl
    ·unfold dl;rw [eF.2 h0];simp
  ·rw [bS.2 (fun h=>h9 h.symm),cond_true,lA]
   ·rfl
   ·unfold dl;rw [eF.2 h9];simp
 ·rw [aT (by omega),cond_true,lA]
  ·rfl
  ·unfold dl;rw [aX h15];rfl
theorem PN {b:List Int} (hb:aG b) (h:(pe b).2 = 0):dl b = true∧(pe b).1 = ap b:=by
 unfold pe at h ⊢
 split at h
 ·next hd=>exact ⟨hd,by rw [if_pos hd]⟩
 ·cases h
theorem PR {d:GDocument} (hv:bT d = true) (hd:kA d):pe (fg d) = (d,0):=by
 obtain ⟨h1,h2,h3,h4⟩:=ez.1 hv
 have hk:=rn h4
 have hl:=yp hd.1 h4
 have hlen:=Bu d
 have hb:=Fp hv hd.1
 have n2:∀ v:Int,0≤v→v < 65536→aC (am v 2) = v:=fun v h0 h1=>by rw [oZ];show v % 65536 = v;omega
 have n4:∀ v:Int,0≤v→v < 4294967296→aC (am v 4) = v:=fun v h0 h1=>by rw [oZ];show v % 4294967296 = v;omega
 have form:fg d = 68 :: d.Kind :: d.Sender :: (am d.Number 2++(am d.Prev 4++(am (d.Body.length:Int) 2++(d.Body++am (kL (jd d)) 4)))):=by
  unfold fg jd;simp
 have a2:∀ (v:Int) (r:List Int),(am v 2++r).take 2 = am v 2:=fun v r=>List.take_left' (av v 2)
 have d2:∀ (v:Int) (r:List Int),(am v 2++r).drop 2 = r:=fun v r=>List.drop_left' (av v 2)
 have a4:∀ (v:Int) (r:List Int),(am v 4++r).take 4 = am v 4:=fun v r=>List.take_left' (av v 4)
 have d4:∀ (v:Int) (r:List Int),(am v 4++r).drop 4 = r:=fun v r=>List.drop_left' (av v 4)
 have x3:(fg d).drop 3 = am d.Number 2++(am d.Prev 4++(am (d.Body.length:Int) 2++(d.Body++am (kL (jd d)) 4))):=by rw [form];rfl
 have x5:(fg d).drop 5 = am d.Prev 4++(am (d.Body.length:Int) 2++(d.Body++am (kL (jd d)) 4)):=by
  rw [show 5 = 3+2 from rfl, ← List.drop_drop,x3,d2]
 have x9:(fg d).drop 9 = am (d.Body.length:Int) 2++(d.Body++am (kL (jd d)) 4):=by
  rw [show 9 = 5+4 from rfl, ← List.drop_drop,x5,d4]
 have x11:(fg d).drop 11 = d.Body++am (kL (jd d)) 4:=by
  rw [show 11 = 9+2 from rfl, ← List.drop_drop,x9,d2]
 have e:ap (fg d) = d:=by
  unfold ap af
  rw [x3,x5,x11,a2,a4,n2 _ (by omega) (by omega),n4 _ hd.2.1 hd.2.2,hlen,show d.Body.length+15 - 15 = d.Body.length by omega,List.take_left' rfl,form]
  rfl
 have hdec:dl (fg d) = true:=(k7 hb).2 ⟨by omega,by rw [form];rfl,by unfold af;rw [x9,a2,n2 _ (by omega) (by omega),hlen];omega,by rw [e],by rw [e];exact hv⟩
 unfold pe
 rw [if_pos hdec,e]
end Go.Ax
