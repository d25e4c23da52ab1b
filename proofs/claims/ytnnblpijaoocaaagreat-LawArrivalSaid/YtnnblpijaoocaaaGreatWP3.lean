import Derived.Test.YtnnblpijaoocaaaGreatWP2
set_option linter.all false
/- The reading of statutes ends. -/
set_option maxRecDepth 100000
namespace Go.Ax
abbrev Rd:=GPensionref5_reader
def RI (r:Rd):Prop:=0≤r.at_∧r.at_≤(r.l.length:Int)∧r.l.length≤8000∧∀ t∈r.l,sa t
structure RN (r r':Rd):Prop where
  ok:RI r'
  l:r'.l = r.l
  le:r.at_≤r'.at_
  bad:r.bad = true→r'.bad = true
def PG (r r':Rd):Prop:=r'.bad = true∨r.at_ < r'.at_
theorem RN.refl {r:Rd} (h:RI r):RN r r:=⟨h,rfl,Int.le_refl _,fun h=>h⟩
theorem RN.trans {a b c:Rd} (h:RN a b) (h':RN b c):RN a c:=⟨h'.ok,h'.l.trans h.l,Int.le_trans h.le h'.le,fun hb=>h'.bad (h.bad hb)⟩
theorem PG.right {a b c:Rd} (h:PG a b) (h':RN b c):PG a c:=h.elim (fun hb=>.inl (h'.bad hb)) fun hl=>.inr (Int.lt_of_lt_of_le hl h'.le)
theorem PG.left {a b c:Rd} (h':RN a b) (h:PG b c):PG a c:=h.elim .inl fun hl=>.inr (Int.lt_of_le_of_lt h'.le hl)
theorem zR {r:Rd} (h:RI r) (hlt:r.at_ < (r.l.length:Int)):RN r ⟨r.l,ac (r.at_+1),r.end_,r.bad⟩∧ac (r.at_+1) = r.at_+1:=by
 obtain ⟨h1,h2,h3,h4⟩:=h
 have e:ac (r.at_+1) = r.at_+1:=al (by omega) (by omega)
 refine ⟨⟨⟨?_, ?_,h3,h4⟩,rfl, ?_,fun h=>h⟩,e⟩
 ·show 0≤ac (r.at_+1);omega
 ·show ac (r.at_+1)≤_;rw [e];show r.at_+1≤(r.l.length:Int);omega
 ·show r.at_≤ac (r.at_+1);omega
theorem KG {r:Rd} {b:Bool} (h:((bif (!r.bad) then aa (r.at_ < (r.l.length:Int)) else false)&&true) = true):r.bad = false∧r.at_ < (r.l.length:Int):=by
 simpa [fW] using h
theorem Ca {r:Rd} (h:RI r) (s:ByteArray):En (fun b=>b = true→r.bad = false∧r.at_ < (r.l.length:Int)) (eH r s):=by
 rw [zA]
 refine En.go (fun g=>h.1) (En.go (fun g=>(KG (b:=true) g).2) (.some fun hb=>?_))
 simp only [fW,Bool.and_eq_true,Bool.not_eq_true',decide_eq_true_eq] at hb
 exact hb.1
theorem pY {r:Rd} (h:RI r) (k:Int):En (fun b=>b = true→r.bad = false∧r.at_ < (r.l.length:Int)∧(gD r.l r.at_.toNat (zS .GToken)).Kind = k) (cV r k):=by
 rw [wF]
 refine En.go (fun g=>h.1) (En.go (fun g=>(KG (b:=true) g).2) (.some fun hb=>?_))
 simp only [fW,Bool.and_eq_true,Bool.not_eq_true',decide_eq_true_eq] at hb
 exact ⟨hb.1.1,hb.1.2,cF.1 hb.2⟩
theorem fp {r:Rd} (h:RI r) (s:ByteArray):En (fun y=>RN r y.2∧(y.1 = true→r.at_ < y.2.at_)∧(y.1 = false→y.2 = r)) (aL s r):=by
 rw [wM]
 refine En.bind (Ca h s) fun b hb=>En.not (fun _=>.some ⟨.refl h,fun h=>(by cases h),fun _=>rfl⟩) fun ht=>?_
 obtain ⟨g1,g2⟩:=zR h (hb ht).2
 exact .some ⟨g1,fun _=>by show r.at_ < ac (r.at_+1);omega,fun h=>by cases h⟩
theorem l7 {r:Rd} (h:RI r):En (fun y=>RN r y∧PG r y) (aV r):=by
 rw [wE]
 exact .some ⟨⟨h,rfl,Int.le_refl _,fun _=>rfl⟩, .inl rfl⟩
theorem cH {r:Rd} (h:RI r) (s:ByteArray):En (fun y=>RN r y∧PG r y) (ay s r):=by
 rw [wH]
 refine En.bind (fp h s) fun y hy=>En.not (fun _=>En.bind (l7 hy.1.ok) fun z hz=>.some ⟨hy.1.trans hz.1, .left hy.1 hz.2⟩) fun ht=>.some ⟨hy.1, .inr (hy.2.1 ht)⟩
theorem xA {r:Rd} (h:RI r) (hlt:r.at_ < (r.l.length:Int)):sa (gD r.l r.at_.toNat (zS .GToken)):=h.2.2.2 _ (oL h.1 hlt)
theorem Ed {r:Rd} (h:RI r):En (fun y=>RN r y.2∧y.1.size≤8000) (ga r):=by
 rw [wO]
 refine En.bind (pY h 1) fun b hb=>En.go (fun _=>h.1) (En.go (fun g=>(hb (by simpa using g)).2.1) (En.not (fun _=>En.bind (l7 h) fun z hz=>.some ⟨hz.1,by rw [ao];simp⟩) fun hk=>?_))
 have hlt:=(hb hk).2.1
 have ht:=xA h hlt
 refine En.bind (sH _ (by have:=ht.1;omega)) fun _ _=>En.not (fun _=>En.bind (l7 h) fun z hz=>.some ⟨hz.1,by rw [ao];simp⟩) fun _=>?_
 obtain ⟨g1,g2⟩:=zR h hlt
 have e:ac (ac (r.at_+1) - 1) = r.at_:=by have:=h.1;rw [g2,al (by omega) (by have:=h.2.1;have:=h.2.2.1;omega)];omega
 rw [e]
 exact En.gd h.1 (En.gd hlt (.some ⟨g1,ht.1⟩))
theorem oH {r:Rd} (h:RI r) (a b:Int):En (fun y=>RN r y.2) (dj a b r):=by
 rw [vV]
 have hs:En (fun y=>RN r y.2) ((aV r).bind fun r2=>some ((0:Int),r2)):=En.bind (l7 h) fun z hz=>.some hz.1
 refine En.bind (pY h 2) fun c hc=>En.bif (fun hk=>?_) fun _=>hs
 have hlt:=(hc hk).2.1
 exact En.gd h.1 (En.gd hlt (En.bind (uC _ (xA h hlt).1) fun v _=>En.bif (fun _=>.some (zR h hlt).1) fun _=>hs))
theorem GE {r:Rd} (h:RI r) (w:Int) (h1:1≤w) (h2:w≤3):En (fun y=>RN r y.2) (fP w r):=by
 rw [zO,al (n:=w - 1) (by omega) (by omega)]
 have hs:En (fun y=>RN r y.2) ((aV r).bind fun r2=>some ((0:Int),r2)):=En.bind (l7 h) fun z hz=>.some hz.1
 refine En.bind (pY h 1) fun c hc=>En.bif (fun hk=>?_) fun _=>hs
 have hlt:=(hc hk).2.1
 exact En.gd h.1 (En.gd hlt (En.bind (KN _) fun _ _=>En.bind (BK _) fun _ _=>En.bind (Kx _) fun _ _=>En.gd (by omega) (En.gd (by omega) (En.bif (fun _=>.some (zR h hlt).1) fun _=>hs))))
theorem EO {r:Rd} (h:RI r) (n:Int):En (fun op=>op≠0→r.bad = false∧r.at_ < (r.l.length:Int)) (ki r n):=by
 rw [tl]
 have key:∀ (k:Nat) (op:Int),19 - op≤k→0≤op→En (fun op=>op≠0→r.bad = false∧r.at_ < (r.l.length:Int)) (dx r n op):=by
  intro k
  induction k with
  | zero =>
   intro op h0 h1
   rw [jW]
   exact En.ifd (fun h=>by omega) fun _=>.some fun h=>absurd rfl h
  | succ k ih =>
   intro op h0 h1
   rw [jW]
   refine En.ifd (fun h2=>?_) fun _=>.some fun h=>absurd rfl h
   rw [al (by omega) (by omega)]
   have g:=ih (op+1) (by omega) (by omega)
   exact En.bind (OW _) fun _ _=>En.bif (fun _=>En.bind (MD _) fun _ _=>En.bind (Ca h _) fun b hb=>En.bif (fun ht=>.some fun _=>hb ht) fun _=>g) fun _=>g
 exact key 20 7 (by omega) (by omega)
theorem pm.of {op:Int} {v:GFraction} {d:Int} {nm:ByteArray} {l:List GExpr} (h1:nm.size≤8000) (h2:l.length≤3) (h3:∀ a∈l,pm a):pm ⟨op,v,d,nm,l⟩:=.mk _ h1 h2 h3
theorem ja:(ab []).size≤8000:=by rw [ao];simp
def PX (y:GExpr × Rd) (r:Rd):Prop:=pm y.1∧RN r y.2
def left (n:Int) (r:Rd):Nat:=(10*((r.l.length:Int) - r.at_)+(9 - n)).toNat
theorem PU {n m:Int} {r r':Rd} (h:RI r) (hn:RN r r') (h1:r.at_ < r'.at_) (hm:0≤m) (hn9:n≤8):left m r' < left n r:=by
 unfold left
 rw [hn.l]
 have:=h.2.1
 have:=hn.ok.2.1
 rw [hn.l] at this
 omega
theorem QA {n:Int} {r r':Rd} (h:RI r) (hn:RN r r') (h9:n≤7):left (n+1) r' < left n r:=by
 unfold left
 rw [hn.l]
 have:=hn.le
 have:=hn.ok.2.1
 rw [hn.l] at this
 omega
theorem Qn:∀ (N:Nat) (n:Int) (r:Rd),left n r < N→0≤n→n≤7→RI r→En (fun y=>PX y r) (aB n r):=by
 intro N
 induction N with
 | zero=>intro n r h;omega
 | succ N ih =>
  intro n r hN h0 h7 hr
  have sub:∀ (m:Int) (r':Rd),RN r r'→r.at_ < r'.at_→0≤m→m≤7→En (fun y=>PX y r') (aB m r'):=fun m r' hn hl hm0 hm7 =>
   ih m r' (by have:=PU (n:=n) hr hn hl hm0 (by omega);omega) hm0 hm7 hn.ok
  have nxt:∀ (r':Rd),RN r r'→n≤6→En (fun y=>PX y r') (aB (n+1) r'):=fun r' hn h6 =>
   ih (n+1) r' (by have:=QA (n:=n) hr hn h7;omega) (by omega) (by omega) hn.ok
  have call:∀ (op:Int),r.at_ < (r.l.length:Int)→En (fun y=>PX y r) (fY op r):=by
   intro op hlt
   obtain ⟨a1,a2⟩:=zR hr hlt
   have hl1:r.at_ < ac (r.at_+1):=by omega
   rw [wV]
   refine En.bind (cH a1.ok _) fun r0 w0=>En.bind (sub 0 r0 (a1.trans w0.1) (by have:=w0.1.le;simp only [] at this;omega) (by omega) (by omega)) fun y1 x1=>En.bind (KJ op) fun _ _=>En.bif (fun _=>?_) fun _=>?_
   ·have n1:=(a1.trans w0.1).trans x1.2
    refine En.bind (cH x1.2.ok _) fun r3 w3=>En.bind (sub 0 r3 (n1.trans w3.1) (by have:=w0.1.le;have:=x1.2.le;have:=w3.1.le;simp only [] at *; omega) (by omega) (by omega)) fun y4 x4=>En.bind (cH x4.2.ok _) fun r5 w5=>.some ⟨.of ja (by simp) fun a ha=>?_,((n1.trans w3.1).trans x4.2).trans w5.1⟩
    rw [bG,bG] at ha
    simp at ha
    rcases ha with rfl | rfl
    ·exact x1.1
    ·exact x4.1
   ·refine En.bind (cH x1.2.ok _) fun r3 w3=>.some ⟨.of ja (by simp) fun a ha=>?_,((a1.trans w0.1).trans x1.2).trans w3.1⟩
    rw [bG] at ha
    simp at ha
    subst ha
    exact x1.1
  have factor:En (fun y=>PX y r) (kr r):=by
   rw [tB]
   refine En.bind (pY hr 2) fun b hb=>En.bif (fun hk=>?_) fun _=>?_
   ·have hlt:=(hb hk).2.1
    exact En.gd hr.1 (En.gd hlt (En.bind (uC _ (xA hr hlt).1) fun v _=>.some ⟨.of ja (by simp) (fun a ha=>by simp at ha),(zR hr hlt).1⟩))
   refine En.bind (fp hr _) fun y2 t2=>En.bif (fun g=>?_) fun g=>?_
   ·refine En.bind (sub 7 y2.2 t2.1 (t2.2.1 g) (by omega) (by omega)) fun y3 x3=>.some ⟨.of ja (by simp) fun a ha=>?_,t2.1.trans x3.2⟩
    rw [bG] at ha
    simp at ha;subst ha;exact x3.1
   have e2:=t2.2.2 g
   rw [e2]
   refine En.bind (fp hr _) fun y4 t4=>En.bif (fun g4=>?_) fun g4=>?_
   ·refine En.bind (sub 0 y4.2 t4.1 (t4.2.1 g4) (by omega) (by omega)) fun y5 x5=>En.bind (cH x5.2.ok _) fun r6 w6=>?_
    rw [bG]
    exact .some ⟨x5.1,(t4.1.trans x5.2).trans w6.1⟩
   have e4:=t4.2.2 g4
   rw [e4]
   refine En.bind (fp hr _) fun y7 t7=>En.bif (fun g7=>?_) fun g7=>?_
   ·refine En.bind (cH t7.1.ok _) fun r8 w8=>En.bind (oH w8.1.ok _ _) fun y9 x9=>En.bind (cH x9.ok _) fun r10 w10=>.some ⟨.of ja (by simp) (fun a ha=>by simp at ha),((t7.1.trans w8.1).trans x9).trans w10.1⟩
   have e7:=t7.2.2 g7
   rw [e7]
   refine En.bind (Ca hr _) fun b11 h11=>En.bif (fun g=>En.bind (call 6 (h11 g).2) fun y x=>?_) fun _=>?_
   ·rw [bG];exact .some x
   refine En.bind (Ca hr _) fun b13 h13=>En.bif (fun g=>En.bind (call 19 (h13 g).2) fun y x=>?_) fun _=>?_
   ·rw [bG];exact .some x
   refine En.bind (Ca hr _) fun b15 h15=>En.bif (fun g=>En.bind (call 20 (h15 g).2) fun y x=>?_) fun _=>?_
   ·rw [bG];exact .some x
   exact En.bind (Ed hr) fun y x=>.some ⟨.of x.2 (by simp) (fun a ha=>by simp at ha),x.1⟩
  have loop:n≤6→∀ (k:Nat) (r':Rd) (o:Int) (v:GFraction) (d:Int) (nm:ByteArray) (e:GExpr),((r'.l.length:Int) - r'.at_)≤k→RN r r'→pm e→En (fun y=>PX y r) (fq n r' o v d nm e.Op e.Value e.Dim e.Name e.Args):=by
   intro h6 k
   induction k with
   | zero =>
    intro r' o v d nm e hk hn he
    rw [kd]
    simp only [bG]
    refine En.not (fun _=>En.bind (EO hn.ok n) fun op hop=>En.ifi (fun _=>.some ⟨he,hn⟩) fun hne=>?_) fun _=>.some ⟨he,hn⟩
    have:=(hop hne).2
    omega
   | succ k ihk =>
    intro r' o v d nm e hk hn he
    rw [kd]
    simp only [bG]
    refine En.not (fun _=>En.bind (EO hn.ok n) fun op hop=>En.ifi (fun _=>.some ⟨he,hn⟩) fun hne=>?_) fun _=>.some ⟨he,hn⟩
    have hlt:=(hop hne).2
    obtain ⟨a1,a2⟩:=zR hn.ok hlt
    rw [al (n:=n+1) (by omega) (by omega)]
    have hl1:r.at_ < ac (r'.at_+1):=by have:=hn.le;omega
    refine En.bind (sub (n+1) _ (hn.trans a1) hl1 (by omega) (by omega)) fun y1 x1=>?_
    have hx:pm ⟨op,⟨0,0⟩,0,ab [],[e,y1.1]⟩:=.of ja (by simp) fun a ha=>by
     simp at ha
     rcases ha with rfl | rfl
     ·exact he
     ·exact x1.1
    have hn2:=(hn.trans a1).trans x1.2
    refine En.bif (fun _=>.some ⟨hx,hn2⟩) fun _=>ihk _ o v d nm ⟨op,⟨0,0⟩,0,ab [],[e,y1.1]⟩ ?_ hn2 hx
    have e1:=x1.2.l
    have e2:=x1.2.le
    simp only [] at e1 e2
    rw [e1]
    omega
  rw [wL]
  refine En.bif (fun _=>.some ⟨.of ja (by simp) (fun a ha=>by simp at ha), .refl hr⟩) fun _=>?_
  refine En.ifi (fun hz=>?_) fun hz=>En.ifi (fun h3=>?_) fun h3=>En.ifi (fun h7'=>?_) fun h7'=>?_
  ·subst hz
   refine En.bind (fp hr _) fun y0 t0=>En.not (fun g=>?_) fun g=>?_
   ·have e0:=t0.2.2 g
    rw [e0]
    refine En.bind (nxt r (.refl hr) (by omega)) fun y1 x1=>?_
    simp only [bG]
    exact .some x1
   ·have p0:=t0.2.1 g
    refine En.bind (sub 0 _ t0.1 p0 (by omega) (by omega)) fun y2 x2=>En.bind (cH x2.2.ok _) fun r3 w3=>?_
    have n3:=(t0.1.trans x2.2).trans w3.1
    refine En.bind (sub 0 _ n3 (by have:=x2.2.le;have:=w3.1.le;omega) (by omega) (by omega)) fun y4 x4=>En.bind (cH x4.2.ok _) fun r5 w5=>?_
    have n5:=(n3.trans x4.2).trans w5.1
    refine En.bind (sub 0 _ n5 (by have:=x2.2.le;have:=w3.1.le;have:=x4.2.le;have:=w5.1.le;omega) (by omega) (by omega)) fun y6 x6=>.some ⟨.of ja (by simp) fun a ha=>?_,n5.trans x6.2⟩
    simp only [bG] at ha
    simp at ha
    rcases ha with rfl | rfl | rfl
    ·exact x2.1
    ·exact x4.1
    ·exact x6.1
  ·subst h3
   refine En.bind (fp hr _) fun y0 t0=>En.bif (fun g=>?_) fun g=>?_
   ·refine En.bind (sub 3 _ t0.1 (t0.2.1 g) (by omega) (by omega)) fun y2 x2=>.some ⟨.of ja (by simp) fun a ha=>?_,t0.1.trans x2.2⟩
    simp only [bG] at ha
    simp at ha;subst ha;exact x2.1
   ·have e0:=t0.2.2 g
    rw [e0]
    refine En.bind (nxt r (.refl hr) (by omega)) fun y1 x1=>?_
    simp only [bG]
    exact .some x1
  ·refine En.bind factor fun y x=>?_
   simp only [bG]
   exact .some x
  ·rw [al (n:=n+1) (by omega) (by omega)]
   refine En.bind (nxt r (.refl hr) (by omega)) fun y1 x1=>?_
   exact loop (by omega) _ _ _ _ _ _ _ (Int.self_le_toNat _) x1.2 x1.1
theorem ze {r:Rd} (h:RI r):En (fun y=>PX y r) (aB 0 r):=Qn _ 0 r (Nat.lt_succ_self _) (by omega) (by omega) h
end Go.Ax
