import Derived.Test.YtnnblpijaoocaaaGreatWP3
set_option linter.all false
/- Clauses, versions, statutes: their reading ends. -/
set_option maxRecDepth 100000
namespace Go.Ax
structure pl (n:Int) (C:List GCredit) (S:List GIndex) (L:List GLet) (G:List GGrant) (R:List GReduce):Prop where
  cr:(C.length:Int)≤n
  se:(S.length:Int)≤n
  le:(L.length:Int)≤n
  gr:(G.length:Int)≤n
  re:(R.length:Int)≤n
  xle:∀ x∈L,x.Name.size≤8000∧pm x.Body
  xgr:∀ x∈G,pm x.If∧pm x.Pay
  xre:∀ x∈R,pm x.By
theorem pl.mono {n m:Int} {cr se le gr re} (h:pl n cr se le gr re) (hm:n≤m):pl m cr se le gr re :=
 ⟨Int.le_trans h.cr hm,Int.le_trans h.se hm,Int.le_trans h.le hm,Int.le_trans h.gr hm,Int.le_trans h.re hm,h.xle,h.xgr,h.xre⟩
abbrev Sj:=Rd × Int × GRounding × List GCredit × List GIndex × List GLet × List GGrant × List GReduce
def CQ (r:Rd) (y:Sj):Prop:=RN r y.1∧PG r y.1∧pl y.1.at_ y.2.2.2.1 y.2.2.2.2.1 y.2.2.2.2.2.1 y.2.2.2.2.2.2.1 y.2.2.2.2.2.2.2
theorem ny {α:Type} (l:List α) (x:α):((l++[x]).length:Int) = l.length+1:=by simp
section
variable {r0 r:Rd} {F:Int} {R:GRounding} {cr:List GCredit} {se:List GIndex} {le:List GLet} {gr:List GGrant} {re:List GReduce}
theorem kS (hn:RN r0 r) (hp:PG r0 r) (hl:pl r.at_ cr se le gr re):En (CQ r0) (bK r F R cr se le gr re):=by
 rw [qA]
 exact En.bind (cH hn.ok _) fun r1 w=>.some ⟨hn.trans w.1,hp.right w.1,hl.mono w.1.le⟩
theorem small (h:RI r):r.at_≤8000:=by have:=h.2.1;have:=h.2.2.1;omega
theorem Ah (hn:RN r0 r) (hp:r0.at_ < r.at_) (hl:pl r0.at_ cr se le gr re) (c:GCredit):En (CQ r0) (eL r F R c cr se le gr re):=by
 rw [pJ]
 have:=small hn.ok
 have:=hl.cr
 exact En.gd (by omega) (En.gd (by omega) (kS hn (.inr hp) { (hl.mono hn.le) with cr:=by rw [ny];omega }))
theorem yE (hn:RN r0 r) (hp:r0.at_ < r.at_) (hl:pl r0.at_ cr se le gr re) (c:GIndex):En (CQ r0) (ed r F R c cr se le gr re):=by
 rw [pb]
 have:=small hn.ok
 have:=hl.se
 exact En.gd (by omega) (En.gd (by omega) (kS hn (.inr hp) { (hl.mono hn.le) with se:=by rw [ny];omega }))
theorem qH (hn:RN r0 r) (hp:r0.at_ < r.at_) (hl:pl r0.at_ cr se le gr re) (c:GIndex):En (CQ r0) (di r F R c cr se le gr re):=by
 rw [ph]
 refine En.bif (fun _=>En.bind (l7 hn.ok) fun z hz=>yE (hn.trans hz.1) (Int.lt_of_lt_of_le hp hz.1.le) hl c) fun _=>yE hn hp hl c
theorem Mt (h:RI r) (hl:pl r.at_ cr se le gr re):En (CQ r) (ky r F R cr se le gr re):=by
 rw [tk]
 simp only [bG]
 refine En.bind (fp h _) fun y0 t0=>En.bif (fun g=>?_) fun g=>?_
 ·refine En.bind (GE t0.1.ok 1 (by omega) (by omega)) fun y1 x1=>En.bind (fp x1.ok _) fun y2 t2=>En.bif (fun _=>En.bind (oH t2.1.ok _ _) fun y3 x3=>?_) fun _=>?_
  ·exact Ah (((t0.1.trans x1).trans t2.1).trans x3) (by have:=t0.2.1 g;have:=x1.le;have:=t2.1.le;have:=x3.le;omega) hl _
  ·exact Ah ((t0.1.trans x1).trans t2.1) (by have:=t0.2.1 g;have:=x1.le;have:=t2.1.le;omega) hl _
 rw [t0.2.2 g]
 refine En.bind (fp h _) fun y4 t4=>En.bif (fun g=>?_) fun g=>?_
 ·refine En.bind (oH t4.1.ok _ _) fun y5 x5=>En.bind (pY x5.ok 2) fun b hb=>En.bif (fun hk=>?_) fun _=>?_
  ·have hlt:=(hb hk).2.1
   have hn:=t4.1.trans x5
   have hp:r.at_ < y5.2.at_:=by have:=t4.2.1 g;have:=x5.le;omega
   refine En.gd x5.ok.1 (En.gd hlt (En.bind (uC _ (xA x5.ok hlt).1) fun v _=>En.bif (fun _=>?_) fun _=>qH hn hp hl _))
   obtain ⟨a1,a2⟩:=zR x5.ok hlt
   exact qH (hn.trans a1) (by show r.at_ < ac (y5.2.at_+1);omega) hl _
  ·exact qH (t4.1.trans x5) (by have:=t4.2.1 g;have:=x5.le;omega) hl _
 rw [t4.2.2 g]
 refine En.bind (fp h _) fun y8 t8=>En.bif (fun g=>?_) fun g=>?_
 ·refine En.bind (Ed t8.1.ok) fun y9 x9=>En.bind (cH x9.1.ok _) fun r10 w10=>En.bind (ze w10.1.ok) fun y11 x11=>?_
  have hn:=((t8.1.trans x9.1).trans w10.1).trans x11.2
  have hp:r.at_ < y11.2.at_:=by have:=t8.2.1 g;have:=x9.1.le;have:=w10.1.le;have:=x11.2.le;omega
  have:=small hn.ok
  have:=hl.le
  refine En.gd (by omega) (En.gd (by omega) (kS hn (.inr hp) { (hl.mono hn.le) with le:=by rw [ny];omega,xle:=fun x hx=>?_ }))
  rcases List.mem_append.1 hx with hx | hx
  ·exact hl.xle x hx
  ·simp at hx;subst hx;exact ⟨x9.2,x11.1⟩
 rw [t8.2.2 g]
 refine En.bind (fp h _) fun y12 t12=>En.bif (fun g=>?_) fun g=>?_
 ·refine En.bind (GE t12.1.ok 2 (by omega) (by omega)) fun y13 x13=>En.bind (cH x13.ok _) fun r14 w14=>En.bind (ze w14.1.ok) fun y15 x15=>En.bind (cH x15.2.ok _) fun r16 w16=>En.bind (ze w16.1.ok) fun y17 x17=>?_
  have hn:=((((t12.1.trans x13).trans w14.1).trans x15.2).trans w16.1).trans x17.2
  have hp:r.at_ < y17.2.at_:=by have:=t12.2.1 g;have:=x13.le;have:=w14.1.le;have:=x15.2.le;have:=w16.1.le;have:=x17.2.le;omega
  have:=small hn.ok
  have:=hl.gr
  refine En.gd (by omega) (En.gd (by omega) (kS hn (.inr hp) { (hl.mono hn.le) with gr:=by rw [ny];omega,xgr:=fun x hx=>?_ }))
  rcases List.mem_append.1 hx with hx | hx
  ·exact hl.xgr x hx
  ·simp at hx;subst hx;exact ⟨x15.1,x17.1⟩
 rw [t12.2.2 g]
 refine En.bind (fp h _) fun y18 t18=>En.bif (fun g=>?_) fun g=>?_
 ·refine En.bind (GE t18.1.ok 2 (by omega) (by omega)) fun y13 x13=>En.bind (cH x13.ok _) fun r14 w14=>En.bind (ze w14.1.ok) fun y15 x15=>?_
  have hn:=((t18.1.trans x13).trans w14.1).trans x15.2
  have hp:r.at_ < y15.2.at_:=by have:=t18.2.1 g;have:=x13.le;have:=w14.1.le;have:=x15.2.le;omega
  have:=small hn.ok
  have:=hl.re
  refine En.gd (by omega) (En.gd (by omega) (kS hn (.inr hp) { (hl.mono hn.le) with re:=by rw [ny];omega,xre:=fun x hx=>?_ }))
  rcases List.mem_append.1 hx with hx | hx
  ·exact hl.xre x hx
  ·simp at hx;subst hx;exact x15.1
 rw [t18.2.2 g]
 exact En.bind (l7 h) fun z hz=>kS hz.1 hz.2 (hl.mono hz.1.le)
end
def yz (v:GVersion):Prop:=pl 8000 v.Credits v.Series v.Lets v.Grants v.Reduces
theorem B4 {r:Rd} (h:RI r):En (fun y=>yz y.1∧RN r y.2∧PG r y.2) (gu r):=by
 have loop:∀ (k:Nat) (r':Rd) (F:Int) (R:GRounding) (F2:Int) (R2:GRounding) (cr:List GCredit) (se:List GIndex) (le:List GLet) (gr:List GGrant) (re:List GReduce),
   ((r'.l.length:Int) - r'.at_)+(if r'.bad then 0 else 1)≤k→RN r r'→PG r r'→pl r'.at_ cr se le gr re→En (fun y=>yz y.1∧RN r y.2∧PG r y.2) (dH r' F R F2 R2 cr se le gr re):=by
  intro k
  induction k with
  | zero =>
   intro r' F R F2 R2 cr se le gr re hk hn hp hl
   rw [iJ]
   have:=hn.ok.2.1
   refine En.not (fun hb=>?_) fun _=>.some ⟨hl.mono (small hn.ok),hn,hp⟩
   rw [hb] at hk;simp at hk;omega
  | succ k ih =>
   intro r' F R F2 R2 cr se le gr re hk hn hp hl
   rw [iJ]
   refine En.not (fun hb=>?_) fun _=>.some ⟨hl.mono (small hn.ok),hn,hp⟩
   rw [hb] at hk
   simp at hk
   refine En.bind (fp hn.ok _) fun y0 t0=>En.not (fun g=>?_) fun _=>.some ⟨hl.mono (small hn.ok),hn.trans t0.1,hp.right t0.1⟩
   rw [t0.2.2 g]
   refine En.bind (Mt hn.ok hl) fun y1 x1=>ih _ _ _ _ _ _ _ _ _ _ ?_ (hn.trans x1.1) (hp.right x1.1) x1.2.2
   rw [x1.1.l]
   have:=x1.1.le
   rcases x1.2.1 with hbb | hlt
   ·rw [hbb];simp;omega
   ·split <;> omega
 have p31:∀ (r':Rd) (F:Int) (R:GRounding) (F2:Int) (R2:GRounding),RN r r'→PG r r'→En (fun y=>yz y.1∧RN r y.2∧PG r y.2) (eh r' F R F2 R2):=by
  intro r' F R F2 R2 hn hp
  rw [pe]
  refine En.bind (cH hn.ok _) fun r0 w0=>En.bind (cH w0.1.ok _) fun r1 w1=>En.bind (GE w1.1.ok 3 (by omega) (by omega)) fun y2 x2=>En.bind (oH x2.ok _ _) fun y3 x3=>En.bind (cH x3.ok _) fun r4 w4=>?_
  have m:=((((w0.1.trans w1.1).trans x2).trans x3).trans w4.1)
  have h0:=(hn.trans m).ok.1
  exact loop _ _ _ _ _ _ _ _ _ _ _ (Int.self_le_toNat _) (hn.trans m) (hp.right m) ⟨by simpa using h0,by simpa using h0,by simpa using h0,by simpa using h0,by simpa using h0,fun x hx=>by simp at hx,fun x hx=>by simp at hx,fun x hx=>by simp at hx⟩
 rw [sT]
 refine En.bind (cH h _) fun r0 w0=>En.bind (pY w0.1.ok 3) fun b hb=>En.bif (fun hk=>?_) fun _=>En.bind (l7 w0.1.ok) fun z hz=>p31 _ _ _ _ _ (w0.1.trans hz.1) (w0.2.right hz.1)
 obtain ⟨_,hlt,hkind⟩:=hb hk
 have ht:=xA w0.1.ok hlt
 have h11:=ht.2 hkind
 refine En.gd w0.1.ok.1 (En.gd hlt (En.bind (R:=fun _=>True) ?_ fun v _=>p31 _ _ _ _ _ (w0.1.trans (zR w0.1.ok hlt).1) (w0.2.right (zR w0.1.ok hlt).1)))
 rw [GA]
 exact En.gd (by omega) (En.gd (Int.le_refl _) (En.bind (Ai _ (by rw [ByteArray.size_extract];omega)) fun _ _=>.some trivial))
theorem HZ (F:Int) (R:GRounding) (cr:List GCredit) (se:List GIndex) (le:List GLet) (gr:List GGrant) (re:List GReduce) (h:pl 8000 cr se le gr re):∀ (k:Nat) (i:Int),(re.length:Int) - i≤k→0≤i→En (fun _=>True) (ee i F R cr se le gr re):=by
 intro k
 have:=h.re
 induction k with
 | zero=>intro i h0 h1;rw [jq];exact En.ifd (fun h=>by omega) fun _=>.some trivial
 | succ k ih =>
  intro i h0 h1
  rw [jq]
  simp only [bG]
  refine En.ifd (fun hlt=>?_) fun _=>.some trivial
  rw [al (n:=i+1) (by omega) (by omega)]
  exact En.gd h1 (En.gd hlt (En.bind (yk _ _) fun _ _=>En.bif (fun _=>.some trivial) fun _=>En.gd h1 (En.gd hlt (En.bind (mw (h.xre _ (oL h1 hlt))) fun _ _=>En.bif (fun _=>.some trivial) fun _=>ih _ (by omega) (by omega)))))
theorem JO (F:Int) (R:GRounding) (cr:List GCredit) (se:List GIndex) (le:List GLet) (gr:List GGrant) (re:List GReduce) (h:pl 8000 cr se le gr re):∀ (k:Nat) (i:Int),(gr.length:Int) - i≤k→0≤i→En (fun _=>True) (eJ i F R cr se le gr re):=by
 intro k
 have:=h.gr
 have nxt:=HZ F R cr se le gr re h _ 0 (Int.self_le_toNat _) (Int.le_refl _)
 induction k with
 | zero=>intro i h0 h1;rw [jK];exact En.ifd (fun h=>by omega) fun _=>nxt
 | succ k ih =>
  intro i h0 h1
  rw [jK]
  simp only [bG]
  refine En.ifd (fun hlt=>?_) fun _=>nxt
  rw [al (n:=i+1) (by omega) (by omega)]
  have hx:=h.xgr _ (oL (z:=zS .GGrant) h1 hlt)
  exact En.gd h1 (En.gd hlt (En.bind (yk _ _) fun _ _=>En.bif (fun _=>.some trivial) fun _=>En.gd h1 (En.gd hlt (En.bind (mw hx.1) fun _ _=>En.bif (fun _=>.some trivial) fun _=>En.gd h1 (En.gd hlt (En.bind (mw hx.2) fun _ _=>En.bif (fun _=>.some trivial) fun _=>ih _ (by omega) (by omega)))))))
theorem JC (F:Int) (R:GRounding) (cr:List GCredit) (se:List GIndex) (le:List GLet) (gr:List GGrant) (re:List GReduce) (h:pl 8000 cr se le gr re):∀ (k:Nat) (i:Int),(le.length:Int) - i≤k→0≤i→En (fun _=>True) (eM i F R cr se le gr re):=by
 intro k
 have:=h.le
 have nxt:=JO F R cr se le gr re h _ 0 (Int.self_le_toNat _) (Int.le_refl _)
 induction k with
 | zero=>intro i h0 h1;rw [jX];exact En.ifd (fun h=>by omega) fun _=>nxt
 | succ k ih =>
  intro i h0 h1
  rw [jX]
  simp only [bG]
  refine En.ifd (fun hlt=>?_) fun _=>nxt
  rw [al (n:=i+1) (by omega) (by omega)]
  have hx:=h.xle _ (oL (z:=zS .GLet) h1 hlt)
  exact En.gd h1 (En.gd hlt (En.bind (sH _ (by have:=hx.1;omega)) fun _ _=>En.bif (fun _=>.some trivial) fun _=>En.gd h1 (En.gd hlt (En.bind (mw hx.2) fun _ _=>En.bif (fun _=>.some trivial) fun _=>ih _ (by omega) (by omega)))))
theorem Jq (F:Int) (R:GRounding) (cr:List GCredit) (se:List GIndex) (le:List GLet) (gr:List GGrant) (re:List GReduce) (h:pl 8000 cr se le gr re):∀ (k:Nat) (i:Int),(se.length:Int) - i≤k→0≤i→En (fun _=>True) (eP i F R cr se le gr re):=by
 intro k
 have:=h.se
 have nxt:=JC F R cr se le gr re h _ 0 (Int.self_le_toNat _) (Int.le_refl _)
 induction k with
 | zero=>intro i h0 h1;rw [jV];exact En.ifd (fun h=>by omega) fun _=>nxt
 | succ k ih =>
  intro i h0 h1
  rw [jV]
  refine En.ifd (fun hlt=>?_) fun _=>nxt
  rw [al (n:=i+1) (by omega) (by omega)]
  exact En.gd h1 (En.gd hlt (En.bind (qO _ _) fun _ _=>En.gd h1 (En.gd hlt (En.go (fun _=>h1) (En.go (fun _=>hlt) (En.go (fun _=>h1) (En.go (fun _=>hlt) (En.bif (fun _=>.some trivial) fun _=>ih _ (by omega) (by omega)))))))))
theorem LP (F:Int) (R:GRounding) (cr:List GCredit) (se:List GIndex) (le:List GLet) (gr:List GGrant) (re:List GReduce) (h:pl 8000 cr se le gr re):∀ (k:Nat) (i:Int),(cr.length:Int) - i≤k→0≤i→En (fun _=>True) (fm i F R cr se le gr re):=by
 intro k
 have:=h.cr
 have nxt:=Jq F R cr se le gr re h _ 0 (Int.self_le_toNat _) (Int.le_refl _)
 induction k with
 | zero=>intro i h0 h1;rw [kn];exact En.ifd (fun h=>by omega) fun _=>nxt
 | succ k ih =>
  intro i h0 h1
  rw [kn]
  refine En.ifd (fun hlt=>?_) fun _=>nxt
  rw [al (n:=i+1) (by omega) (by omega)]
  exact En.gd h1 (En.gd hlt (En.bind (yk _ _) fun _ _=>En.go (fun _=>h1) (En.go (fun _=>hlt) (En.go (fun _=>h1) (En.go (fun _=>hlt) (En.bif (fun _=>.some trivial) fun _=>ih _ (by omega) (by omega)))))))
theorem CM {v:GVersion} (h:yz v):En (fun _=>True) (ld v):=by
 rw [uH,AJ,tD]
 simp only [Option.bind_some]
 have g:=LP v.From v.Rounding _ _ _ _ _ h _ 0 (Int.self_le_toNat _) (Int.le_refl _)
 repeat' first | exact g | exact En.some trivial | refine En.bif (fun _=>?_) (fun _=>?_)
theorem NX {x:GStatute} (h1:x.Name.size≤8000) (h2:x.Versions.length≤8001) (h3:∀ v∈x.Versions,yz v):En (fun _=>True) (mt x):=by
 rw [Gd]
 refine En.bind (sH _ (by omega)) fun _ _=>En.bif (fun _=>.some trivial) fun _=>?_
 have key:∀ (k:Nat) (i:Int),(x.Versions.length:Int) - i≤k→0≤i→En (fun _=>True) (kJ i x.Name x.Currency x.Versions):=by
  intro k
  induction k with
  | zero=>intro i h0 h1;rw [pq];exact En.ifd (fun h=>by omega) fun _=>.some trivial
  | succ k ih =>
   intro i h0 h1
   rw [pq]
   refine En.ifd (fun hlt=>?_) fun _=>.some trivial
   rw [al (n:=i+1) (by omega) (by omega)]
   exact En.gd h1 (En.gd hlt (En.bind (CM (h3 _ (oL h1 hlt))) fun _ _=>En.bif (fun _=>.some trivial) fun _=>ih _ (by omega) (by omega)))
 exact key _ 0 (Int.self_le_toNat _) (Int.le_refl _)
theorem OP (s:ByteArray):En (fun y=>(y.1 = true→y.2.2.1≠0)∧(y.1 = false→RI y.2.2.2.2.2)) (um s):=by
 rw [Gr]
 refine En.bind (QW s) fun r hr=>En.ifn (fun h=>.some ⟨fun _=>h,fun h=>(nomatch h)⟩) fun h=>.some ⟨fun h=>(nomatch h),fun _=>?_⟩
 obtain ⟨h1,h2⟩:=hr h
 exact ⟨Int.le_refl _,by show (0:Int)≤(r.1.length:Int);omega,h1,h2⟩
theorem O1 (s:ByteArray):En (fun _=>True) (ug s):=by
 have fin:∀ (r:Rd) (nm:ByteArray) (cu:Int) (vs:List GVersion),RI r→nm.size≤8000→vs.length≤8001→(∀ v∈vs,yz v)→En (fun (_:GStatute × Int × Int)=>True) (bif (bif r.bad then true else aa (r.at_ < (r.l.length:Int))) then (iu r).bind fun r3=>some ((⟨(ab []),0,[]⟩:GStatute),r3,4)
   else (mt (⟨nm,cu,vs⟩:GStatute)).bind fun r4=>bif (!r4) then some ((⟨(ab []),0,[]⟩:GStatute),0,7) else some ((⟨nm,cu,vs⟩:GStatute),0,0)):=by
  intro r nm cu vs hr h1 h2 h3
  refine En.bif (fun _=>?_) fun _=>En.bind (NX (x:=⟨nm,cu,vs⟩) h1 h2 h3) fun _ _=>En.bif (fun _=>.some trivial) fun _=>.some trivial
  rw [uZ]
  exact En.bind (R:=fun _=>True) (En.ifd (fun h=>En.gd hr.1 (En.gd h (.some trivial))) fun _=>.some trivial) fun _ _=>.some trivial
 have loop:∀ (k:Nat) (first:Bool) (r:Rd) (nm0:ByteArray) (cu0:Int) (nm:ByteArray) (cu:Int) (vs:List GVersion),((r.l.length:Int) - r.at_)+(if r.bad then 0 else 1)≤k→RI r→nm.size≤8000→(vs.length:Int)≤r.at_+(if r.bad then 1 else 0)→(∀ v∈vs,yz v) →
   En (fun _=>True) (eC first nm0 cu0 r nm cu vs):=by
  intro k
  induction k with
  | zero =>
   intro first r nm0 cu0 nm cu vs hk hr h1 h2 h3
   rw [no]
   have:=hr.2.1
   have:=small hr
   refine En.not (fun hb=>?_) fun hb=>fin r nm cu vs hr h1 (by rw [hb] at h2;simp at h2;omega) h3
   rw [hb] at hk;simp at hk;omega
  | succ k ih =>
   intro first r nm0 cu0 nm cu vs hk hr h1 h2 h3
   rw [no]
   have hsm:=small hr
   refine En.not (fun hb=>?_) fun hb=>fin r nm cu vs hr h1 (by rw [hb] at h2;simp at h2;omega) h3
   rw [hb] at hk h2
   simp at hk h2
   have go:∀ (r':Rd) (y:GVersion × Rd),yz y.1∧RN r y.2∧PG r y.2→En (fun _=>True) (gb (aa (((vs.length+1)*144)≤140737488355328))<|gb (aa ((vs.length+1)≤140737488355328))<|eC false nm0 cu0 y.2 nm cu (vs++[y.1])):=by
    intro r' y ⟨g1,g2,g3⟩
    refine En.gd (by omega) (En.gd (by omega) (ih _ _ _ _ _ _ _ ?_ g2.ok h1 ?_ fun v hv=>?_))
    ·rw [g2.l]
     have:=g2.le
     rcases g3 with hbb | hlt
     ·rw [hbb];simp;omega
     ·split <;> omega
    ·rw [ny]
     have:=g2.le
     rcases g3 with hbb | hlt
     ·rw [hbb];simp;omega
     ·split <;> omega
    ·rcases List.mem_append.1 hv with hv | hv
     ·exact h3 v hv
     ·simp at hv;subst hv;exact g1
   refine En.bif (fun _=>En.bind (B4 hr) fun y hy=>go r y hy) fun _=>En.bind (fp hr _) fun y1 t1=>En.not (fun g=>?_) fun g=>?_
   ·rw [t1.2.2 g]
    exact En.bind (B4 hr) fun y hy=>go r y hy
   ·exact fin _ nm cu vs t1.1.ok h1 (by omega) h3
 rw [Gf]
 refine En.bind (OP s) fun y hy=>En.bif (fun hb=>En.ifn (fun _=>.some trivial) fun h=>absurd h (hy.1 hb)) fun hb=>En.ifn (fun _=>.some trivial) fun _=>?_
 have hr:=hy.2 hb
 refine En.bind (cH hr _) fun r1 w1=>En.bind (Ed w1.1.ok) fun y2 x2=>En.bind (cH x2.1.ok _) fun r3 w3=>En.bind (oH w3.1.ok _ _) fun y4 x4=>En.bind (cH x4.ok _) fun r5 w5=>?_
 exact loop _ _ _ _ _ _ _ _ (Int.self_le_toNat _) w5.1.ok x2.2 (by have:=w5.1.ok.1;split <;> simp <;> omega) (fun v hv=>by simp at hv)
end Go.Ax
