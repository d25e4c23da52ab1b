import Derived.Test.YtnnblpijaoocaaaGreatXP3
set_option linter.all false
/- Clauses, versions, statutes: their reading ends. -/
set_option maxRecDepth 100000
namespace Go.Ax
structure rz (n:Int) (C:List GCredit) (S:List GIndex) (L:List GLet) (G:List GGrant) (R:List GReduce):Prop where
  cr:(C.length:Int)≤n
  se:(S.length:Int)≤n
  le:(L.length:Int)≤n
  gr:(G.length:Int)≤n
  re:(R.length:Int)≤n
  xle:∀ x∈L,x.Name.size≤8000∧rK x.Body
  xgr:∀ x∈G,rK x.If∧rK x.Pay
  xre:∀ x∈R,rK x.By
theorem rz.mono {n m:Int} {cr se le gr re} (h:rz n cr se le gr re) (hm:n≤m):rz m cr se le gr re :=
 ⟨Int.le_trans h.cr hm,Int.le_trans h.se hm,Int.le_trans h.le hm,Int.le_trans h.gr hm,Int.le_trans h.re hm,h.xle,h.xgr,h.xre⟩
abbrev V0:=Rd × Int × GRounding × List GCredit × List GIndex × List GLet × List GGrant × List GReduce
def CQ (r:Rd) (y:V0):Prop:=RN r y.1∧PG r y.1∧rz y.1.at_ y.2.2.2.1 y.2.2.2.2.1 y.2.2.2.2.2.1 y.2.2.2.2.2.2.1 y.2.2.2.2.2.2.2
theorem pr {α:Type} (l:List α) (x:α):((l++[x]).length:Int) = l.length+1:=by simp
section
variable {r0 r:Rd} {F:Int} {R:GRounding} {cr:List GCredit} {se:List GIndex} {le:List GLet} {gr:List GGrant} {re:List GReduce}
theorem l4 (hn:RN r0 r) (hp:PG r0 r) (hl:rz r.at_ cr se le gr re):En (CQ r0) (ce r F R cr se le gr re):=by
 rw [tR]
 exact En.bind (da hn.ok _) fun r1 w=>.some ⟨hn.trans w.1,hp.right w.1,hl.mono w.1.le⟩
theorem small (h:RI r):r.at_≤8000:=by have:=h.2.1;have:=h.2.2.1;omega
theorem Cv (hn:RN r0 r) (hp:r0.at_ < r.at_) (hl:rz r0.at_ cr se le gr re) (c:GCredit):En (CQ r0) (fG r F R c cr se le gr re):=by
 rw [sk]
 have:=small hn.ok
 have:=hl.cr
 exact En.gd (by omega) (En.gd (by omega) (l4 hn (.inr hp) { (hl.mono hn.le) with cr:=by rw [pr];omega }))
theorem Bc (hn:RN r0 r) (hp:r0.at_ < r.at_) (hl:rz r0.at_ cr se le gr re) (c:GIndex):En (CQ r0) (e9 r F R c cr se le gr re):=by
 rw [rk]
 have:=small hn.ok
 have:=hl.se
 exact En.gd (by omega) (En.gd (by omega) (l4 hn (.inr hp) { (hl.mono hn.le) with se:=by rw [pr];omega }))
theorem s7 (hn:RN r0 r) (hp:r0.at_ < r.at_) (hl:rz r0.at_ cr se le gr re) (c:GIndex):En (CQ r0) (dM r F R c cr se le gr re):=by
 rw [qV]
 refine En.bif (fun _=>En.bind (nH hn.ok) fun z hz=>Bc (hn.trans hz.1) (Int.lt_of_lt_of_le hp hz.1.le) hl c) fun _=>Bc hn hp hl c
theorem Re (h:RI r) (hl:rz r.at_ cr se le gr re):En (CQ r) (lc r F R cr se le gr re):=by
 rw [vT]
 simp only [ca]
 refine En.bind (gc h _) fun y0 t0=>En.bif (fun g=>?_) fun g=>?_
 ·refine En.bind (JR t0.1.ok 1 (by omega) (by omega)) fun y1 x1=>En.bind (gc x1.ok _) fun y2 t2=>En.bif (fun _=>En.bind (qK t2.1.ok _ _) fun y3 x3=>?_) fun _=>?_
  ·exact Cv (((t0.1.trans x1).trans t2.1).trans x3) (by have:=t0.2.1 g;have:=x1.le;have:=t2.1.le;have:=x3.le;omega) hl _
  ·exact Cv ((t0.1.trans x1).trans t2.1) (by have:=t0.2.1 g;have:=x1.le;have:=t2.1.le;omega) hl _
 rw [t0.2.2 g]
 refine En.bind (gc h _) fun y4 t4=>En.bif (fun g=>?_) fun g=>?_
 ·refine En.bind (qK t4.1.ok _ _) fun y5 x5=>En.bind (sD x5.ok 2) fun b hb=>En.bif (fun hk=>?_) fun _=>?_
  ·have hlt:=(hb hk).2.1
   have hn:=t4.1.trans x5
   have hp:r.at_ < y5.2.at_:=by have:=t4.2.1 g;have:=x5.le;omega
   refine En.gd x5.ok.1 (En.gd hlt (En.bind (xk _ (Az x5.ok hlt).1) fun v _=>En.bif (fun _=>?_) fun _=>s7 hn hp hl _))
   obtain ⟨a1,a2⟩:=Cf x5.ok hlt
   exact s7 (hn.trans a1) (by show r.at_ < ab (y5.2.at_+1);omega) hl _
  ·exact s7 (t4.1.trans x5) (by have:=t4.2.1 g;have:=x5.le;omega) hl _
 rw [t4.2.2 g]
 refine En.bind (gc h _) fun y8 t8=>En.bif (fun g=>?_) fun g=>?_
 ·refine En.bind (Gm t8.1.ok) fun y9 x9=>En.bind (da x9.1.ok _) fun r10 w10=>En.bind (Br w10.1.ok) fun y11 x11=>?_
  have hn:=((t8.1.trans x9.1).trans w10.1).trans x11.2
  have hp:r.at_ < y11.2.at_:=by have:=t8.2.1 g;have:=x9.1.le;have:=w10.1.le;have:=x11.2.le;omega
  have:=small hn.ok
  have:=hl.le
  refine En.gd (by omega) (En.gd (by omega) (l4 hn (.inr hp) { (hl.mono hn.le) with le:=by rw [pr];omega,xle:=fun x hx=>?_ }))
  rcases List.mem_append.1 hx with hx | hx
  ·exact hl.xle x hx
  ·simp at hx;subst hx;exact ⟨x9.2,x11.1⟩
 rw [t8.2.2 g]
 refine En.bind (gc h _) fun y12 t12=>En.bif (fun g=>?_) fun g=>?_
 ·refine En.bind (JR t12.1.ok 2 (by omega) (by omega)) fun y13 x13=>En.bind (da x13.ok _) fun r14 w14=>En.bind (Br w14.1.ok) fun y15 x15=>En.bind (da x15.2.ok _) fun r16 w16=>En.bind (Br w16.1.ok) fun y17 x17=>?_
  have hn:=((((t12.1.trans x13).trans w14.1).trans x15.2).trans w16.1).trans x17.2
  have hp:r.at_ < y17.2.at_:=by have:=t12.2.1 g;have:=x13.le;have:=w14.1.le;have:=x15.2.le;have:=w16.1.le;have:=x17.2.le;omega
  have:=small hn.ok
  have:=hl.gr
  refine En.gd (by omega) (En.gd (by omega) (l4 hn (.inr hp) { (hl.mono hn.le) with gr:=by rw [pr];omega,xgr:=fun x hx=>?_ }))
  rcases List.mem_append.1 hx with hx | hx
  ·exact hl.xgr x hx
  ·simp at hx;subst hx;exact ⟨x15.1,x17.1⟩
 rw [t12.2.2 g]
 refine En.bind (gc h _) fun y18 t18=>En.bif (fun g=>?_) fun g=>?_
 ·refine En.bind (JR t18.1.ok 2 (by omega) (by omega)) fun y13 x13=>En.bind (da x13.ok _) fun r14 w14=>En.bind (Br w14.1.ok) fun y15 x15=>?_
  have hn:=((t18.1.trans x13).trans w14.1).trans x15.2
  have hp:r.at_ < y15.2.at_:=by have:=t18.2.1 g;have:=x13.le;have:=w14.1.le;have:=x15.2.le;omega
  have:=small hn.ok
  have:=hl.re
  refine En.gd (by omega) (En.gd (by omega) (l4 hn (.inr hp) { (hl.mono hn.le) with re:=by rw [pr];omega,xre:=fun x hx=>?_ }))
  rcases List.mem_append.1 hx with hx | hx
  ·exact hl.xre x hx
  ·simp at hx;subst hx;exact x15.1
 rw [t18.2.2 g]
 exact En.bind (nH h) fun z hz=>l4 hz.1 hz.2 (hl.mono hz.1.le)
end
def zM (v:GVersion):Prop:=rz 8000 v.Credits v.Series v.Lets v.Grants v.Reduces
theorem Fd {r:Rd} (h:RI r):En (fun y=>zM y.1∧RN r y.2∧PG r y.2) (im r):=by
 have loop:∀ (k:Nat) (r':Rd) (F:Int) (R:GRounding) (F2:Int) (R2:GRounding) (cr:List GCredit) (se:List GIndex) (le:List GLet) (gr:List GGrant) (re:List GReduce),
   ((r'.l.length:Int) - r'.at_)+(if r'.bad then 0 else 1)≤k→RN r r'→PG r r'→rz r'.at_ cr se le gr re→En (fun y=>zM y.1∧RN r y.2∧PG r y.2) (ew r' F R F2 R2 cr se le gr re):=by
  intro k
  induction k with
  | zero =>
   intro r' F R F2 R2 cr se le gr re hk hn hp hl
   rw [jr]
   have:=hn.ok.2.1
   refine En.not (fun hb=>?_) fun _=>.some ⟨hl.mono (small hn.ok),hn,hp⟩
   rw [hb] at hk;simp at hk;omega
  | succ k ih =>
   intro r' F R F2 R2 cr se le gr re hk hn hp hl
   rw [jr]
   refine En.not (fun hb=>?_) fun _=>.some ⟨hl.mono (small hn.ok),hn,hp⟩
   rw [hb] at hk
   simp at hk
   refine En.bind (gc hn.ok _) fun y0 t0=>En.not (fun g=>?_) fun _=>.some ⟨hl.mono (small hn.ok),hn.trans t0.1,hp.right t0.1⟩
   rw [t0.2.2 g]
   refine En.bind (Re hn.ok hl) fun y1 x1=>ih _ _ _ _ _ _ _ _ _ _ ?_ (hn.trans x1.1) (hp.right x1.1) x1.2.2
   rw [x1.1.l]
   have:=x1.1.le
   rcases x1.2.1 with hbb | hlt
   ·rw [hbb];simp;omega
   ·split <;> omega
 have p31:∀ (r':Rd) (F:Int) (R:GRounding) (F2:Int) (R2:GRounding),RN r r'→PG r r'→En (fun y=>zM y.1∧RN r y.2∧PG r y.2) (fe r' F R F2 R2):=by
  intro r' F R F2 R2 hn hp
  rw [qT]
  refine En.bind (da hn.ok _) fun r0 w0=>En.bind (da w0.1.ok _) fun r1 w1=>En.bind (JR w1.1.ok 3 (by omega) (by omega)) fun y2 x2=>En.bind (qK x2.ok _ _) fun y3 x3=>En.bind (da x3.ok _) fun r4 w4=>?_
  have m:=((((w0.1.trans w1.1).trans x2).trans x3).trans w4.1)
  have h0:=(hn.trans m).ok.1
  exact loop _ _ _ _ _ _ _ _ _ _ _ (Int.self_le_toNat _) (hn.trans m) (hp.right m) ⟨by simpa using h0,by simpa using h0,by simpa using h0,by simpa using h0,by simpa using h0,fun x hx=>by simp at hx,fun x hx=>by simp at hx,fun x hx=>by simp at hx⟩
 rw [ve]
 refine En.bind (da h _) fun r0 w0=>En.bind (sD w0.1.ok 3) fun b hb=>En.bif (fun hk=>?_) fun _=>En.bind (nH w0.1.ok) fun z hz=>p31 _ _ _ _ _ (w0.1.trans hz.1) (w0.2.right hz.1)
 obtain ⟨_,hlt,hkind⟩:=hb hk
 have ht:=Az w0.1.ok hlt
 have h11:=ht.2 hkind
 refine En.gd w0.1.ok.1 (En.gd hlt (En.bind (R:=fun _=>True) ?_ fun v _=>p31 _ _ _ _ _ (w0.1.trans (Cf w0.1.ok hlt).1) (w0.2.right (Cf w0.1.ok hlt).1)))
 rw [Jy]
 exact En.gd (by omega) (En.gd (Int.le_refl _) (En.bind (CA _ (by rw [ByteArray.size_extract];omega)) fun _ _=>.some trivial))
theorem Mq (F:Int) (R:GRounding) (cr:List GCredit) (se:List GIndex) (le:List GLet) (gr:List GGrant) (re:List GReduce) (h:rz 8000 cr se le gr re):∀ (k:Nat) (i:Int),(re.length:Int) - i≤k→0≤i→En (fun _=>True) (e8 i F R cr se le gr re):=by
 intro k
 have:=h.re
 induction k with
 | zero=>intro i h0 h1;rw [kr];exact En.ifd (fun h=>by omega) fun _=>.some trivial
 | succ k ih =>
  intro i h0 h1
  rw [kr]
  simp only [ca]
  refine En.ifd (fun hlt=>?_) fun _=>.some trivial
  rw [al (n:=i+1) (by omega) (by omega)]
  exact En.gd h1 (En.gd hlt (En.bind (zP _ _) fun _ _=>En.bif (fun _=>.some trivial) fun _=>En.gd h1 (En.gd hlt (En.bind (oy (h.xre _ (qB h1 hlt))) fun _ _=>En.bif (fun _=>.some trivial) fun _=>ih _ (by omega) (by omega)))))
theorem NG (F:Int) (R:GRounding) (cr:List GCredit) (se:List GIndex) (le:List GLet) (gr:List GGrant) (re:List GReduce) (h:rz 8000 cr se le gr re):∀ (k:Nat) (i:Int),(gr.length:Int) - i≤k→0≤i→En (fun _=>True) (fD i F R cr se le gr re):=by
 intro k
 have:=h.gr
 have nxt:=Mq F R cr se le gr re h _ 0 (Int.self_le_toNat _) (Int.le_refl _)
 induction k with
 | zero=>intro i h0 h1;rw [kZ];exact En.ifd (fun h=>by omega) fun _=>nxt
 | succ k ih =>
  intro i h0 h1
  rw [kZ]
  simp only [ca]
  refine En.ifd (fun hlt=>?_) fun _=>nxt
  rw [al (n:=i+1) (by omega) (by omega)]
  have hx:=h.xgr _ (qB (z:=zS .GGrant) h1 hlt)
  exact En.gd h1 (En.gd hlt (En.bind (zP _ _) fun _ _=>En.bif (fun _=>.some trivial) fun _=>En.gd h1 (En.gd hlt (En.bind (oy hx.1) fun _ _=>En.bif (fun _=>.some trivial) fun _=>En.gd h1 (En.gd hlt (En.bind (oy hx.2) fun _ _=>En.bif (fun _=>.some trivial) fun _=>ih _ (by omega) (by omega)))))))
theorem MV (F:Int) (R:GRounding) (cr:List GCredit) (se:List GIndex) (le:List GLet) (gr:List GGrant) (re:List GReduce) (h:rz 8000 cr se le gr re):∀ (k:Nat) (i:Int),(le.length:Int) - i≤k→0≤i→En (fun _=>True) (fC i F R cr se le gr re):=by
 intro k
 have:=h.le
 have nxt:=NG F R cr se le gr re h _ 0 (Int.self_le_toNat _) (Int.le_refl _)
 induction k with
 | zero=>intro i h0 h1;rw [kO];exact En.ifd (fun h=>by omega) fun _=>nxt
 | succ k ih =>
  intro i h0 h1
  rw [kO]
  simp only [ca]
  refine En.ifd (fun hlt=>?_) fun _=>nxt
  rw [al (n:=i+1) (by omega) (by omega)]
  have hx:=h.xle _ (qB (z:=zS .GLet) h1 hlt)
  exact En.gd h1 (En.gd hlt (En.bind (uC _ (by have:=hx.1;omega)) fun _ _=>En.bif (fun _=>.some trivial) fun _=>En.gd h1 (En.gd hlt (En.bind (oy hx.2) fun _ _=>En.bif (fun _=>.some trivial) fun _=>ih _ (by omega) (by omega)))))
theorem M9 (F:Int) (R:GRounding) (cr:List GCredit) (se:List GIndex) (le:List GLet) (gr:List GGrant) (re:List GReduce) (h:rz 8000 cr se le gr re):∀ (k:Nat) (i:Int),(se.length:Int) - i≤k→0≤i→En (fun _=>True) (fI i F R cr se le gr re):=by
 intro k
 have:=h.se
 have nxt:=MV F R cr se le gr re h _ 0 (Int.self_le_toNat _) (Int.le_refl _)
 induction k with
 | zero=>intro i h0 h1;rw [k8];exact En.ifd (fun h=>by omega) fun _=>nxt
 | succ k ih =>
  intro i h0 h1
  rw [k8]
  refine En.ifd (fun hlt=>?_) fun _=>nxt
  rw [al (n:=i+1) (by omega) (by omega)]
  exact En.gd h1 (En.gd hlt (En.bind (tJ _ _) fun _ _=>En.gd h1 (En.gd hlt (En.go (fun _=>h1) (En.go (fun _=>hlt) (En.go (fun _=>h1) (En.go (fun _=>hlt) (En.bif (fun _=>.some trivial) fun _=>ih _ (by omega) (by omega)))))))))
theorem OO (F:Int) (R:GRounding) (cr:List GCredit) (se:List GIndex) (le:List GLet) (gr:List GGrant) (re:List GReduce) (h:rz 8000 cr se le gr re):∀ (k:Nat) (i:Int),(cr.length:Int) - i≤k→0≤i→En (fun _=>True) (fY i F R cr se le gr re):=by
 intro k
 have:=h.cr
 have nxt:=M9 F R cr se le gr re h _ 0 (Int.self_le_toNat _) (Int.le_refl _)
 induction k with
 | zero=>intro i h0 h1;rw [lH];exact En.ifd (fun h=>by omega) fun _=>nxt
 | succ k ih =>
  intro i h0 h1
  rw [lH]
  refine En.ifd (fun hlt=>?_) fun _=>nxt
  rw [al (n:=i+1) (by omega) (by omega)]
  exact En.gd h1 (En.gd hlt (En.bind (zP _ _) fun _ _=>En.go (fun _=>h1) (En.go (fun _=>hlt) (En.go (fun _=>h1) (En.go (fun _=>hlt) (En.bif (fun _=>.some trivial) fun _=>ih _ (by omega) (by omega)))))))
theorem D9 {v:GVersion} (h:zM v):En (fun _=>True) (mq v):=by
 rw [xE,sS,vX]
 simp only [Option.bind_some]
 have g:=OO v.From v.Rounding _ _ _ _ _ h _ 0 (Int.self_le_toNat _) (Int.le_refl _)
 repeat' first | exact g | exact En.some trivial | refine En.bif (fun _=>?_) (fun _=>?_)
theorem RK {x:GStatute} (h1:x.Name.size≤8000) (h2:x.Versions.length≤8001) (h3:∀ v∈x.Versions,zM v):En (fun _=>True) (nT x):=by
 rw [Jz]
 refine En.bind (uC _ (by omega)) fun _ _=>En.bif (fun _=>.some trivial) fun _=>?_
 have key:∀ (k:Nat) (i:Int),(x.Versions.length:Int) - i≤k→0≤i→En (fun _=>True) (lW i x.Name x.Currency x.Versions):=by
  intro k
  induction k with
  | zero=>intro i h0 h1;rw [rA];exact En.ifd (fun h=>by omega) fun _=>.some trivial
  | succ k ih =>
   intro i h0 h1
   rw [rA]
   refine En.ifd (fun hlt=>?_) fun _=>.some trivial
   rw [al (n:=i+1) (by omega) (by omega)]
   exact En.gd h1 (En.gd hlt (En.bind (D9 (h3 _ (qB h1 hlt))) fun _ _=>En.bif (fun _=>.some trivial) fun _=>ih _ (by omega) (by omega)))
 exact key _ 0 (Int.self_le_toNat _) (Int.le_refl _)
theorem Sf (s:ByteArray):En (fun y=>(y.1 = true→y.2.2.1≠0)∧(y.1 = false→RI y.2.2.2.2.2)) (yp s):=by
 rw [Jt]
 refine En.bind (U6 s) fun r hr=>En.ifn (fun h=>.some ⟨fun _=>h,fun h=>(nomatch h)⟩) fun h=>.some ⟨fun h=>(nomatch h),fun _=>?_⟩
 obtain ⟨h1,h2⟩:=hr h
 exact ⟨Int.le_refl _,by show (0:Int)≤(r.1.length:Int);omega,h1,h2⟩
theorem Sc (s:ByteArray):En (fun _=>True) (yi s):=by
 have fin:∀ (r:Rd) (nm:ByteArray) (cu:Int) (vs:List GVersion),RI r→nm.size≤8000→vs.length≤8001→(∀ v∈vs,zM v)→En (fun (_:GStatute × Int × Int)=>True) (bif (bif r.bad then true else aa (r.at_ < (r.l.length:Int))) then (jm r).bind fun r3=>some ((⟨(ac []),0,[]⟩:GStatute),r3,4)
   else (nT (⟨nm,cu,vs⟩:GStatute)).bind fun r4=>bif (!r4) then some ((⟨(ac []),0,[]⟩:GStatute),0,7) else some ((⟨nm,cu,vs⟩:GStatute),0,0)):=by
  intro r nm cu vs hr h1 h2 h3
  refine En.bif (fun _=>?_) fun _=>En.bind (RK (x:=⟨nm,cu,vs⟩) h1 h2 h3) fun _ _=>En.bif (fun _=>.some trivial) fun _=>.some trivial
  rw [yy]
  exact En.bind (R:=fun _=>True) (En.ifd (fun h=>En.gd hr.1 (En.gd h (.some trivial))) fun _=>.some trivial) fun _ _=>.some trivial
 have loop:∀ (k:Nat) (first:Bool) (r:Rd) (nm0:ByteArray) (cu0:Int) (nm:ByteArray) (cu:Int) (vs:List GVersion),((r.l.length:Int) - r.at_)+(if r.bad then 0 else 1)≤k→RI r→nm.size≤8000→(vs.length:Int)≤r.at_+(if r.bad then 1 else 0)→(∀ v∈vs,zM v) →
   En (fun _=>True) (fu first nm0 cu0 r nm cu vs):=by
  intro k
  induction k with
  | zero =>
   intro first r nm0 cu0 nm cu vs hk hr h1 h2 h3
   rw [pc]
   have:=hr.2.1
   have:=small hr
   refine En.not (fun hb=>?_) fun hb=>fin r nm cu vs hr h1 (by rw [hb] at h2;simp at h2;omega) h3
   rw [hb] at hk;simp at hk;omega
  | succ k ih =>
   intro first r nm0 cu0 nm cu vs hk hr h1 h2 h3
   rw [pc]
   have hsm:=small hr
   refine En.not (fun hb=>?_) fun hb=>fin r nm cu vs hr h1 (by rw [hb] at h2;simp at h2;omega) h3
   rw [hb] at hk h2
   simp at hk h2
   have go:∀ (r':Rd) (y:GVersion × Rd),zM y.1∧RN r y.2∧PG r y.2→En (fun _=>True) (gb (aa (((vs.length+1)*144)≤140737488355328))<|gb (aa ((vs.length+1)≤140737488355328))<|fu false nm0 cu0 y.2 nm cu (vs++[y.1])):=by
    intro r' y ⟨g1,g2,g3⟩
    refine En.gd (by omega) (En.gd (by omega) (ih _ _ _ _ _ _ _ ?_ g2.ok h1 ?_ fun v hv=>?_))
    ·rw [g2.l]
     have:=g2.le
     rcases g3 with hbb | hlt
     ·rw [hbb];simp;omega
     ·split <;> omega
    ·rw [pr]
     have:=g2.le
     rcases g3 with hbb | hlt
     ·rw [hbb];simp;omega
     ·split <;> omega
    ·rcases List.mem_append.1 hv with hv | hv
     ·exact h3 v hv
     ·simp at hv;subst hv;exact g1
   refine En.bif (fun _=>En.bind (Fd hr) fun y hy=>go r y hy) fun _=>En.bind (gc hr _) fun y1 t1=>En.not (fun g=>?_) fun g=>?_
   ·rw [t1.2.2 g]
    exact En.bind (Fd hr) fun y hy=>go r y hy
   ·exact fin _ nm cu vs t1.1.ok h1 (by omega) h3
 rw [JE]
 refine En.bind (Sf s) fun y hy=>En.bif (fun hb=>En.ifn (fun _=>.some trivial) fun h=>absurd h (hy.1 hb)) fun hb=>En.ifn (fun _=>.some trivial) fun _=>?_
 have hr:=hy.2 hb
 refine En.bind (da hr _) fun r1 w1=>En.bind (Gm w1.1.ok) fun y2 x2=>En.bind (da x2.1.ok _) fun r3 w3=>En.bind (qK w3.1.ok _ _) fun y4 x4=>En.bind (da x4.ok _) fun r5 w5=>?_
 exact loop _ _ _ _ _ _ _ _ (Int.self_le_toNat _) w5.1.ok x2.2 (by have:=w5.1.ok.1;split <;> simp <;> omega) (fun v hv=>by simp at hv)
end Go.Ax
