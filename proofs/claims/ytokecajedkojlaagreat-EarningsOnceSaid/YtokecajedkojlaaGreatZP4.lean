import Derived.Test.YtokecajedkojlaaGreatZP3
set_option linter.all false
/- Clauses, versions, statutes: their reading ends. -/
set_option maxRecDepth 100000
namespace Go.Ax
structure sB (n:Int) (C:List GCredit) (S:List GIndex) (L:List GLet) (G:List GGrant) (R:List GReduce):Prop where
  cr:(C.length:Int)≤n
  se:(S.length:Int)≤n
  le:(L.length:Int)≤n
  gr:(G.length:Int)≤n
  re:(R.length:Int)≤n
  xle:∀ x∈L,x.Name.size≤8000∧ny x.Body
  xgr:∀ x∈G,ny x.If∧ny x.Pay
  xre:∀ x∈R,ny x.By
theorem sB.mono {n m:Int} {cr se le gr re} (h:sB n cr se le gr re) (hm:n≤m):sB m cr se le gr re :=
  ⟨Int.le_trans h.cr hm,Int.le_trans h.se hm,Int.le_trans h.le hm,Int.le_trans h.gr hm,Int.le_trans h.re hm,h.xle,h.xgr,h.xre⟩
abbrev Xm:=Rd × Int × GRounding × List GCredit × List GIndex × List GLet × List GGrant × List GReduce
def CQ (r:Rd) (y:Xm):Prop:=RN r y.1∧PG r y.1∧sB y.1.at_ y.2.2.2.1 y.2.2.2.2.1 y.2.2.2.2.2.1 y.2.2.2.2.2.2.1 y.2.2.2.2.2.2.2
theorem hZ {α:Type} (l:List α) (x:α):((l++[x]).length:Int) = l.length+1:=by simp
section
variable {r0 r:Rd} {F:Int} {R:GRounding} {cr:List GCredit} {se:List GIndex} {le:List GLet} {gr:List GGrant} {re:List GReduce}
theorem mN (hn:RN r0 r) (hp:PG r0 r) (hl:sB r.at_ cr se le gr re):En (CQ r0) (bQ r F R cr se le gr re):=by
  rw [u5]
  exact En.bind (cM hn.ok _) fun r1 w=>.some ⟨hn.trans w.1,hp.right w.1,hl.mono w.1.le⟩
theorem small (h:RI r):r.at_≤8000:=by have:=h.2.1; have:=h.2.2.1; omega
theorem Dp (hn:RN r0 r) (hp:r0.at_ < r.at_) (hl:sB r0.at_ cr se le gr re) (c:GCredit):En (CQ r0) (fy r F R c cr se le gr re):=by
  rw [tX]
  have:=small hn.ok
  have:=hl.cr
  exact En.gd (by omega) (En.gd (by omega) (mN hn (.inr hp) { (hl.mono hn.le) with cr:=by rw [hZ]; omega }))
theorem BJ (hn:RN r0 r) (hp:r0.at_ < r.at_) (hl:sB r0.at_ cr se le gr re) (c:GIndex):En (CQ r0) (eW r F R c cr se le gr re):=by
  rw [sN]
  have:=small hn.ok
  have:=hl.se
  exact En.gd (by omega) (En.gd (by omega) (mN hn (.inr hp) { (hl.mono hn.le) with se:=by rw [hZ]; omega }))
theorem uE (hn:RN r0 r) (hp:r0.at_ < r.at_) (hl:sB r0.at_ cr se le gr re) (c:GIndex):En (CQ r0) (dE r F R c cr se le gr re):=by
  rw [sO]
  refine En.bif (fun _=>En.bind (oE hn.ok) fun z hz=>BJ (hn.trans hz.1) (Int.lt_of_lt_of_le hp hz.1.le) hl c) fun _=>BJ hn hp hl c
theorem SM (h:RI r) (hl:sB r.at_ cr se le gr re):En (CQ r) (mg r F R cr se le gr re):=by
  rw [xL]
  simp only [aI]
  refine En.bind (fP h _) fun y0 t0=>En.bif (fun g=>?_) fun g=>?_
  · refine En.bind (Lu t0.1.ok 1 (by omega) (by omega)) fun y1 x1=>En.bind (fP x1.ok _) fun y2 t2=>En.bif (fun _=>En.bind (rR t2.1.ok _ _) fun y3 x3=>?_) fun _=>?_
    · exact Dp (((t0.1.trans x1).trans t2.1).trans x3) (by have:=t0.2.1 g; have:=x1.le; have:=t2.1.le; have:=x3.le; omega) hl _
    · exact Dp ((t0.1.trans x1).trans t2.1) (by have:=t0.2.1 g; have:=x1.le; have:=t2.1.le; omega) hl _
  rw [t0.2.2 g]
  refine En.bind (fP h _) fun y4 t4=>En.bif (fun g=>?_) fun g=>?_
  · refine En.bind (rR t4.1.ok _ _) fun y5 x5=>En.bind (ub x5.ok 2) fun b hb=>En.bif (fun hk=>?_) fun _=>?_
    · have hlt:=(hb hk).2.1
      have hn:=t4.1.trans x5
      have hp:r.at_ < y5.2.at_:=by have:=t4.2.1 g; have:=x5.le; omega
      refine En.gd x5.ok.1 (En.gd hlt (En.bind (yU _ (Cc x5.ok hlt).1) fun v _=>En.bif (fun _=>?_) fun _=>uE hn hp hl _))
      obtain ⟨a1,a2⟩:=Dk x5.ok hlt
      exact uE (hn.trans a1) (by show r.at_ < ab (y5.2.at_+1); omega) hl _
    · exact uE (t4.1.trans x5) (by have:=t4.2.1 g; have:=x5.le; omega) hl _
  rw [t4.2.2 g]
  refine En.bind (fP h _) fun y8 t8=>En.bif (fun g=>?_) fun g=>?_
  · refine En.bind (Jp t8.1.ok) fun y9 x9=>En.bind (cM x9.1.ok _) fun r10 w10=>En.bind (Cr w10.1.ok) fun y11 x11=>?_
    have hn:=((t8.1.trans x9.1).trans w10.1).trans x11.2
    have hp:r.at_ < y11.2.at_:=by have:=t8.2.1 g; have:=x9.1.le; have:=w10.1.le; have:=x11.2.le; omega
    have:=small hn.ok
    have:=hl.le
    refine En.gd (by omega) (En.gd (by omega) (mN hn (.inr hp) { (hl.mono hn.le) with le:=by rw [hZ]; omega,xle:=fun x hx=>?_ }))
    rcases List.mem_append.1 hx with hx | hx
    · exact hl.xle x hx
    · simp at hx; subst hx; exact ⟨x9.2,x11.1⟩
  rw [t8.2.2 g]
  refine En.bind (fP h _) fun y12 t12=>En.bif (fun g=>?_) fun g=>?_
  · refine En.bind (Lu t12.1.ok 2 (by omega) (by omega)) fun y13 x13=>En.bind (cM x13.ok _) fun r14 w14=>En.bind (Cr w14.1.ok) fun y15 x15=>En.bind (cM x15.2.ok _) fun r16 w16=>En.bind (Cr w16.1.ok) fun y17 x17=>?_
    have hn:=((((t12.1.trans x13).trans w14.1).trans x15.2).trans w16.1).trans x17.2
    have hp:r.at_ < y17.2.at_:=by have:=t12.2.1 g; have:=x13.le; have:=w14.1.le; have:=x15.2.le; have:=w16.1.le; have:=x17.2.le; omega
    have:=small hn.ok
    have:=hl.gr
    refine En.gd (by omega) (En.gd (by omega) (mN hn (.inr hp) { (hl.mono hn.le) with gr:=by rw [hZ]; omega,xgr:=fun x hx=>?_ }))
    rcases List.mem_append.1 hx with hx | hx
    · exact hl.xgr x hx
    · simp at hx; subst hx; exact ⟨x15.1,x17.1⟩
  rw [t12.2.2 g]
  refine En.bind (fP h _) fun y18 t18=>En.bif (fun g=>?_) fun g=>?_
  · refine En.bind (Lu t18.1.ok 2 (by omega) (by omega)) fun y13 x13=>En.bind (cM x13.ok _) fun r14 w14=>En.bind (Cr w14.1.ok) fun y15 x15=>?_
    have hn:=((t18.1.trans x13).trans w14.1).trans x15.2
    have hp:r.at_ < y15.2.at_:=by have:=t18.2.1 g; have:=x13.le; have:=w14.1.le; have:=x15.2.le; omega
    have:=small hn.ok
    have:=hl.re
    refine En.gd (by omega) (En.gd (by omega) (mN hn (.inr hp) { (hl.mono hn.le) with re:=by rw [hZ]; omega,xre:=fun x hx=>?_ }))
    rcases List.mem_append.1 hx with hx | hx
    · exact hl.xre x hx
    · simp at hx; subst hx; exact x15.1
  rw [t18.2.2 g]
  exact En.bind (oE h) fun z hz=>mN hz.1 hz.2 (hl.mono hz.1.le)
end
def sS (v:GVersion):Prop:=sB 8000 v.Credits v.Series v.Lets v.Grants v.Reduces
theorem F3 {r:Rd} (h:RI r):En (fun y=>sS y.1∧RN r y.2∧PG r y.2) (ij r):=by
  have loop:∀ (k:Nat) (r':Rd) (F:Int) (R:GRounding) (F2:Int) (R2:GRounding) (cr:List GCredit) (se:List GIndex) (le:List GLet) (gr:List GGrant) (re:List GReduce),
      ((r'.l.length:Int) - r'.at_)+(if r'.bad then 0 else 1)≤k→RN r r'→PG r r'→sB r'.at_ cr se le gr re→En (fun y=>sS y.1∧RN r y.2∧PG r y.2) (ew r' F R F2 R2 cr se le gr re):=by
    intro k
    induction k with
    | zero =>
      intro r' F R F2 R2 cr se le gr re hk hn hp hl
      rw [jM]
      have:=hn.ok.2.1
      refine En.not (fun hb=>?_) fun _=>.some ⟨hl.mono (small hn.ok),hn,hp⟩
      rw [hb] at hk; simp at hk; omega
    | succ k ih =>
      intro r' F R F2 R2 cr se le gr re hk hn hp hl
      rw [jM]
      refine En.not (fun hb=>?_) fun _=>.some ⟨hl.mono (small hn.ok),hn,hp⟩
      rw [hb] at hk
      simp at hk
      refine En.bind (fP hn.ok _) fun y0 t0=>En.not (fun g=>?_) fun _=>.some ⟨hl.mono (small hn.ok),hn.trans t0.1,hp.right t0.1⟩
      rw [t0.2.2 g]
      refine En.bind (SM hn.ok hl) fun y1 x1=>ih _ _ _ _ _ _ _ _ _ _ ?_ (hn.trans x1.1) (hp.right x1.1) x1.2.2
      rw [x1.1.l]
      have:=x1.1.le
      rcases x1.2.1 with hbb | hlt
      · rw [hbb]; simp; omega
      · split <;> omega
  have p31:∀ (r':Rd) (F:Int) (R:GRounding) (F2:Int) (R2:GRounding),RN r r'→PG r r'→En (fun y=>sS y.1∧RN r y.2∧PG r y.2) (eY r' F R F2 R2):=by
    intro r' F R F2 R2 hn hp
    rw [sQ]
    refine En.bind (cM hn.ok _) fun r0 w0=>En.bind (cM w0.1.ok _) fun r1 w1=>En.bind (Lu w1.1.ok 3 (by omega) (by omega)) fun y2 x2=>En.bind (rR x2.ok _ _) fun y3 x3=>En.bind (cM x3.ok _) fun r4 w4=>?_
    have m:=((((w0.1.trans w1.1).trans x2).trans x3).trans w4.1)
    have h0:=(hn.trans m).ok.1
    exact loop _ _ _ _ _ _ _ _ _ _ _ (Int.self_le_toNat _) (hn.trans m) (hp.right m) ⟨by simpa using h0,by simpa using h0,by simpa using h0,by simpa using h0,by simpa using h0,fun x hx=>by simp at hx,fun x hx=>by simp at hx,fun x hx=>by simp at hx⟩
  rw [wx]
  refine En.bind (cM h _) fun r0 w0=>En.bind (ub w0.1.ok 3) fun b hb=>En.bif (fun hk=>?_) fun _=>En.bind (oE w0.1.ok) fun z hz=>p31 _ _ _ _ _ (w0.1.trans hz.1) (w0.2.right hz.1)
  obtain ⟨_,hlt,hkind⟩:=hb hk
  have ht:=Cc w0.1.ok hlt
  have h11:=ht.2 hkind
  refine En.gd w0.1.ok.1 (En.gd hlt (En.bind (R:=fun _=>True) ?_ fun v _=>p31 _ _ _ _ _ (w0.1.trans (Dk w0.1.ok hlt).1) (w0.2.right (Dk w0.1.ok hlt).1)))
  rw [KU]
  exact En.gd (by omega) (En.gd (Int.le_refl _) (En.bind (Dt _ (by rw [ByteArray.size_extract]; omega)) fun _ _=>.some trivial))
theorem Mj (F:Int) (R:GRounding) (cr:List GCredit) (se:List GIndex) (le:List GLet) (gr:List GGrant) (re:List GReduce) (h:sB 8000 cr se le gr re):∀ (k:Nat) (i:Int),(re.length:Int) - i≤k→0≤i→En (fun _=>True) (eX i F R cr se le gr re):=by
  intro k
  have:=h.re
  induction k with
  | zero=>intro i h0 h1; rw [kN]; exact En.ifd (fun h=>by omega) fun _=>.some trivial
  | succ k ih =>
    intro i h0 h1
    rw [kN]
    simp only [aI]
    refine En.ifd (fun hlt=>?_) fun _=>.some trivial
    rw [ah (n:=i+1) (by omega) (by omega)]
    exact En.gd h1 (En.gd hlt (En.bind (wc _ _) fun _ _=>En.bif (fun _=>.some trivial) fun _=>En.gd h1 (En.gd hlt (En.bind (o9 (h.xre _ (cw h1 hlt))) fun _ _=>En.bif (fun _=>.some trivial) fun _=>ih _ (by omega) (by omega)))))
theorem Pg (F:Int) (R:GRounding) (cr:List GCredit) (se:List GIndex) (le:List GLet) (gr:List GGrant) (re:List GReduce) (h:sB 8000 cr se le gr re):∀ (k:Nat) (i:Int),(gr.length:Int) - i≤k→0≤i→En (fun _=>True) (fA i F R cr se le gr re):=by
  intro k
  have:=h.gr
  have nxt:=Mj F R cr se le gr re h _ 0 (Int.self_le_toNat _) (Int.le_refl _)
  induction k with
  | zero=>intro i h0 h1; rw [lD]; exact En.ifd (fun h=>by omega) fun _=>nxt
  | succ k ih =>
    intro i h0 h1
    rw [lD]
    simp only [aI]
    refine En.ifd (fun hlt=>?_) fun _=>nxt
    rw [ah (n:=i+1) (by omega) (by omega)]
    have hx:=h.xgr _ (cw (z:=zS .GGrant) h1 hlt)
    exact En.gd h1 (En.gd hlt (En.bind (wc _ _) fun _ _=>En.bif (fun _=>.some trivial) fun _=>En.gd h1 (En.gd hlt (En.bind (o9 hx.1) fun _ _=>En.bif (fun _=>.some trivial) fun _=>En.gd h1 (En.gd hlt (En.bind (o9 hx.2) fun _ _=>En.bif (fun _=>.some trivial) fun _=>ih _ (by omega) (by omega)))))))
theorem OZ (F:Int) (R:GRounding) (cr:List GCredit) (se:List GIndex) (le:List GLet) (gr:List GGrant) (re:List GReduce) (h:sB 8000 cr se le gr re):∀ (k:Nat) (i:Int),(le.length:Int) - i≤k→0≤i→En (fun _=>True) (fu i F R cr se le gr re):=by
  intro k
  have:=h.le
  have nxt:=Pg F R cr se le gr re h _ 0 (Int.self_le_toNat _) (Int.le_refl _)
  induction k with
  | zero=>intro i h0 h1; rw [lI]; exact En.ifd (fun h=>by omega) fun _=>nxt
  | succ k ih =>
    intro i h0 h1
    rw [lI]
    simp only [aI]
    refine En.ifd (fun hlt=>?_) fun _=>nxt
    rw [ah (n:=i+1) (by omega) (by omega)]
    have hx:=h.xle _ (cw (z:=zS .GLet) h1 hlt)
    exact En.gd h1 (En.gd hlt (En.bind (lU _ (by have:=hx.1; omega)) fun _ _=>En.bif (fun _=>.some trivial) fun _=>En.gd h1 (En.gd hlt (En.bind (o9 hx.2) fun _ _=>En.bif (fun _=>.some trivial) fun _=>ih _ (by omega) (by omega)))))
theorem De (F:Int) (R:GRounding) (cr:List GCredit) (se:List GIndex) (le:List GLet) (gr:List GGrant) (re:List GReduce) (h:sB 8000 cr se le gr re):∀ (k:Nat) (i:Int),(se.length:Int) - i≤k→0≤i→En (fun _=>True) (fB i F R cr se le gr re):=by
  intro k
  have:=h.se
  have nxt:=OZ F R cr se le gr re h _ 0 (Int.self_le_toNat _) (Int.le_refl _)
  induction k with
  | zero=>intro i h0 h1; rw [lq]; exact En.ifd (fun h=>by omega) fun _=>nxt
  | succ k ih =>
    intro i h0 h1
    rw [lq]
    refine En.ifd (fun hlt=>?_) fun _=>nxt
    rw [ah (n:=i+1) (by omega) (by omega)]
    exact En.gd h1 (En.gd hlt (En.bind (om _ _) fun _ _=>En.gd h1 (En.gd hlt (En.go (fun _=>h1) (En.go (fun _=>hlt) (En.go (fun _=>h1) (En.go (fun _=>hlt) (En.bif (fun _=>.some trivial) fun _=>ih _ (by omega) (by omega)))))))))
theorem Q6 (F:Int) (R:GRounding) (cr:List GCredit) (se:List GIndex) (le:List GLet) (gr:List GGrant) (re:List GReduce) (h:sB 8000 cr se le gr re):∀ (k:Nat) (i:Int),(cr.length:Int) - i≤k→0≤i→En (fun _=>True) (db i F R cr se le gr re):=by
  intro k
  have:=h.cr
  have nxt:=De F R cr se le gr re h _ 0 (Int.self_le_toNat _) (Int.le_refl _)
  induction k with
  | zero=>intro i h0 h1; rw [eC]; exact En.ifd (fun h=>by omega) fun _=>nxt
  | succ k ih =>
    intro i h0 h1
    rw [eC]
    refine En.ifd (fun hlt=>?_) fun _=>nxt
    rw [ah (n:=i+1) (by omega) (by omega)]
    exact En.gd h1 (En.gd hlt (En.bind (wc _ _) fun _ _=>En.go (fun _=>h1) (En.go (fun _=>hlt) (En.go (fun _=>h1) (En.go (fun _=>hlt) (En.bif (fun _=>.some trivial) fun _=>ih _ (by omega) (by omega)))))))
theorem Gy {v:GVersion} (h:sS v):En (fun _=>True) (jo v):=by
  rw [oU,dY,jL]
  simp only [Option.bind_some]
  have g:=Q6 v.From v.Rounding _ _ _ _ _ h _ 0 (Int.self_le_toNat _) (Int.le_refl _)
  repeat' first | exact g | exact En.some trivial | refine En.bif (fun _=>?_) (fun _=>?_)
theorem UO {x:GStatute} (h1:x.Name.size≤8000) (h2:x.Versions.length≤8001) (h3:∀ v∈x.Versions,sS v):En (fun _=>True) (kx x):=by
  rw [An]
  refine En.bind (lU _ (by omega)) fun _ _=>En.bif (fun _=>.some trivial) fun _=>?_
  have key:∀ (k:Nat) (i:Int),(x.Versions.length:Int) - i≤k→0≤i→En (fun _=>True) (jG i x.Name x.Currency x.Versions):=by
    intro k
    induction k with
    | zero=>intro i h0 h1; rw [jq]; exact En.ifd (fun h=>by omega) fun _=>.some trivial
    | succ k ih =>
      intro i h0 h1
      rw [jq]
      refine En.ifd (fun hlt=>?_) fun _=>.some trivial
      rw [ah (n:=i+1) (by omega) (by omega)]
      exact En.gd h1 (En.gd hlt (En.bind (Gy (h3 _ (cw h1 hlt))) fun _ _=>En.bif (fun _=>.some trivial) fun _=>ih _ (by omega) (by omega)))
  exact key _ 0 (Int.self_le_toNat _) (Int.le_refl _)
theorem U3 (s:ByteArray):En (fun y=>(y.1 = true→y.2.2.1≠0)∧(y.1 = false→RI y.2.2.2.2.2)) (yN s):=by
  rw [Li]
  refine En.bind (V4 s) fun r hr=>En.ifn (fun h=>.some ⟨fun _=>h,fun h=>(nomatch h)⟩) fun h=>.some ⟨fun h=>(nomatch h),fun _=>?_⟩
  obtain ⟨h1,h2⟩:=hr h
  exact ⟨Int.le_refl _,by show (0:Int)≤(r.1.length:Int); omega,h1,h2⟩
end Go.Ax
