import Derived.Test.YtokecajedkojlaaGreatZP3
set_option linter.all false
/- Clauses, versions, statutes: their reading ends. -/
set_option maxRecDepth 100000
namespace Go.Ax
structure rx (n:Int) (C:List GCredit) (S:List GIndex) (L:List GLet) (G:List GGrant) (R:List GReduce):Prop where
  cr:(C.length:Int)≤n
  se:(S.length:Int)≤n
  le:(L.length:Int)≤n
  gr:(G.length:Int)≤n
  re:(R.length:Int)≤n
  xle:∀ x∈L,x.Name.size≤8000∧nu x.Body
  xgr:∀ x∈G,nu x.If∧nu x.Pay
  xre:∀ x∈R,nu x.By
theorem rx.mono {n m:Int} {cr se le gr re} (h:rx n cr se le gr re) (hm:n≤m):rx m cr se le gr re :=
  ⟨Int.le_trans h.cr hm,Int.le_trans h.se hm,Int.le_trans h.le hm,Int.le_trans h.gr hm,Int.le_trans h.re hm,h.xle,h.xgr,h.xre⟩
abbrev WC:=Rd × Int × GRounding × List GCredit × List GIndex × List GLet × List GGrant × List GReduce
def CQ (r:Rd) (y:WC):Prop:=RN r y.1∧PG r y.1∧rx y.1.at_ y.2.2.2.1 y.2.2.2.2.1 y.2.2.2.2.2.1 y.2.2.2.2.2.2.1 y.2.2.2.2.2.2.2
theorem gP {α:Type} (l:List α) (x:α):((l++[x]).length:Int) = l.length+1:=by simp
section
variable {r0 r:Rd} {F:Int} {R:GRounding} {cr:List GCredit} {se:List GIndex} {le:List GLet} {gr:List GGrant} {re:List GReduce}
theorem mv (hn:RN r0 r) (hp:PG r0 r) (hl:rx r.at_ cr se le gr re):En (CQ r0) (bS r F R cr se le gr re):=by
  rw [uj]
  exact En.bind (cM hn.ok _) fun r1 w=>.some ⟨hn.trans w.1,hp.right w.1,hl.mono w.1.le⟩
theorem small (h:RI r):r.at_≤8000:=by have:=h.2.1; have:=h.2.2.1; omega
theorem CZ (hn:RN r0 r) (hp:r0.at_ < r.at_) (hl:rx r0.at_ cr se le gr re) (c:GCredit):En (CQ r0) (fp r F R c cr se le gr re):=by
  rw [tH]
  have:=small hn.ok
  have:=hl.cr
  exact En.gd (by omega) (En.gd (by omega) (mv hn (.inr hp) { (hl.mono hn.le) with cr:=by rw [gP]; omega }))
theorem Bu (hn:RN r0 r) (hp:r0.at_ < r.at_) (hl:rx r0.at_ cr se le gr re) (c:GIndex):En (CQ r0) (eP r F R c cr se le gr re):=by
  rw [sD]
  have:=small hn.ok
  have:=hl.se
  exact En.gd (by omega) (En.gd (by omega) (mv hn (.inr hp) { (hl.mono hn.le) with se:=by rw [gP]; omega }))
theorem tU (hn:RN r0 r) (hp:r0.at_ < r.at_) (hl:rx r0.at_ cr se le gr re) (c:GIndex):En (CQ r0) (dC r F R c cr se le gr re):=by
  rw [sF]
  refine En.bif (fun _=>En.bind (om hn.ok) fun z hz=>Bu (hn.trans hz.1) (Int.lt_of_lt_of_le hp hz.1.le) hl c) fun _=>Bu hn hp hl c
theorem Rv (h:RI r) (hl:rx r.at_ cr se le gr re):En (CQ r) (lI r F R cr se le gr re):=by
  rw [xk]
  simp only [aI]
  refine En.bind (fJ h _) fun y0 t0=>En.bif (fun g=>?_) fun g=>?_
  · refine En.bind (KV t0.1.ok 1 (by omega) (by omega)) fun y1 x1=>En.bind (fJ x1.ok _) fun y2 t2=>En.bif (fun _=>En.bind (rM t2.1.ok _ _) fun y3 x3=>?_) fun _=>?_
    · exact CZ (((t0.1.trans x1).trans t2.1).trans x3) (by have:=t0.2.1 g; have:=x1.le; have:=t2.1.le; have:=x3.le; omega) hl _
    · exact CZ ((t0.1.trans x1).trans t2.1) (by have:=t0.2.1 g; have:=x1.le; have:=t2.1.le; omega) hl _
  rw [t0.2.2 g]
  refine En.bind (fJ h _) fun y4 t4=>En.bif (fun g=>?_) fun g=>?_
  · refine En.bind (rM t4.1.ok _ _) fun y5 x5=>En.bind (tM x5.ok 2) fun b hb=>En.bif (fun hk=>?_) fun _=>?_
    · have hlt:=(hb hk).2.1
      have hn:=t4.1.trans x5
      have hp:r.at_ < y5.2.at_:=by have:=t4.2.1 g; have:=x5.le; omega
      refine En.gd x5.ok.1 (En.gd hlt (En.bind (yt _ (AM x5.ok hlt).1) fun v _=>En.bif (fun _=>?_) fun _=>tU hn hp hl _))
      obtain ⟨a1,a2⟩:=C7 x5.ok hlt
      exact tU (hn.trans a1) (by show r.at_ < ab (y5.2.at_+1); omega) hl _
    · exact tU (t4.1.trans x5) (by have:=t4.2.1 g; have:=x5.le; omega) hl _
  rw [t4.2.2 g]
  refine En.bind (fJ h _) fun y8 t8=>En.bif (fun g=>?_) fun g=>?_
  · refine En.bind (H2 t8.1.ok) fun y9 x9=>En.bind (cM x9.1.ok _) fun r10 w10=>En.bind (Ce w10.1.ok) fun y11 x11=>?_
    have hn:=((t8.1.trans x9.1).trans w10.1).trans x11.2
    have hp:r.at_ < y11.2.at_:=by have:=t8.2.1 g; have:=x9.1.le; have:=w10.1.le; have:=x11.2.le; omega
    have:=small hn.ok
    have:=hl.le
    refine En.gd (by omega) (En.gd (by omega) (mv hn (.inr hp) { (hl.mono hn.le) with le:=by rw [gP]; omega,xle:=fun x hx=>?_ }))
    rcases List.mem_append.1 hx with hx | hx
    · exact hl.xle x hx
    · simp at hx; subst hx; exact ⟨x9.2,x11.1⟩
  rw [t8.2.2 g]
  refine En.bind (fJ h _) fun y12 t12=>En.bif (fun g=>?_) fun g=>?_
  · refine En.bind (KV t12.1.ok 2 (by omega) (by omega)) fun y13 x13=>En.bind (cM x13.ok _) fun r14 w14=>En.bind (Ce w14.1.ok) fun y15 x15=>En.bind (cM x15.2.ok _) fun r16 w16=>En.bind (Ce w16.1.ok) fun y17 x17=>?_
    have hn:=((((t12.1.trans x13).trans w14.1).trans x15.2).trans w16.1).trans x17.2
    have hp:r.at_ < y17.2.at_:=by have:=t12.2.1 g; have:=x13.le; have:=w14.1.le; have:=x15.2.le; have:=w16.1.le; have:=x17.2.le; omega
    have:=small hn.ok
    have:=hl.gr
    refine En.gd (by omega) (En.gd (by omega) (mv hn (.inr hp) { (hl.mono hn.le) with gr:=by rw [gP]; omega,xgr:=fun x hx=>?_ }))
    rcases List.mem_append.1 hx with hx | hx
    · exact hl.xgr x hx
    · simp at hx; subst hx; exact ⟨x15.1,x17.1⟩
  rw [t12.2.2 g]
  refine En.bind (fJ h _) fun y18 t18=>En.bif (fun g=>?_) fun g=>?_
  · refine En.bind (KV t18.1.ok 2 (by omega) (by omega)) fun y13 x13=>En.bind (cM x13.ok _) fun r14 w14=>En.bind (Ce w14.1.ok) fun y15 x15=>?_
    have hn:=((t18.1.trans x13).trans w14.1).trans x15.2
    have hp:r.at_ < y15.2.at_:=by have:=t18.2.1 g; have:=x13.le; have:=w14.1.le; have:=x15.2.le; omega
    have:=small hn.ok
    have:=hl.re
    refine En.gd (by omega) (En.gd (by omega) (mv hn (.inr hp) { (hl.mono hn.le) with re:=by rw [gP]; omega,xre:=fun x hx=>?_ }))
    rcases List.mem_append.1 hx with hx | hx
    · exact hl.xre x hx
    · simp at hx; subst hx; exact x15.1
  rw [t18.2.2 g]
  exact En.bind (om h) fun z hz=>mv hz.1 hz.2 (hl.mono hz.1.le)
end
def sI (v:GVersion):Prop:=rx 8000 v.Credits v.Series v.Lets v.Grants v.Reduces
theorem Fa {r:Rd} (h:RI r):En (fun y=>sI y.1∧RN r y.2∧PG r y.2) (ic r):=by
  have loop:∀ (k:Nat) (r':Rd) (F:Int) (R:GRounding) (F2:Int) (R2:GRounding) (cr:List GCredit) (se:List GIndex) (le:List GLet) (gr:List GGrant) (re:List GReduce),
      ((r'.l.length:Int) - r'.at_)+(if r'.bad then 0 else 1)≤k→RN r r'→PG r r'→rx r'.at_ cr se le gr re→En (fun y=>sI y.1∧RN r y.2∧PG r y.2) (em r' F R F2 R2 cr se le gr re):=by
    intro k
    induction k with
    | zero =>
      intro r' F R F2 R2 cr se le gr re hk hn hp hl
      rw [jw]
      have:=hn.ok.2.1
      refine En.not (fun hb=>?_) fun _=>.some ⟨hl.mono (small hn.ok),hn,hp⟩
      rw [hb] at hk; simp at hk; omega
    | succ k ih =>
      intro r' F R F2 R2 cr se le gr re hk hn hp hl
      rw [jw]
      refine En.not (fun hb=>?_) fun _=>.some ⟨hl.mono (small hn.ok),hn,hp⟩
      rw [hb] at hk
      simp at hk
      refine En.bind (fJ hn.ok _) fun y0 t0=>En.not (fun g=>?_) fun _=>.some ⟨hl.mono (small hn.ok),hn.trans t0.1,hp.right t0.1⟩
      rw [t0.2.2 g]
      refine En.bind (Rv hn.ok hl) fun y1 x1=>ih _ _ _ _ _ _ _ _ _ _ ?_ (hn.trans x1.1) (hp.right x1.1) x1.2.2
      rw [x1.1.l]
      have:=x1.1.le
      rcases x1.2.1 with hbb | hlt
      · rw [hbb]; simp; omega
      · split <;> omega
  have p31:∀ (r':Rd) (F:Int) (R:GRounding) (F2:Int) (R2:GRounding),RN r r'→PG r r'→En (fun y=>sI y.1∧RN r y.2∧PG r y.2) (eR r' F R F2 R2):=by
    intro r' F R F2 R2 hn hp
    rw [sx]
    refine En.bind (cM hn.ok _) fun r0 w0=>En.bind (cM w0.1.ok _) fun r1 w1=>En.bind (KV w1.1.ok 3 (by omega) (by omega)) fun y2 x2=>En.bind (rM x2.ok _ _) fun y3 x3=>En.bind (cM x3.ok _) fun r4 w4=>?_
    have m:=((((w0.1.trans w1.1).trans x2).trans x3).trans w4.1)
    have h0:=(hn.trans m).ok.1
    exact loop _ _ _ _ _ _ _ _ _ _ _ (Int.self_le_toNat _) (hn.trans m) (hp.right m) ⟨by simpa using h0,by simpa using h0,by simpa using h0,by simpa using h0,by simpa using h0,fun x hx=>by simp at hx,fun x hx=>by simp at hx,fun x hx=>by simp at hx⟩
  rw [wV]
  refine En.bind (cM h _) fun r0 w0=>En.bind (tM w0.1.ok 3) fun b hb=>En.bif (fun hk=>?_) fun _=>En.bind (om w0.1.ok) fun z hz=>p31 _ _ _ _ _ (w0.1.trans hz.1) (w0.2.right hz.1)
  obtain ⟨_,hlt,hkind⟩:=hb hk
  have ht:=AM w0.1.ok hlt
  have h11:=ht.2 hkind
  refine En.gd w0.1.ok.1 (En.gd hlt (En.bind (R:=fun _=>True) ?_ fun v _=>p31 _ _ _ _ _ (w0.1.trans (C7 w0.1.ok hlt).1) (w0.2.right (C7 w0.1.ok hlt).1)))
  rw [KE]
  exact En.gd (by omega) (En.gd (Int.le_refl _) (En.bind (CU _ (by rw [ByteArray.size_extract]; omega)) fun _ _=>.some trivial))
theorem Nz (F:Int) (R:GRounding) (cr:List GCredit) (se:List GIndex) (le:List GLet) (gr:List GGrant) (re:List GReduce) (h:rx 8000 cr se le gr re):∀ (k:Nat) (i:Int),(re.length:Int) - i≤k→0≤i→En (fun _=>True) (eQ i F R cr se le gr re):=by
  intro k
  have:=h.re
  induction k with
  | zero=>intro i h0 h1; rw [kz]; exact En.ifd (fun h=>by omega) fun _=>.some trivial
  | succ k ih =>
    intro i h0 h1
    rw [kz]
    simp only [aI]
    refine En.ifd (fun hlt=>?_) fun _=>.some trivial
    rw [ai (n:=i+1) (by omega) (by omega)]
    exact En.gd h1 (En.gd hlt (En.bind (vB _ _) fun _ _=>En.bif (fun _=>.some trivial) fun _=>En.gd h1 (En.gd hlt (En.bind (pr (h.xre _ (cB h1 hlt))) fun _ _=>En.bif (fun _=>.some trivial) fun _=>ih _ (by omega) (by omega)))))
theorem Ol (F:Int) (R:GRounding) (cr:List GCredit) (se:List GIndex) (le:List GLet) (gr:List GGrant) (re:List GReduce) (h:rx 8000 cr se le gr re):∀ (k:Nat) (i:Int),(gr.length:Int) - i≤k→0≤i→En (fun _=>True) (fk i F R cr se le gr re):=by
  intro k
  have:=h.gr
  have nxt:=Nz F R cr se le gr re h _ 0 (Int.self_le_toNat _) (Int.le_refl _)
  induction k with
  | zero=>intro i h0 h1; rw [lz]; exact En.ifd (fun h=>by omega) fun _=>nxt
  | succ k ih =>
    intro i h0 h1
    rw [lz]
    simp only [aI]
    refine En.ifd (fun hlt=>?_) fun _=>nxt
    rw [ai (n:=i+1) (by omega) (by omega)]
    have hx:=h.xgr _ (cB (z:=zS .GGrant) h1 hlt)
    exact En.gd h1 (En.gd hlt (En.bind (vB _ _) fun _ _=>En.bif (fun _=>.some trivial) fun _=>En.gd h1 (En.gd hlt (En.bind (pr hx.1) fun _ _=>En.bif (fun _=>.some trivial) fun _=>En.gd h1 (En.gd hlt (En.bind (pr hx.2) fun _ _=>En.bif (fun _=>.some trivial) fun _=>ih _ (by omega) (by omega)))))))
theorem ON (F:Int) (R:GRounding) (cr:List GCredit) (se:List GIndex) (le:List GLet) (gr:List GGrant) (re:List GReduce) (h:rx 8000 cr se le gr re):∀ (k:Nat) (i:Int),(le.length:Int) - i≤k→0≤i→En (fun _=>True) (fh i F R cr se le gr re):=by
  intro k
  have:=h.le
  have nxt:=Ol F R cr se le gr re h _ 0 (Int.self_le_toNat _) (Int.le_refl _)
  induction k with
  | zero=>intro i h0 h1; rw [lw]; exact En.ifd (fun h=>by omega) fun _=>nxt
  | succ k ih =>
    intro i h0 h1
    rw [lw]
    simp only [aI]
    refine En.ifd (fun hlt=>?_) fun _=>nxt
    rw [ai (n:=i+1) (by omega) (by omega)]
    have hx:=h.xle _ (cB (z:=zS .GLet) h1 hlt)
    exact En.gd h1 (En.gd hlt (En.bind (lN _ (by have:=hx.1; omega)) fun _ _=>En.bif (fun _=>.some trivial) fun _=>En.gd h1 (En.gd hlt (En.bind (pr hx.2) fun _ _=>En.bif (fun _=>.some trivial) fun _=>ih _ (by omega) (by omega)))))
theorem C2 (F:Int) (R:GRounding) (cr:List GCredit) (se:List GIndex) (le:List GLet) (gr:List GGrant) (re:List GReduce) (h:rx 8000 cr se le gr re):∀ (k:Nat) (i:Int),(se.length:Int) - i≤k→0≤i→En (fun _=>True) (fg i F R cr se le gr re):=by
  intro k
  have:=h.se
  have nxt:=ON F R cr se le gr re h _ 0 (Int.self_le_toNat _) (Int.le_refl _)
  induction k with
  | zero=>intro i h0 h1; rw [lh]; exact En.ifd (fun h=>by omega) fun _=>nxt
  | succ k ih =>
    intro i h0 h1
    rw [lh]
    refine En.ifd (fun hlt=>?_) fun _=>nxt
    rw [ai (n:=i+1) (by omega) (by omega)]
    exact En.gd h1 (En.gd hlt (En.bind (n8 _ _) fun _ _=>En.gd h1 (En.gd hlt (En.go (fun _=>h1) (En.go (fun _=>hlt) (En.go (fun _=>h1) (En.go (fun _=>hlt) (En.bif (fun _=>.some trivial) fun _=>ih _ (by omega) (by omega)))))))))
theorem PM (F:Int) (R:GRounding) (cr:List GCredit) (se:List GIndex) (le:List GLet) (gr:List GGrant) (re:List GReduce) (h:rx 8000 cr se le gr re):∀ (k:Nat) (i:Int),(cr.length:Int) - i≤k→0≤i→En (fun _=>True) (cZ i F R cr se le gr re):=by
  intro k
  have:=h.cr
  have nxt:=C2 F R cr se le gr re h _ 0 (Int.self_le_toNat _) (Int.le_refl _)
  induction k with
  | zero=>intro i h0 h1; rw [eA]; exact En.ifd (fun h=>by omega) fun _=>nxt
  | succ k ih =>
    intro i h0 h1
    rw [eA]
    refine En.ifd (fun hlt=>?_) fun _=>nxt
    rw [ai (n:=i+1) (by omega) (by omega)]
    exact En.gd h1 (En.gd hlt (En.bind (vB _ _) fun _ _=>En.go (fun _=>h1) (En.go (fun _=>hlt) (En.go (fun _=>h1) (En.go (fun _=>hlt) (En.bif (fun _=>.some trivial) fun _=>ih _ (by omega) (by omega)))))))
theorem Fb {v:GVersion} (h:sI v):En (fun _=>True) (jd v):=by
  rw [oO,dW,jz]
  simp only [Option.bind_some]
  have g:=PM v.From v.Rounding _ _ _ _ _ h _ 0 (Int.self_le_toNat _) (Int.le_refl _)
  repeat' first | exact g | exact En.some trivial | refine En.bif (fun _=>?_) (fun _=>?_)
theorem S9 {x:GStatute} (h1:x.Name.size≤8000) (h2:x.Versions.length≤8001) (h3:∀ v∈x.Versions,sI v):En (fun _=>True) (j5 x):=by
  rw [zX]
  refine En.bind (lN _ (by omega)) fun _ _=>En.bif (fun _=>.some trivial) fun _=>?_
  have key:∀ (k:Nat) (i:Int),(x.Versions.length:Int) - i≤k→0≤i→En (fun _=>True) (jC i x.Name x.Currency x.Versions):=by
    intro k
    induction k with
    | zero=>intro i h0 h1; rw [ju]; exact En.ifd (fun h=>by omega) fun _=>.some trivial
    | succ k ih =>
      intro i h0 h1
      rw [ju]
      refine En.ifd (fun hlt=>?_) fun _=>.some trivial
      rw [ai (n:=i+1) (by omega) (by omega)]
      exact En.gd h1 (En.gd hlt (En.bind (Fb (h3 _ (cB h1 hlt))) fun _ _=>En.bif (fun _=>.some trivial) fun _=>ih _ (by omega) (by omega)))
  exact key _ 0 (Int.self_le_toNat _) (Int.le_refl _)
theorem TU (s:ByteArray):En (fun y=>(y.1 = true→y.2.2.1≠0)∧(y.1 = false→RI y.2.2.2.2.2)) (yA s):=by
  rw [Kq]
  refine En.bind (Vv s) fun r hr=>En.ifn (fun h=>.some ⟨fun _=>h,fun h=>(nomatch h)⟩) fun h=>.some ⟨fun h=>(nomatch h),fun _=>?_⟩
  obtain ⟨h1,h2⟩:=hr h
  exact ⟨Int.le_refl _,by show (0:Int)≤(r.1.length:Int); omega,h1,h2⟩
end Go.Ax
