import Derived.Test.YtokecajedkojlaaGreatZP13
import Derived.Test.YtokecajedkojlaaGreatZP14
import Derived.Test.YtokecajedkojlaaGreatZP16
set_option linter.all false
/- Made versions and the document's law end. -/
set_option maxRecDepth 100000
namespace Go.Ax
def lR (n:Nat) (l:List GCredit):Prop:=l.length≤n∧∀ x∈l,0≤x.Limit∧x.Limit≤900
theorem lR.snoc {n:Nat} {l:List GCredit} {x:GCredit} (h:lR n l) (hx:0≤x.Limit∧x.Limit≤900):lR (n+1) (l++[x]) :=
  ⟨by rw [List.length_append,List.length_singleton]; have:=h.1; omega,fun c hc=>(List.mem_append.1 hc).elim (h.2 c) fun hc=>by rw [List.mem_singleton.1 hc]; exact hx⟩
theorem lR.set {n:Nat} {l:List GCredit} {x:GCredit} (h:lR n l) (i:Nat) (hx:0≤x.Limit∧x.Limit≤900):lR n (l.set i x) :=
  ⟨by rw [List.length_set]; exact h.1,fun c hc=>(List.mem_or_eq_of_mem_set hc).elim (h.2 c) fun hc=>by rw [hc]; exact hx⟩
theorem mP.snoc {n:Nat} {env:List GBinding} {b:GBinding} (h:mP n env) (hb:b.Name.size≤100):mP (n+1) (env++[b]) :=
  ⟨by rw [List.length_append,List.length_singleton]; have:=h.1; omega,fun c hc=>(List.mem_append.1 hc).elim (h.2 c) fun hc=>by rw [List.mem_singleton.1 hc]; exact hb⟩
theorem mP.mono {n m:Nat} {env:List GBinding} (h:mP n env) (hm:n≤m):mP m env:=⟨Nat.le_trans h.1 hm,h.2⟩
theorem Bu (i:Int):En (fun s=>s.size≤100) (mV i):=by
  rw [CN]
  exact .some (by rw [Je]; simp)
def nI (v:GVersion):Prop:=lR 4 v.Credits
theorem NX {n From:Int} {rd:GRounding} {cr:List GCredit} {se:List GIndex} {le:List GLet} {gr:List GGrant} {re:List GReduce} (h:lR 4 cr):En (fun y=>lR 4 y.2.2.1) (pV n From rd cr se le gr re):=by
  rw [F6]
  refine En.and (fun _ e=>?_) fun _=>En.and (fun _ e=>?_) fun _=>En.and (fun _ e=>?_) fun _=>En.and (fun _ e=>?_) fun _=>En.and (fun _ e=>?_) fun _=>En.and (fun _ e=>?_) fun _=>En.and (fun _ e=>?_) fun _=>.some h
  · have:=aD e; exact En.gd (by omega) (En.gd (by omega) (.some h))
  · have:=aD e; exact En.gd (by omega) (En.gd (by omega) (.some h))
  · have:=aD e; exact En.gd (by omega) (En.gd (by omega) (.some h))
  · have:=aD e; exact En.gd (by omega) (.some h)
  · have:=aD e; exact En.gd (by omega) (En.gd (by omega) (.some h))
  · have e:=aD e
    exact En.gd (by omega) (En.gd (by omega) (.some (h.set 1 (h.2 (gD cr 1 (zS .GCredit)) (AY (l:=cr) (i:=1) (by omega))))))
  · have:=aD e; exact En.gd (by omega) (.some h)
section
variable {v:GPensionmade_Version} {F:Int} {R:GRounding} {F2:Int} {R2:GRounding}
theorem Mo {env:List GBinding} (he:mP 5 env) {cr:List GCredit} (hc:lR 4 cr) (se:List GIndex) (le:List GLet) (gr:List GGrant):∀ (k:Nat) (i:Int) (re:List GReduce),2 - i≤k→0≤i→i≤2→(re.length:Int)≤i→En nI (je i v F R F2 R2 env cr se le gr re):=by
  intro k
  have fin:∀ re,En nI (gb ((!((bn v.Twist 0)&&true))||true)<|bif (bif (bn v.Twist 0) then (ah (Int.tmod v.Twist 8) 0) else false) then (cG (ac (Int.tdiv v.Twist 8)) 7).bind fun r1=>(pV r1 F2 R2 cr se le gr re).bind fun r2=>some (⟨r2.1,r2.2.1,r2.2.2.1,r2.2.2.2.1,r2.2.2.2.2.1,r2.2.2.2.2.2.1,r2.2.2.2.2.2.2⟩:GVersion) else some (⟨F2,R2,cr,se,le,gr,re⟩:GVersion)):=fun re =>
    En.gb (by simp) (En.bif (fun _=>oE (by decide) fun y _ _=>.bind (NX hc) fun z hz=>.some hz) fun _=>.some hc)
  induction k with
  | zero=>intro i re hk h0 h2 hr; rw [rA]; exact En.and (fun _ e=>by have:=aD e; omega) fun _=>fin re
  | succ k ih =>
    intro i re hk h0 h2 hr
    rw [rA]
    refine En.and (fun a b=>?_) fun _=>fin re
    have a:=aD a
    have b:=aD b
    rw [ak (n:=i+1) (by omega) (by omega)]
    refine En.gd h0 (En.gd a (.bind (uj he _ _) fun y hy=>En.gd (by omega) (En.gd (by omega) ?_)))
    rw [hy]
    exact ih _ _ (by omega) (by omega) (by omega) (by simp; omega)
theorem Mr {env:List GBinding} (he:mP 5 env) {cr:List GCredit} (hc:lR 4 cr) (se:List GIndex) (le:List GLet):∀ (k:Nat) (i:Int) (gr:List GGrant),3 - i≤k→0≤i→i≤3→(gr.length:Int)≤i→En nI (jj i v F R F2 R2 env cr se le gr):=by
  intro k
  have fin:∀ gr,En nI (je 0 v F R F2 R2 env cr se le gr []):=fun gr=>Mo he hc se le gr 2 0 [] (by omega) (by omega) (by omega) (by simp)
  induction k with
  | zero=>intro i gr hk h0 h2 hr; rw [qz]; exact En.and (fun _ e=>by have:=aD e; omega) fun _=>fin gr
  | succ k ih =>
    intro i gr hk h0 h2 hr
    rw [qz]
    refine En.and (fun a b=>?_) fun _=>fin gr
    have a:=aD a
    have b:=aD b
    have nx:∀ (l:List Int) (g o:Int) (v':GFraction) (d:Int) (nm:ByteArray) (o2:Int) (v2:GFraction) (d2:Int) (nm2:ByteArray) (ar:List GExpr),En nI (jQ i l v F R F2 R2 env g o v' d nm o2 v2 d2 nm2 ar cr se le gr):=by
      intro l g o v' d nm o2 v2 d2 nm2 ar
      rw [xt,ak (n:=i+1) (by omega) (by omega)]
      refine .bind (uj he _ _) fun y hy=>En.gd (by omega) (En.gd (by omega) ?_)
      rw [hy]
      exact ih _ _ (by omega) (by omega) (by omega) (by simp; omega)
    refine En.gd h0 (En.gd a (.bind (uj he _ _) fun y hy=>?_))
    rw [hy]
    exact En.ifd (fun h=>En.gd h0 (En.gd h (nx _ _ _ _ _ _ _ _ _ _ _))) fun _=>nx _ _ _ _ _ _ _ _ _ _ _
theorem Ma {cr:List GCredit} (hc:lR 4 cr) (se:List GIndex):∀ (k:Nat) (i:Int) (env:List GBinding) (le:List GLet),5 - i≤k→0≤i→i≤5→mP i.toNat env→(le.length:Int)≤i→En nI (jf i v F R F2 R2 env cr se le):=by
  intro k
  have fin:∀ env le,mP 5 env→En nI (jj 0 v F R F2 R2 env cr se le []):=fun env le he=>Mr he hc se le 3 0 [] (by omega) (by omega) (by omega) (by simp)
  induction k with
  | zero=>intro i env le hk h0 h2 he hr; rw [q8]; exact En.and (fun _ e=>by have:=aD e; omega) fun _=>fin _ le (he.mono (by omega))
  | succ k ih =>
    intro i env le hk h0 h2 he hr
    rw [q8]
    refine En.and (fun a b=>?_) fun _=>fin _ le (he.mono (by omega))
    have a:=aD a
    have b:=aD b
    have hel:=he.1
    rw [ak (n:=i+1) (by omega) (by omega)]
    refine En.gd h0 (En.gd a (.bind (Bu i) fun x hx=>En.gd h0 (En.gd a (.bind (uj (he.mono (by omega)) _ _) fun y hy=>En.gd (by omega) (En.gd (by omega) (.bind (Bu i) fun z hz=>?_))))))
    rw [hy]
    refine En.gd (by omega) (En.gd (by omega) (ih _ _ _ (by omega) (by omega) (by omega) ?_ (by simp; omega)))
    rw [show (i+1).toNat = i.toNat+1 by omega]
    exact he.snoc hz
theorem Oh {cr:List GCredit} (hc:lR 4 cr):∀ (k:Nat) (i:Int) (se:List GIndex),6 - i≤k→0≤i→i≤6→(se.length:Int)≤i→En nI (j8 i v F R F2 R2 cr se):=by
  intro k
  have fin:∀ se,En nI (jf 0 v F R F2 R2 [] cr se []):=fun se=>Ma hc se 5 0 [] [] (by omega) (by omega) (by omega) ⟨by simp,fun b hb=>by simp at hb⟩ (by simp)
  induction k with
  | zero=>intro i se hk h0 h2 hr; rw [sg]; exact En.and (fun _ e=>by have:=aD e; omega) fun _=>fin se
  | succ k ih =>
    intro i se hk h0 h2 hr
    rw [sg]
    refine En.and (fun a b=>?_) fun _=>fin se
    have a:=aD a
    have b:=aD b
    rw [ak (n:=i+1) (by omega) (by omega)]
    refine En.gd h0 (En.gd a (oE (by decide) fun x x1 x2=>?_))
    rw [ak (n:=x+1) (by omega) (by omega)]
    exact .bind (jL _ _ (by omega) (by omega) (by omega) (by omega)) fun f _=>En.gd h0 (En.gd a (oE (by decide) fun y y1 y2=>En.gd (by omega) (En.gd (by omega) (ih _ _ (by omega) (by omega) (by omega) (by simp; omega)))))
theorem M7 (kinds:List Int) (hk:kinds.length = 6):∀ (k:Nat) (i:Int) (cr:List GCredit),4 - i≤k→0≤i→i≤4→lR i.toNat cr→En nI (kh i v F R F2 R2 kinds cr):=by
  intro k
  have fin:∀ cr,lR 4 cr→En nI (j8 0 v F R F2 R2 cr []):=fun cr hc=>Oh hc 6 0 [] (by omega) (by omega) (by omega) (by simp)
  induction k with
  | zero=>intro i cr hk h0 h2 hc; rw [sd]; exact En.and (fun _ e=>by have:=aD e; omega) fun _=>fin cr ⟨by have:=hc.1; omega,hc.2⟩
  | succ k ih =>
    intro i cr hk' h0 h2 hc
    rw [sd]
    refine En.and (fun a b=>?_) fun _=>fin cr ⟨by have:=hc.1; omega,hc.2⟩
    have a:=aD a
    have b:=aD b
    have hcl:=hc.1
    refine En.gd (by omega) (oE (by decide) fun x x1 x2=>?_)
    rw [ak (n:=i+x) (by omega) (by omega),ak (n:=i+1) (by omega) (by omega)]
    have t1:Int.tmod (i+x) 6 = (i+x) % 6:=Int.tmod_eq_emod_of_nonneg (by omega)
    rw [t1]
    refine En.gd (by omega) (En.gd (by omega) (En.gd h0 (En.gd a (En.bif (fun _=>En.gd h0 (En.gd a (oE (by decide) fun y y1 y2=>?_))) fun _=>?_))))
    · rw [ak (n:=y+1) (by omega) (by omega)]
      refine En.gd (by omega) (En.gd (by omega) (ih _ _ (by omega) (by omega) (by omega) ?_))
      rw [show (i+1).toNat = i.toNat+1 by omega]
      exact hc.snoc (by show 0≤y+1∧y+1≤900; omega)
    · refine En.gd (by omega) (En.gd (by omega) (ih _ _ (by omega) (by omega) (by omega) ?_))
      rw [show (i+1).toNat = i.toNat+1 by omega]
      exact hc.snoc (by show (0:Int)≤0∧(0:Int)≤900; omega)
end
theorem P4 (v:GPensionmade_Version):En nI (C8 v):=by
  rw [KU]
  exact oE (by decide) fun a _ _=>oE (by decide) fun b _ _=>oE (by decide) fun c c1 c2=>En.gd c1 (En.gd c2 (M7 _ rfl 4 0 [] (by omega) (by omega) (by omega) ⟨by simp,fun x hx=>by simp at hx⟩))
theorem Nx {t:List GRules} (h:HO t):t.length≤2∧∀ r∈t,r.Members.length≤3:=by
  obtain ⟨p,_,_,rfl | rfl | rfl⟩:=h
  · exact ⟨by simp [Pb],fun r hr=>by simp [Pb] at hr; subst hr; simp⟩
  · exact ⟨by simp [PF],fun r hr=>by simp [PF] at hr; rcases hr with rfl | rfl <;> simp⟩
  · exact ⟨by simp [Pv],fun r hr=>by simp [Pv] at hr; rcases hr with rfl | rfl <;> simp⟩
theorem ND (t:List GRules) (ht:t.length≤2) (hm:∀ r∈t,r.Members.length≤3):En (fun _=>True) (s8 t):=by
  rw [Eu]
  refine En.ifd (fun _=>.some trivial) fun _=>En.gb (by simp) (En.go (fun h=>by simp [ah] at h; cases t with | nil=>simp at h | cons a l=>simp) (En.bif (fun _=>.some trivial) fun _=>?_))
  have key:∀ (k:Nat) (i:Int),(t.length:Int) - i≤k→0≤i→En (fun _=>True) (iD t i):=by
    intro k
    induction k with
    | zero=>intro i hk h0; rw [m3]; exact En.ifd (fun h=>by omega) fun _=>.some trivial
    | succ k ih =>
      intro i hk h0
      rw [m3]
      refine En.ifd (fun h=>?_) fun _=>.some trivial
      have hr:=hm _ (io (z:=zS .GRules) h0 h)
      generalize gD t i.toNat (zS .GRules) = r at hr
      have hi:∀ {b:Bool},(aa (0 < i)&&b) = true→0≤ac (i - 1)∧ac (i - 1) < (t.length:Int):=by
        intro b e
        have:=aD (Bool.and_eq_true _ _ ▸ e).1
        rw [ak (by omega) (by omega)]; omega
      rw [qB,Option.bind_some]
      refine En.gd h0 (En.gd h (En.go (fun e=>(hi e).1) (En.go (fun e=>(hi e).2) (En.bif (fun _=>.some trivial) fun _=>?_))))
      have inner:∀ (m:Nat) (j:Int),(r.Members.length:Int) - j≤m→0≤j→En (fun _=>True) (gw t i j r):=by
        intro m
        induction m with
        | zero=>intro j hj0 hj1; rw [md,ak (n:=i+1) (by omega) (by omega)]; exact En.ifd (fun h=>by omega) fun _=>ih _ (by omega) (by omega)
        | succ m ihm =>
          intro j hj0 hj1
          rw [md,ak (n:=i+1) (by omega) (by omega)]
          refine En.ifd (fun hj=>?_) fun _=>ih _ (by omega) (by omega)
          have hp:∀ {b:Bool},(aa (0 < j)&&b) = true→0≤ac (j - 1)∧ac (j - 1) < (r.Members.length:Int):=by
            intro b e
            have:=aD (Bool.and_eq_true _ _ ▸ e).1
            rw [ak (by omega) (by omega)]; omega
          rw [ak (n:=j+1) (by omega) (by omega)]
          exact En.gd hj1 (En.gd hj (En.go (fun _=>hj1) (En.go (fun _=>hj) (En.go (fun _=>hj1) (En.go (fun _=>hj) (En.go (fun e=>(hp e).1) (En.go (fun e=>(hp e).2) (En.bif (fun _=>.some trivial) fun _=>ihm _ (by omega) (by omega)))))))))
      exact inner _ 0 (Int.self_le_toNat _) (by omega)
  exact key _ 0 (Int.self_le_toNat _) (by omega)
theorem Lr (t:List GRules) (ht:t.length≤2) (hm:∀ r∈t,r.Members.length≤3) (day:Int):En (fun _=>True) (pl t day):=by
  rw [AI,ak (n:=(t.length:Int) - 1) (by omega) (by omega)]
  have key:∀ (k:Nat) (i:Int) (z:GRules),i+1≤k→i < (t.length:Int)→En (fun _=>True) (gU t day i z):=by
    intro k
    induction k with
    | zero=>intro i z hk hi; rw [mY]; exact En.ifd (fun h=>by omega) fun _=>.some trivial
    | succ k ih =>
      intro i z hk hi
      rw [mY]
      refine En.ifd (fun h=>?_) fun _=>.some trivial
      have:=hm _ (io (z:=zS .GRules) h hi)
      rw [qB,Option.bind_some,ak (n:=i - 1) (by omega) (by omega)]
      exact En.bif (fun _=>En.gd h (En.gd hi (En.ifd (fun _=>En.gd h (En.gd hi (En.gd (by omega) (En.gd (by omega) (.some trivial))))) fun _=>ih _ _ (by omega) (by omega)))) fun _=>.some trivial
  exact key 3 _ _ (by omega) (by omega)
theorem Pw (l:List GFact) (hl:l.length≤30) (t:List GRules) (ht:t.length≤2) (hm:∀ r∈t,r.Members.length≤3):En (fun o=>o.length≤99000) (yk l t):=by
  rw [HU]
  refine .bind (ND t ht hm) fun _ _=>En.bif (fun _=>.some (by simp)) fun _=>?_
  rw [dF l (by omega),Option.bind_some]
  have hc:=HZ hl
  refine .bind (Jt hl) fun p hp=>?_
  rw [il l (by omega),Option.bind_some]
  generalize l.filter aU = c at hc
  have hcl:=hc.1
  generalize dw l = life
  have seg:∀ (e:List Int),e.length≤90000→∀ (k:Nat) (i:Int) (out:List GSegment),(e.length:Int) - i≤k→0≤i→i≤(e.length:Int)→(out.length:Int)≤i→En (fun o=>o.length≤99000) (bW l t e i c p life out):=by
    intro e he k
    induction k with
    | zero =>
      intro i out hk h0 hi ho
      rw [o6,ak (n:=i+1) (by omega) (by omega)]
      exact En.ifd (fun h=>by omega) fun _=>.some (by omega)
    | succ k ih =>
      intro i out hk h0 hi ho
      rw [o6,ak (n:=i+1) (by omega) (by omega)]
      refine En.ifd (fun h=>?_) fun _=>.some (by omega)
      have nx:En (fun o=>o.length≤99000) (bW l t e (i+1) c p life out):=ih _ _ (by omega) (by omega) (by omega) (by omega)
      have hw:aa ((0:Int) < (out.length:Int)) = true→0≤ac ((out.length:Int) - 1)∧ac ((out.length:Int) - 1) < (out.length:Int):=by
        intro e
        have:=aD e
        rw [ak (by omega) (by omega)]; omega
      have g0:∀ {x:Bool},(bif aa ((0:Int) < (out.length:Int)) then x else false) = true→aa ((0:Int) < (out.length:Int)) = true:=by
        intro x e; rw [bM,Bool.and_eq_true] at e; exact e.1
      have g0':∀ {x y:Bool},(bif (bif aa ((0:Int) < (out.length:Int)) then x else false) then y else false) = true→aa ((0:Int) < (out.length:Int)) = true:=by
        intro x y e; rw [bM (b:=y),Bool.and_eq_true] at e; exact g0 e.1
      have g0'':∀ {x y z:Bool},(bif (bif (bif aa ((0:Int) < (out.length:Int)) then x else false) then y else false) then z else false) = true→aa ((0:Int) < (out.length:Int)) = true:=by
        intro x y z e; rw [bM (b:=z),Bool.and_eq_true] at e; exact g0' e.1
      have an:∀ {a b:Bool},(a&&b) = true→a = true:=fun {a b} e=>(Bool.and_eq_true _ _ ▸ e).1
      rw [en]
      simp only [Option.bind_some]
      refine En.gd h0 (En.gd (by omega) (.bind (Lr t ht hm _) fun r _=>En.go (fun _=>h0) (En.go (fun _=>by omega) (En.not (fun _=>?_) fun _=>?_))))
      · exact nx
      refine En.not (fun _=>nx) fun _=>En.gd h0 (En.gd (by omega) (.bind (Pi hl hc p (by omega) r.1 _) fun y _=>En.bif (fun _=>nx) fun _=>?_))
      refine En.go (fun q=>(hw (an q)).1) (En.go (fun q=>(hw (an q)).2) (En.go (fun _=>h0) (En.go (fun _=>by omega) (En.go (fun q=>(hw (g0 (an q))).1) (En.go (fun q=>(hw (g0 (an q))).2) (En.go (fun q=>(hw (g0' (an q))).1) (En.go (fun q=>(hw (g0' (an q))).2) (En.bif (fun q=>?_) fun _=>?_))))))))
      · have:=hw (g0'' q)
        exact En.gd this.1 (En.gd this.2 (En.gd (by omega) (En.gd (by omega) (En.gd this.1 (En.gd this.2 (ih _ _ (by omega) (by omega) (by omega) (by rw [List.length_set]; omega)))))))
      · exact En.gd h0 (En.gd (by omega) (En.gd (by omega) (En.gd (by omega) (En.gd (by omega) (En.gd (by omega) (ih _ _ (by omega) (by omega) (by omega) (by simp; omega)))))))
  have post:∀ (k:Nat) (i:Int) (e:List Int),(p.length:Int) - i≤k→0≤i→i≤(p.length:Int)→(e.length:Int)≤3000+2*i→En (fun o=>o.length≤99000) (gi l t e i c p life):=by
    intro k
    have fin:∀ e:List Int,e.length≤9000→En (fun o=>o.length≤99000) (bW l t e 0 c p life []):=fun e he=>seg e (by omega) _ 0 [] (Int.self_le_toNat _) (by omega) (by omega) (by simp)
    induction k with
    | zero=>intro i e hk h0 hi he; rw [oZ]; exact En.ifd (fun h=>by omega) fun _=>fin e (by omega)
    | succ k ih =>
      intro i e hk h0 hi he
      rw [oZ,ak (n:=i+1) (by omega) (by omega)]
      exact En.ifd (fun h=>En.gd h0 (En.gd h (.bind (qx _ _ (by omega)) fun a ha=>En.gd h0 (En.gd h (.bind (qx _ _ (by omega)) fun b hb=>ih _ _ (by omega) (by omega) (by omega) (by omega)))))) fun _=>fin e (by omega)
  have rul:∀ (k:Nat) (i:Int) (e:List Int),(t.length:Int) - i≤k→0≤i→i≤(t.length:Int)→(e.length:Int)≤100+1201*i→En (fun o=>o.length≤99000) (fm l t e i c p life):=by
    intro k
    have fin:∀ e:List Int,e.length≤3000→En (fun o=>o.length≤99000) (gi l t e 0 c p life):=fun e he=>post _ 0 e (Int.self_le_toNat _) (by omega) (by omega) (by omega)
    induction k with
    | zero=>intro i e hk h0 hi he; rw [pQ]; exact En.ifd (fun h=>by omega) fun _=>fin e (by omega)
    | succ k ih =>
      intro i e hk h0 hi he
      rw [pQ]
      refine En.ifd (fun h=>En.gd h0 (En.gd h (.bind (qx _ _ (by omega)) fun a ha=>?_))) fun _=>fin e (by omega)
      have inn:∀ (m:Nat) (j:Int) (e:List Int),(p.length:Int) - j≤m→0≤j→j≤(p.length:Int)→(e.length:Int)≤101+1201*i+j→En (fun o=>o.length≤99000) (iv l t e i j c p life):=by
        intro m
        have fi:∀ e:List Int,(e.length:Int)≤100+1201*(i+1)→En (fun o=>o.length≤99000) (fm l t e (ac (i+1)) c p life):=by
          intro e he
          rw [ak (n:=i+1) (by omega) (by omega)]
          exact ih _ _ (by omega) (by omega) (by omega) (by omega)
        induction m with
        | zero=>intro j e hj0 hj1 hj2 he; rw [nr]; exact En.ifd (fun h=>by omega) fun _=>fi e (by omega)
        | succ m ihm =>
          intro j e hj0 hj1 hj2 he
          rw [nr,ak (n:=j+1) (by omega) (by omega)]
          exact En.ifd (fun hj=>En.gd hj1 (En.gd hj (En.gd h0 (En.gd h (.bind (qx _ _ (by omega)) fun b hb=>ihm _ _ (by omega) (by omega) (by omega) (by omega)))))) fun _=>fi e (by omega)
      exact inn _ 0 a (Int.self_le_toNat _) (by omega) (by omega) (by omega)
  have fac:∀ (k:Nat) (i:Int) (e:List Int),(c.length:Int) - i≤k→0≤i→i≤(c.length:Int)→(e.length:Int)≤2+2*i→En (fun o=>o.length≤99000) (kz l t e i c p life):=by
    intro k
    have fin:∀ e:List Int,e.length≤62→En (fun o=>o.length≤99000) (fm l t e 0 c p life):=fun e he=>rul _ 0 e (Int.self_le_toNat _) (by omega) (by omega) (by omega)
    induction k with
    | zero=>intro i e hk h0 hi he; rw [pO]; exact En.ifd (fun h=>by omega) fun _=>fin e (by omega)
    | succ k ih =>
      intro i e hk h0 hi he
      rw [pO,ak (n:=i+1) (by omega) (by omega)]
      exact En.ifd (fun h=>En.gd h0 (En.gd h (.bind (qx _ _ (by omega)) fun a ha=>En.gd h0 (En.gd h (.bind (qx _ _ (by omega)) fun b hb=>ih _ _ (by omega) (by omega) (by omega) (by omega)))))) fun _=>fin e (by omega)
  exact fac _ 0 _ (Int.self_le_toNat _) (by omega) (by omega) (by simp)
end Go.Ax
