import Derived.Test.YtokecajedkojlaaGreatYP13
import Derived.Test.YtokecajedkojlaaGreatYP14
import Derived.Test.YtokecajedkojlaaGreatYP16
set_option linter.all false
/- Made versions and the document's law end. -/
set_option maxRecDepth 100000
namespace Go.Ax
def lx (n:Nat) (l:List GCredit):Prop:=l.length≤n∧∀ x∈l,0≤x.Limit∧x.Limit≤900
theorem lx.snoc {n:Nat} {l:List GCredit} {x:GCredit} (h:lx n l) (hx:0≤x.Limit∧x.Limit≤900):lx (n+1) (l++[x]) :=
  ⟨by rw [List.length_append,List.length_singleton]; have:=h.1; omega,fun c hc=>(List.mem_append.1 hc).elim (h.2 c) fun hc=>by rw [List.mem_singleton.1 hc]; exact hx⟩
theorem lx.set {n:Nat} {l:List GCredit} {x:GCredit} (h:lx n l) (i:Nat) (hx:0≤x.Limit∧x.Limit≤900):lx n (l.set i x) :=
  ⟨by rw [List.length_set]; exact h.1,fun c hc=>(List.mem_or_eq_of_mem_set hc).elim (h.2 c) fun hc=>by rw [hc]; exact hx⟩
theorem lS.snoc {n:Nat} {env:List GBinding} {b:GBinding} (h:lS n env) (hb:b.Name.size≤100):lS (n+1) (env++[b]) :=
  ⟨by rw [List.length_append,List.length_singleton]; have:=h.1; omega,fun c hc=>(List.mem_append.1 hc).elim (h.2 c) fun hc=>by rw [List.mem_singleton.1 hc]; exact hb⟩
theorem lS.mono {n m:Nat} {env:List GBinding} (h:lS n env) (hm:n≤m):lS m env:=⟨Nat.le_trans h.1 hm,h.2⟩
theorem BB (i:Int):En (fun s=>s.size≤100) (mh i):=by
  rw [BO]
  exact .some (by rw [IH]; simp)
def nz (v:GVersion):Prop:=lx 4 v.Credits
theorem No {n From:Int} {rd:GRounding} {cr:List GCredit} {se:List GIndex} {le:List GLet} {gr:List GGrant} {re:List GReduce} (h:lx 4 cr):En (fun y=>lx 4 y.2.2.1) (pF n From rd cr se le gr re):=by
  rw [Fe]
  refine En.and (fun _ e=>?_) fun _=>En.and (fun _ e=>?_) fun _=>En.and (fun _ e=>?_) fun _=>En.and (fun _ e=>?_) fun _=>En.and (fun _ e=>?_) fun _=>En.and (fun _ e=>?_) fun _=>En.and (fun _ e=>?_) fun _=>.some h
  · have:=aE e; exact En.gd (by omega) (En.gd (by omega) (.some h))
  · have:=aE e; exact En.gd (by omega) (En.gd (by omega) (.some h))
  · have:=aE e; exact En.gd (by omega) (En.gd (by omega) (.some h))
  · have:=aE e; exact En.gd (by omega) (.some h)
  · have:=aE e; exact En.gd (by omega) (En.gd (by omega) (.some h))
  · have e:=aE e
    exact En.gd (by omega) (En.gd (by omega) (.some (h.set 1 (h.2 (gD cr 1 (zS .GCredit)) (FC (l:=cr) (i:=1) (by omega))))))
  · have:=aE e; exact En.gd (by omega) (.some h)
section
variable {v:GPensionmade_Version} {F:Int} {R:GRounding} {F2:Int} {R2:GRounding}
theorem La {env:List GBinding} (he:lS 5 env) {cr:List GCredit} (hc:lx 4 cr) (se:List GIndex) (le:List GLet) (gr:List GGrant):∀ (k:Nat) (i:Int) (re:List GReduce),2 - i≤k→0≤i→i≤2→(re.length:Int)≤i→En nz (iW i v F R F2 R2 env cr se le gr re):=by
  intro k
  have fin:∀ re,En nz (gb ((!((bq v.Twist 0)&&true))||true)<|bif (bif (bq v.Twist 0) then (ah (Int.tmod v.Twist 8) 0) else false) then (bK (ac (Int.tdiv v.Twist 8)) 7).bind fun r1=>(pF r1 F2 R2 cr se le gr re).bind fun r2=>some (⟨r2.1,r2.2.1,r2.2.2.1,r2.2.2.2.1,r2.2.2.2.2.1,r2.2.2.2.2.2.1,r2.2.2.2.2.2.2⟩:GVersion) else some (⟨F2,R2,cr,se,le,gr,re⟩:GVersion)):=fun re =>
    En.gb (by simp) (En.bif (fun _=>nE (by decide) fun y _ _=>.bind (No hc) fun z hz=>.some hz) fun _=>.some hc)
  induction k with
  | zero=>intro i re hk h0 h2 hr; rw [pZ]; exact En.and (fun _ e=>by have:=aE e; omega) fun _=>fin re
  | succ k ih =>
    intro i re hk h0 h2 hr
    rw [pZ]
    refine En.and (fun a b=>?_) fun _=>fin re
    have a:=aE a
    have b:=aE b
    rw [ak (n:=i+1) (by omega) (by omega)]
    refine En.gd h0 (En.gd a (.bind (uX he _ _) fun y hy=>En.gd (by omega) (En.gd (by omega) ?_)))
    rw [hy]
    exact ih _ _ (by omega) (by omega) (by omega) (by simp; omega)
theorem K7 {env:List GBinding} (he:lS 5 env) {cr:List GCredit} (hc:lx 4 cr) (se:List GIndex) (le:List GLet):∀ (k:Nat) (i:Int) (gr:List GGrant),3 - i≤k→0≤i→i≤3→(gr.length:Int)≤i→En nz (iO i v F R F2 R2 env cr se le gr):=by
  intro k
  have fin:∀ gr,En nz (iW 0 v F R F2 R2 env cr se le gr []):=fun gr=>La he hc se le gr 2 0 [] (by omega) (by omega) (by omega) (by simp)
  induction k with
  | zero=>intro i gr hk h0 h2 hr; rw [qh]; exact En.and (fun _ e=>by have:=aE e; omega) fun _=>fin gr
  | succ k ih =>
    intro i gr hk h0 h2 hr
    rw [qh]
    refine En.and (fun a b=>?_) fun _=>fin gr
    have a:=aE a
    have b:=aE b
    have nx:∀ (l:List Int) (g o:Int) (v':GFraction) (d:Int) (nm:ByteArray) (o2:Int) (v2:GFraction) (d2:Int) (nm2:ByteArray) (ar:List GExpr),En nz (jr i l v F R F2 R2 env g o v' d nm o2 v2 d2 nm2 ar cr se le gr):=by
      intro l g o v' d nm o2 v2 d2 nm2 ar
      rw [xy,ak (n:=i+1) (by omega) (by omega)]
      refine .bind (uX he _ _) fun y hy=>En.gd (by omega) (En.gd (by omega) ?_)
      rw [hy]
      exact ih _ _ (by omega) (by omega) (by omega) (by simp; omega)
    refine En.gd h0 (En.gd a (.bind (uX he _ _) fun y hy=>?_))
    rw [hy]
    exact En.ifd (fun h=>En.gd h0 (En.gd h (nx _ _ _ _ _ _ _ _ _ _ _))) fun _=>nx _ _ _ _ _ _ _ _ _ _ _
theorem Mb {cr:List GCredit} (hc:lx 4 cr) (se:List GIndex):∀ (k:Nat) (i:Int) (env:List GBinding) (le:List GLet),5 - i≤k→0≤i→i≤5→lS i.toNat env→(le.length:Int)≤i→En nz (iV i v F R F2 R2 env cr se le):=by
  intro k
  have fin:∀ env le,lS 5 env→En nz (iO 0 v F R F2 R2 env cr se le []):=fun env le he=>K7 he hc se le 3 0 [] (by omega) (by omega) (by omega) (by simp)
  induction k with
  | zero=>intro i env le hk h0 h2 he hr; rw [qt]; exact En.and (fun _ e=>by have:=aE e; omega) fun _=>fin _ le (he.mono (by omega))
  | succ k ih =>
    intro i env le hk h0 h2 he hr
    rw [qt]
    refine En.and (fun a b=>?_) fun _=>fin _ le (he.mono (by omega))
    have a:=aE a
    have b:=aE b
    have hel:=he.1
    rw [ak (n:=i+1) (by omega) (by omega)]
    refine En.gd h0 (En.gd a (.bind (BB i) fun x hx=>En.gd h0 (En.gd a (.bind (uX (he.mono (by omega)) _ _) fun y hy=>En.gd (by omega) (En.gd (by omega) (.bind (BB i) fun z hz=>?_))))))
    rw [hy]
    refine En.gd (by omega) (En.gd (by omega) (ih _ _ _ (by omega) (by omega) (by omega) ?_ (by simp; omega)))
    rw [show (i+1).toNat = i.toNat+1 by omega]
    exact he.snoc hz
theorem MX {cr:List GCredit} (hc:lx 4 cr):∀ (k:Nat) (i:Int) (se:List GIndex),6 - i≤k→0≤i→i≤6→(se.length:Int)≤i→En nz (jN i v F R F2 R2 cr se):=by
  intro k
  have fin:∀ se,En nz (iV 0 v F R F2 R2 [] cr se []):=fun se=>Mb hc se 5 0 [] [] (by omega) (by omega) (by omega) ⟨by simp,fun b hb=>by simp at hb⟩ (by simp)
  induction k with
  | zero=>intro i se hk h0 h2 hr; rw [rU]; exact En.and (fun _ e=>by have:=aE e; omega) fun _=>fin se
  | succ k ih =>
    intro i se hk h0 h2 hr
    rw [rU]
    refine En.and (fun a b=>?_) fun _=>fin se
    have a:=aE a
    have b:=aE b
    rw [ak (n:=i+1) (by omega) (by omega)]
    refine En.gd h0 (En.gd a (nE (by decide) fun x x1 x2=>?_))
    rw [ak (n:=x+1) (by omega) (by omega)]
    exact .bind (jG _ _ (by omega) (by omega) (by omega) (by omega)) fun f _=>En.gd h0 (En.gd a (nE (by decide) fun y y1 y2=>En.gd (by omega) (En.gd (by omega) (ih _ _ (by omega) (by omega) (by omega) (by simp; omega)))))
theorem Mu (kinds:List Int) (hk:kinds.length = 6):∀ (k:Nat) (i:Int) (cr:List GCredit),4 - i≤k→0≤i→i≤4→lx i.toNat cr→En nz (jV i v F R F2 R2 kinds cr):=by
  intro k
  have fin:∀ cr,lx 4 cr→En nz (jN 0 v F R F2 R2 cr []):=fun cr hc=>MX hc 6 0 [] (by omega) (by omega) (by omega) (by simp)
  induction k with
  | zero=>intro i cr hk h0 h2 hc; rw [rG]; exact En.and (fun _ e=>by have:=aE e; omega) fun _=>fin cr ⟨by have:=hc.1; omega,hc.2⟩
  | succ k ih =>
    intro i cr hk' h0 h2 hc
    rw [rG]
    refine En.and (fun a b=>?_) fun _=>fin cr ⟨by have:=hc.1; omega,hc.2⟩
    have a:=aE a
    have b:=aE b
    have hcl:=hc.1
    refine En.gd (by omega) (nE (by decide) fun x x1 x2=>?_)
    rw [ak (n:=i+x) (by omega) (by omega),ak (n:=i+1) (by omega) (by omega)]
    have t1:Int.tmod (i+x) 6 = (i+x) % 6:=Int.tmod_eq_emod_of_nonneg (by omega)
    rw [t1]
    refine En.gd (by omega) (En.gd (by omega) (En.gd h0 (En.gd a (En.bif (fun _=>En.gd h0 (En.gd a (nE (by decide) fun y y1 y2=>?_))) fun _=>?_))))
    · rw [ak (n:=y+1) (by omega) (by omega)]
      refine En.gd (by omega) (En.gd (by omega) (ih _ _ (by omega) (by omega) (by omega) ?_))
      rw [show (i+1).toNat = i.toNat+1 by omega]
      exact hc.snoc (by show 0≤y+1∧y+1≤900; omega)
    · refine En.gd (by omega) (En.gd (by omega) (ih _ _ (by omega) (by omega) (by omega) ?_))
      rw [show (i+1).toNat = i.toNat+1 by omega]
      exact hc.snoc (by show (0:Int)≤0∧(0:Int)≤900; omega)
end
theorem Po (v:GPensionmade_Version):En nz (Cq v):=by
  rw [JY]
  exact nE (by decide) fun a _ _=>nE (by decide) fun b _ _=>nE (by decide) fun c c1 c2=>En.gd c1 (En.gd c2 (Mu _ rfl 4 0 [] (by omega) (by omega) (by omega) ⟨by simp,fun x hx=>by simp at hx⟩))
theorem MF {t:List GRules} (h:FV t):t.length≤2∧∀ r∈t,r.Members.length≤3:=by
  obtain ⟨p,_,_,rfl | rfl | rfl⟩:=h
  · exact ⟨by simp [OC],fun r hr=>by simp [OC] at hr; subst hr; simp⟩
  · exact ⟨by simp [O6],fun r hr=>by simp [O6] at hr; rcases hr with rfl | rfl <;> simp⟩
  · exact ⟨by simp [O1],fun r hr=>by simp [O1] at hr; rcases hr with rfl | rfl <;> simp⟩
theorem Nt (t:List GRules) (ht:t.length≤2) (hm:∀ r∈t,r.Members.length≤3):En (fun _=>True) (sH t):=by
  rw [B6]
  refine En.ifd (fun _=>.some trivial) fun _=>En.gb (by simp) (En.go (fun h=>by simp [ah] at h; cases t with | nil=>simp at h | cons a l=>simp) (En.bif (fun _=>.some trivial) fun _=>?_))
  have key:∀ (k:Nat) (i:Int),(t.length:Int) - i≤k→0≤i→En (fun _=>True) (it t i):=by
    intro k
    induction k with
    | zero=>intro i hk h0; rw [mE]; exact En.ifd (fun h=>by omega) fun _=>.some trivial
    | succ k ih =>
      intro i hk h0
      rw [mE]
      refine En.ifd (fun h=>?_) fun _=>.some trivial
      have hr:=hm _ (hU (z:=zS .GRules) h0 h)
      generalize gD t i.toNat (zS .GRules) = r at hr
      have hi:∀ {b:Bool},(aa (0 < i)&&b) = true→0≤ac (i - 1)∧ac (i - 1) < (t.length:Int):=by
        intro b e
        have:=aE (Bool.and_eq_true _ _ ▸ e).1
        rw [ak (by omega) (by omega)]; omega
      rw [qB,Option.bind_some]
      refine En.gd h0 (En.gd h (En.go (fun e=>(hi e).1) (En.go (fun e=>(hi e).2) (En.bif (fun _=>.some trivial) fun _=>?_))))
      have inner:∀ (m:Nat) (j:Int),(r.Members.length:Int) - j≤m→0≤j→En (fun _=>True) (fY t i j r):=by
        intro m
        induction m with
        | zero=>intro j hj0 hj1; rw [lM,ak (n:=i+1) (by omega) (by omega)]; exact En.ifd (fun h=>by omega) fun _=>ih _ (by omega) (by omega)
        | succ m ihm =>
          intro j hj0 hj1
          rw [lM,ak (n:=i+1) (by omega) (by omega)]
          refine En.ifd (fun hj=>?_) fun _=>ih _ (by omega) (by omega)
          have hp:∀ {b:Bool},(aa (0 < j)&&b) = true→0≤ac (j - 1)∧ac (j - 1) < (r.Members.length:Int):=by
            intro b e
            have:=aE (Bool.and_eq_true _ _ ▸ e).1
            rw [ak (by omega) (by omega)]; omega
          rw [ak (n:=j+1) (by omega) (by omega)]
          exact En.gd hj1 (En.gd hj (En.go (fun _=>hj1) (En.go (fun _=>hj) (En.go (fun _=>hj1) (En.go (fun _=>hj) (En.go (fun e=>(hp e).1) (En.go (fun e=>(hp e).2) (En.bif (fun _=>.some trivial) fun _=>ihm _ (by omega) (by omega)))))))))
      exact inner _ 0 (Int.self_le_toNat _) (by omega)
  exact key _ 0 (Int.self_le_toNat _) (by omega)
theorem JH (t:List GRules) (ht:t.length≤2) (hm:∀ r∈t,r.Members.length≤3) (day:Int):En (fun _=>True) (oY t day):=by
  rw [zz,ak (n:=(t.length:Int) - 1) (by omega) (by omega)]
  have key:∀ (k:Nat) (i:Int) (z:GRules),i+1≤k→i < (t.length:Int)→En (fun _=>True) (gB t day i z):=by
    intro k
    induction k with
    | zero=>intro i z hk hi; rw [mr]; exact En.ifd (fun h=>by omega) fun _=>.some trivial
    | succ k ih =>
      intro i z hk hi
      rw [mr]
      refine En.ifd (fun h=>?_) fun _=>.some trivial
      have:=hm _ (hU (z:=zS .GRules) h hi)
      rw [qB,Option.bind_some,ak (n:=i - 1) (by omega) (by omega)]
      exact En.bif (fun _=>En.gd h (En.gd hi (En.ifd (fun _=>En.gd h (En.gd hi (En.gd (by omega) (En.gd (by omega) (.some trivial))))) fun _=>ih _ _ (by omega) (by omega)))) fun _=>.some trivial
  exact key 3 _ _ (by omega) (by omega)
theorem OE (l:List GFact) (hl:l.length≤30) (t:List GRules) (ht:t.length≤2) (hm:∀ r∈t,r.Members.length≤3):En (fun o=>o.length≤99000) (wT l t):=by
  rw [FU]
  refine .bind (Nt t ht hm) fun _ _=>En.bif (fun _=>.some (by simp)) fun _=>?_
  rw [gH l (by omega),Option.bind_some]
  have hc:=FP hl
  refine .bind (IJ hl) fun p hp=>?_
  rw [nd l (by omega),Option.bind_some]
  generalize l.filter bw = c at hc
  have hcl:=hc.1
  generalize eh l = life
  have seg:∀ (e:List Int),e.length≤90000→∀ (k:Nat) (i:Int) (out:List GSegment),(e.length:Int) - i≤k→0≤i→i≤(e.length:Int)→(out.length:Int)≤i→En (fun o=>o.length≤99000) (bR l t e i c p life out):=by
    intro e he k
    induction k with
    | zero =>
      intro i out hk h0 hi ho
      rw [oL,ak (n:=i+1) (by omega) (by omega)]
      exact En.ifd (fun h=>by omega) fun _=>.some (by omega)
    | succ k ih =>
      intro i out hk h0 hi ho
      rw [oL,ak (n:=i+1) (by omega) (by omega)]
      refine En.ifd (fun h=>?_) fun _=>.some (by omega)
      have nx:En (fun o=>o.length≤99000) (bR l t e (i+1) c p life out):=ih _ _ (by omega) (by omega) (by omega) (by omega)
      have hw:aa ((0:Int) < (out.length:Int)) = true→0≤ac ((out.length:Int) - 1)∧ac ((out.length:Int) - 1) < (out.length:Int):=by
        intro e
        have:=aE e
        rw [ak (by omega) (by omega)]; omega
      have g0:∀ {x:Bool},(bif aa ((0:Int) < (out.length:Int)) then x else false) = true→aa ((0:Int) < (out.length:Int)) = true:=by
        intro x e; rw [ck,Bool.and_eq_true] at e; exact e.1
      have g0':∀ {x y:Bool},(bif (bif aa ((0:Int) < (out.length:Int)) then x else false) then y else false) = true→aa ((0:Int) < (out.length:Int)) = true:=by
        intro x y e; rw [ck (b:=y),Bool.and_eq_true] at e; exact g0 e.1
      have g0'':∀ {x y z:Bool},(bif (bif (bif aa ((0:Int) < (out.length:Int)) then x else false) then y else false) then z else false) = true→aa ((0:Int) < (out.length:Int)) = true:=by
        intro x y z e; rw [ck (b:=z),Bool.and_eq_true] at e; exact g0' e.1
      have an:∀ {a b:Bool},(a&&b) = true→a = true:=fun {a b} e=>(Bool.and_eq_true _ _ ▸ e).1
      rw [ed]
      simp only [Option.bind_some]
      refine En.gd h0 (En.gd (by omega) (.bind (JH t ht hm _) fun r _=>En.go (fun _=>h0) (En.go (fun _=>by omega) (En.not (fun _=>?_) fun _=>?_))))
      · exact nx
      refine En.not (fun _=>nx) fun _=>En.gd h0 (En.gd (by omega) (.bind (OH hl hc p (by omega) r.1 _) fun y _=>En.bif (fun _=>nx) fun _=>?_))
      refine En.go (fun q=>(hw (an q)).1) (En.go (fun q=>(hw (an q)).2) (En.go (fun _=>h0) (En.go (fun _=>by omega) (En.go (fun q=>(hw (g0 (an q))).1) (En.go (fun q=>(hw (g0 (an q))).2) (En.go (fun q=>(hw (g0' (an q))).1) (En.go (fun q=>(hw (g0' (an q))).2) (En.bif (fun q=>?_) fun _=>?_))))))))
      · have:=hw (g0'' q)
        exact En.gd this.1 (En.gd this.2 (En.gd (by omega) (En.gd (by omega) (En.gd this.1 (En.gd this.2 (ih _ _ (by omega) (by omega) (by omega) (by rw [List.length_set]; omega)))))))
      · exact En.gd h0 (En.gd (by omega) (En.gd (by omega) (En.gd (by omega) (En.gd (by omega) (En.gd (by omega) (ih _ _ (by omega) (by omega) (by omega) (by simp; omega)))))))
  have post:∀ (k:Nat) (i:Int) (e:List Int),(p.length:Int) - i≤k→0≤i→i≤(p.length:Int)→(e.length:Int)≤3000+2*i→En (fun o=>o.length≤99000) (gc l t e i c p life):=by
    intro k
    have fin:∀ e:List Int,e.length≤9000→En (fun o=>o.length≤99000) (bR l t e 0 c p life []):=fun e he=>seg e (by omega) _ 0 [] (Int.self_le_toNat _) (by omega) (by omega) (by simp)
    induction k with
    | zero=>intro i e hk h0 hi he; rw [oE]; exact En.ifd (fun h=>by omega) fun _=>fin e (by omega)
    | succ k ih =>
      intro i e hk h0 hi he
      rw [oE,ak (n:=i+1) (by omega) (by omega)]
      exact En.ifd (fun h=>En.gd h0 (En.gd h (.bind (qd _ _ (by omega)) fun a ha=>En.gd h0 (En.gd h (.bind (qd _ _ (by omega)) fun b hb=>ih _ _ (by omega) (by omega) (by omega) (by omega)))))) fun _=>fin e (by omega)
  have rul:∀ (k:Nat) (i:Int) (e:List Int),(t.length:Int) - i≤k→0≤i→i≤(t.length:Int)→(e.length:Int)≤100+1201*i→En (fun o=>o.length≤99000) (fb l t e i c p life):=by
    intro k
    have fin:∀ e:List Int,e.length≤3000→En (fun o=>o.length≤99000) (gc l t e 0 c p life):=fun e he=>post _ 0 e (Int.self_le_toNat _) (by omega) (by omega) (by omega)
    induction k with
    | zero=>intro i e hk h0 hi he; rw [pj]; exact En.ifd (fun h=>by omega) fun _=>fin e (by omega)
    | succ k ih =>
      intro i e hk h0 hi he
      rw [pj]
      refine En.ifd (fun h=>En.gd h0 (En.gd h (.bind (qd _ _ (by omega)) fun a ha=>?_))) fun _=>fin e (by omega)
      have inn:∀ (m:Nat) (j:Int) (e:List Int),(p.length:Int) - j≤m→0≤j→j≤(p.length:Int)→(e.length:Int)≤101+1201*i+j→En (fun o=>o.length≤99000) (iv l t e i j c p life):=by
        intro m
        have fi:∀ e:List Int,(e.length:Int)≤100+1201*(i+1)→En (fun o=>o.length≤99000) (fb l t e (ac (i+1)) c p life):=by
          intro e he
          rw [ak (n:=i+1) (by omega) (by omega)]
          exact ih _ _ (by omega) (by omega) (by omega) (by omega)
        induction m with
        | zero=>intro j e hj0 hj1 hj2 he; rw [mL]; exact En.ifd (fun h=>by omega) fun _=>fi e (by omega)
        | succ m ihm =>
          intro j e hj0 hj1 hj2 he
          rw [mL,ak (n:=j+1) (by omega) (by omega)]
          exact En.ifd (fun hj=>En.gd hj1 (En.gd hj (En.gd h0 (En.gd h (.bind (qd _ _ (by omega)) fun b hb=>ihm _ _ (by omega) (by omega) (by omega) (by omega)))))) fun _=>fi e (by omega)
      exact inn _ 0 a (Int.self_le_toNat _) (by omega) (by omega) (by omega)
  have fac:∀ (k:Nat) (i:Int) (e:List Int),(c.length:Int) - i≤k→0≤i→i≤(c.length:Int)→(e.length:Int)≤2+2*i→En (fun o=>o.length≤99000) (kA l t e i c p life):=by
    intro k
    have fin:∀ e:List Int,e.length≤62→En (fun o=>o.length≤99000) (fb l t e 0 c p life):=fun e he=>rul _ 0 e (Int.self_le_toNat _) (by omega) (by omega) (by omega)
    induction k with
    | zero=>intro i e hk h0 hi he; rw [pf]; exact En.ifd (fun h=>by omega) fun _=>fin e (by omega)
    | succ k ih =>
      intro i e hk h0 hi he
      rw [pf,ak (n:=i+1) (by omega) (by omega)]
      exact En.ifd (fun h=>En.gd h0 (En.gd h (.bind (qd _ _ (by omega)) fun a ha=>En.gd h0 (En.gd h (.bind (qd _ _ (by omega)) fun b hb=>ih _ _ (by omega) (by omega) (by omega) (by omega)))))) fun _=>fin e (by omega)
  exact fac _ 0 _ (Int.self_le_toNat _) (by omega) (by omega) (by simp)
end Go.Ax
