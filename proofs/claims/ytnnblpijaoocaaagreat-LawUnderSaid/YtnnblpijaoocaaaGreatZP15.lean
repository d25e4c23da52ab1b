import Derived.Test.YtnnblpijaoocaaaGreatZP12
set_option linter.all false
/- The document's law ends: its spans are few. -/
set_option maxRecDepth 100000
namespace Go.Ax
theorem pB (l:List Int) (n:Int) (hl:l.length≤1000000):En (fun r=>r.length≤l.length+1) (cJ l n):=by
  rw [xM]
  have key:∀ (k:Nat) (x:Int),x≤k→0≤x→x≤(l.length:Int)→En (fun r=>r.length≤l.length+1) (gv l n x):=by
    intro k
    have fin:∀ (x:Int),0≤x→x≤(l.length:Int)→En (fun r=>r.length≤l.length+1) (gb ((!(aa (x < (l.length:Int))&&true))||aa (0≤x))<|gb ((!(aa (x < (l.length:Int))&&true))||aa (x < (l.length:Int))) <|
        bif (bif aa (x < (l.length:Int)) then (ai (gD l x.toNat 0) n) else false) then some l else gb (aa (0≤x))<|gb (aa (x≤(l.length:Int)))<|gb (aa (((ap l 0 (x - 0).toNat).length*8)≤140737488355328)) <|
        gb (aa ((ap l 0 (x - 0).toNat).length≤140737488355328))<|gb (aa ((((ap l 0 (x - 0).toNat).length+1)*8)≤140737488355328))<|gb (aa (((ap l 0 (x - 0).toNat).length+1)≤140737488355328))<|gb (aa (0≤x)) <|
        gb (aa (x≤(l.length:Int)))<|gb (aa ((l.length:Int)≤(l.length:Int)))<|gb (aa (((((ap l 0 (x - 0).toNat)++[n]).length+(ap l x.toNat ((l.length:Int) - x).toNat).length)*8)≤140737488355328)) <|
        gb (aa ((((ap l 0 (x - 0).toNat)++[n]).length+(ap l x.toNat ((l.length:Int) - x).toNat).length)≤140737488355328)) <|
        some (((ap l 0 (x - 0).toNat)++[n])++(ap l x.toNat ((l.length:Int) - x).toNat))):=by
      intro x h0 hx
      rw [dw h0 hx,gM h0 hx]
      simp only [List.length_append,List.length_singleton]
      rw [dw h0 hx]
      refine En.go (fun _=>h0) (En.go (fun h=>by simpa using h) (En.bif (fun _=>.some (Nat.le_succ _)) fun _=>?_))
      refine En.gd (by omega) (En.gd (by omega) (En.gd (by omega) (En.gd (by omega) (En.gd (by omega) (En.gd (by omega) (En.gd (by omega) (En.gd (by omega) (En.gd (by omega) (En.gd (by omega) (En.gd (by omega) (.some ?_)))))))))))
      simp only [List.length_append,List.length_singleton]
      rw [dw h0 hx,gM h0 hx]
      omega
    induction k with
    | zero =>
      intro x hk h0 hx
      obtain rfl:x = 0:=by omega
      rw [i6]
      refine En.go (fun h=>by simp at h) (En.go (fun h=>by simp at h) (En.and (fun h=>by simp at h) fun _=>fin 0 h0 hx))
    | succ k ih =>
      intro x hk h0 hx
      rw [i6]
      refine En.go (fun h=>?_) (En.go (fun h=>?_) (En.and (fun h _=>?_) fun _=>fin x h0 hx))
      · simp at h; rw [al (by omega) (by omega)]; omega
      · simp at h; rw [al (by omega) (by omega)]; omega
      · have:=cE h
        rw [al (n:=x - 1) (by omega) (by omega)]
        exact ih _ (by omega) (by omega) (by omega)
  exact key _ _ (Int.self_le_toNat _) (by omega) (by omega)
def JY (c:List GFact):Prop:=c.length≤30∧∀ f∈c,eC f = true
theorem E8 {l:List GFact} (h:l.length≤30):JY (l.filter eH):=by
  refine ⟨Nat.le_trans (List.length_filter_le _ _) h,fun f hf=>?_⟩
  have:=(List.mem_filter.1 hf).2
  unfold eH at this
  cases hv:eC f with
  | true=>rfl
  | false=>rw [hv] at this; cases this
theorem vE {f:GFact} (h:eC f = true) (hk:f.Kind = 1∨f.Kind = 2∨f.Kind = 5):0≤f.State∧f.State < 6:=by
  have hs:=((zP f).1 h).2.2.2.2.2.1
  have hb:cX f.Kind 83 = true:=by rcases hk with e | e | e <;> rw [e] <;> decide
  rw [hb] at hs
  unfold bn at hs
  rw [if_pos rfl,x7] at hs
  omega
section
variable {l c:List GFact} (hl:l.length≤30) (hc:JY c)
include hc
theorem J2 (day:Int):En (fun y=>y.length = 6) (pq c day):=by
  have key:∀ (k:Nat) (i:Int) (t out:List Int),(c.length:Int) - i≤k→0≤i→out.length = 6→t.length = 6→En (fun y=>y.length = 6) (cw c day i t out):=by
    intro k
    induction k with
    | zero =>
      intro i t out hk h0 ho ht
      rw [l6]
      exact En.ifd (fun h=>by omega) fun _=>En.gd (by omega) (En.gd (by omega) (.some rfl))
    | succ k ih =>
      intro i t out hk h0 ho ht
      rw [l6]
      refine En.ifd (fun h=>?_) fun _=>En.gd (by omega) (En.gd (by omega) (.some rfl))
      have:=hc.1
      have hv:=hc.2 _ (iB (z:=zS .GFact) h0 h)
      rw [al (n:=i+1) (by omega) (by omega)]
      refine En.gd h0 (En.gd h (En.ifi (fun hk1=>?_) fun _=>En.gd h0 (En.gd h (En.ifi (fun hk2=>?_) fun _=>ih _ _ _ (by omega) (by omega) ho ht))))
      · have:=vE hv (.inl hk1)
        refine En.gd h0 (En.gd h ?_)
        rw [dT]
        refine En.bif (fun _=>?_) fun _=>ih _ _ _ (by omega) (by omega) ho ht
        exact En.gd h0 (En.gd h (En.gd ho (En.gd this.1 (En.gd this.2 (En.gd h0 (En.gd h (En.gd ho (En.gd this.1 (En.gd this.2 (ih _ _ _ (by omega) (by omega) (by rw [List.length_set]; exact ho) ht))))))))))
      · have:=vE hv (.inr (.inl hk2))
        refine En.gd h0 (En.gd h ?_)
        rw [dT]
        refine En.bif (fun _=>?_) fun _=>ih _ _ _ (by omega) (by omega) ho ht
        exact En.gd h0 (En.gd h (En.gd ho (En.gd this.1 (En.gd this.2 (En.gd h0 (En.gd h (En.gd ho (En.gd this.1 (En.gd this.2 (ih _ _ _ (by omega) (by omega) (by rw [List.length_set]; exact ho) ht))))))))))
  rw [AP]
  exact key _ 0 _ _ (Int.self_le_toNat _) (Int.le_refl _) rfl rfl
omit hc in
include hl in
theorem vn (day:Int):En (fun y=>y.2 = true→0≤y.1∧y.1 < 6) (je l day):=by
  rw [vb,fZ l (by omega),Option.bind_some]
  have hc:=E8 hl
  generalize l.filter eH = c at hc
  have hcl:=hc.1
  have fin:∀ x:Int,(x < 0∨(0≤x∧x < (c.length:Int)∧(gD c x.toNat (zS .GFact)).Kind = 5))→En (fun y=>y.2 = true→0≤y.1∧y.1 < 6) (bif aa (x < 0) then some ((0:Int),false) else gb (aa (0≤x))<|gb (aa (x < (c.length:Int)))<|some ((gD c x.toNat (zS .GFact)).State,true)):=by
    intro x hx
    refine En.ifd (fun _=>.some (fun h=>by cases h)) fun h=>?_
    obtain ⟨h1,h2,h3⟩:0≤x∧x < (c.length:Int)∧(gD c x.toNat (zS .GFact)).Kind = 5:=by
      rcases hx with hx | hx
      · exact absurd hx h
      · exact hx
    exact En.gd h1 (En.gd h2 (.some fun _=>vE (hc.2 _ (iB (z:=zS .GFact) h1 h2)) (.inr (.inr h3))))
  have key:∀ (k:Nat) (i x:Int),(c.length:Int) - i≤k→0≤i→(x < 0∨(0≤x∧x < (c.length:Int)∧(gD c x.toNat (zS .GFact)).Kind = 5))→En (fun y=>y.2 = true→0≤y.1∧y.1 < 6) (bQ l day x i c):=by
    intro k
    induction k with
    | zero =>
      intro i x hk h0 hx
      rw [j5]
      exact En.ifd (fun h=>by omega) fun _=>fin x hx
    | succ k ih =>
      intro i x hk h0 hx
      rw [j5]
      refine En.ifd (fun h=>?_) fun _=>fin x hx
      rw [mm l (by omega),Option.bind_some,dT,dT,al (n:=i+1) (by omega) (by omega)]
      have hx':x < 0∨(0≤x∧x < (c.length:Int)):=by rcases hx with h | h; exact .inl h; exact .inr ⟨h.1,h.2.1⟩
      refine En.bif (fun _=>En.gd h0 (En.gd h (En.ifn (fun _=>ih _ _ (by omega) (by omega) hx) fun h5=>En.gd h0 (En.gd h (En.bif (fun _=>ih _ _ (by omega) (by omega) hx) fun _=>?_))))) fun _=>fin x hx
      have nx:∀ {b:Bool},(!(bif aa (x < 0) then true else b)) = true→0≤x∧x < (c.length:Int):=by
        intro b hb
        have:¬ x < 0:=fun hn=>by rw [aY hn] at hb; cases hb
        omega
      have go1:∀ {a:Bool},((!(aa (x < 0)))&&true) = true→0≤x∧x < (c.length:Int):=by
        intro a hb
        have:¬ x < 0:=fun hn=>by rw [aY hn] at hb; cases hb
        omega
      refine En.go (fun _=>h0) (En.go (fun _=>h) (En.go (fun e=>(go1 (a:=true) e).1) (En.go (fun e=>(go1 (a:=true) e).2) ?_)))
      refine En.go (fun _=>h0) (En.go (fun _=>h) (En.go (fun e=>(nx (Bool.and_eq_true _ _ ▸ e).1).1) (En.go (fun e=>(nx (Bool.and_eq_true _ _ ▸ e).1).2) ?_)))
      refine En.go (fun _=>h0) (En.go (fun _=>h) (En.go (fun e=>?_) (En.go (fun e=>?_) ?_)))
      · simp only [Bool.and_eq_true] at e; exact (nx e.2.1).1
      · simp only [Bool.and_eq_true] at e; exact (nx e.2.1).2
      refine En.bif (fun _=>ih _ _ (by omega) (by omega) (.inr ⟨h0,h,h5⟩)) fun _=>ih _ _ (by omega) (by omega) hx
  exact key _ 0 (-1) (Int.self_le_toNat _) (Int.le_refl _) (.inl (by omega))
theorem Lk (day:Int):En (fun r=>r.length≤30) (qZ c day):=by
  have hcl:=hc.1
  have key:∀ (k:Nat) (i:Int) (out:List Int),(c.length:Int) - i≤k→0≤i→(out.length:Int)≤i→i≤(c.length:Int)→En (fun r=>r.length≤30) (ef c day out i):=by
    intro k
    induction k with
    | zero=>intro i out hk h0 ho hi; rw [nC]; exact En.ifd (fun h=>by omega) fun _=>.some (by omega)
    | succ k ih =>
      intro i out hk h0 ho hi
      rw [nC]
      refine En.ifd (fun h=>?_) fun _=>.some (by omega)
      rw [dT,al (n:=i+1) (by omega) (by omega)]
      have nx:=ih (i+1) out (by omega) (by omega) (by omega) (by omega)
      refine En.gd h0 (En.gd h (En.bif (fun _=>En.gd h0 (En.gd h (En.bif (fun _=>En.gd h0 (En.gd h (.bind (pB _ _ (by omega)) fun r hr=>ih _ _ (by omega) (by omega) (by omega) (by omega)))) fun _=>nx))) fun _=>nx))
  rw [BW]
  exact key _ 0 [] (Int.self_le_toNat _) (by omega) (by simp) (by omega)
include hl in
theorem HK (r:GRules) (day:Int):En (fun _=>True) (my l c r day):=by
  rw [xt]
  refine .bind (J2 hc day) fun s0 _=>?_
  have hs:([(gD s0 0 0),(gD s0 1 0),(gD s0 2 0),(gD s0 3 0),(gD s0 4 0),(gD s0 5 0)]:List Int).length = 6:=rfl
  generalize [(gD s0 0 0),(gD s0 1 0),(gD s0 2 0),(gD s0 3 0),(gD s0 4 0),(gD s0 5 0)] = s at hs
  have key:∀ (k:Nat) (i sum n best:Int),6 - i≤k→0≤i→(best < 0∨(0≤best∧best < 6))→En (fun _=>True) (cc l c day sum n best i r s):=by
    intro k
    have fin:∀ (i sum n best:Int), ¬ i < 6→En (fun _=>True) (cc l c day sum n best i r s):=by
      intro i sum n best hi
      rw [ki]
      refine En.ifd (fun h=>absurd h hi) fun _=>.bind (vn hl day) fun y hy=>.bind (Lk hc day) fun z hz=>?_
      refine En.bif (fun _=>.some trivial) fun _=>En.bif (fun _=>.some trivial) fun _=>?_
      have g1:∀ {b:Bool},(y.2&&b) = true→0≤y.1∧y.1 < 6:=fun e=>hy (Bool.and_eq_true _ _ ▸ e).1
      have g2:∀ {b d:Bool},((bif y.2 then b else false)&&d) = true→0≤y.1∧y.1 < 6:=fun {b d} e=>hy (by cases h:y.2 with | true=>rfl | false=>rw [h] at e; simp at e)
      refine En.go (fun _=>hs) (En.go (fun e=>(g1 e).1) (En.go (fun e=>(g1 e).2) (En.go (fun _=>hs) (En.go (fun e=>(g2 e).1) (En.go (fun e=>(g2 e).2) (En.bif (fun _=>.some trivial) fun _=>En.ifi (fun h1=>En.gd (by omega) (.some trivial)) fun _=>?_))))))
      have g3:∀ {b:Bool},((bif y.2 then (ai (z.length:Int) 2) else false)&&b) = true→(z.length:Int) = 2:=by
        intro b e
        have:=(Bool.and_eq_true _ _ ▸ e).1
        rw [ce,Bool.and_eq_true] at this
        exact o7.1 this.2
      have g4:∀ {b:Bool},(bif (bif y.2 then (ai (z.length:Int) 2) else false) then b else false) = true→(z.length:Int) = 2:=by
        intro b e
        rw [ce] at e
        exact g3 e
      refine En.gb (by simp) (En.go (fun e=>by have:=g3 e; omega) (En.bif (fun e=>En.gd (by have:=g4 e; omega) (.some trivial)) fun _=>?_))
      refine En.gb (by simp) (En.go (fun e=>by have:=g3 e; omega) (En.bif (fun e=>En.gd (by have:=g4 e; omega) (.some trivial)) fun _=>?_))
      exact En.bif (fun _=>.some trivial) fun _=>.some trivial
    induction k with
    | zero=>intro i sum n best hk h0 hb; exact fin _ _ _ _ (by omega)
    | succ k ih =>
      intro i sum n best hk h0 hb
      by_cases h:i < 6
      · rw [ki,al (n:=i+1) (by omega) (by omega)]
        refine En.ifd (fun _=>?_) fun e=>absurd h e
        refine En.gd hs (En.gd h0 (En.gd h (En.gd hs (En.gd h0 (En.gd h (En.bif (fun _=>?_) fun _=>ih _ _ _ _ (by omega) (by omega) hb))))))
        have nx:((!(aa (best < 0)))&&true) = true→0≤best∧best < 6:=by
          intro e
          have:¬ best < 0:=fun hn=>by rw [aY hn] at e; cases e
          omega
        refine En.go (fun _=>hs) (En.go (fun _=>h0) (En.go (fun _=>h) (En.go (fun _=>hs) (En.go (fun e=>(nx e).1) (En.go (fun e=>(nx e).2) ?_)))))
        exact En.bif (fun _=>ih _ _ _ _ (by omega) (by omega) (.inr ⟨h0,h⟩)) fun _=>ih _ _ _ _ (by omega) (by omega) hb
      · exact fin _ _ _ _ h
  exact key 6 0 _ _ _ (by omega) (by omega) (.inl (by omega))
end
end Go.Ax
set_option linter.all false
/- The document's law ends: its spans are few. -/
set_option maxRecDepth 100000
namespace Go.Ax
section
variable {l c:List GFact} (hl:l.length≤30) (hc:JY c)
include hl hc
theorem IQ (day:Int):∀ (k:Nat) (i best:Int),(c.length:Int) - i≤k→0≤i→En (fun _=>True) (aP l c day best i):=by
  have hcl:=hc.1
  have fin:∀ (i best:Int), ¬ i < (c.length:Int)→En (fun _=>True) (aP l c day best i):=by
    intro i best h
    rw [nQ]
    exact En.ifd (fun e=>absurd e h) fun _=>En.ifd (fun _=>.some trivial) fun _=>.bind (vn hl day) fun y _=>En.bif (fun _=>.some trivial) fun _=>.some trivial
  intro k
  induction k with
  | zero=>intro i best hk h0; exact fin _ _ (by omega)
  | succ k ih =>
    intro i best hk h0
    by_cases h:i < (c.length:Int)
    · rw [nQ,dT,al (n:=i+1) (by omega) (by omega)]
      simp only [Option.bind_some]
      have nx:∀ b,En (fun _=>True) (aP l c day b (i+1)):=fun b=>ih _ _ (by omega) (by omega)
      refine En.ifd (fun _=>?_) fun e=>absurd h e
      repeat' first
        | exact nx _
        | refine En.gd h0 ?_
        | refine En.gd h ?_
        | refine En.bif (fun _=>?_) (fun _=>?_)
    · exact fin _ _ h
set_option maxHeartbeats 2000000 in
theorem Ke (r:GRules) (day:Int):∀ (k:Nat) (i best:Int),(c.length:Int) - i≤k→0≤i→(best < 0∨(0≤best∧best < (c.length:Int)))→En (fun _=>True) (dK l c day best i r):=by
  have hcl:=hc.1
  have fin:∀ (i best:Int), ¬ i < (c.length:Int)→(best < 0∨(0≤best∧best < (c.length:Int)))→En (fun _=>True) (dK l c day best i r):=by
    intro i best h hb
    rw [oC]
    refine En.ifd (fun e=>absurd e h) fun _=>En.ifd (fun e=>En.gd e (En.gd (by omega) (.some trivial))) fun _=>.bind (HK hl hc r day) fun y _=>En.bif (fun _=>.some trivial) fun _=>IQ hl hc day _ 0 best (Int.self_le_toNat _) (by omega)
  intro k
  induction k with
  | zero=>intro i best hk h0 hb; exact fin _ _ (by omega) hb
  | succ k ih =>
    intro i best hk h0 hb
    by_cases h:i < (c.length:Int)
    · rw [oC,dT,al (n:=i+1) (by omega) (by omega)]
      have nb:∀ {b x:Bool},((!(aa (best < 0)))&&b) = true→0≤best∧best < (c.length:Int):=by
        intro b _ e
        have:¬ best < 0:=fun hn=>by rw [aY hn] at e; cases e
        omega
      have nb2:∀ {b d:Bool},((!(bif aa (best < 0) then true else b))&&d) = true→0≤best∧best < (c.length:Int):=by
        intro b d e
        have:¬ best < 0:=fun hn=>by rw [aY hn] at e; cases e
        omega
      have nb3:∀ {a b d:Bool},(a&&((!(bif aa (best < 0) then true else b))&&d)) = true→0≤best∧best < (c.length:Int):=fun {a b d} e=>nb2 (Bool.and_eq_true _ _ ▸ e).2
      refine En.ifd (fun _=>?_) fun e=>absurd h e
      rw [Option.bind_some]
      repeat' first
        | exact ih _ _ (by omega) (by omega) hb
        | exact ih _ _ (by omega) (by omega) (.inr ⟨h0,h⟩)
        | refine En.gd h0 ?_
        | refine En.gd h ?_
        | refine En.go (fun _=>h0) ?_
        | refine En.go (fun _=>h) ?_
        | refine En.go (fun e=>(nb (x:=true) e).1) ?_
        | refine En.go (fun e=>(nb (x:=true) e).2) ?_
        | refine En.go (fun e=>(nb2 e).1) ?_
        | refine En.go (fun e=>(nb2 e).2) ?_
        | refine En.go (fun e=>(nb3 e).1) ?_
        | refine En.go (fun e=>(nb3 e).2) ?_
        | refine En.bif (fun _=>?_) (fun _=>?_)
    · exact fin _ _ h hb
set_option maxHeartbeats 2000000 in
theorem Nh (p:List GPosting) (hp:p.length≤100000) (r:GRules) (day:Int):En (fun _=>True) (wz l c p r day):=by
  have key:∀ (k:Nat) (i best:Int),(p.length:Int) - i≤k→0≤i→(best < 0∨(0≤best∧best < (p.length:Int)))→En (fun _=>True) (ew l c p day best i r):=by
    have fin:∀ (i best:Int), ¬ i < (p.length:Int)→(best < 0∨(0≤best∧best < (p.length:Int)))→En (fun _=>True) (ew l c p day best i r):=by
      intro i best h hb
      rw [p5]
      refine En.ifd (fun e=>absurd e h) fun _=>En.ifd (fun e=>En.gd e (En.gd (by omega) (.some trivial))) fun hn=>Ke hl hc r day _ 0 best (Int.self_le_toNat _) (by omega) (.inl (by omega))
    intro k
    induction k with
    | zero=>intro i best hk h0 hb; exact fin _ _ (by omega) hb
    | succ k ih =>
      intro i best hk h0 hb
      by_cases h:i < (p.length:Int)
      · rw [p5,dT,al (n:=i+1) (by omega) (by omega)]
        have nb:∀ {b:Bool},((!(aa (best < 0)))&&b) = true→0≤best∧best < (p.length:Int):=by
          intro b e
          have:¬ best < 0:=fun hn=>by rw [aY hn] at e; cases e
          omega
        have nb3:∀ {a b:Bool},(a&&((!(aa (best < 0)))&&b)) = true→0≤best∧best < (p.length:Int):=fun {a b} e=>nb (Bool.and_eq_true _ _ ▸ e).2
        refine En.ifd (fun _=>?_) fun e=>absurd h e
        rw [Option.bind_some]
        repeat' first
          | exact ih _ _ (by omega) (by omega) hb
          | exact ih _ _ (by omega) (by omega) (.inr ⟨h0,h⟩)
          | refine En.gd h0 ?_
          | refine En.gd h ?_
          | refine En.go (fun _=>h0) ?_
          | refine En.go (fun _=>h) ?_
          | refine En.go (fun e=>(nb e).1) ?_
          | refine En.go (fun e=>(nb e).2) ?_
          | refine En.go (fun e=>(nb3 e).1) ?_
          | refine En.go (fun e=>(nb3 e).2) ?_
          | refine En.bif (fun _=>?_) (fun _=>?_)
      · exact fin _ _ h hb
  rw [EW]
  exact key _ 0 (-1) (Int.self_le_toNat _) (by omega) (.inl (by omega))
end
theorem Ks (l:List GPosting) (p:GPosting) (hl:l.length≤1000000):En (fun r=>r.length≤l.length+1) (qc l p):=by
  rw [Bb]
  have key:∀ (k:Nat) (x:Int),x≤k→0≤x→x≤(l.length:Int)→En (fun r=>r.length≤l.length+1) (gR l x p):=by
    intro k
    have fin:∀ (x:Int),0≤x→x≤(l.length:Int)→En (fun r=>r.length≤l.length+1) (gb (aa (0≤x))<|gb (aa (x≤(l.length:Int)))<|gb (aa (((ap l 0 (x - 0).toNat).length*32)≤140737488355328)) <|
        gb (aa ((ap l 0 (x - 0).toNat).length≤140737488355328))<|gb (aa ((((ap l 0 (x - 0).toNat).length+1)*32)≤140737488355328))<|gb (aa (((ap l 0 (x - 0).toNat).length+1)≤140737488355328))<|gb (aa (0≤x)) <|
        gb (aa (x≤(l.length:Int)))<|gb (aa ((l.length:Int)≤(l.length:Int)))<|gb (aa (((((ap l 0 (x - 0).toNat)++[p]).length+(ap l x.toNat ((l.length:Int) - x).toNat).length)*32)≤140737488355328)) <|
        gb (aa ((((ap l 0 (x - 0).toNat)++[p]).length+(ap l x.toNat ((l.length:Int) - x).toNat).length)≤140737488355328)) <|
        some (((ap l 0 (x - 0).toNat)++[p])++(ap l x.toNat ((l.length:Int) - x).toNat))):=by
      intro x h0 hx
      rw [dw h0 hx,gM h0 hx]
      simp only [List.length_append,List.length_singleton]
      rw [dw h0 hx]
      refine En.gd (by omega) (En.gd (by omega) (En.gd (by omega) (En.gd (by omega) (En.gd (by omega) (En.gd (by omega) (En.gd (by omega) (En.gd (by omega) (En.gd (by omega) (En.gd (by omega) (En.gd (by omega) (.some ?_)))))))))))
      simp only [List.length_append,List.length_singleton]
      rw [dw h0 hx,gM h0 hx]
      omega
    induction k with
    | zero =>
      intro x hk h0 hx
      obtain rfl:x = 0:=by omega
      rw [l8]
      refine En.go (fun h=>by simp at h) (En.go (fun h=>by simp at h) (En.and (fun h=>by simp at h) fun _=>fin 0 h0 hx))
    | succ k ih =>
      intro x hk h0 hx
      rw [l8]
      refine En.go (fun h=>?_) (En.go (fun h=>?_) (En.and (fun h _=>?_) fun _=>fin x h0 hx))
      · simp at h; rw [al (by omega) (by omega)]; omega
      · simp at h; rw [al (by omega) (by omega)]; omega
      · have:=cE h
        rw [al (n:=x - 1) (by omega) (by omega)]
        exact ih _ (by omega) (by omega) (by omega)
  exact key _ _ (Int.self_le_toNat _) (by omega) (by omega)
theorem Fi (l:List GSpan) (s:GSpan):(oU l s).length≤l.length+1:=by
  have h1:=(io l).2.2
  have h2:(eF [s]).length≤1:=(io [s]).2.2
  have key:∀ (a b:List GSpan),(ed a b).length≤a.length+b.length:=by
    intro a b
    induction a,b using ed.induct with
    | case1 b=>rw [oS]; simp
    | case2 s r=>rw [m7]; simp
    | case3 s r t u ih1 ih2 =>
      have:=Ih s t
      rw [m8,List.length_append]
      split
      · simp only [List.length_cons] at ih1 ⊢; omega
      · simp only [List.length_cons] at ih2 ⊢; omega
  have:=key (eF l) (eF [s])
  unfold oU
  omega
theorem HB {l:List GFact} (hl:l.length≤30):En (fun p=>p.length≤1200) (mn l):=by
  rw [xy,fZ l (by omega),Option.bind_some]
  have hc:=(E8 hl).1
  generalize l.filter eH = c at hc
  have ins:∀ (seat state:Int) (s:List GSpan) (B:Nat),s.length≤40→B≤2000→∀ (k:Nat) (i:Int) (out:List GPosting),(s.length:Int) - i≤k→0≤i→(out.length:Int)≤B+i→i≤(s.length:Int) →
      (∀ out':List GPosting,(out'.length:Int)≤B+s.length→En (fun p=>p.length≤1200) (bP l seat (ac (state+1)) c out'))→En (fun p=>p.length≤1200) (dz l seat state i c out s):=by
    intro seat state s B hs hB k
    induction k with
    | zero=>intro i out hk h0 ho hi hn; rw [iu]; exact En.ifd (fun h=>by omega) fun _=>hn _ (by omega)
    | succ k ih =>
      intro i out hk h0 ho hi hn
      rw [iu]
      refine En.ifd (fun h=>?_) fun _=>hn _ (by omega)
      rw [al (n:=i+1) (by omega) (by omega)]
      exact En.gd h0 (En.gd h (.bind (Ks _ _ (by omega)) fun r hr=>ih _ _ (by omega) (by omega) (by omega) (by omega) hn))
  have col:∀ (seat state:Int) (B:Nat),B≤1169→∀ (k:Nat) (i:Int) (out:List GPosting) (s:List GSpan),(c.length:Int) - i≤k→0≤i→i≤(c.length:Int)→(s.length:Int)≤i→out.length≤B →
      (∀ out':List GPosting,out'.length≤B+31→En (fun p=>p.length≤1200) (bP l seat (ac (state+1)) c out'))→En (fun p=>p.length≤1200) (bM l seat state i c out s):=by
    intro seat state B hB k
    have fin:∀ (i:Int) (out:List GPosting) (s:List GSpan), ¬ i < (c.length:Int)→s.length≤30→out.length≤B→(∀ out':List GPosting,out'.length≤B+31→En (fun p=>p.length≤1200) (bP l seat (ac (state+1)) c out'))→En (fun p=>p.length≤1200) (bM l seat state i c out s):=by
      intro i out s h hs ho hn
      rw [iD]
      refine En.ifd (fun e=>absurd e h) fun _=>?_
      rw [mm l (by omega),Option.bind_some,Ec _ _ (by omega),Option.bind_some]
      have:=Fi s (oO l)
      exact ins seat state _ B (by omega) (by omega) _ 0 out (Int.self_le_toNat _) (by omega) (by omega) (by omega) fun o ho=>hn o (by omega)
    induction k with
    | zero=>intro i out s hk h0 hi hs ho hn; exact fin _ _ _ (by omega) (by omega) ho hn
    | succ k ih =>
      intro i out s hk h0 hi hs ho hn
      by_cases h:i < (c.length:Int)
      · rw [iD,al (n:=i+1) (by omega) (by omega)]
        refine En.ifd (fun _=>?_) fun e=>absurd h e
        repeat' first
          | exact ih _ _ _ (by omega) (by omega) (by omega) (by omega) ho hn
          | exact ih _ _ _ (by omega) (by omega) (by omega) (by simp only [List.length_append,List.length_singleton]; omega) ho hn
          | refine En.gd h0 ?_
          | refine En.gd h ?_
          | refine En.go (fun _=>h0) ?_
          | refine En.go (fun _=>h) ?_
          | refine En.gd (by omega) ?_
          | refine En.bif (fun _=>?_) (fun _=>?_)
      · exact fin _ _ _ h (by omega) ho hn
  have st:∀ (seat:Int) (B:Nat),B+6*31≤1200→(∀ out':List GPosting,out'.length≤B+6*31→En (fun p=>p.length≤1200) (dD l (ac (seat+1)) c out')) →
      ∀ (k:Nat) (state:Int) (out:List GPosting),6 - state≤k→0≤state→state≤6→(out.length:Int)≤B+31*state→En (fun p=>p.length≤1200) (bP l seat state c out):=by
    intro seat B hB hn k
    induction k with
    | zero=>intro state out hk h0 h6 ho; rw [j7]; exact En.ifd (fun h=>by omega) fun _=>hn _ (by omega)
    | succ k ih =>
      intro state out hk h0 h6 ho
      rw [j7]
      refine En.ifd (fun h=>?_) fun _=>hn _ (by omega)
      refine col seat state (B+31*state.toNat) (by omega) _ 0 out [] (Int.self_le_toNat _) (by omega) (by omega) (by simp) (by omega) fun o hoo=>?_
      rw [al (n:=state+1) (by omega) (by omega)]
      exact ih _ _ (by omega) (by omega) (by omega) (by omega)
  have top:∀ (k:Nat) (seat:Int) (out:List GPosting),6 - seat≤k→0≤seat→seat≤6→(out.length:Int)≤186*seat→En (fun p=>p.length≤1200) (dD l seat c out):=by
    intro k
    induction k with
    | zero=>intro seat out hk h0 h6 ho; rw [ku]; exact En.ifd (fun h=>by omega) fun _=>.some (by omega)
    | succ k ih =>
      intro seat out hk h0 h6 ho
      rw [ku]
      refine En.ifd (fun h=>?_) fun _=>.some (by omega)
      refine st seat (186*seat.toNat) (by omega) (fun o hoo=>?_) 6 0 out (by omega) (by omega) (by omega) (by omega)
      rw [al (n:=seat+1) (by omega) (by omega)]
      exact ih _ _ (by omega) (by omega) (by omega) (by omega)
  exact top 6 0 [] (by omega) (by omega) (by omega) (by simp)
end Go.Ax
