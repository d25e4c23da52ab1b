import Derived.Test.YtokecajedkojlaaGreatYP15
set_option linter.all false
/- The document's law ends: its spans are few. -/
set_option maxRecDepth 100000
namespace Go.Ax
section
variable {l c:List GFact} (hl:l.length≤30) (hc:JI c)
include hl hc
theorem KI (day:Int):∀ (k:Nat) (i best:Int),(c.length:Int) - i≤k→0≤i→En (fun _=>True) (aU l c day best i):=by
  have hcl:=hc.1
  have fin:∀ (i best:Int), ¬ i < (c.length:Int)→En (fun _=>True) (aU l c day best i):=by
    intro i best h
    rw [og]
    exact En.ifd (fun e=>absurd e h) fun _=>En.ifd (fun _=>.some trivial) fun _=>.bind (xk hl day) fun y _=>En.bif (fun _=>.some trivial) fun _=>.some trivial
  intro k
  induction k with
  | zero=>intro i best hk h0; exact fin _ _ (by omega)
  | succ k ih =>
    intro i best hk h0
    by_cases h:i < (c.length:Int)
    · rw [og,ed,ak (n:=i+1) (by omega) (by omega)]
      simp only [Option.bind_some]
      have nx:∀ b,En (fun _=>True) (aU l c day b (i+1)):=fun b=>ih _ _ (by omega) (by omega)
      refine En.ifd (fun _=>?_) fun e=>absurd h e
      repeat' first
        | exact nx _
        | refine En.gd h0 ?_
        | refine En.gd h ?_
        | refine En.bif (fun _=>?_) (fun _=>?_)
    · exact fin _ _ h
set_option maxHeartbeats 2000000 in
theorem K9 (r:GRules) (day:Int):∀ (k:Nat) (i best:Int),(c.length:Int) - i≤k→0≤i→(best < 0∨(0≤best∧best < (c.length:Int)))→En (fun _=>True) (dT l c day best i r):=by
  have hcl:=hc.1
  have fin:∀ (i best:Int), ¬ i < (c.length:Int)→(best < 0∨(0≤best∧best < (c.length:Int)))→En (fun _=>True) (dT l c day best i r):=by
    intro i best h hb
    rw [pd]
    refine En.ifd (fun e=>absurd e h) fun _=>En.ifd (fun e=>En.gd e (En.gd (by omega) (.some trivial))) fun _=>.bind (H9 hl hc r day) fun y _=>En.bif (fun _=>.some trivial) fun _=>KI hl hc day _ 0 best (Int.self_le_toNat _) (by omega)
  intro k
  induction k with
  | zero=>intro i best hk h0 hb; exact fin _ _ (by omega) hb
  | succ k ih =>
    intro i best hk h0 hb
    by_cases h:i < (c.length:Int)
    · rw [pd,ed,ak (n:=i+1) (by omega) (by omega)]
      have nb:∀ {b x:Bool},((!(aa (best < 0)))&&b) = true→0≤best∧best < (c.length:Int):=by
        intro b _ e
        have:¬ best < 0:=fun hn=>by rw [bY hn] at e; cases e
        omega
      have nb2:∀ {b d:Bool},((!(bif aa (best < 0) then true else b))&&d) = true→0≤best∧best < (c.length:Int):=by
        intro b d e
        have:¬ best < 0:=fun hn=>by rw [bY hn] at e; cases e
        omega
      have nb3:∀ {a b d:Bool},(a&&((!(bif aa (best < 0) then true else b))&&d)) = true→0≤best∧best < (c.length:Int):=fun {a b d} e=>nb2 (Bool.and_eq_true _ _ ▸ e).2
      refine En.ifd (fun _=>?_) fun e=>absurd h e
      rw [Option.bind_some]
      repeat' first
        | exact ih _ _ (by omega) (by omega) hb
        | exact ih _ _ (by omega) (by omega) (.inr ⟨h0,h⟩)
        | refine En.gd h0 ?_
        | refine En.gd h ?_
        | refine En.go (fun _=>h0) ?_
        | refine En.go (fun _=>h) ?_
        | refine En.go (fun e=>(nb (x:=true) e).1) ?_
        | refine En.go (fun e=>(nb (x:=true) e).2) ?_
        | refine En.go (fun e=>(nb2 e).1) ?_
        | refine En.go (fun e=>(nb2 e).2) ?_
        | refine En.go (fun e=>(nb3 e).1) ?_
        | refine En.go (fun e=>(nb3 e).2) ?_
        | refine En.bif (fun _=>?_) (fun _=>?_)
    · exact fin _ _ h hb
set_option maxHeartbeats 2000000 in
theorem OH (p:List GPosting) (hp:p.length≤100000) (r:GRules) (day:Int):En (fun _=>True) (v6 l c p r day):=by
  have key:∀ (k:Nat) (i best:Int),(p.length:Int) - i≤k→0≤i→(best < 0∨(0≤best∧best < (p.length:Int)))→En (fun _=>True) (eL l c p day best i r):=by
    have fin:∀ (i best:Int), ¬ i < (p.length:Int)→(best < 0∨(0≤best∧best < (p.length:Int)))→En (fun _=>True) (eL l c p day best i r):=by
      intro i best h hb
      rw [qv]
      refine En.ifd (fun e=>absurd e h) fun _=>En.ifd (fun e=>En.gd e (En.gd (by omega) (.some trivial))) fun hn=>K9 hl hc r day _ 0 best (Int.self_le_toNat _) (by omega) (.inl (by omega))
    intro k
    induction k with
    | zero=>intro i best hk h0 hb; exact fin _ _ (by omega) hb
    | succ k ih =>
      intro i best hk h0 hb
      by_cases h:i < (p.length:Int)
      · rw [qv,ed,ak (n:=i+1) (by omega) (by omega)]
        have nb:∀ {b:Bool},((!(aa (best < 0)))&&b) = true→0≤best∧best < (p.length:Int):=by
          intro b e
          have:¬ best < 0:=fun hn=>by rw [bY hn] at e; cases e
          omega
        have nb3:∀ {a b:Bool},(a&&((!(aa (best < 0)))&&b)) = true→0≤best∧best < (p.length:Int):=fun {a b} e=>nb (Bool.and_eq_true _ _ ▸ e).2
        refine En.ifd (fun _=>?_) fun e=>absurd h e
        rw [Option.bind_some]
        repeat' first
          | exact ih _ _ (by omega) (by omega) hb
          | exact ih _ _ (by omega) (by omega) (.inr ⟨h0,h⟩)
          | refine En.gd h0 ?_
          | refine En.gd h ?_
          | refine En.go (fun _=>h0) ?_
          | refine En.go (fun _=>h) ?_
          | refine En.go (fun e=>(nb e).1) ?_
          | refine En.go (fun e=>(nb e).2) ?_
          | refine En.go (fun e=>(nb3 e).1) ?_
          | refine En.go (fun e=>(nb3 e).2) ?_
          | refine En.bif (fun _=>?_) (fun _=>?_)
      · exact fin _ _ h hb
  rw [G3]
  exact key _ 0 (-1) (Int.self_le_toNat _) (by omega) (.inl (by omega))
end
theorem LJ (l:List GPosting) (p:GPosting) (hl:l.length≤1000000):En (fun r=>r.length≤l.length+1) (qP l p):=by
  rw [BE]
  have key:∀ (k:Nat) (x:Int),x≤k→0≤x→x≤(l.length:Int)→En (fun r=>r.length≤l.length+1) (il l x p):=by
    intro k
    have fin:∀ (x:Int),0≤x→x≤(l.length:Int)→En (fun r=>r.length≤l.length+1) (gb (aa (0≤x))<|gb (aa (x≤(l.length:Int)))<|gb (aa (((ao l 0 (x - 0).toNat).length*32)≤140737488355328)) <|
        gb (aa ((ao l 0 (x - 0).toNat).length≤140737488355328))<|gb (aa ((((ao l 0 (x - 0).toNat).length+1)*32)≤140737488355328))<|gb (aa (((ao l 0 (x - 0).toNat).length+1)≤140737488355328))<|gb (aa (0≤x)) <|
        gb (aa (x≤(l.length:Int)))<|gb (aa ((l.length:Int)≤(l.length:Int)))<|gb (aa (((((ao l 0 (x - 0).toNat)++[p]).length+(ao l x.toNat ((l.length:Int) - x).toNat).length)*32)≤140737488355328)) <|
        gb (aa ((((ao l 0 (x - 0).toNat)++[p]).length+(ao l x.toNat ((l.length:Int) - x).toNat).length)≤140737488355328)) <|
        some (((ao l 0 (x - 0).toNat)++[p])++(ao l x.toNat ((l.length:Int) - x).toNat))):=by
      intro x h0 hx
      rw [dy h0 hx,ia h0 hx]
      simp only [List.length_append,List.length_singleton]
      rw [dy h0 hx]
      refine En.gd (by omega) (En.gd (by omega) (En.gd (by omega) (En.gd (by omega) (En.gd (by omega) (En.gd (by omega) (En.gd (by omega) (En.gd (by omega) (En.gd (by omega) (En.gd (by omega) (En.gd (by omega) (.some ?_)))))))))))
      simp only [List.length_append,List.length_singleton]
      rw [dy h0 hx,ia h0 hx]
      omega
    induction k with
    | zero =>
      intro x hk h0 hx
      obtain rfl:x = 0:=by omega
      rw [mC]
      refine En.go (fun h=>by simp at h) (En.go (fun h=>by simp at h) (En.and (fun h=>by simp at h) fun _=>fin 0 h0 hx))
    | succ k ih =>
      intro x hk h0 hx
      rw [mC]
      refine En.go (fun h=>?_) (En.go (fun h=>?_) (En.and (fun h _=>?_) fun _=>fin x h0 hx))
      · simp at h; rw [ak (by omega) (by omega)]; omega
      · simp at h; rw [ak (by omega) (by omega)]; omega
      · have:=aE h
        rw [ak (n:=x - 1) (by omega) (by omega)]
        exact ih _ (by omega) (by omega) (by omega)
  exact key _ _ (Int.self_le_toNat _) (by omega) (by omega)
theorem uy (l:List GSpan) (s:GSpan):(aZ l s).length≤l.length+1:=by
  have h1:=(bx l).2.2
  have h2:(bc [s]).length≤1:=(bx [s]).2.2
  have key:∀ (a b:List GSpan),(dt a b).length≤a.length+b.length:=by
    intro a b
    induction a,b using dt.induct with
    | case1 b=>rw [iu]; simp
    | case2 s r=>rw [jd]; simp
    | case3 s r t u ih1 ih2 =>
      have:=Cj s t
      rw [jf,List.length_append]
      split
      · simp only [List.length_cons] at ih1 ⊢; omega
      · simp only [List.length_cons] at ih2 ⊢; omega
  have:=key (bc l) (bc [s])
  unfold aZ
  omega
theorem IJ {l:List GFact} (hl:l.length≤30):En (fun p=>p.length≤1200) (m5 l):=by
  rw [ya,gH l (by omega),Option.bind_some]
  have hc:=(FP hl).1
  generalize l.filter bw = c at hc
  have ins:∀ (seat state:Int) (s:List GSpan) (B:Nat),s.length≤40→B≤2000→∀ (k:Nat) (i:Int) (out:List GPosting),(s.length:Int) - i≤k→0≤i→(out.length:Int)≤B+i→i≤(s.length:Int) →
      (∀ out':List GPosting,(out'.length:Int)≤B+s.length→En (fun p=>p.length≤1200) (bZ l seat (ac (state+1)) c out'))→En (fun p=>p.length≤1200) (dG l seat state i c out s):=by
    intro seat state s B hs hB k
    induction k with
    | zero=>intro i out hk h0 ho hi hn; rw [iR]; exact En.ifd (fun h=>by omega) fun _=>hn _ (by omega)
    | succ k ih =>
      intro i out hk h0 ho hi hn
      rw [iR]
      refine En.ifd (fun h=>?_) fun _=>hn _ (by omega)
      rw [ak (n:=i+1) (by omega) (by omega)]
      exact En.gd h0 (En.gd h (.bind (LJ _ _ (by omega)) fun r hr=>ih _ _ (by omega) (by omega) (by omega) (by omega) hn))
  have col:∀ (seat state:Int) (B:Nat),B≤1169→∀ (k:Nat) (i:Int) (out:List GPosting) (s:List GSpan),(c.length:Int) - i≤k→0≤i→i≤(c.length:Int)→(s.length:Int)≤i→out.length≤B →
      (∀ out':List GPosting,out'.length≤B+31→En (fun p=>p.length≤1200) (bZ l seat (ac (state+1)) c out'))→En (fun p=>p.length≤1200) (bV l seat state i c out s):=by
    intro seat state B hB k
    have fin:∀ (i:Int) (out:List GPosting) (s:List GSpan), ¬ i < (c.length:Int)→s.length≤30→out.length≤B→(∀ out':List GPosting,out'.length≤B+31→En (fun p=>p.length≤1200) (bZ l seat (ac (state+1)) c out'))→En (fun p=>p.length≤1200) (bV l seat state i c out s):=by
      intro i out s h hs ho hn
      rw [iU]
      refine En.ifd (fun e=>absurd e h) fun _=>?_
      rw [nd l (by omega),Option.bind_some,vp _ _ (by omega),Option.bind_some]
      have:=uy s (eh l)
      exact ins seat state _ B (by omega) (by omega) _ 0 out (Int.self_le_toNat _) (by omega) (by omega) (by omega) fun o ho=>hn o (by omega)
    induction k with
    | zero=>intro i out s hk h0 hi hs ho hn; exact fin _ _ _ (by omega) (by omega) ho hn
    | succ k ih =>
      intro i out s hk h0 hi hs ho hn
      by_cases h:i < (c.length:Int)
      · rw [iU,ak (n:=i+1) (by omega) (by omega)]
        refine En.ifd (fun _=>?_) fun e=>absurd h e
        repeat' first
          | exact ih _ _ _ (by omega) (by omega) (by omega) (by omega) ho hn
          | exact ih _ _ _ (by omega) (by omega) (by omega) (by simp only [List.length_append,List.length_singleton]; omega) ho hn
          | refine En.gd h0 ?_
          | refine En.gd h ?_
          | refine En.go (fun _=>h0) ?_
          | refine En.go (fun _=>h) ?_
          | refine En.gd (by omega) ?_
          | refine En.bif (fun _=>?_) (fun _=>?_)
      · exact fin _ _ _ h (by omega) ho hn
  have st:∀ (seat:Int) (B:Nat),B+6*31≤1200→(∀ out':List GPosting,out'.length≤B+6*31→En (fun p=>p.length≤1200) (dI l (ac (seat+1)) c out')) →
      ∀ (k:Nat) (state:Int) (out:List GPosting),6 - state≤k→0≤state→state≤6→(out.length:Int)≤B+31*state→En (fun p=>p.length≤1200) (bZ l seat state c out):=by
    intro seat B hB hn k
    induction k with
    | zero=>intro state out hk h0 h6 ho; rw [kE]; exact En.ifd (fun h=>by omega) fun _=>hn _ (by omega)
    | succ k ih =>
      intro state out hk h0 h6 ho
      rw [kE]
      refine En.ifd (fun h=>?_) fun _=>hn _ (by omega)
      refine col seat state (B+31*state.toNat) (by omega) _ 0 out [] (Int.self_le_toNat _) (by omega) (by omega) (by simp) (by omega) fun o hoo=>?_
      rw [ak (n:=state+1) (by omega) (by omega)]
      exact ih _ _ (by omega) (by omega) (by omega) (by omega)
  have top:∀ (k:Nat) (seat:Int) (out:List GPosting),6 - seat≤k→0≤seat→seat≤6→(out.length:Int)≤186*seat→En (fun p=>p.length≤1200) (dI l seat c out):=by
    intro k
    induction k with
    | zero=>intro seat out hk h0 h6 ho; rw [kU]; exact En.ifd (fun h=>by omega) fun _=>.some (by omega)
    | succ k ih =>
      intro seat out hk h0 h6 ho
      rw [kU]
      refine En.ifd (fun h=>?_) fun _=>.some (by omega)
      refine st seat (186*seat.toNat) (by omega) (fun o hoo=>?_) 6 0 out (by omega) (by omega) (by omega) (by omega)
      rw [ak (n:=seat+1) (by omega) (by omega)]
      exact ih _ _ (by omega) (by omega) (by omega) (by omega)
  exact top 6 0 [] (by omega) (by omega) (by omega) (by simp)
end Go.Ax
