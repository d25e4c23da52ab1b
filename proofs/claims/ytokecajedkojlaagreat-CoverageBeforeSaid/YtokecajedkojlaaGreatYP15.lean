import Derived.Test.YtokecajedkojlaaGreatYP12
set_option linter.all false
/- The document's law ends: its spans are few. -/
set_option maxRecDepth 100000
namespace Go.Ax
theorem qd (l:List Int) (n:Int) (hl:l.length≤1000000):En (fun r=>r.length≤l.length+1) (cS l n):=by
  rw [yB]
  have key:∀ (k:Nat) (x:Int),x≤k→0≤x→x≤(l.length:Int)→En (fun r=>r.length≤l.length+1) (gU l n x):=by
    intro k
    have fin:∀ (x:Int),0≤x→x≤(l.length:Int)→En (fun r=>r.length≤l.length+1) (gb ((!(aa (x < (l.length:Int))&&true))||aa (0≤x))<|gb ((!(aa (x < (l.length:Int))&&true))||aa (x < (l.length:Int))) <|
        bif (bif aa (x < (l.length:Int)) then (ah (gD l x.toNat 0) n) else false) then some l else gb (aa (0≤x))<|gb (aa (x≤(l.length:Int)))<|gb (aa (((ao l 0 (x - 0).toNat).length*8)≤140737488355328)) <|
        gb (aa ((ao l 0 (x - 0).toNat).length≤140737488355328))<|gb (aa ((((ao l 0 (x - 0).toNat).length+1)*8)≤140737488355328))<|gb (aa (((ao l 0 (x - 0).toNat).length+1)≤140737488355328))<|gb (aa (0≤x)) <|
        gb (aa (x≤(l.length:Int)))<|gb (aa ((l.length:Int)≤(l.length:Int)))<|gb (aa (((((ao l 0 (x - 0).toNat)++[n]).length+(ao l x.toNat ((l.length:Int) - x).toNat).length)*8)≤140737488355328)) <|
        gb (aa ((((ao l 0 (x - 0).toNat)++[n]).length+(ao l x.toNat ((l.length:Int) - x).toNat).length)≤140737488355328)) <|
        some (((ao l 0 (x - 0).toNat)++[n])++(ao l x.toNat ((l.length:Int) - x).toNat))):=by
      intro x h0 hx
      rw [dy h0 hx,ia h0 hx]
      simp only [List.length_append,List.length_singleton]
      rw [dy h0 hx]
      refine En.go (fun _=>h0) (En.go (fun h=>by simpa using h) (En.bif (fun _=>.some (Nat.le_succ _)) fun _=>?_))
      refine En.gd (by omega) (En.gd (by omega) (En.gd (by omega) (En.gd (by omega) (En.gd (by omega) (En.gd (by omega) (En.gd (by omega) (En.gd (by omega) (En.gd (by omega) (En.gd (by omega) (En.gd (by omega) (.some ?_)))))))))))
      simp only [List.length_append,List.length_singleton]
      rw [dy h0 hx,ia h0 hx]
      omega
    induction k with
    | zero =>
      intro x hk h0 hx
      obtain rfl:x = 0:=by omega
      rw [jA]
      refine En.go (fun h=>by simp at h) (En.go (fun h=>by simp at h) (En.and (fun h=>by simp at h) fun _=>fin 0 h0 hx))
    | succ k ih =>
      intro x hk h0 hx
      rw [jA]
      refine En.go (fun h=>?_) (En.go (fun h=>?_) (En.and (fun h _=>?_) fun _=>fin x h0 hx))
      · simp at h; rw [ak (by omega) (by omega)]; omega
      · simp at h; rw [ak (by omega) (by omega)]; omega
      · have:=aE h
        rw [ak (n:=x - 1) (by omega) (by omega)]
        exact ih _ (by omega) (by omega) (by omega)
  exact key _ _ (Int.self_le_toNat _) (by omega) (by omega)
def JI (c:List GFact):Prop:=c.length≤30∧∀ f∈c,dH f = true
theorem FP {l:List GFact} (h:l.length≤30):JI (l.filter bw):=by
  refine ⟨Nat.le_trans (List.length_filter_le _ _) h,fun f hf=>?_⟩
  have:=(List.mem_filter.1 hf).2
  unfold bw at this
  cases hv:dH f with
  | true=>rfl
  | false=>rw [hv] at this; cases this
theorem xd {f:GFact} (h:dH f = true) (hk:f.Kind = 1∨f.Kind = 2∨f.Kind = 5):0≤f.State∧f.State < 6:=by
  have hs:=((uH f).1 h).2.2.2.2.2.1
  have hb:cR f.Kind 83 = true:=by rcases hk with e | e | e <;> rw [e] <;> decide
  rw [hb] at hs
  unfold bn at hs
  rw [if_pos rfl,sm] at hs
  omega
section
variable {l c:List GFact} (hl:l.length≤30) (hc:JI c)
include hc
theorem Ld (day:Int):En (fun y=>y.length = 6) (qo c day):=by
  have key:∀ (k:Nat) (i:Int) (t out:List Int),(c.length:Int) - i≤k→0≤i→out.length = 6→t.length = 6→En (fun y=>y.length = 6) (cK c day i t out):=by
    intro k
    induction k with
    | zero =>
      intro i t out hk h0 ho ht
      rw [mQ]
      exact En.ifd (fun h=>by omega) fun _=>En.gd (by omega) (En.gd (by omega) (.some rfl))
    | succ k ih =>
      intro i t out hk h0 ho ht
      rw [mQ]
      refine En.ifd (fun h=>?_) fun _=>En.gd (by omega) (En.gd (by omega) (.some rfl))
      have:=hc.1
      have hv:=hc.2 _ (hU (z:=zS .GFact) h0 h)
      rw [ak (n:=i+1) (by omega) (by omega)]
      refine En.gd h0 (En.gd h (En.ifi (fun hk1=>?_) fun _=>En.gd h0 (En.gd h (En.ifi (fun hk2=>?_) fun _=>ih _ _ _ (by omega) (by omega) ho ht))))
      · have:=xd hv (.inl hk1)
        refine En.gd h0 (En.gd h ?_)
        rw [ed]
        refine En.bif (fun _=>?_) fun _=>ih _ _ _ (by omega) (by omega) ho ht
        exact En.gd h0 (En.gd h (En.gd ho (En.gd this.1 (En.gd this.2 (En.gd h0 (En.gd h (En.gd ho (En.gd this.1 (En.gd this.2 (ih _ _ _ (by omega) (by omega) (by rw [List.length_set]; exact ho) ht))))))))))
      · have:=xd hv (.inr (.inl hk2))
        refine En.gd h0 (En.gd h ?_)
        rw [ed]
        refine En.bif (fun _=>?_) fun _=>ih _ _ _ (by omega) (by omega) ho ht
        exact En.gd h0 (En.gd h (En.gd ho (En.gd this.1 (En.gd this.2 (En.gd h0 (En.gd h (En.gd ho (En.gd this.1 (En.gd this.2 (ih _ _ _ (by omega) (by omega) (by rw [List.length_set]; exact ho) ht))))))))))
  rw [Am]
  exact key _ 0 _ _ (Int.self_le_toNat _) (Int.le_refl _) rfl rfl
omit hc in
include hl in
theorem xk (day:Int):En (fun y=>y.2 = true→0≤y.1∧y.1 < 6) (jz l day):=by
  rw [wJ,gH l (by omega),Option.bind_some]
  have hc:=FP hl
  generalize l.filter bw = c at hc
  have hcl:=hc.1
  have fin:∀ x:Int,(x < 0∨(0≤x∧x < (c.length:Int)∧(gD c x.toNat (zS .GFact)).Kind = 5))→En (fun y=>y.2 = true→0≤y.1∧y.1 < 6) (bif aa (x < 0) then some ((0:Int),false) else gb (aa (0≤x))<|gb (aa (x < (c.length:Int)))<|some ((gD c x.toNat (zS .GFact)).State,true)):=by
    intro x hx
    refine En.ifd (fun _=>.some (fun h=>by cases h)) fun h=>?_
    obtain ⟨h1,h2,h3⟩:0≤x∧x < (c.length:Int)∧(gD c x.toNat (zS .GFact)).Kind = 5:=by
      rcases hx with hx | hx
      · exact absurd hx h
      · exact hx
    exact En.gd h1 (En.gd h2 (.some fun _=>xd (hc.2 _ (hU (z:=zS .GFact) h1 h2)) (.inr (.inr h3))))
  have key:∀ (k:Nat) (i x:Int),(c.length:Int) - i≤k→0≤i→(x < 0∨(0≤x∧x < (c.length:Int)∧(gD c x.toNat (zS .GFact)).Kind = 5))→En (fun y=>y.2 = true→0≤y.1∧y.1 < 6) (bW l day x i c):=by
    intro k
    induction k with
    | zero =>
      intro i x hk h0 hx
      rw [kF]
      exact En.ifd (fun h=>by omega) fun _=>fin x hx
    | succ k ih =>
      intro i x hk h0 hx
      rw [kF]
      refine En.ifd (fun h=>?_) fun _=>fin x hx
      rw [nd l (by omega),Option.bind_some,ed,ed,ak (n:=i+1) (by omega) (by omega)]
      have hx':x < 0∨(0≤x∧x < (c.length:Int)):=by rcases hx with h | h; exact .inl h; exact .inr ⟨h.1,h.2.1⟩
      refine En.bif (fun _=>En.gd h0 (En.gd h (En.ifn (fun _=>ih _ _ (by omega) (by omega) hx) fun h5=>En.gd h0 (En.gd h (En.bif (fun _=>ih _ _ (by omega) (by omega) hx) fun _=>?_))))) fun _=>fin x hx
      have nx:∀ {b:Bool},(!(bif aa (x < 0) then true else b)) = true→0≤x∧x < (c.length:Int):=by
        intro b hb
        have:¬ x < 0:=fun hn=>by rw [bY hn] at hb; cases hb
        omega
      have go1:∀ {a:Bool},((!(aa (x < 0)))&&true) = true→0≤x∧x < (c.length:Int):=by
        intro a hb
        have:¬ x < 0:=fun hn=>by rw [bY hn] at hb; cases hb
        omega
      refine En.go (fun _=>h0) (En.go (fun _=>h) (En.go (fun e=>(go1 (a:=true) e).1) (En.go (fun e=>(go1 (a:=true) e).2) ?_)))
      refine En.go (fun _=>h0) (En.go (fun _=>h) (En.go (fun e=>(nx (Bool.and_eq_true _ _ ▸ e).1).1) (En.go (fun e=>(nx (Bool.and_eq_true _ _ ▸ e).1).2) ?_)))
      refine En.go (fun _=>h0) (En.go (fun _=>h) (En.go (fun e=>?_) (En.go (fun e=>?_) ?_)))
      · simp only [Bool.and_eq_true] at e; exact (nx e.2.1).1
      · simp only [Bool.and_eq_true] at e; exact (nx e.2.1).2
      refine En.bif (fun _=>ih _ _ (by omega) (by omega) (.inr ⟨h0,h,h5⟩)) fun _=>ih _ _ (by omega) (by omega) hx
  exact key _ 0 (-1) (Int.self_le_toNat _) (Int.le_refl _) (.inl (by omega))
theorem Mz (day:Int):En (fun r=>r.length≤30) (sB c day):=by
  have hcl:=hc.1
  have key:∀ (k:Nat) (i:Int) (out:List Int),(c.length:Int) - i≤k→0≤i→(out.length:Int)≤i→i≤(c.length:Int)→En (fun r=>r.length≤30) (eE c day out i):=by
    intro k
    induction k with
    | zero=>intro i out hk h0 ho hi; rw [oy]; exact En.ifd (fun h=>by omega) fun _=>.some (by omega)
    | succ k ih =>
      intro i out hk h0 ho hi
      rw [oy]
      refine En.ifd (fun h=>?_) fun _=>.some (by omega)
      rw [ed,ak (n:=i+1) (by omega) (by omega)]
      have nx:=ih (i+1) out (by omega) (by omega) (by omega) (by omega)
      refine En.gd h0 (En.gd h (En.bif (fun _=>En.gd h0 (En.gd h (En.bif (fun _=>En.gd h0 (En.gd h (.bind (qd _ _ (by omega)) fun r hr=>ih _ _ (by omega) (by omega) (by omega) (by omega)))) fun _=>nx))) fun _=>nx))
  rw [Cu]
  exact key _ 0 [] (Int.self_le_toNat _) (by omega) (by simp) (by omega)
include hl in
theorem H9 (r:GRules) (day:Int):En (fun _=>True) (nt l c r day):=by
  rw [yo]
  refine .bind (Ld hc day) fun s0 _=>?_
  have hs:([(gD s0 0 0),(gD s0 1 0),(gD s0 2 0),(gD s0 3 0),(gD s0 4 0),(gD s0 5 0)]:List Int).length = 6:=rfl
  generalize [(gD s0 0 0),(gD s0 1 0),(gD s0 2 0),(gD s0 3 0),(gD s0 4 0),(gD s0 5 0)] = s at hs
  have key:∀ (k:Nat) (i sum n best:Int),6 - i≤k→0≤i→(best < 0∨(0≤best∧best < 6))→En (fun _=>True) (co l c day sum n best i r s):=by
    intro k
    have fin:∀ (i sum n best:Int), ¬ i < 6→En (fun _=>True) (co l c day sum n best i r s):=by
      intro i sum n best hi
      rw [kW]
      refine En.ifd (fun h=>absurd h hi) fun _=>.bind (xk hl day) fun y hy=>.bind (Mz hc day) fun z hz=>?_
      refine En.bif (fun _=>.some trivial) fun _=>En.bif (fun _=>.some trivial) fun _=>?_
      have g1:∀ {b:Bool},(y.2&&b) = true→0≤y.1∧y.1 < 6:=fun e=>hy (Bool.and_eq_true _ _ ▸ e).1
      have g2:∀ {b d:Bool},((bif y.2 then b else false)&&d) = true→0≤y.1∧y.1 < 6:=fun {b d} e=>hy (by cases h:y.2 with | true=>rfl | false=>rw [h] at e; simp at e)
      refine En.go (fun _=>hs) (En.go (fun e=>(g1 e).1) (En.go (fun e=>(g1 e).2) (En.go (fun _=>hs) (En.go (fun e=>(g2 e).1) (En.go (fun e=>(g2 e).2) (En.bif (fun _=>.some trivial) fun _=>En.ifi (fun h1=>En.gd (by omega) (.some trivial)) fun _=>?_))))))
      have g3:∀ {b:Bool},((bif y.2 then (ah (z.length:Int) 2) else false)&&b) = true→(z.length:Int) = 2:=by
        intro b e
        have:=(Bool.and_eq_true _ _ ▸ e).1
        rw [ck,Bool.and_eq_true] at this
        exact fe.1 this.2
      have g4:∀ {b:Bool},(bif (bif y.2 then (ah (z.length:Int) 2) else false) then b else false) = true→(z.length:Int) = 2:=by
        intro b e
        rw [ck] at e
        exact g3 e
      refine En.gb (by simp) (En.go (fun e=>by have:=g3 e; omega) (En.bif (fun e=>En.gd (by have:=g4 e; omega) (.some trivial)) fun _=>?_))
      refine En.gb (by simp) (En.go (fun e=>by have:=g3 e; omega) (En.bif (fun e=>En.gd (by have:=g4 e; omega) (.some trivial)) fun _=>?_))
      exact En.bif (fun _=>.some trivial) fun _=>.some trivial
    induction k with
    | zero=>intro i sum n best hk h0 hb; exact fin _ _ _ _ (by omega)
    | succ k ih =>
      intro i sum n best hk h0 hb
      by_cases h:i < 6
      · rw [kW,ak (n:=i+1) (by omega) (by omega)]
        refine En.ifd (fun _=>?_) fun e=>absurd h e
        refine En.gd hs (En.gd h0 (En.gd h (En.gd hs (En.gd h0 (En.gd h (En.bif (fun _=>?_) fun _=>ih _ _ _ _ (by omega) (by omega) hb))))))
        have nx:((!(aa (best < 0)))&&true) = true→0≤best∧best < 6:=by
          intro e
          have:¬ best < 0:=fun hn=>by rw [bY hn] at e; cases e
          omega
        refine En.go (fun _=>hs) (En.go (fun _=>h0) (En.go (fun _=>h) (En.go (fun _=>hs) (En.go (fun e=>(nx e).1) (En.go (fun e=>(nx e).2) ?_)))))
        exact En.bif (fun _=>ih _ _ _ _ (by omega) (by omega) (.inr ⟨h0,h⟩)) fun _=>ih _ _ _ _ (by omega) (by omega) hb
      · exact fin _ _ _ _ h
  exact key 6 0 _ _ _ (by omega) (by omega) (.inl (by omega))
end
end Go.Ax
