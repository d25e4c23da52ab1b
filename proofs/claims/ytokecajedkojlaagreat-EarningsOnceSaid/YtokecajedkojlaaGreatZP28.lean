import Derived.Test.YtokecajedkojlaaGreatZP24
import Derived.Test.YtokecajedkojlaaGreatZP26
set_option linter.all false
/- Counted days: found for every career; the law of the earnings of years. -/
set_option maxRecDepth 100000
namespace Go.Ax
section
variable {claims:List GPeriod} (hcl:claims.length≤600000000)
include hcl
theorem U0 (st rk day:Int):En (fun _=>True) (wL claims st rk day):=by
  rw [Ju]
  have key:∀ (k:Nat) (i:Int),(claims.length:Int) - i≤k→0≤i→En (fun _=>True) (lx claims st rk day i):=by
    intro k
    induction k with
    | zero=>intro i hk h0; rw [rJ]; exact En.ifd (fun h=>by omega) fun _=>.some trivial
    | succ k ih =>
      intro i hk h0
      rw [rJ]
      refine En.ifd (fun hlt=>?_) fun _=>.some trivial
      rw [ah (n:=i+1) (by omega) (by omega)]
      refine En.gd h0 (En.gd hlt (En.go (fun _=>h0) (En.go (fun _=>hlt) (En.go (fun _=>h0) (En.go (fun _=>hlt) (En.go (fun _=>h0) (En.go (fun _=>hlt) (En.bif (fun _=>.some trivial) fun _=>ih _ (by omega) (by omega)))))))))
  exact key _ 0 (Int.self_le_toNat _) (by omega)
theorem Kh (st day:Int):En (fun _=>True) (pG claims st day):=by
  rw [FJ]
  have key:∀ (k:Nat) (i b:Int),(claims.length:Int) - i≤k→0≤i→En (fun _=>True) (gT claims st day b i):=by
    intro k
    induction k with
    | zero=>intro i b hk h0; rw [p7]; exact En.ifd (fun h=>by omega) fun _=>.some trivial
    | succ k ih =>
      intro i b hk h0
      rw [p7]
      refine En.ifd (fun hlt=>?_) fun _=>.some trivial
      rw [ah (n:=i+1) (by omega) (by omega)]
      exact En.gd h0 (En.gd hlt (En.gd h0 (En.gd hlt (En.go (fun _=>h0) (En.go (fun _=>hlt) (En.bif (fun _=>ih _ _ (by omega) (by omega)) fun _=>ih _ _ (by omega) (by omega)))))))
  exact key _ 0 _ (Int.self_le_toNat _) (by omega)
theorem MF (st day:Int):En (fun _=>True) (ry claims st day):=by
  rw [Hb]
  have key:∀ (k:Nat) (i b:Int),(claims.length:Int) - i≤k→0≤i→En (fun _=>True) (iT claims st day b i):=by
    intro k
    induction k with
    | zero=>intro i b hk h0; rw [rG]; exact En.ifd (fun h=>by omega) fun _=>.some trivial
    | succ k ih =>
      intro i b hk h0
      rw [rG]
      refine En.ifd (fun hlt=>?_) fun _=>.some trivial
      rw [ah (n:=i+1) (by omega) (by omega)]
      exact En.gd h0 (En.gd hlt (En.gd h0 (En.gd hlt (En.go (fun _=>h0) (En.go (fun _=>hlt) (En.bif (fun _=>ih _ _ (by omega) (by omega)) fun _=>ih _ _ (by omega) (by omega)))))))
  exact key _ 0 _ (Int.self_le_toNat _) (by omega)
theorem RG (s b day:Int):En (fun _=>True) (uK claims s b day):=by
  rw [Fz]
  exact En.bind (Kh hcl _ _) fun _ _=>En.bind (Kh hcl _ _) fun _ _=>En.bif (fun _=>.some trivial) fun _=>En.bind (MF hcl _ _) fun _ _=>En.bind (MF hcl _ _) fun _ _=>.some trivial
theorem Oy (day:Int):En (fun _=>True) (oR claims day):=by
  rw [BP,dY,Option.bind_some]
  refine En.bif (fun _=>.some trivial) fun _=>?_
  have key:∀ (k:Nat) (rk:Int),8 - rk≤k→0≤rk→En (fun _=>True) (ig claims day rk):=by
    intro k
    induction k with
    | zero=>intro rk hk h0; rw [nK]; exact En.ifd (fun h=>by omega) fun _=>.some trivial
    | succ k ih =>
      intro rk hk h0
      rw [nK]
      refine En.ifd (fun hlt=>?_) fun _=>.some trivial
      have inner:∀ (m:Nat) (s b:Int),6 - s≤m→0≤s→En (fun _=>True) (bZ claims day rk b s):=by
        intro m
        induction m with
        | zero =>
          intro s b hm h0
          rw [lA,ah (n:=rk+1) (by omega) (by omega)]
          exact En.ifd (fun h=>by omega) fun _=>En.bif (fun _=>.some trivial) fun _=>ih _ (by omega) (by omega)
        | succ m ihm =>
          intro s b hm h0
          rw [lA,ah (n:=rk+1) (by omega) (by omega)]
          refine En.ifd (fun hs=>?_) fun _=>En.bif (fun _=>.some trivial) fun _=>ih _ (by omega) (by omega)
          rw [ah (n:=s+1) (by omega) (by omega)]
          exact En.bind (U0 hcl _ _ _) fun _ _=>En.bif (fun _=>ihm _ _ (by omega) (by omega)) fun _=>En.bif (fun _=>ihm _ _ (by omega) (by omega)) fun _=>En.bind (RG hcl _ _ _) fun _ _=>En.bif (fun _=>ihm _ _ (by omega) (by omega)) fun _=>ihm _ _ (by omega) (by omega)
      exact inner _ 0 _ (Int.self_le_toNat _) (by omega)
  exact key 8 1 (by omega) (by omega)
def jP (c:List GCounted):Prop:=c.Pairwise (fun a b=>a.Span.To≤b.Span.From)∧∀ x∈c,0≤x.Span.From∧x.Span.From < x.Span.To∧x.Span.To≤73049
theorem jP.snoc {c:List GCounted} {x:GCounted} (h:jP c) (hx:0≤x.Span.From∧x.Span.From < x.Span.To∧x.Span.To≤73049) (hc:∀ y∈c,y.Span.To≤x.Span.From):jP (c++[x]):=by
  refine ⟨List.pairwise_append.2 ⟨h.1,by simp,fun a ha b hb=>by rw [List.mem_singleton.1 hb]; exact hc a ha⟩,fun y hy=>?_⟩
  rcases List.mem_append.1 hy with hy | hy
  · exact h.2 y hy
  · rw [List.mem_singleton.1 hy]; exact hx
theorem QQ {e:List Int} (he:jE e) (hd:we e):∀ (n i:Nat) (out:List GCounted),e.length≤i+1+n→jP out→(∀ x∈out, ∀ h:i < e.length,x.Span.To≤e[i])→out.length≤i→out.length≤73050→i≤73060→En (fun c=>jP c∧c.length≤73050) (ct claims e (i:Int) out):=by
  have hel:=yn he hd
  intro n
  induction n with
  | zero =>
    intro i out hi hk hx ho ho2 hi2
    rw [jH,ah (n:=(i:Int)+1) (by omega) (by omega),aE (by omega),cond_false]
    exact .some ⟨hk,ho2⟩
  | succ n ih =>
    intro i out hi hk hx ho ho2 hi2
    by_cases hlt1:i+1 < e.length
    · have hlt:i < e.length:=by omega
      have hasc:e[i] < e[i+1]:=List.pairwise_iff_getElem.1 he i (i+1) hlt hlt1 (by omega)
      have r1:=hd e[i] (List.getElem_mem hlt)
      have r2:=hd e[i+1] (List.getElem_mem hlt1)
      have e1:aa (((i+1:Nat):Int) < (e.length:Int)) = true:=aB (by omega)
      have e2:aa ((0:Int)≤((i+1:Nat):Int)) = true:=aB (by omega)
      rw [jH,zT (by omega)]
      simp only [e1,e2,aP hlt,bj,cond_true,ay,Bool.or_true,bd hlt,bd hlt1]
      refine En.bind (Oy hcl _) fun r0 _=>En.bif (fun _=>?_) fun _=>?_
      · exact ih (i+1) out (by omega) hk (fun x hx' h=>by have:=hx x hx' hlt; omega) (by omega) ho2 (by omega)
      · have app:En (fun c=>jP c∧c.length≤73050) (gb (aa (((out.length+1)*32)≤140737488355328))<|gb (aa ((out.length+1)≤140737488355328))<|ct claims e (((i+1:Nat):Int)) (out++[(⟨(⟨e[i],e[i+1]⟩:GSpan),r0.1,r0.2.1⟩:GCounted)])):=by
          refine En.gd (by omega) (En.gd (by omega) (ih (i+1) _ (by omega) (hk.snoc hcl ⟨r1.1,hasc,r2.2⟩ fun y hy=>hx y hy hlt) (fun x hx' h=>?_) (by simp; omega) (by simp; omega) (by omega)))
          rcases List.mem_append.1 hx' with hx' | hx'
          · have:=hx x hx' hlt; omega
          · rw [List.mem_singleton.1 hx']; exact Int.le_refl _
        rcases iO out with rfl | ⟨p,x,rfl⟩
        · rw [show aa ((0:Int) < ((([]:List GCounted).length:Nat):Int)) = false from rfl]
          simp only [Bool.false_and,Bool.not_false,Bool.true_or,ay,cond_false]
          exact app
        · have hl:(p++[x]).length = p.length+1:=by simp
          have h0:aa ((0:Int) < (((p++[x]).length:Nat):Int)) = true:=aB (by omega)
          have hlp:aa (((p.length:Nat):Int) < (((p++[x]).length:Nat):Int)) = true:=aB (by omega)
          have hi0:aa ((0:Int)≤((p.length:Nat):Int)) = true:=aB (by omega)
          have hw:ab ((((p++[x]).length:Nat):Int) - 1) = ((p.length:Nat):Int):=by rw [ah (by omega) (by omega)]; omega
          rw [hw]
          simp only [h0,hlp,hi0,Bool.or_true,ay,cond_true,HI,Int.toNat_natCast,EB]
          refine En.bif (fun hc=>?_) fun _=>app
          rw [bB,bB,Bool.and_eq_true,Bool.and_eq_true,cA] at hc
          have hto:x.Span.To = e[i]:=hc.1.1
          have hk2:=List.pairwise_append.1 hk.1
          have hxr:=hk.2 x (by simp)
          have hp:jP p:=⟨hk2.1,fun y hy=>hk.2 y (by simp [hy])⟩
          refine ih (i+1) _ (by omega) (hp.snoc hcl ⟨hxr.1,by show x.Span.From < e[i+1]; omega,r2.2⟩ fun y hy=>hk2.2.2 y hy x (by simp)) (fun z hz h=>?_) (by simp at ho ⊢; omega) (by simp at ho2 ⊢; omega) (by omega)
          rcases List.mem_append.1 hz with hz | hz
          · have:=hx z (by simp [hz]) hlt; omega
          · rw [List.mem_singleton.1 hz]; exact Int.le_refl _
    · rw [jH,ah (n:=(i:Int)+1) (by omega) (by omega),aE (by omega),cond_false]
      exact .some ⟨hk,ho2⟩
theorem Qh:En (fun c=>jP c∧c.length≤73050) (nU claims):=by
  rw [DR]
  have key:∀ (n:Nat) (i:Int) (e:List Int),(claims.length:Int) - i≤n→0≤i→jE e→we e→En (fun c=>jP c∧c.length≤73050) (eL claims e i):=by
    have fin:∀ e:List Int,jE e→we e→En (fun c=>jP c∧c.length≤73050) (ct claims e 0 []):=fun e he hd =>
      QQ hcl he hd e.length 0 [] (by omega) ⟨by simp,fun x hx=>by simp at hx⟩ (fun x hx=>by simp at hx) (by simp) (by simp) (by omega)
    intro n
    induction n with
    | zero=>intro i e hi h0 he hd; rw [pU]; exact En.ifd (fun h=>by omega) fun _=>fin e he hd
    | succ n ih =>
      intro i e hi h0 he hd
      rw [pU]
      refine En.ifd (fun hlt=>?_) fun _=>fin e he hd
      rw [ah (n:=i+1) (by omega) (by omega)]
      refine En.gd h0 (En.gd hlt (En.gd h0 (En.gd hlt ?_)))
      generalize hA:(bif aa ((gD claims i.toNat (zS .GPeriod)).Span.From < 0) then (0:Int) else (gD claims i.toNat (zS .GPeriod)).Span.From) = A
      generalize hB:(bif aa (73049 < (gD claims i.toNat (zS .GPeriod)).Span.To) then (73049:Int) else (gD claims i.toNat (zS .GPeriod)).Span.To) = B
      have a0:0≤A:=by
        rw [← hA]
        by_cases h:(gD claims i.toNat (zS .GPeriod)).Span.From < 0
        · rw [aB h]; exact Int.le_refl _
        · rw [aE h]; simp only [cond_false]; omega
      have b0:B≤73049:=by
        rw [← hB]
        by_cases h:73049 < (gD claims i.toNat (zS .GPeriod)).Span.To
        · rw [aB h]; exact Int.le_refl _
        · rw [aE h]; simp only [cond_false]; omega
      refine En.ifd (fun _=>ih _ _ (by omega) (by omega) he hd) fun hab=>?_
      have ins:∀ {α:Type} {Q:α→Prop} (e:List Int) (v:Int) (f:List Int→Option α),jE e→we e→0≤v∧v≤73049→(∀ r,jE r→we r→En Q (f r))→En Q ((bT e v).bind f):=by
        intro α Q e v f he hd hv hf
        have hle:=yn he hd
        obtain ⟨r,q1,q2,q3,_⟩:=vA e v (by omega) he
        rw [q1,Option.bind_some]
        exact hf r q2 fun x hx=>((q3 x).1 hx).elim (hd x) fun e=>e ▸ hv
      have third:∀ e:List Int,jE e→we e→En (fun c=>jP c∧c.length≤73050) (gx claims e i ⟨A,B⟩):=by
        intro e he hd
        rw [vJ]
        simp only []
        rw [ah (n:=B+1) (by omega) (by omega),ah (n:=i+1) (by omega) (by omega)]
        exact En.ifd (fun h=>ins e _ _ he hd ⟨by omega,h⟩ fun r h1 h2=>ih _ _ (by omega) (by omega) h1 h2) fun _=>ih _ _ (by omega) (by omega) he hd
      have second:∀ e:List Int,jE e→we e→En (fun c=>jP c∧c.length≤73050) (gF claims e i ⟨A,B⟩):=by
        intro e he hd
        rw [vI]
        simp only []
        rw [ah (n:=B - 1) (by omega) (by omega)]
        exact En.ifd (fun h=>ins e _ _ he hd ⟨by omega,by omega⟩ fun r h1 h2=>third r h1 h2) fun _=>third e he hd
      refine ins e A _ he hd ⟨a0,by omega⟩ fun r h1 h2=>ins r B _ h1 h2 ⟨by omega,b0⟩ fun r h1 h2=>?_
      rw [ah (n:=A+1) (by omega) (by omega)]
      exact En.ifd (fun h=>ins r _ _ h1 h2 ⟨by omega,by omega⟩ fun r h1 h2=>second r h1 h2) fun _=>second r h1 h2
  exact key _ 0 [] (Int.self_le_toNat _) (by omega) List.Pairwise.nil (fun x hx=>by simp at hx)
end
theorem OM {x:GLaws} (h:pJ x) (l:List GFact) (hl:l.length≤30) {m:List Int} (hm:QO x m) (day:Int):En (fun c=>jP c∧c.length≤73050) (qR x l m day):=by
  obtain ⟨m1,m2⟩:=EH h.tr
  have hml:=hm.1
  rw [CO]
  have key:∀ (k:Nat) (i:Int) (S:List GScheme),(m.length:Int) - i≤k→0≤i→i≤(m.length:Int)→(S.length:Int)≤i→(∀ y∈S,Cu y)→En (fun c=>jP c∧c.length≤73050) (iM l m day i x.States x.Treaty x.Rates S):=by
    have fin:∀ S:List GScheme,S.length≤3→(∀ y∈S,Cu y)→En (fun c=>jP c∧c.length≤73050) ((v7 l x.Treaty).bind fun r2=>(pC l r2 S day).bind fun r3=>(nU r3.1).bind fun r4=>some r4):=fun S hS hx =>
      En.bind (V3 l hl x.Treaty m1 m2) fun w hw=>En.bind (Sw l (by omega) w hw S (by omega) hx day) fun y hy=>En.bind (Qh hy) fun c hc=>.some hc
    intro k
    induction k with
    | zero=>intro i S hk h0 hi hS hx; rw [ov]; exact En.ifd (fun h=>by omega) fun _=>fin S (by omega) hx
    | succ k ih =>
      intro i S hk h0 hi hS hx
      rw [ov]
      refine En.ifd (fun hlt=>?_) fun _=>fin S (by omega) hx
      rw [ah (n:=i+1) (by omega) (by omega)]
      refine En.gd h0 (En.gd hlt (En.bind (Ud h (hm.2 _ (cw h0 hlt))) fun r hr=>En.gd hr.1 (En.gd hr.2 (En.bind (WY (h.st _ (cw hr.1 hr.2)) day) fun v hv=>En.gd h0 (En.gd hlt (En.gd (by omega) (En.gd (by omega) (ih _ _ (by omega) (by omega) (by omega) (by rw [hZ]; omega) fun y hy=>?_))))))))
      rcases List.mem_append.1 hy with hy | hy
      · exact hx y hy
      · rw [List.mem_singleton.1 hy]
        exact ⟨by show v.1.Credits.length≤1000; have:=hv.1; omega,fun c hc=>by have:=hv.2 c hc; omega⟩
  exact key _ 0 [] (Int.self_le_toNat _) (by omega) (by omega) (by simp) (fun y hy=>by simp at hy)
theorem Rl {x:GLaws} (h:pJ x) (l:List GFact) (hl:l.length≤30) (day:Int):En (fun c=>jP c∧c.length≤73050) ((gq x l day).bind fun r=>some r.1):=by
  rw [vE]
  obtain ⟨r,hr,_⟩:=UB h day
  rw [hr,Option.bind_some]
  by_cases hz:r = 0
  · rw [hz,lE.2 rfl,cond_false]
    obtain ⟨m,hm,hm2⟩:=Qn h day
    obtain ⟨c,hc,hc2⟩:=OM h l hl hm2 day
    rw [hm,Option.bind_some,hc,Option.bind_some]
    exact .some hc2
  · rw [mE.2 hz,cond_true]
    exact .some ⟨⟨List.Pairwise.nil,fun x hx=>by simp at hx⟩,by simp⟩
theorem QU {x:GLaws} (h:pJ x) (l:List GFact) (hl:l.length≤30) (day:Int):En (fun r:List GCounted × List GFact=>(jP r.1∧r.1.length≤73050)∧r.2 = l) (sI x day l):=by
  rw [D9]
  obtain ⟨c,hc,hc2⟩:=Rl h l hl day
  cases hx:gq x l day with
  | none=>rw [hx] at hc; cases hc
  | some r =>
    rw [hx,Option.bind_some] at hc
    cases hc
    exact .some ⟨hc2,rfl⟩
theorem VK:wU = some true:=by
  rw [Iv,(D7 _ _).1,Option.bind_some]
  kernel_rfl
end Go.Ax
set_option linter.all false
/- What is earned is counted once. -/
set_option maxRecDepth 100000
namespace Go.Ax
def Rq (o:List GFact):Prop:=∀ x∈o,cI x = true
def MQ (n:Nat) (o:List GFact):Prop:=o.length≤n∧Rq o
theorem Nx {T:Type} {l:List T} {i n:Nat} {x:T} (h:x∈ao l i n):x∈l:=by
  unfold ao at h
  exact List.mem_of_mem_drop (List.mem_of_mem_take h)
theorem Jx (a b:List GFact) (ha:a.length+b.length≤900):En (MQ (a.length+b.length)) (kX a b):=by
  have key:∀ (k:Nat) (i:Int) (out:List GFact),(a.length:Int)+b.length - i≤k→0≤i→(out.length:Int)≤i→i≤(a.length:Int)+b.length→Rq out→En (MQ (a.length+b.length)) (aZ a b i out):=by
    intro k
    induction k with
    | zero =>
      intro i out hk h0 ho hi hv
      rw [sj,ah (n:=(a.length:Int)+b.length) (by omega) (by omega)]
      exact En.ifd (fun h=>by omega) fun _=>.some ⟨by omega,hv⟩
    | succ k ih =>
      intro i out hk h0 ho hi hv
      have p3731:i < (a.length:Int)+b.length→∀ f,En (MQ (a.length+b.length)) (ji a b i out f):=by
        intro hlt f
        rw [zW,eF,Option.bind_some,ah (n:=i+1) (by omega) (by omega)]
        refine En.not (fun _=>ih _ _ (by omega) (by omega) (by omega) (by omega) hv) fun hvf=>?_
        have insV:∀ x:Int,Rq (((ao out 0 (x - 0).toNat)++[f])++(ao out x.toNat ((out.length:Int) - x).toNat)):=by
          intro x z hz
          rcases List.mem_append.1 hz with hz | hz
          · rcases List.mem_append.1 hz with hz | hz
            · exact hv z (Nx hz)
            · rw [List.mem_singleton.1 hz]; exact hvf
          · exact hv z (Nx hz)
        have setV:∀ j:Nat,Rq (out.set j f):=fun j z hz=>(List.mem_or_eq_of_mem_set hz).elim (hv z) fun e=>e ▸ hvf
        have lp:∀ (m:Nat) (x:Int),x≤m→0≤x→x≤(out.length:Int)→En (MQ (a.length+b.length)) (iA a b i x out f):=by
          intro m
          induction m with
          | zero =>
            intro x hx hx0 hxl
            obtain rfl:x = 0:=by omega
            have iv:=insV 0
            rw [oC]
            refine En.go (fun h=>by simp at h) (En.go (fun h=>by simp at h) (En.ifd (fun h=>by omega) fun _=>En.go (fun h=>by simp at h) (En.go (fun h=>by simp at h) (En.ifd (fun h=>by omega) fun _=>?_))))
            rw [eR (by omega) hxl,jY (by omega) hxl,ah (n:=i+1) (by omega) (by omega)]
            simp only [List.length_append,List.length_singleton]
            rw [eR (by omega) hxl]
            refine En.gd (by omega) (En.gd (by omega) (En.gd (by omega) (En.gd (by omega) (En.gd (by omega) (En.gd (by omega) (En.gd (by omega) (En.gd (by omega) (En.gd (by omega) (En.gd (by omega) (En.gd (by omega) (ih _ _ (by omega) (by omega) ?_ (by omega) iv)))))))))))
            simp only [List.length_append,List.length_singleton]
            rw [eR (by omega) hxl,jY (by omega) hxl]
            omega
          | succ m ihm =>
            intro x hx hx0 hxl
            by_cases hz:x≤m
            · exact ihm x hz hx0 hxl
            have hp:0 < x:=by omega
            have iv:=insV x
            rw [oC,ah (n:=x - 1) (by omega) (by omega),ah (n:=i+1) (by omega) (by omega)]
            have ins:En (MQ (a.length+b.length)) (gb (aa (0≤x))<|gb (aa (x≤(out.length:Int)))<|gb (aa (((ao out 0 (x - 0).toNat).length*112)≤140737488355328))<|gb (aa ((ao out 0 (x - 0).toNat).length≤140737488355328)) <|
                gb (aa ((((ao out 0 (x - 0).toNat).length+1)*112)≤140737488355328))<|gb (aa (((ao out 0 (x - 0).toNat).length+1)≤140737488355328))<|gb (aa (0≤x))<|gb (aa (x≤(out.length:Int)))<|gb (aa ((out.length:Int)≤(out.length:Int))) <|
                gb (aa (((((ao out 0 (x - 0).toNat)++[f]).length+(ao out x.toNat ((out.length:Int) - x).toNat).length)*112)≤140737488355328))<|gb (aa ((((ao out 0 (x - 0).toNat)++[f]).length+(ao out x.toNat ((out.length:Int) - x).toNat).length)≤140737488355328)) <|
                aZ a b (i+1) (((ao out 0 (x - 0).toNat)++[f])++(ao out x.toNat ((out.length:Int) - x).toNat))):=by
              rw [eR (by omega) hxl,jY (by omega) hxl]
              simp only [List.length_append,List.length_singleton]
              rw [eR (by omega) hxl]
              refine En.gd (by omega) (En.gd (by omega) (En.gd (by omega) (En.gd (by omega) (En.gd (by omega) (En.gd (by omega) (En.gd (by omega) (En.gd (by omega) (En.gd (by omega) (En.gd (by omega) (En.gd (by omega) (ih _ _ (by omega) (by omega) ?_ (by omega) iv)))))))))))
              simp only [List.length_append,List.length_singleton]
              rw [eR (by omega) hxl,jY (by omega) hxl]
              omega
            have less:∀ g,En (MQ (a.length+b.length)) ((oT g f).bind fun r2=>bif r2 then gb (aa (0≤(x - 1)))<|gb (aa ((x - 1) < (out.length:Int)))<|aZ a b (i+1) (List.set out (x - 1).toNat f) else aZ a b (i+1) out):=by
              intro g
              refine En.bind (VD _ _) fun y _=>En.bif (fun _=>En.gd (by omega) (En.gd (by omega) (ih _ _ (by omega) (by omega) (by rw [List.length_set]; omega) (by omega) (setV _)))) fun _=>ih _ _ (by omega) (by omega) (by omega) (by omega) hv
            repeat' first
              | exact ins
              | exact ihm _ (by omega) (by omega) (by omega)
              | refine En.gd (by omega) (En.gd (by omega) (less _))
              | refine En.go (fun _=>by omega) ?_
              | refine En.ifd (fun _=>?_) (fun h=>absurd hp h)
              | refine En.bind (U5 _ _) fun y _=>?_
              | refine En.bif (fun _=>?_) (fun _=>?_)
        exact lp _ _ (Int.self_le_toNat _) (by omega) (Int.le_refl _)
      rw [sj,ah (n:=(a.length:Int)+b.length) (by omega) (by omega)]
      refine En.ifd (fun hlt=>En.ifd (fun h=>En.gd h0 (En.gd h (p3731 hlt _))) fun h=>?_) fun _=>.some ⟨by omega,hv⟩
      rw [ah (n:=i - (a.length:Int)) (by omega) (by omega)]
      exact En.gd (by omega) (En.gd (by omega) (p3731 hlt _))
  rw [IL]
  exact key _ 0 [] (Int.self_le_toNat _) (by omega) (by simp) (by omega) (fun x hx=>by simp at hx)
theorem Ow (l:List GPensionhand_Fact) (n:List Int) (hn:n.length≤100000000):En (MQ 30) (uv l n):=by
  rw [Fi]
  have fin:∀ out:List GFact,out.length≤10→En (MQ 30) (bif aa ((0:Int) < (n.length:Int)) then (tY n).bind fun r1=>(Aj r1 1).bind fun r2=>gb (aa (((out.length+r2.length)*112)≤140737488355328))<|gb (aa ((out.length+r2.length)≤140737488355328))<|(kX (out++r2) []).bind fun r3=>some r3
      else (kX out []).bind fun r4=>some r4):=by
    intro out ho
    refine En.bif (fun _=>.bind (TG n hn) fun r1 h1=>?_) fun _=>.bind (Jx out [] (by simp; omega)) fun r h=>.some ⟨by have:=h.1; simp at this; omega,h.2⟩
    rw [Mx r1 1 (by omega),Option.bind_some]
    have hf:=List.length_filter_le (Ve 1) r1
    exact En.gd (by omega) (En.gd (by omega) (.bind (Jx _ [] (by simp; omega)) fun r h=>.some ⟨by have:=h.1; simp at this; omega,h.2⟩))
  have key:∀ (k:Nat) (i:Int) (out:List GFact),10 - i≤k→0≤i→i≤10→(out.length:Int)≤i→En (MQ 30) (ki l n i out):=by
    intro k
    induction k with
    | zero=>intro i out hk h0 hi ho; rw [ql]; exact En.and (fun _ e=>by have:=cJ e; omega) fun _=>fin out (by omega)
    | succ k ih =>
      intro i out hk h0 hi ho
      rw [ql]
      refine En.and (fun a b=>?_) fun _=>fin out (by omega)
      have a:=cJ a
      have b:=cJ b
      have nx:∀ r,En (MQ 30) (iH l n i out r):=by
        intro r
        rw [xT,ah (n:=i+1) (by omega) (by omega)]
        exact .bind (VP r) fun f _=>En.gd (by omega) (En.gd (by omega) (ih _ _ (by omega) (by omega) (by omega) (by simp; omega)))
      exact En.gd h0 (En.gd a (En.bif (fun _=>WI (by decide) fun y h1 h2=>En.gd h1 (En.gd h2 (nx _))) fun _=>nx _))
  exact key 10 0 [] (by omega) (by omega) (by omega) (by simp)
def aD {T:Type} (g:T→Int):List T→Int
  | []=>0
  | x :: r=>g x+aD g r
section
variable {T A:Type}
theorem Ex (g h:T→Int):∀ l:List T,aD (fun x=>g x+h x) l = aD g l+aD h l
  | []=>rfl
  | x :: r=>by rw [aD,aD,aD,Ex g h r]; omega
theorem oI:∀ l:List T,aD (fun _=>0) l = 0
  | []=>rfl
  | x :: r=>by rw [aD,oI r]; rfl
theorem ym {g h:T→Int}:∀ {l:List T},(∀ x∈l,g x≤h x)→aD g l≤aD h l
  | [],_=>Int.le_refl _
  | x :: r,H=>by
    have:=ym (l:=r) fun y hy=>H y (by simp [hy])
    have:=H x (by simp)
    rw [aD,aD]; omega
theorem iK {g h:T→Int}:∀ {l:List T},(∀ x∈l,g x = h x)→aD g l = aD h l
  | [],_=>rfl
  | x :: r,H=>by rw [aD,aD,H x (by simp),iK fun y hy=>H y (by simp [hy])]
theorem rV (g:T→A→Int) (m:List A):∀ l:List T,aD (fun x=>aD (g x) m) l = aD (fun y=>aD (fun x=>g x y) l) m
  | []=>by simp only [aD]; rw [oI]
  | x :: r=>by
    rw [aD,rV g m r, ← Ex]
    rfl
theorem uW (c:Int) (g:T→Int):∀ l:List T,aD (fun x=>c*g x) l = c*aD g l
  | []=>by simp [aD]
  | x :: r=>by rw [aD,aD,uW c g r,Int.mul_add]
theorem tP (c:Int) (g:T→Int):∀ {l:List T},(∀ x∈l,g x≤c)→aD g l≤c*(l.length:Int)
  | [],_=>by simp [aD]
  | x :: r,H=>by
    have:=tP c g (l:=r) fun y hy=>H y (by simp [hy])
    have:=H x (by simp)
    rw [aD,List.length_cons,show ((r.length+1:Nat):Int) = (r.length:Int)+1 by omega,Int.mul_add]; omega
theorem qY {g:T→Int}:∀ {l:List T},(∀ x∈l,0≤g x)→0≤aD g l
  | [],_=>Int.le_refl _
  | x :: r,H=>by
    have:=qY (l:=r) fun y hy=>H y (by simp [hy])
    have:=H x (by simp)
    rw [aD]; omega
end
def nw (b:Bool):Int:=if b = true then 1 else 0
theorem PN (b:Bool):0≤nw b∧nw b≤1:=by unfold nw; split <;> omega
theorem IC {T:Type} (P:T→Bool) (q:Bool):∀ {l:List T},l.Pairwise (fun a b=>¬ (P a = true∧P b = true))→(∀ x∈l,P x = true→q = true)→aD (fun x=>nw (P x)) l≤nw q
  | [],_,_=>(PN q).1
  | x :: r,hp,hq=>by
    obtain ⟨h1,h2⟩:=List.pairwise_cons.1 hp
    rw [aD]
    cases hx:P x with
    | false =>
      have:=IC P q h2 fun y hy=>hq y (by simp [hy])
      rw [show nw false = 0 from rfl]; omega
    | true =>
      have hz:aD (fun x=>nw (P x)) r = aD (fun _=>(0:Int)) r:=iK fun y hy=>by
        have:P y = false:=by
          cases hy2:P y with
          | false=>rfl
          | true=>exact absurd ⟨hx,hy2⟩ (h1 y hy)
        rw [this]; rfl
      rw [hz,oI,hq x (by simp) hx]
      decide
def xm:Int→Nat→List Int
  | _,0=>[]
  | F,n+1=>F :: xm (F+1) n
theorem NL:∀ (n:Nat) (F:Int),(xm F n).length = n
  | 0,_=>rfl
  | n+1,F=>by rw [xm,List.length_cons,NL n]
theorem Nz (a b:Int) (h:a≤b):∀ (n:Nat) (F:Int),b≤F+n→aD (fun d=>nw (decide (a≤d)&&decide (d < b))) (xm F n) = if b≤F then 0 else b - (if a≤F then F else a)
  | 0,F,hb=>by rw [xm,aD]; split <;> omega
  | n+1,F,hb=>by
    rw [xm,aD,Nz a b h n (F+1) (by omega)]
    have e:nw (decide (a≤F)&&decide (F < b)) = if a≤F∧F < b then 1 else 0:=by
      unfold nw
      by_cases h:a≤F∧F < b
      · rw [if_pos h,if_pos]; simp [h]
      · rw [if_neg h,if_neg]; simp; omega
    rw [e]
    split <;> split <;> split <;> (try split) <;> (try split) <;> omega
theorem RZ (s:GSpan) (r:List GSpan):yQ (s :: r) = (s.To - s.From)+yQ r:=by
  have key:∀ (l:List GSpan) (x:Int),l.foldl (fun s x=>s+(x.To - x.From)) x = x+l.foldl (fun s x=>s+(x.To - x.From)) 0:=by
    intro l
    induction l with
    | nil=>intro x; simp
    | cons y l ih =>
      intro x
      rw [List.foldl_cons,List.foldl_cons,ih,ih (0+(y.To - y.From))]
      omega
  unfold yQ
  rw [List.foldl_cons,key]
  omega
theorem zO (F:Int) (n:Nat):∀ {l:List GSpan} {lo:Int},bP lo l→(∀ s∈l,F≤s.From∧s.To≤F+n)→yQ l = aD (fun d=>nw (dG l d)) (xm F n)
  | [],lo,_,_=>by
    have:∀ d,nw (dG [] d) = 0:=fun d=>rfl
    rw [iK (h:=fun _=>0) fun d _=>this d,oI]; rfl
  | s :: r,lo,hn,hr=>by
    have ih:=zO F n (l:=r) hn.2.2.2 fun x hx=>hr x (by simp [hx])
    obtain ⟨r1,r2⟩:=hr s (by simp)
    have e:∀ d,nw (dG (s :: r) d) = nw (decide (s.From≤d)&&decide (d < s.To))+nw (dG r d):=by
      intro d
      have hor:dG (s :: r) d = ((decide (s.From≤d)&&decide (d < s.To))||dG r d):=rfl
      rw [hor]
      cases h1:(decide (s.From≤d)&&decide (d < s.To)) with
      | false=>rw [Bool.false_or,show nw false = 0 from rfl]; omega
      | true =>
        cases h2:dG r d with
        | false=>rfl
        | true =>
          have:=gf hn.2.2.2 (d8.1 h2)
          simp only [Bool.and_eq_true,decide_eq_true_eq] at h1
          omega
    rw [RZ,ih,iK fun d _=>e d,Ex,Nz s.From s.To (Int.le_of_lt hn.2.1) n F r2]
    have:=hn.2.1
    rw [if_neg (by omega)]
    split <;> omega
section
variable {a:List GFact} {c:List GCounted} (hc:jP c) (f:GFact)
theorem yT {st d:Int} (h:cP (aY a c st f) d):(f.Span.From≤d∧d < f.Span.To)∧(0≤d∧d < 73049)∧∃ x∈c,x.State = st∧x.Span.From≤d∧d < x.Span.To:=by
  unfold aY at h
  cases hb:(bp f&&!(af (jR f st) 0)) with
  | false=>rw [hb] at h; exact (da h).elim
  | true =>
    rw [hb,cond_true] at h
    unfold gG at h
    obtain ⟨⟨h1,_⟩,_⟩:=((bL _ _).2 d).1 h
    obtain ⟨⟨h2,h3⟩,h4⟩:=((bL _ _).2 d).1 h1
    obtain ⟨⟨s,hs,h5⟩,_⟩:=((cV _).2.1 d).1 h2
    refine ⟨h3,h4, ?_⟩
    unfold oo at hs
    obtain ⟨x,hx,rfl⟩:=List.mem_map.1 hs
    obtain ⟨hx1,hx2⟩:=List.mem_filter.1 hx
    unfold BF at hx2
    rw [Bool.and_eq_true,cA] at hx2
    exact ⟨x,hx1,hx2.1,h5⟩
include hc in
theorem Wc {x y:GCounted} (hx:x∈c) (hy:y∈c) {d:Int} (h1:x.Span.From≤d∧d < x.Span.To) (h2:y.Span.From≤d∧d < y.Span.To):x = y:=by
  obtain ⟨i,hi,rfl⟩:=List.getElem_of_mem hx
  obtain ⟨j,hj,rfl⟩:=List.getElem_of_mem hy
  by_cases e:i = j
  · subst e; rfl
  · rcases Nat.lt_or_gt_of_ne e with h | h
    · have:=List.pairwise_iff_getElem.1 hc.1 i j hi hj h; omega
    · have:=List.pairwise_iff_getElem.1 hc.1 j i hj hi h; omega
theorem Sg {st y:Int} (hf:f.Span.From≤f.Span.To):en (aY a c st f) y = aD (fun d=>nw (dG (aU (aY a c st f) (jh y)) d)) (xm f.Span.From (f.Span.To - f.Span.From).toNat):=by
  unfold en
  have hn:=(bL (aY a c st f) (jh y)).1
  refine zO _ _ hn fun s hs=>?_
  have hr:=ot hn (Int.le_refl _) s hs
  have c1:=yT f (((bL (aY a c st f) (jh y)).2 s.From).1 ⟨s,hs,Int.le_refl _,hr.2.1⟩).1.1
  have c2:=yT f (((bL (aY a c st f) (jh y)).2 (s.To - 1)).1 ⟨s,hs,by omega,by omega⟩).1.1
  omega
include hc in
theorem R5 {ys:Int→List Int} (hy:∀ s,(ys s).Pairwise (· < ·)) (hr:∀ s, ∀ y∈ys s,0≤y∧y≤199) (hf:f.Span.From≤f.Span.To) :
    aD (fun s=>aD (fun y=>en (aY a c s f) y) (ys s)) [0,1,2,3,4,5]≤f.Span.To - f.Span.From:=by
  have e1:∀ s:Int,aD (fun y=>en (aY a c s f) y) (ys s) = aD (fun d=>aD (fun y=>nw (dG (aU (aY a c s f) (jh y)) d)) (ys s)) (xm f.Span.From (f.Span.To - f.Span.From).toNat):=by
    intro s
    rw [iK fun y _=>Sg (a:=a) (c:=c) f (st:=s) (y:=y) hf,rV]
  rw [iK fun s _=>e1 s,rV]
  have e2:∀ d,aD (fun s=>aD (fun y=>nw (dG (aU (aY a c s f) (jh y)) d)) (ys s)) [0,1,2,3,4,5]≤1:=by
    intro d
    have e3:∀ s∈([0,1,2,3,4,5]:List Int),aD (fun y=>nw (dG (aU (aY a c s f) (jh y)) d)) (ys s)≤nw (dG (aY a c s f) d):=by
      intro s _
      refine IC _ _ ?_ fun y hy' h=>?_
      · refine List.Pairwise.imp_of_mem ?_ (hy s)
        rintro y z my mz hlt ⟨h1,h2⟩
        have g1:=(((bL _ _).2 d).1 (d8.1 h1))
        have g2:=(((bL _ _).2 d).1 (d8.1 h2))
        have u1:=xA (hr s y my).1 g1.1.2.1 g1.1.2.2
        have u2:=xA (hr s z mz).1 g2.1.2.1 g2.1.2.2
        omega
      · exact d8.2 (((bL _ _).2 d).1 (d8.1 h)).1.1
    refine Int.le_trans (ym e3) ?_
    refine Int.le_trans (IC (fun s=>dG (aY a c s f) d) true ?_ fun _ _ _=>rfl) (Int.le_refl _)
    have ex:∀ s s':Int,s≠s'→¬ (dG (aY a c s f) d = true∧dG (aY a c s' f) d = true):=by
      rintro s s' hne ⟨h1,h2⟩
      obtain ⟨_,_,x,hx,x1,x2⟩:=yT f (d8.1 h1)
      obtain ⟨_,_,y,hy,y1,y2⟩:=yT f (d8.1 h2)
      have:=Wc hc hx hy x2 y2
      subst this
      exact hne (x1.symm.trans y1)
    have nd:([0,1,2,3,4,5]:List Int).Pairwise (·≠·):=by decide
    exact nd.imp fun h=>ex _ _ h
  have:=tP 1 _ (l:=xm f.Span.From (f.Span.To - f.Span.From).toNat) fun d _=>e2 d
  rw [NL] at this
  omega
def kB (f:GFact):Bool:=af f.Kind 1||af f.Kind 2||af f.Kind 3||af f.Kind 6
theorem Qk (d:List GSpan) (y:Int):0≤en d y:=by
  unfold en
  have hn:=(bL d (jh y)).1
  rw [zO 0 73049 hn fun s hs=>by have:=ot hn (Int.le_refl _) s hs; omega]
  exact qY fun d _=>(PN _).1
theorem PZ {st y:Int} (h:en (aY a c st f) y≠0):kB f = true∧cI f = true:=by
  unfold aY at h
  cases hb:(bp f&&!(af (jR f st) 0)) with
  | false=>rw [hb] at h; exact absurd (Pr y) h
  | true =>
    rw [Bool.and_eq_true] at hb
    refine ⟨?_, ?_⟩
    · have h2:=hb.2
      unfold jR at h2
      unfold kB
      cases h1:(af f.Kind 1||af f.Kind 2||af f.Kind 3) with
      | true=>rfl
      | false =>
        rw [h1,cond_false] at h2
        cases h3:af f.Kind 6 with
        | true=>rfl
        | false=>rw [h3,Bool.false_and] at h2; cases h2
    · have:=hb.1
      unfold bp at this
      rw [Bool.and_eq_true] at this
      exact this.1
theorem JM:cY f 0 = 0:=by unfold cY; split <;> simp
include hc in
theorem SY (hg:0≤f.Amount) {ys:Int→List Int} (hy:∀ s,(ys s).Pairwise (· < ·)) (hr:∀ s, ∀ y∈ys s,0≤y∧y≤199) :
    aD (fun s=>aD (fun y=>cY f (en (aY a c s f) y)) (ys s)) [0,1,2,3,4,5]≤if kB f = true then f.Amount else 0:=by
  by_cases hk:kB f = true∧cI f = true
  · rw [if_pos hk.1]
    obtain ⟨v1,v2,v3,v4,v5⟩:=o5 hk.2
    have L:0 < f.Span.To - f.Span.From:=by omega
    have pl:∀ n:Int,0≤n→(f.Span.To - f.Span.From)*cY f n≤f.Amount*n:=by
      intro n hn
      unfold cY
      split
      · exact Int.mul_ediv_self_le (by omega)
      · rw [Int.mul_zero]; exact Int.mul_nonneg v1 hn
    have h1:(f.Span.To - f.Span.From)*aD (fun s=>aD (fun y=>cY f (en (aY a c s f) y)) (ys s)) [0,1,2,3,4,5]≤f.Amount*aD (fun s=>aD (fun y=>en (aY a c s f) y) (ys s)) [0,1,2,3,4,5]:=by
      rw [← uW, ← uW]
      refine ym fun s _=>?_
      rw [← uW, ← uW]
      exact ym fun y _=>pl _ (Qk _ _)
    have h2:=Int.mul_le_mul_of_nonneg_left (R5 (a:=a) hc f hy hr (by omega)) v1
    have h3:(f.Span.To - f.Span.From)*aD (fun s=>aD (fun y=>cY f (en (aY a c s f) y)) (ys s)) [0,1,2,3,4,5]≤(f.Span.To - f.Span.From)*f.Amount:=by
      rw [Int.mul_comm _ f.Amount]; omega
    exact Int.le_of_mul_le_mul_left h3 L
  · have z:aD (fun s=>aD (fun y=>cY f (en (aY a c s f) y)) (ys s)) [0,1,2,3,4,5] = 0:=by
      rw [iK (h:=fun _=>0) fun s _=>?_,oI]
      rw [iK (h:=fun _=>0) fun y _=>?_,oI]
      by_cases hn:en (aY a c s f) y = 0
      · rw [hn,JM]
      · exact absurd (PZ f hn) hk
    rw [z]
    split <;> omega
end
def WA (f:GFact):Prop:=(0≤f.Amount∧f.Amount≤1000000000)∧(kB f = true→f.Currency = 1)
theorem VY {f:GFact} (h:cI f = true):(0≤f.Amount∧f.Amount≤1000000000)∧(kB f = true→0 < f.Currency):=by
  have v:=o5 h
  refine ⟨⟨v.1,v.2.1⟩,fun hk=>?_⟩
  have hc:=((tM f).1 h).2.2.2.2.2.2.2.2.2.1
  unfold kB at hk
  simp only [Bool.or_eq_true,cA] at hk
  have hh:dV f.Kind 67 = true:=by rcases hk with ((e | e) | e) | e <;> rw [e] <;> rfl
  rw [hh] at hc
  have:=q7.1 (show fj f.Currency 1 999 = true from hc)
  omega
noncomputable def wS (a:List GFact) (c:List GCounted) (s y:Int):Int:=aD (fun f=>cY f (en (aY a c s f) y)) a
theorem Ef {y:Int} (hy:0≤y∧y≤199) (D:GFact→List GSpan):∀ (F:List GFact) (s:Int),(∀ f∈F,en (D f) y≠0→f.Currency = 1)→bt [] 1 y D F s = (s+aD (fun f=>cY f (en (D f) y)) F,0)
  | [],s,_=>by unfold bt; rw [aD,Int.add_zero]
  | f :: r,s,h=>by
    unfold bt
    rw [aD]
    by_cases hn:en (D f) y = 0
    · rw [hn,j9,cond_true,JM,Ef hy D r s fun g hg=>h g (by simp [hg]),Int.zero_add]
    · rw [fx.2 hn,cond_false]
      have hc:=(LM (t:=[]) (to:=1) (c:=f.Currency) (m:=12*y+11) Ot (uO f (en (D f) y)) ⟨by omega,by omega⟩ ⟨by omega,by omega⟩).2.2.2 (h f (by simp) hn)
      rw [hc]
      simp only []
      rw [lE.2 rfl,cond_false,Ef hy D r _ fun g hg=>h g (by simp [hg])]
      congr 1
      omega
theorem LQ {D:GFact→List GSpan} {F:List GFact} {W:Int→Int}:∀ (ys:List Int) (out:List GEarning),(∀ y∈ys,bt [] 1 y D F 0 = (W y,0)∧W y≤1000000000000)→jf [] 1 D F ys out = (out++ys.map (fun y=>⟨1900+y,W y⟩),0)
  | [],out,_=>by unfold jf; simp
  | y :: r,out,h=>by
    obtain ⟨h1,h2⟩:=h y (by simp)
    unfold jf
    rw [h1]
    simp only []
    rw [lE.2 rfl,cond_false,aE (by omega),cond_false,LQ r _ fun z hz=>h z (by simp [hz])]
    simp
section
variable {a:List GFact} (ha:a.length≤30) (hg:∀ f∈a,WA f) {c:List GCounted} (hc:jP c) (hcl:c.length≤73050)
include ha hg hc hcl
theorem Lv (s y:Int):0≤wS a c s y∧wS a c s y≤30000000000:=by
  unfold wS
  refine ⟨qY fun f _=>(uO f _).1, ?_⟩
  have:=tP 1000000000 (fun f=>cY f (en (aY a c s f) y)) (l:=a) fun f _=>(uO f _).2
  omega
theorem R6 {s:Int} (hs:0≤s∧s < 6):∃ ys:List Int,ys.Pairwise (· < ·)∧(∀ y∈ys,0≤y∧y≤199)∧jQ c s 1 [] a = some (ys.map (fun y=>⟨1900+y,wS a c s y⟩),0,a):=by
  obtain ⟨ys,y1,y2,y3,_⟩:=RQ Ot (to:=1) ⟨by omega,by omega⟩ (st:=s) hs (l:=a) (by omega) (c:=c) (by omega)
  refine ⟨ys,y1,y2, ?_⟩
  have e:=LQ (D:=gG a c s) (F:=mZ a c s) (W:=wS a c s) ys [] fun y hy=>by
    have hw:=Lv ha hg hc hcl s y
    rw [LV,Ef (y2 y hy) (aY a c s) a 0 fun f hf hn=>(hg f hf).2 (PZ f hn).1,Int.zero_add]
    exact ⟨rfl,by omega⟩
  rw [e,List.nil_append] at y3
  exact y3
theorem UK (s0 all s:Int) (p:List GEarning) (hp:p.length≤1000) (h0:0≤s0∧s0≤1000000000000000) (hpr:∀ x∈p,0≤x.Amount∧x.Amount≤30000000000):bg c s0 all s p 0 a = bK c (s0+aD GEarning.Amount p) all (ab (s+1)) a:=by
  have:=(qX p (fun i t=>bg c t all s p i a) (fun t x=>t+x.Amount) (fun i t=>0≤t∧t≤1000000000000000+(i:Int)*30000000000) (fun i t hi hh=>⟨?_, ?_⟩) s0 (by omega)).1
  · refine Eq.trans this ?_
    show bg c _ all s p (p.length:Int) a = _
    rw [jg,aX,cond_false]
    congr 1
    have:∀ (p:List GEarning) (t:Int),p.foldl (fun t x=>t+x.Amount) t = t+aD GEarning.Amount p:=by
      intro p
      induction p with
      | nil=>intro t; simp [aD]
      | cons x r ih=>intro t; rw [List.foldl_cons,ih,aD]; omega
    exact this p s0
  · have hx:=hpr _ (List.getElem_mem hi)
    have hb:(i:Int)*30000000000≤1000*30000000000:=Int.mul_le_mul_of_nonneg_right (by omega) (by omega)
    show bg _ _ _ _ _ _ _ = bg _ _ _ _ _ _ _
    rw [jg]
    simp only [aP hi,bj,cond_true,ay,Bool.or_true,bd hi,aW hi (by omega)]
    rw [ah (n:=t+p[i].Amount) (by omega) (by omega)]
  · have hx:=hpr _ (List.getElem_mem hi)
    rw [show ((i+1:Nat):Int) = (i:Int)+1 by omega,Int.add_mul]
    omega
theorem QF (sum:Int):aV sum 0 0 a = some (aa (sum≤aD (fun f=>if kB f = true then f.Amount else 0) a)):=by
  have:=(qX a (fun i t=>aV sum t i a) (fun t f=>t+(if kB f = true then f.Amount else 0)) (fun i t=>0≤t∧t≤(i:Int)*1000000000) (fun i t hi hh=>⟨?_, ?_⟩) 0 (by omega)).1
  · refine Eq.trans this ?_
    show aV sum _ (a.length:Int) a = _
    rw [jX,aX,cond_false,VK,Option.bind_some,cond_true]
    have:∀ (p:List GFact) (t:Int),p.foldl (fun t f=>t+(if kB f = true then f.Amount else 0)) t = t+aD (fun f=>if kB f = true then f.Amount else 0) p:=by
      intro p
      induction p with
      | nil=>intro t; simp [aD]
      | cons x r ih=>intro t; rw [List.foldl_cons,ih,aD]; omega
    rw [this,Int.zero_add]
  · have hx:=(hg _ (List.getElem_mem hi)).1
    have hb:(i:Int)*1000000000≤30*1000000000:=Int.mul_le_mul_of_nonneg_right (by omega) (by omega)
    show aV _ _ _ _ = aV _ _ _ _
    rw [jX]
    simp only [aP hi,bj,cond_true,ay,Bool.or_true,bd hi,aW hi (by omega)]
    rw [cW,cW,cW,ah (n:=t+a[i].Amount) (by omega) (by omega)]
    show (bif kB a[i] then _ else _) = _
    cases hk:kB a[i] with
    | true=>rw [cond_true,if_pos rfl]
    | false=>rw [cond_false,if_neg (by simp),Int.add_zero]
  · have hx:=(hg _ (List.getElem_mem hi)).1
    rw [show ((i+1:Nat):Int) = (i:Int)+1 by omega,Int.add_mul]
    split <;> omega
theorem TM:bK c 0 0 0 a = some true:=by
  have hex:∀ s:Int, ∃ ys:List Int,(0≤s∧s < 6→ys.Pairwise (· < ·)∧(∀ y∈ys,0≤y∧y≤199)∧jQ c s 1 [] a = some (ys.map (fun y=>⟨1900+y,wS a c s y⟩),0,a))∧(¬ (0≤s∧s < 6)→ys = []):=by
    intro s
    by_cases h:0≤s∧s < 6
    · obtain ⟨ys,h1⟩:=R6 ha hg hc hcl h
      exact ⟨ys,fun _=>h1,fun h'=>absurd h h'⟩
    · exact ⟨[],fun h'=>absurd h' h,fun _=>rfl⟩
  obtain ⟨ys,hys⟩:=Classical.axiomOfChoice hex
  have hy1:∀ s,(ys s).Pairwise (· < ·):=fun s=>by
    by_cases h:0≤s∧s < 6
    · exact ((hys s).1 h).1
    · rw [(hys s).2 h]; exact List.Pairwise.nil
  have hy2:∀ s, ∀ y∈ys s,0≤y∧y≤199:=fun s=>by
    by_cases h:0≤s∧s < 6
    · exact ((hys s).1 h).2.1
    · rw [(hys s).2 h]; intro y hy; simp at hy
  have few:∀ s,(ys s).length≤200:=fun s=>by
    have:=Ia ((ys s).map fun y=>y+72850) 72850 (List.pairwise_map.2 ((hy1 s).imp fun h=>by omega)) (fun x hx=>by
      obtain ⟨y,hy,rfl⟩:=List.mem_map.1 hx
      have:=hy2 s y hy; omega) (by omega)
    rw [List.length_map] at this
    omega
  have wsum:∀ s,0≤aD (wS a c s) (ys s)∧aD (wS a c s) (ys s)≤6000000000000:=fun s=>by
    refine ⟨qY fun y _=>(Lv ha hg hc hcl s y).1, ?_⟩
    have:=tP 30000000000 (wS a c s) (l:=ys s) fun y _=>(Lv ha hg hc hcl s y).2
    have:=few s
    omega
  have step:∀ (s0 s s':Int),s' = s+1→0≤s∧s < 6→0≤s0∧s0≤100000000000000→bK c s0 0 s a = bK c (s0+aD (wS a c s) (ys s)) 0 s' a:=by
    intro s0 s s' es hs h0
    subst es
    rw [jV,aB hs.2,cond_true,((hys s).1 hs).2.2,Option.bind_some,lE.2 rfl,cond_false]
    rw [UK ha hg hc hcl s0 0 s _ (by rw [List.length_map]; have:=few s; omega) (by omega) (fun x hx=>by
      obtain ⟨y,hy,rfl⟩:=List.mem_map.1 hx
      exact Lv ha hg hc hcl s y),ah (n:=s+1) (by omega) (by omega)]
    congr 1
    have:∀ l:List Int,aD GEarning.Amount (l.map fun y=>⟨1900+y,wS a c s y⟩) = aD (wS a c s) l:=by
      intro l
      induction l with
      | nil=>rfl
      | cons x r ih=>rw [List.map_cons,aD,aD,ih]
    rw [this]
  have w0:=wsum 0
  have w1:=wsum 1
  have w2:=wsum 2
  have w3:=wsum 3
  have w4:=wsum 4
  have w5:=wsum 5
  rw [step 0 0 1 rfl (by omega) (by omega),step _ 1 2 rfl (by omega) (by omega),step _ 2 3 rfl (by omega) (by omega),step _ 3 4 rfl (by omega) (by omega),step _ 4 5 rfl (by omega) (by omega),step _ 5 6 rfl (by omega) (by omega)]
  rw [jV,aE (by omega),cond_false,QF ha hg hc hcl]
  have tot:aD (fun s=>aD (wS a c s) (ys s)) [0,1,2,3,4,5]≤aD (fun f=>if kB f = true then f.Amount else 0) a:=by
    have e:∀ s:Int,aD (wS a c s) (ys s) = aD (fun f=>aD (fun y=>cY f (en (aY a c s f) y)) (ys s)) a:=by
      intro s
      unfold wS
      rw [rV]
    rw [iK fun s _=>e s,rV]
    exact ym fun f hf=>SY hc f (hg f hf).1.1 hy1 hy2
  simp only [aD] at tot ⊢
  rw [aB (by omega)]
end
theorem UL {c:List GCounted} (hc:jP c) (hcl:c.length≤73050):∀ (n i:Nat) (a:List GFact),a.length = i+n→a.length≤30→(∀ j (h:j < a.length),(j < i→WA a[j])∧(i≤j→cI a[j] = true))→dD c (i:Int) a = some true:=by
  intro n
  induction n with
  | zero =>
    intro i a hi ha hg
    rw [kL,show i = a.length by omega,aX,cond_false]
    refine TM ha (fun f hf=>?_) hc hcl
    obtain ⟨j,hj,rfl⟩:=List.getElem_of_mem hf
    exact (hg j hj).1 (by omega)
  | succ n ih =>
    intro i a hi ha hg
    have hlt:i < a.length:=by omega
    have hv:=(hg i hlt).2 (Nat.le_refl _)
    have gv:=VY hv
    rw [kL]
    simp only [aP hlt,bj,cond_true,ay,Bool.or_true,bd hlt,aW hlt (by omega)]
    by_cases hcur:0 < a[i].Currency
    · rw [aB hcur,cond_true]
      refine ih (i+1) _ (by rw [List.length_set]; omega) (by rw [List.length_set]; omega) fun j hj=>?_
      rw [List.length_set] at hj
      rw [List.getElem_set]
      split
      · exact ⟨fun _=>⟨gv.1,fun _=>rfl⟩,fun h=>by omega⟩
      · exact ⟨fun h=>(hg j hj).1 (by omega),fun h=>(hg j hj).2 (by omega)⟩
    · rw [aE hcur,cond_false]
      refine ih (i+1) a (by omega) ha fun j hj=>⟨fun h=>?_,fun h=>(hg j hj).2 (by omega)⟩
      by_cases e:j = i
      · subst e
        exact ⟨gv.1,fun hk=>absurd (gv.2 hk) hcur⟩
      · exact (hg j hj).1 (by omega)
theorem DF (l:List GPensionhand_Fact) (n:List Int) (day:Int):rX l n day = some true:=by
  rw [yo]
  by_cases hn:60 < (n.length:Int)
  · rw [aB hn]; rfl
  · rw [aE hn,cond_false]
    obtain ⟨x,hx,h1⟩:=Up n (by omega)
    obtain ⟨a,ha,h2,h2v⟩:=Ow l n (by omega)
    rw [hx,Option.bind_some,ha,Option.bind_some,Az day 12000 (by omega),Option.bind_some]
    obtain ⟨r,hr,⟨h3,h4⟩,h5⟩:=QU h1 a h2 (ab (30000+if (12000:Int) < 1 then 0 else day % 12000))
    rw [hr,Option.bind_some,h5]
    exact UL h3 h4 a.length 0 a (by omega) h2 fun j hj=>⟨fun h=>by omega,fun _=>h2v _ (List.getElem_mem hj)⟩
end Go.Ax
