import Derived.Test.YtokecajedkojlaaGreatZP24
import Derived.Test.YtokecajedkojlaaGreatZP26
set_option linter.all false
/- Counted days: found for every career; the law of the earnings of years. -/
set_option maxRecDepth 100000
namespace Go.Ax
section
variable {claims:List GPeriod} (hcl:claims.length≤600000000)
include hcl
theorem Tn (st rk day:Int):En (fun _=>True) (xh claims st rk day):=by
  rw [HR]
  have key:∀ (k:Nat) (i:Int),(claims.length:Int) - i≤k→0≤i→En (fun _=>True) (lD claims st rk day i):=by
    intro k
    induction k with
    | zero=>intro i hk h0; rw [sg]; exact En.ifd (fun h=>by omega) fun _=>.some trivial
    | succ k ih =>
      intro i hk h0
      rw [sg]
      refine En.ifd (fun hlt=>?_) fun _=>.some trivial
      rw [ai (n:=i+1) (by omega) (by omega)]
      refine En.gd h0 (En.gd hlt (En.go (fun _=>h0) (En.go (fun _=>hlt) (En.go (fun _=>h0) (En.go (fun _=>hlt) (En.go (fun _=>h0) (En.go (fun _=>hlt) (En.bif (fun _=>.some trivial) fun _=>ih _ (by omega) (by omega)))))))))
  exact key _ 0 (Int.self_le_toNat _) (by omega)
theorem JN (st day:Int):En (fun _=>True) (o5 claims st day):=by
  rw [Gy]
  have key:∀ (k:Nat) (i b:Int),(claims.length:Int) - i≤k→0≤i→En (fun _=>True) (gQ claims st day b i):=by
    intro k
    induction k with
    | zero=>intro i b hk h0; rw [qf]; exact En.ifd (fun h=>by omega) fun _=>.some trivial
    | succ k ih =>
      intro i b hk h0
      rw [qf]
      refine En.ifd (fun hlt=>?_) fun _=>.some trivial
      rw [ai (n:=i+1) (by omega) (by omega)]
      exact En.gd h0 (En.gd hlt (En.gd h0 (En.gd hlt (En.go (fun _=>h0) (En.go (fun _=>hlt) (En.bif (fun _=>ih _ _ (by omega) (by omega)) fun _=>ih _ _ (by omega) (by omega)))))))
  exact key _ 0 _ (Int.self_le_toNat _) (by omega)
theorem NE (st day:Int):En (fun _=>True) (q5 claims st day):=by
  rw [GP]
  have key:∀ (k:Nat) (i b:Int),(claims.length:Int) - i≤k→0≤i→En (fun _=>True) (iz claims st day b i):=by
    intro k
    induction k with
    | zero=>intro i b hk h0; rw [si]; exact En.ifd (fun h=>by omega) fun _=>.some trivial
    | succ k ih =>
      intro i b hk h0
      rw [si]
      refine En.ifd (fun hlt=>?_) fun _=>.some trivial
      rw [ai (n:=i+1) (by omega) (by omega)]
      exact En.gd h0 (En.gd hlt (En.gd h0 (En.gd hlt (En.go (fun _=>h0) (En.go (fun _=>hlt) (En.bif (fun _=>ih _ _ (by omega) (by omega)) fun _=>ih _ _ (by omega) (by omega)))))))
  exact key _ 0 _ (Int.self_le_toNat _) (by omega)
theorem Q9 (s b day:Int):En (fun _=>True) (tZ claims s b day):=by
  rw [Fc]
  exact En.bind (JN hcl _ _) fun _ _=>En.bind (JN hcl _ _) fun _ _=>En.bif (fun _=>.some trivial) fun _=>En.bind (NE hcl _ _) fun _ _=>En.bind (NE hcl _ _) fun _ _=>.some trivial
theorem Mb (day:Int):En (fun _=>True) (pz claims day):=by
  rw [Bv,dW,Option.bind_some]
  refine En.bif (fun _=>.some trivial) fun _=>?_
  have key:∀ (k:Nat) (rk:Int),8 - rk≤k→0≤rk→En (fun _=>True) (ij claims day rk):=by
    intro k
    induction k with
    | zero=>intro rk hk h0; rw [nD]; exact En.ifd (fun h=>by omega) fun _=>.some trivial
    | succ k ih =>
      intro rk hk h0
      rw [nD]
      refine En.ifd (fun hlt=>?_) fun _=>.some trivial
      have inner:∀ (m:Nat) (s b:Int),6 - s≤m→0≤s→En (fun _=>True) (cd claims day rk b s):=by
        intro m
        induction m with
        | zero =>
          intro s b hm h0
          rw [li,ai (n:=rk+1) (by omega) (by omega)]
          exact En.ifd (fun h=>by omega) fun _=>En.bif (fun _=>.some trivial) fun _=>ih _ (by omega) (by omega)
        | succ m ihm =>
          intro s b hm h0
          rw [li,ai (n:=rk+1) (by omega) (by omega)]
          refine En.ifd (fun hs=>?_) fun _=>En.bif (fun _=>.some trivial) fun _=>ih _ (by omega) (by omega)
          rw [ai (n:=s+1) (by omega) (by omega)]
          exact En.bind (Tn hcl _ _ _) fun _ _=>En.bif (fun _=>ihm _ _ (by omega) (by omega)) fun _=>En.bif (fun _=>ihm _ _ (by omega) (by omega)) fun _=>En.bind (Q9 hcl _ _ _) fun _ _=>En.bif (fun _=>ihm _ _ (by omega) (by omega)) fun _=>ihm _ _ (by omega) (by omega)
      exact inner _ 0 _ (Int.self_le_toNat _) (by omega)
  exact key 8 1 (by omega) (by omega)
def lL (c:List GCounted):Prop:=c.Pairwise (fun a b=>a.Span.To≤b.Span.From)∧∀ x∈c,0≤x.Span.From∧x.Span.From < x.Span.To∧x.Span.To≤73049
theorem lL.snoc {c:List GCounted} {x:GCounted} (h:lL c) (hx:0≤x.Span.From∧x.Span.From < x.Span.To∧x.Span.To≤73049) (hc:∀ y∈c,y.Span.To≤x.Span.From):lL (c++[x]):=by
  refine ⟨List.pairwise_append.2 ⟨h.1,by simp,fun a ha b hb=>by rw [List.mem_singleton.1 hb]; exact hc a ha⟩,fun y hy=>?_⟩
  rcases List.mem_append.1 hy with hy | hy
  · exact h.2 y hy
  · rw [List.mem_singleton.1 hy]; exact hx
theorem Qu {e:List Int} (he:jv e) (hd:vS e):∀ (n i:Nat) (out:List GCounted),e.length≤i+1+n→lL out→(∀ x∈out, ∀ h:i < e.length,x.Span.To≤e[i])→out.length≤i→out.length≤73050→i≤73060→En (fun c=>lL c∧c.length≤73050) (cA claims e (i:Int) out):=by
  have hel:=tN he hd
  intro n
  induction n with
  | zero =>
    intro i out hi hk hx ho ho2 hi2
    rw [jy,ai (n:=(i:Int)+1) (by omega) (by omega),aB (by omega),cond_false]
    exact .some ⟨hk,ho2⟩
  | succ n ih =>
    intro i out hi hk hx ho ho2 hi2
    by_cases hlt1:i+1 < e.length
    · have hlt:i < e.length:=by omega
      have hasc:e[i] < e[i+1]:=List.pairwise_iff_getElem.1 he i (i+1) hlt hlt1 (by omega)
      have r1:=hd e[i] (List.getElem_mem hlt)
      have r2:=hd e[i+1] (List.getElem_mem hlt1)
      have e1:aa (((i+1:Nat):Int) < (e.length:Int)) = true:=ay (by omega)
      have e2:aa ((0:Int)≤((i+1:Nat):Int)) = true:=ay (by omega)
      rw [jy,yO (by omega)]
      simp only [e1,e2,aT hlt,br,cond_true,aC,Bool.or_true,be hlt,be hlt1]
      refine En.bind (Mb hcl _) fun r0 _=>En.bif (fun _=>?_) fun _=>?_
      · exact ih (i+1) out (by omega) hk (fun x hx' h=>by have:=hx x hx' hlt; omega) (by omega) ho2 (by omega)
      · have app:En (fun c=>lL c∧c.length≤73050) (gb (aa (((out.length+1)*32)≤140737488355328))<|gb (aa ((out.length+1)≤140737488355328))<|cA claims e (((i+1:Nat):Int)) (out++[(⟨(⟨e[i],e[i+1]⟩:GSpan),r0.1,r0.2.1⟩:GCounted)])):=by
          refine En.gd (by omega) (En.gd (by omega) (ih (i+1) _ (by omega) (hk.snoc hcl ⟨r1.1,hasc,r2.2⟩ fun y hy=>hx y hy hlt) (fun x hx' h=>?_) (by simp; omega) (by simp; omega) (by omega)))
          rcases List.mem_append.1 hx' with hx' | hx'
          · have:=hx x hx' hlt; omega
          · rw [List.mem_singleton.1 hx']; exact Int.le_refl _
        rcases iR out with rfl | ⟨p,x,rfl⟩
        · rw [show aa ((0:Int) < ((([]:List GCounted).length:Nat):Int)) = false from rfl]
          simp only [Bool.false_and,Bool.not_false,Bool.true_or,aC,cond_false]
          exact app
        · have hl:(p++[x]).length = p.length+1:=by simp
          have h0:aa ((0:Int) < (((p++[x]).length:Nat):Int)) = true:=ay (by omega)
          have hlp:aa (((p.length:Nat):Int) < (((p++[x]).length:Nat):Int)) = true:=ay (by omega)
          have hi0:aa ((0:Int)≤((p.length:Nat):Int)) = true:=ay (by omega)
          have hw:ab ((((p++[x]).length:Nat):Int) - 1) = ((p.length:Nat):Int):=by rw [ai (by omega) (by omega)]; omega
          rw [hw]
          simp only [h0,hlp,hi0,Bool.or_true,aC,cond_true,It,Int.toNat_natCast,DW]
          refine En.bif (fun hc=>?_) fun _=>app
          rw [bD,bD,Bool.and_eq_true,Bool.and_eq_true,cY] at hc
          have hto:x.Span.To = e[i]:=hc.1.1
          have hk2:=List.pairwise_append.1 hk.1
          have hxr:=hk.2 x (by simp)
          have hp:lL p:=⟨hk2.1,fun y hy=>hk.2 y (by simp [hy])⟩
          refine ih (i+1) _ (by omega) (hp.snoc hcl ⟨hxr.1,by show x.Span.From < e[i+1]; omega,r2.2⟩ fun y hy=>hk2.2.2 y hy x (by simp)) (fun z hz h=>?_) (by simp at ho ⊢; omega) (by simp at ho2 ⊢; omega) (by omega)
          rcases List.mem_append.1 hz with hz | hz
          · have:=hx z (by simp [hz]) hlt; omega
          · rw [List.mem_singleton.1 hz]; exact Int.le_refl _
    · rw [jy,ai (n:=(i:Int)+1) (by omega) (by omega),aB (by omega),cond_false]
      exact .some ⟨hk,ho2⟩
theorem PR:En (fun c=>lL c∧c.length≤73050) (nJ claims):=by
  rw [D4]
  have key:∀ (n:Nat) (i:Int) (e:List Int),(claims.length:Int) - i≤n→0≤i→jv e→vS e→En (fun c=>lL c∧c.length≤73050) (eE claims e i):=by
    have fin:∀ e:List Int,jv e→vS e→En (fun c=>lL c∧c.length≤73050) (cA claims e 0 []):=fun e he hd =>
      Qu hcl he hd e.length 0 [] (by omega) ⟨by simp,fun x hx=>by simp at hx⟩ (fun x hx=>by simp at hx) (by simp) (by simp) (by omega)
    intro n
    induction n with
    | zero=>intro i e hi h0 he hd; rw [oQ]; exact En.ifd (fun h=>by omega) fun _=>fin e he hd
    | succ n ih =>
      intro i e hi h0 he hd
      rw [oQ]
      refine En.ifd (fun hlt=>?_) fun _=>fin e he hd
      rw [ai (n:=i+1) (by omega) (by omega)]
      refine En.gd h0 (En.gd hlt (En.gd h0 (En.gd hlt ?_)))
      generalize hA:(bif aa ((gD claims i.toNat (zS .GPeriod)).Span.From < 0) then (0:Int) else (gD claims i.toNat (zS .GPeriod)).Span.From) = A
      generalize hB:(bif aa (73049 < (gD claims i.toNat (zS .GPeriod)).Span.To) then (73049:Int) else (gD claims i.toNat (zS .GPeriod)).Span.To) = B
      have a0:0≤A:=by
        rw [← hA]
        by_cases h:(gD claims i.toNat (zS .GPeriod)).Span.From < 0
        · rw [ay h]; exact Int.le_refl _
        · rw [aB h]; simp only [cond_false]; omega
      have b0:B≤73049:=by
        rw [← hB]
        by_cases h:73049 < (gD claims i.toNat (zS .GPeriod)).Span.To
        · rw [ay h]; exact Int.le_refl _
        · rw [aB h]; simp only [cond_false]; omega
      refine En.ifd (fun _=>ih _ _ (by omega) (by omega) he hd) fun hab=>?_
      have ins:∀ {α:Type} {Q:α→Prop} (e:List Int) (v:Int) (f:List Int→Option α),jv e→vS e→0≤v∧v≤73049→(∀ r,jv r→vS r→En Q (f r))→En Q ((bW e v).bind f):=by
        intro α Q e v f he hd hv hf
        have hle:=tN he hd
        obtain ⟨r,q1,q2,q3,_⟩:=uP e v (by omega) he
        rw [q1,Option.bind_some]
        exact hf r q2 fun x hx=>((q3 x).1 hx).elim (hd x) fun e=>e ▸ hv
      have third:∀ e:List Int,jv e→vS e→En (fun c=>lL c∧c.length≤73050) (gx claims e i ⟨A,B⟩):=by
        intro e he hd
        rw [vn]
        simp only []
        rw [ai (n:=B+1) (by omega) (by omega),ai (n:=i+1) (by omega) (by omega)]
        exact En.ifd (fun h=>ins e _ _ he hd ⟨by omega,h⟩ fun r h1 h2=>ih _ _ (by omega) (by omega) h1 h2) fun _=>ih _ _ (by omega) (by omega) he hd
      have second:∀ e:List Int,jv e→vS e→En (fun c=>lL c∧c.length≤73050) (gw claims e i ⟨A,B⟩):=by
        intro e he hd
        rw [vg]
        simp only []
        rw [ai (n:=B - 1) (by omega) (by omega)]
        exact En.ifd (fun h=>ins e _ _ he hd ⟨by omega,by omega⟩ fun r h1 h2=>third r h1 h2) fun _=>third e he hd
      refine ins e A _ he hd ⟨a0,by omega⟩ fun r h1 h2=>ins r B _ h1 h2 ⟨by omega,b0⟩ fun r h1 h2=>?_
      rw [ai (n:=A+1) (by omega) (by omega)]
      exact En.ifd (fun h=>ins r _ _ h1 h2 ⟨by omega,by omega⟩ fun r h1 h2=>second r h1 h2) fun _=>second r h1 h2
  exact key _ 0 [] (Int.self_le_toNat _) (by omega) List.Pairwise.nil (fun x hx=>by simp at hx)
end
theorem OF {x:GLaws} (h:oS x) (l:List GFact) (hl:l.length≤30) {m:List Int} (hm:QB x m) (day:Int):En (fun c=>lL c∧c.length≤73050) (qw x l m day):=by
  obtain ⟨m1,m2⟩:=DC h.tr
  have hml:=hm.1
  rw [Cp]
  have key:∀ (k:Nat) (i:Int) (S:List GScheme),(m.length:Int) - i≤k→0≤i→i≤(m.length:Int)→(S.length:Int)≤i→(∀ y∈S,Ch y)→En (fun c=>lL c∧c.length≤73050) (iu l m day i x.States x.Treaty x.Rates S):=by
    have fin:∀ S:List GScheme,S.length≤3→(∀ y∈S,Ch y)→En (fun c=>lL c∧c.length≤73050) ((vZ l x.Treaty).bind fun r2=>(oM l r2 S day).bind fun r3=>(nJ r3.1).bind fun r4=>some r4):=fun S hS hx =>
      En.bind (Vt l hl x.Treaty m1 m2) fun w hw=>En.bind (Rq l (by omega) w hw S (by omega) hx day) fun y hy=>En.bind (PR hy) fun c hc=>.some hc
    intro k
    induction k with
    | zero=>intro i S hk h0 hi hS hx; rw [ow]; exact En.ifd (fun h=>by omega) fun _=>fin S (by omega) hx
    | succ k ih =>
      intro i S hk h0 hi hS hx
      rw [ow]
      refine En.ifd (fun hlt=>?_) fun _=>fin S (by omega) hx
      rw [ai (n:=i+1) (by omega) (by omega)]
      refine En.gd h0 (En.gd hlt (En.bind (Tw h (hm.2 _ (cB h0 hlt))) fun r hr=>En.gd hr.1 (En.gd hr.2 (En.bind (Wd (h.st _ (cB hr.1 hr.2)) day) fun v hv=>En.gd h0 (En.gd hlt (En.gd (by omega) (En.gd (by omega) (ih _ _ (by omega) (by omega) (by omega) (by rw [gP]; omega) fun y hy=>?_))))))))
      rcases List.mem_append.1 hy with hy | hy
      · exact hx y hy
      · rw [List.mem_singleton.1 hy]
        exact ⟨by show v.1.Credits.length≤1000; have:=hv.1; omega,fun c hc=>by have:=hv.2 c hc; omega⟩
  exact key _ 0 [] (Int.self_le_toNat _) (by omega) (by omega) (by simp) (fun y hy=>by simp at hy)
theorem Qr {x:GLaws} (h:oS x) (l:List GFact) (hl:l.length≤30) (day:Int):En (fun c=>lL c∧c.length≤73050) ((gn x l day).bind fun r=>some r.1):=by
  rw [ve]
  obtain ⟨r,hr,_⟩:=Te h day
  rw [hr,Option.bind_some]
  by_cases hz:r = 0
  · rw [hz,mo.2 rfl,cond_false]
    obtain ⟨m,hm,hm2⟩:=PV h day
    obtain ⟨c,hc,hc2⟩:=OF h l hl hm2 day
    rw [hm,Option.bind_some,hc,Option.bind_some]
    exact .some hc2
  · rw [mB.2 hz,cond_true]
    exact .some ⟨⟨List.Pairwise.nil,fun x hx=>by simp at hx⟩,by simp⟩
theorem PS {x:GLaws} (h:oS x) (l:List GFact) (hl:l.length≤30) (day:Int):En (fun r:List GCounted × List GFact=>(lL r.1∧r.1.length≤73050)∧r.2 = l) (sq x day l):=by
  rw [EC]
  obtain ⟨c,hc,hc2⟩:=Qr h l hl day
  cases hx:gn x l day with
  | none=>rw [hx] at hc; cases hc
  | some r =>
    rw [hx,Option.bind_some] at hc
    cases hc
    exact .some ⟨hc2,rfl⟩
theorem OC (l:List GPensionhand_Fact) (n:List Int) (hn:n.length≤100000000):En (fun a:List GFact=>a.length≤30) (uk l n):=by
  rw [FZ]
  have fin:∀ out:List GFact,out.length≤10→En (fun a:List GFact=>a.length≤30) (bif aa ((0:Int) < (n.length:Int)) then (tu n).bind fun r1=>(yh r1 1).bind fun r2=>gb (aa (((out.length+r2.length)*112)≤140737488355328))<|gb (aa ((out.length+r2.length)≤140737488355328))<|(kO (out++r2) []).bind fun r3=>some r3
      else (kO out []).bind fun r4=>some r4):=by
    intro out ho
    refine En.bif (fun _=>.bind (S8 n hn) fun r1 h1=>?_) fun _=>.bind (Nq out [] (by simp; omega)) fun r h=>.some (by simp at h; omega)
    rw [MF r1 1 (by omega),Option.bind_some]
    have hf:=List.length_filter_le (Uo 1) r1
    exact En.gd (by omega) (En.gd (by omega) (.bind (Nq _ [] (by simp; omega)) fun r h=>.some (by simp at h; omega)))
  have key:∀ (k:Nat) (i:Int) (out:List GFact),10 - i≤k→0≤i→i≤10→(out.length:Int)≤i→En (fun a:List GFact=>a.length≤30) (km l n i out):=by
    intro k
    induction k with
    | zero=>intro i out hk h0 hi ho; rw [qe]; exact En.and (fun _ e=>by have:=cN e; omega) fun _=>fin out (by omega)
    | succ k ih =>
      intro i out hk h0 hi ho
      rw [qe]
      refine En.and (fun a b=>?_) fun _=>fin out (by omega)
      have a:=cN a
      have b:=cN b
      have nx:∀ r,En (fun a:List GFact=>a.length≤30) (iy l n i out r):=by
        intro r
        rw [xS,ai (n:=i+1) (by omega) (by omega)]
        exact .bind (Vg r) fun f _=>En.gd (by omega) (En.gd (by omega) (ih _ _ (by omega) (by omega) (by omega) (by simp; omega)))
      exact En.gd h0 (En.gd a (En.bif (fun _=>V8 (by decide) fun y h1 h2=>En.gd h1 (En.gd h2 (nx _))) fun _=>nx _))
  exact key 10 0 [] (by omega) (by omega) (by omega) (by simp)
theorem UJ:w9 = some true:=by
  rw [G6,(Eh _ _).1,Option.bind_some]
  kernel_rfl
theorem P8 (p:List GEarning) (hp:p.length≤1000000):aZ p p 0 = some true:=by
  have:=HQ p (fun i=>aZ p p i) (fun _=>false) (some false) (some true) (by
    show aZ _ _ _ = _
    rw [i8,bg,cond_false]) fun i hi=>by
      show aZ _ _ _ = if _ then _ else aZ _ _ _
      rw [i8]
      simp only [aT hi,br,cond_true,aC,Bool.or_true,be hi,bf hi (by omega)]
      rw [i7,i7]
      rfl
  rw [this]
  simp
theorem LP (t:List GRate) (to:Int) (D:GFact→List GSpan) (F:List GFact):∀ (ys:List Int) (out:List GEarning),(iX t to D F ys out).1.length≤out.length+ys.length
  | [],out=>by unfold iX; simp
  | y :: r,out=>by
    unfold iX
    cases aJ (bt t to y D F 0).2 0 with
    | true=>simp
    | false =>
      rw [cond_false]
      cases aa (1000000000000 < (bt t to y D F 0).1) with
      | true=>simp
      | false =>
        rw [cond_false]
        have:=LP t to D F r (out++[⟨1900+y,(bt t to y D F 0).1⟩])
        simp at this ⊢
        omega
theorem U5 {ys:List Int} (h:ys.Pairwise (· < ·)) (hr:∀ y∈ys,0≤y∧y≤199):ys.length≤73050:=tN h fun y hy=>by have:=hr y hy; omega
theorem Tu {t:List GRate} (ht:lH t) (st to:Int) {a:List GFact} (ha:a.length≤30) {c:List GCounted} (hc:c.length≤73050) (S:List GState) (T:List GRules):bQ st to c S T t a = some true:=by
  have key:∃ (o:List GEarning) (e:Int),mn c st to t a = some (o,e,a)∧qZ c st to t a = some (o,e,a)∧o.length≤1000000:=by
    by_cases h1:st < 0
    · exact ⟨[],1,by rw [fY,ay h1,cond_true],by rw [jG,ay h1,cond_true],by simp⟩
    · by_cases h2:6≤st
      · exact ⟨[],1,by rw [fY,aB h1,cond_false,ay h2,cond_true],by rw [jG,aB h1,cond_false,ay h2,cond_true],by simp⟩
      · by_cases h3:to < 1
        · exact ⟨[],1,by rw [fY,aB h1,cond_false,aB h2,cond_false,ay h3,cond_true],by rw [jG,aB h1,cond_false,aB h2,cond_false,ay h3,cond_true],by simp⟩
        · by_cases h4:999 < to
          · exact ⟨[],1,by rw [fY,aB h1,cond_false,aB h2,cond_false,aB h3,cond_false,ay h4,cond_true],by rw [jG,aB h1,cond_false,aB h2,cond_false,aB h3,cond_false,ay h4,cond_true],by simp⟩
          · obtain ⟨ys,y1,y2,y3,y4⟩:=RJ ht (to:=to) ⟨by omega,by omega⟩ (st:=st) ⟨by omega,by omega⟩ (l:=a) (by omega) (c:=c) (by omega)
            have:=LP t to (gV a c st) (mX a c st) ys []
            have:=U5 y1 y2
            exact ⟨_,_,y3,y4,by simp at *; omega⟩
  obtain ⟨o,e,k1,k2,k3⟩:=key
  rw [rJ,k1,Option.bind_some,k2,Option.bind_some,UJ,Option.bind_some,mo.2 rfl,mo.2 rfl]
  exact P8 o k3
theorem CF (l:List GPensionhand_Fact) (n:List Int) (day state currency bad:Int):p6 l n day state currency bad = some true:=by
  rw [wQ]
  by_cases hn:60 < (n.length:Int)
  · rw [ay hn]; rfl
  · rw [aB hn,cond_false]
    obtain ⟨x,hx,h1⟩:=TD n (by omega)
    obtain ⟨a,ha,h2⟩:=OC l n (by omega)
    rw [hx,Option.bind_some,ha,Option.bind_some,kE day 12000 (by omega),Option.bind_some]
    obtain ⟨r,hr,⟨h3,h4⟩,h5⟩:=PS h1 a h2 (ab (30000+if (12000:Int) < 1 then 0 else day % 12000))
    rw [hr,Option.bind_some,kE state 4 (by omega),Option.bind_some,kE currency 3 (by omega),Option.bind_some,kE bad 12 (by omega),Option.bind_some,h1.rt,h5]
    have five:∀ {t:List GRate},lH t→∀ st to,bQ st to r.1 x.States x.Treaty t a = some true:=fun ht st to=>Tu ht st to h2 h4 _ _
    rw [five yj,five yj,five yj]
    rw [show ao aN 1 ((aN.length:Int) - 1).toNat = bN from rfl,five TS,aP (by decide),aP (by decide)]
    cases af (if (12:Int) < 1 then 0 else bad % 12) 0 <;> cases af (if (12:Int) < 1 then 0 else bad % 12) 1 <;> cases af (if (12:Int) < 1 then 0 else bad % 12) 2 <;> rfl
end Go.Ax
