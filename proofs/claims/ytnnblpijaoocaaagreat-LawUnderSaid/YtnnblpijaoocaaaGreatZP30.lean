import Derived.Test.YtnnblpijaoocaaaGreatZP13
import Derived.Test.YtnnblpijaoocaaaGreatZP15
import Derived.Test.YtnnblpijaoocaaaGreatZP5
import Derived.Test.YtnnblpijaoocaaaGreatZP12
set_option linter.all false
/- Made versions and the document's law end. -/
set_option maxRecDepth 100000
namespace Go.Ax
theorem yU (n k:Int) (h:0 < k) (h':k≤1000000000):En (fun y=>0≤y∧y < k) (gJ n k):=by
  rw [od n k (by omega),if_neg (by omega)]
  exact .some ⟨Int.emod_nonneg _ (by omega),Int.emod_lt_of_pos _ h⟩
theorem LE {t:List GRules} (h:AM t):t.length≤2∧∀ r∈t,r.Members.length≤3:=by
  obtain ⟨p,_,_,rfl | rfl | rfl⟩:=h
  · exact ⟨by simp [NN],fun r hr=>by simp [NN] at hr; subst hr; simp⟩
  · exact ⟨by simp [Nn],fun r hr=>by simp [Nn] at hr; rcases hr with rfl | rfl <;> simp⟩
  · exact ⟨by simp [Nt],fun r hr=>by simp [Nt] at hr; rcases hr with rfl | rfl <;> simp⟩
theorem LC (t:List GRules) (ht:t.length≤2) (hm:∀ r∈t,r.Members.length≤3):En (fun _=>True) (q9 t):=by
  rw [Db]
  refine En.ifd (fun _=>.some trivial) fun _=>En.gb (by simp) (En.go (fun h=>by simp [ai] at h; cases t with | nil=>simp at h | cons a l=>simp) (En.bif (fun _=>.some trivial) fun _=>?_))
  have key:∀ (k:Nat) (i:Int),(t.length:Int) - i≤k→0≤i→En (fun _=>True) (gZ t i):=by
    intro k
    induction k with
    | zero=>intro i hk h0; rw [mg]; exact En.ifd (fun h=>by omega) fun _=>.some trivial
    | succ k ih =>
      intro i hk h0
      rw [mg]
      refine En.ifd (fun h=>?_) fun _=>.some trivial
      have hr:=hm _ (iB (z:=zS .GRules) h0 h)
      generalize gD t i.toNat (zS .GRules) = r at hr
      have hi:∀ {b:Bool},(aa (0 < i)&&b) = true→0≤ac (i - 1)∧ac (i - 1) < (t.length:Int):=by
        intro b e
        have:=cE (Bool.and_eq_true _ _ ▸ e).1
        rw [al (by omega) (by omega)]; omega
      rw [qb,Option.bind_some]
      refine En.gd h0 (En.gd h (En.go (fun e=>(hi e).1) (En.go (fun e=>(hi e).2) (En.bif (fun _=>.some trivial) fun _=>?_))))
      have inner:∀ (m:Nat) (j:Int),(r.Members.length:Int) - j≤m→0≤j→En (fun _=>True) (fL t i j r):=by
        intro m
        induction m with
        | zero=>intro j hj0 hj1; rw [kT,al (n:=i+1) (by omega) (by omega)]; exact En.ifd (fun h=>by omega) fun _=>ih _ (by omega) (by omega)
        | succ m ihm =>
          intro j hj0 hj1
          rw [kT,al (n:=i+1) (by omega) (by omega)]
          refine En.ifd (fun hj=>?_) fun _=>ih _ (by omega) (by omega)
          have hp:∀ {b:Bool},(aa (0 < j)&&b) = true→0≤ac (j - 1)∧ac (j - 1) < (r.Members.length:Int):=by
            intro b e
            have:=cE (Bool.and_eq_true _ _ ▸ e).1
            rw [al (by omega) (by omega)]; omega
          rw [al (n:=j+1) (by omega) (by omega)]
          exact En.gd hj1 (En.gd hj (En.go (fun _=>hj1) (En.go (fun _=>hj) (En.go (fun _=>hj1) (En.go (fun _=>hj) (En.go (fun e=>(hp e).1) (En.go (fun e=>(hp e).2) (En.bif (fun _=>.some trivial) fun _=>ihm _ (by omega) (by omega)))))))))
      exact inner _ 0 (Int.self_le_toNat _) (by omega)
  exact key _ 0 (Int.self_le_toNat _) (by omega)
theorem I3 (t:List GRules) (ht:t.length≤2) (hm:∀ r∈t,r.Members.length≤3) (day:Int):En (fun _=>True) (n9 t day):=by
  rw [yn,al (n:=(t.length:Int) - 1) (by omega) (by omega)]
  have key:∀ (k:Nat) (i:Int) (z:GRules),i+1≤k→i < (t.length:Int)→En (fun _=>True) (gj t day i z):=by
    intro k
    induction k with
    | zero=>intro i z hk hi; rw [li]; exact En.ifd (fun h=>by omega) fun _=>.some trivial
    | succ k ih =>
      intro i z hk hi
      rw [li]
      refine En.ifd (fun h=>?_) fun _=>.some trivial
      have:=hm _ (iB (z:=zS .GRules) h hi)
      rw [qb,Option.bind_some,al (n:=i - 1) (by omega) (by omega)]
      exact En.bif (fun _=>En.gd h (En.gd hi (En.ifd (fun _=>En.gd h (En.gd hi (En.gd (by omega) (En.gd (by omega) (.some trivial))))) fun _=>ih _ _ (by omega) (by omega)))) fun _=>.some trivial
  exact key 3 _ _ (by omega) (by omega)
theorem Nv (l:List GFact) (hl:l.length≤30) (t:List GRules) (ht:t.length≤2) (hm:∀ r∈t,r.Members.length≤3):En (fun o=>o.length≤99000) (vF l t):=by
  rw [FM]
  refine .bind (LC t ht hm) fun _ _=>En.bif (fun _=>.some (by simp)) fun _=>?_
  rw [fZ l (by omega),Option.bind_some]
  have hc:=E8 hl
  refine .bind (HB hl) fun p hp=>?_
  rw [mm l (by omega),Option.bind_some]
  generalize l.filter eH = c at hc
  have hcl:=hc.1
  generalize oO l = life
  have seg:∀ (e:List Int),e.length≤90000→∀ (k:Nat) (i:Int) (out:List GSegment),(e.length:Int) - i≤k→0≤i→i≤(e.length:Int)→(out.length:Int)≤i→En (fun o=>o.length≤99000) (bI l t e i c p life out):=by
    intro e he k
    induction k with
    | zero =>
      intro i out hk h0 hi ho
      rw [nk,al (n:=i+1) (by omega) (by omega)]
      exact En.ifd (fun h=>by omega) fun _=>.some (by omega)
    | succ k ih =>
      intro i out hk h0 hi ho
      rw [nk,al (n:=i+1) (by omega) (by omega)]
      refine En.ifd (fun h=>?_) fun _=>.some (by omega)
      have nx:En (fun o=>o.length≤99000) (bI l t e (i+1) c p life out):=ih _ _ (by omega) (by omega) (by omega) (by omega)
      have hw:aa ((0:Int) < (out.length:Int)) = true→0≤ac ((out.length:Int) - 1)∧ac ((out.length:Int) - 1) < (out.length:Int):=by
        intro e
        have:=cE e
        rw [al (by omega) (by omega)]; omega
      have g0:∀ {x:Bool},(bif aa ((0:Int) < (out.length:Int)) then x else false) = true→aa ((0:Int) < (out.length:Int)) = true:=by
        intro x e; rw [ce,Bool.and_eq_true] at e; exact e.1
      have g0':∀ {x y:Bool},(bif (bif aa ((0:Int) < (out.length:Int)) then x else false) then y else false) = true→aa ((0:Int) < (out.length:Int)) = true:=by
        intro x y e; rw [ce (b:=y),Bool.and_eq_true] at e; exact g0 e.1
      have g0'':∀ {x y z:Bool},(bif (bif (bif aa ((0:Int) < (out.length:Int)) then x else false) then y else false) then z else false) = true→aa ((0:Int) < (out.length:Int)) = true:=by
        intro x y z e; rw [ce (b:=z),Bool.and_eq_true] at e; exact g0' e.1
      have an:∀ {a b:Bool},(a&&b) = true→a = true:=fun {a b} e=>(Bool.and_eq_true _ _ ▸ e).1
      rw [dT]
      simp only [Option.bind_some]
      refine En.gd h0 (En.gd (by omega) (.bind (I3 t ht hm _) fun r _=>En.go (fun _=>h0) (En.go (fun _=>by omega) (En.not (fun _=>?_) fun _=>?_))))
      · exact nx
      refine En.not (fun _=>nx) fun _=>En.gd h0 (En.gd (by omega) (.bind (Nh hl hc p (by omega) r.1 _) fun y _=>En.bif (fun _=>nx) fun _=>?_))
      refine En.go (fun q=>(hw (an q)).1) (En.go (fun q=>(hw (an q)).2) (En.go (fun _=>h0) (En.go (fun _=>by omega) (En.go (fun q=>(hw (g0 (an q))).1) (En.go (fun q=>(hw (g0 (an q))).2) (En.go (fun q=>(hw (g0' (an q))).1) (En.go (fun q=>(hw (g0' (an q))).2) (En.bif (fun q=>?_) fun _=>?_))))))))
      · have:=hw (g0'' q)
        exact En.gd this.1 (En.gd this.2 (En.gd (by omega) (En.gd (by omega) (En.gd this.1 (En.gd this.2 (ih _ _ (by omega) (by omega) (by omega) (by rw [List.length_set]; omega)))))))
      · exact En.gd h0 (En.gd (by omega) (En.gd (by omega) (En.gd (by omega) (En.gd (by omega) (En.gd (by omega) (ih _ _ (by omega) (by omega) (by omega) (by simp; omega)))))))
  have post:∀ (k:Nat) (i:Int) (e:List Int),(p.length:Int) - i≤k→0≤i→i≤(p.length:Int)→(e.length:Int)≤3000+2*i→En (fun o=>o.length≤99000) (fN l t e i c p life):=by
    intro k
    have fin:∀ e:List Int,e.length≤9000→En (fun o=>o.length≤99000) (bI l t e 0 c p life []):=fun e he=>seg e (by omega) _ 0 [] (Int.self_le_toNat _) (by omega) (by omega) (by simp)
    induction k with
    | zero=>intro i e hk h0 hi he; rw [nR]; exact En.ifd (fun h=>by omega) fun _=>fin e (by omega)
    | succ k ih =>
      intro i e hk h0 hi he
      rw [nR,al (n:=i+1) (by omega) (by omega)]
      exact En.ifd (fun h=>En.gd h0 (En.gd h (.bind (pB _ _ (by omega)) fun a ha=>En.gd h0 (En.gd h (.bind (pB _ _ (by omega)) fun b hb=>ih _ _ (by omega) (by omega) (by omega) (by omega)))))) fun _=>fin e (by omega)
  have rul:∀ (k:Nat) (i:Int) (e:List Int),(t.length:Int) - i≤k→0≤i→i≤(t.length:Int)→(e.length:Int)≤100+1201*i→En (fun o=>o.length≤99000) (eV l t e i c p life):=by
    intro k
    have fin:∀ e:List Int,e.length≤3000→En (fun o=>o.length≤99000) (fN l t e 0 c p life):=fun e he=>post _ 0 e (Int.self_le_toNat _) (by omega) (by omega) (by omega)
    induction k with
    | zero=>intro i e hk h0 hi he; rw [ov]; exact En.ifd (fun h=>by omega) fun _=>fin e (by omega)
    | succ k ih =>
      intro i e hk h0 hi he
      rw [ov]
      refine En.ifd (fun h=>En.gd h0 (En.gd h (.bind (pB _ _ (by omega)) fun a ha=>?_))) fun _=>fin e (by omega)
      have inn:∀ (m:Nat) (j:Int) (e:List Int),(p.length:Int) - j≤m→0≤j→j≤(p.length:Int)→(e.length:Int)≤101+1201*i+j→En (fun o=>o.length≤99000) (gW l t e i j c p life):=by
        intro m
        have fi:∀ e:List Int,(e.length:Int)≤100+1201*(i+1)→En (fun o=>o.length≤99000) (eV l t e (ac (i+1)) c p life):=by
          intro e he
          rw [al (n:=i+1) (by omega) (by omega)]
          exact ih _ _ (by omega) (by omega) (by omega) (by omega)
        induction m with
        | zero=>intro j e hj0 hj1 hj2 he; rw [mf]; exact En.ifd (fun h=>by omega) fun _=>fi e (by omega)
        | succ m ihm =>
          intro j e hj0 hj1 hj2 he
          rw [mf,al (n:=j+1) (by omega) (by omega)]
          exact En.ifd (fun hj=>En.gd hj1 (En.gd hj (En.gd h0 (En.gd h (.bind (pB _ _ (by omega)) fun b hb=>ihm _ _ (by omega) (by omega) (by omega) (by omega)))))) fun _=>fi e (by omega)
      exact inn _ 0 a (Int.self_le_toNat _) (by omega) (by omega) (by omega)
  have fac:∀ (k:Nat) (i:Int) (e:List Int),(c.length:Int) - i≤k→0≤i→i≤(c.length:Int)→(e.length:Int)≤2+2*i→En (fun o=>o.length≤99000) (jW l t e i c p life):=by
    intro k
    have fin:∀ e:List Int,e.length≤62→En (fun o=>o.length≤99000) (eV l t e 0 c p life):=fun e he=>rul _ 0 e (Int.self_le_toNat _) (by omega) (by omega) (by omega)
    induction k with
    | zero=>intro i e hk h0 hi he; rw [ow]; exact En.ifd (fun h=>by omega) fun _=>fin e (by omega)
    | succ k ih =>
      intro i e hk h0 hi he
      rw [ow,al (n:=i+1) (by omega) (by omega)]
      exact En.ifd (fun h=>En.gd h0 (En.gd h (.bind (pB _ _ (by omega)) fun a ha=>En.gd h0 (En.gd h (.bind (pB _ _ (by omega)) fun b hb=>ih _ _ (by omega) (by omega) (by omega) (by omega)))))) fun _=>fin e (by omega)
  exact fac _ 0 _ (Int.self_le_toNat _) (by omega) (by omega) (by simp)
end Go.Ax
set_option linter.all false
/- The law of a day, function by function; the example of chapter 15; LawUnder. -/
set_option maxRecDepth 100000
namespace Go.Ax
def kP (s:GSpan) (day:Int):Bool:=bif aa (s.From≤day) then aa (day < s.To) else false
theorem zO (s:GSpan) (d:Int):eD s d = some (kP s d):=tc s d
theorem Gi (ks:List Int) (v:Int) (hl:ks.length≤1000000):iS ks v = some (ks.any fun k=>ai v k):=by
  rw [vC,AS]
  refine (mq ks (fun i=>(cZ ks v (ks.length:Int) i).bind fun r0=>some (aa (0≤r0))) (fun k=>ai v k) (some true) (some false) ?_ fun i hi=>?_).trans (by cases ks.any _ <;> rfl)
  · show (cZ ks v (ks.length:Int) (ks.length:Int)).bind _ = _
    rw [l4,cI]; rfl
  · show (cZ ks v (ks.length:Int) (i:Int)).bind _ = if ai v ks[i] = true then _ else (cZ ks v (ks.length:Int) _).bind _
    rw [l4]
    simp only [cg hi,cN,cond_true,aX,Bool.or_true,cD hi,cH hi (by omega)]
    cases ai v ks[i] with
    | true=>rw [cond_true,Option.bind_some,aY (by omega)]; rfl
    | false=>rfl
theorem xD (l:List GSpan) (day:Int) (hl:l.length≤1000000):mI l day = some (!(aa (day < 0))&&(!(aa (73049≤day))&&l.any fun s=>kP s day)):=by
  rw [xl,qW,uG]
  have:(bq l day (l.length:Int) 0).bind (fun r0=>some (aa (0≤r0))) = some (l.any fun s=>kP s day):=by
    refine (mq l (fun i=>(bq l day (l.length:Int) i).bind fun r0=>some (aa (0≤r0))) (fun s=>kP s day) (some true) (some false) ?_ fun i hi=>?_).trans (by cases l.any _ <;> rfl)
    · show (bq l day (l.length:Int) (l.length:Int)).bind _ = _
      rw [j6,cI]; rfl
    · show (bq l day (l.length:Int) (i:Int)).bind _ = if kP l[i] day = true then _ else (bq l day (l.length:Int) _).bind _
      rw [j6]
      simp only [cg hi,cN,cond_true,aX,Bool.or_true,cD hi,cH hi (by omega)]
      rw [uN,Option.bind_some]
      show Option.bind (bif kP l[i] day then (some (i:Int)) else _) _ = _
      cases kP l[i] day with
      | true=>rw [cond_true,Option.bind_some,aY (by omega)]; rfl
      | false=>rfl
  rw [this]
  cases aa (day < 0) <;> cases aa (73049≤day) <;> rfl
def ND (day:Int) (ks:List Int) (f:GFact):Bool:=(ks.any fun k=>ai f.Kind k)&&kP f.Span day
theorem Hi (x:GCompetence_life) (day:Int) (ks:List Int) (hl:x.facts.length≤1000000) (hk:ks.length≤1000):bK x day ks = some (x.facts.filter (ND day ks)):=by
  rw [sB]
  refine (EI x.facts (fun i out=>aS day ks x.facts (x.facts.length:Int) i out) (ND day ks) fun i out hi ho=>?_).trans ?_
  · show aS _ _ _ _ _ _ = aS _ _ _ _ _ _
    rw [iY]
    simp only [cg hi,cN,cond_true,aX,Bool.or_true,cD hi,cH hi (by omega)]
    rw [Gi _ _ (by omega),Option.bind_some,zO,Option.bind_some,pH]
    unfold ND
    cases (ks.any fun k=>ai x.facts[i].Kind k) <;> cases kP x.facts[i].Span day <;> rfl
  · show aS _ _ _ _ _ _ = _
    rw [iY,cI]; rfl
theorem EA (l:List GFact) (hl:l.length≤1000000) (h:∀ f∈l.filter eH,f.Kind≠4):iO l = some []:=by
  rw [ro,nI l hl,Option.bind_some]
  have hle:=List.length_filter_le eH l
  generalize l.filter eH = c at h hle ⊢
  refine (mq c (fun i=>bg l (c.length:Int) i [] [] c) (fun f=>ai f.Kind 4) none (some []) ?_ fun i hi=>?_).trans ?_
  · show bg _ _ _ _ _ _ = _
    rw [iv,cI,cond_false,nu]; rfl
  · show bg _ _ _ _ _ _ = if ai c[i].Kind 4 = true then _ else bg _ _ _ _ _ _
    rw [iv]
    simp only [cg hi,cN,cond_true,aX,Bool.or_true,cD hi,cH hi (by omega)]
    cases ai c[i].Kind 4 <;> rfl
  · have:(c.any fun f=>ai f.Kind 4) = false:=by
      rw [List.any_eq_false]
      intro f hf
      simpa [ai] using h f hf
    rw [this]; rfl
theorem DD (d:Int):jH d = some (bif aa (0≤d) then aa (d≤73048) else false):=xE d
theorem zL (x h:Int):fA x h = some (bif aa (0≤x) then aa (x≤h) else false):=yM x h
def LB (r:GRules):Prop:=0≤r.From∧r.From≤73048∧0≤r.MinDays∧r.MinDays≤73049∧0≤r.PostingLimit∧r.PostingLimit≤73049∧0≤r.Substantial∧r.Substantial≤100
def NI (ms:List Int):Prop:=ms.length≤100∧∀ (i:Nat) (hi:i < ms.length),0≤ms[i]∧ms[i]≤5∧∀ h:0 < i,ms[i - 1] < ms[i]
theorem JS (r:GRules) (h:LB r) (hm:NI r.Members):pJ r = some true:=by
  obtain ⟨a1,a2,a3,a4,a5,a6,a7,a8⟩:=h
  obtain ⟨b1,b2⟩:=hm
  rw [Al]
  simp only [DD,zL,Option.bind_some,aY a1,aY a2,aY a3,aY a4,aY a5,aY a6,aY a7,aY a8,cond_true,Bool.not_true,cond_false]
  refine (mq r.Members (fun i=>cY r.Members (r.Members.length:Int) i r) (fun _=>false) none (some true) ?_ fun i hi=>?_).trans (by simp)
  · show cY _ _ _ _ = _
    rw [mj,cI]; rfl
  · show cY _ _ _ _ = if (false:Bool) = true then none else cY r.Members (r.Members.length:Int) ((i+1:Nat):Int) r
    rw [if_neg (by simp)]
    obtain ⟨c1,c2,c3⟩:=b2 i hi
    rw [mj]
    simp only [cg hi,cN,cond_true,aX,Bool.or_true,cD hi,cH hi (by omega)]
    rw [zL,aY c1,aY c2,cond_true,Option.bind_some]
    by_cases h0:0 < i
    · have e:ac ((i:Int) - 1) = ((i - 1:Nat):Int):=by rw [al (by omega) (by omega)]; omega
      rw [e,pD (by simp),pD (by simp; omega),cD (l:=r.Members) (i:=i - 1) (by omega),fc (p:=r.Members[i]≤r.Members[i - 1]) (by have:=c3 h0; omega)]
      cases aa (0 < (i:Int)) <;> simp
    · have:i = 0:=by omega
      subst this
      simp
      rfl
theorem Mf (t:List GRules) (ht:t.length≤8) (h0:0 < t.length) (hf:(gD t 0 (zS .GRules)).From = 0) (h:∀ (i:Nat) (hi:i < t.length),LB t[i]∧NI t[i].Members∧∀ h:0 < i,t[i - 1].From < t[i].From):pK t = some 0:=by
  rw [Ak,fc (p:=8 < (t.length:Int)) (by omega),cond_false]
  have e:ai (t.length:Int) 0 = false:=wQ.2 (by omega)
  rw [e,aY (p:=0 < (t.length:Int)) (by omega),hf,EN.2 rfl]
  show bZ _ _ _ _ = _
  refine (mq t (fun i=>bZ t t (t.length:Int) i) (fun _=>false) none (some 0) ?_ fun i hi=>?_).trans (by simp)
  · show bZ _ _ _ _ = _
    rw [lU,cI]; rfl
  · show bZ _ _ _ _ = if (false:Bool) = true then none else bZ t t (t.length:Int) ((i+1:Nat):Int)
    rw [if_neg (by simp)]
    obtain ⟨c1,c2,c3⟩:=h i hi
    rw [lU]
    simp only [cg hi,cN,cond_true,aX,Bool.or_true,cD hi,cH hi (by omega)]
    rw [JS _ c1 c2,Option.bind_some]
    by_cases h0:0 < i
    · have e:ac ((i:Int) - 1) = ((i - 1:Nat):Int):=by rw [al (by omega) (by omega)]; omega
      rw [e,pD (by simp),pD (by simp; omega),cD (l:=t) (i:=i - 1) (by omega),fc (p:=t[i].From≤t[i - 1].From) (by have:=c3 h0; omega)]
      cases aa (0 < (i:Int)) <;> simp
    · have:i = 0:=by omega
      subst this
      simp
      rfl
def Mw (day:Int) (f:GFact):Bool:=eH f&&(ai f.Kind 5&&kP f.Span day)
def Id (ok:Bool) (best f:GFact):Bool:=!ok||(aa (best.Span.From < f.Span.From)||(ai f.Span.From best.Span.From&&aa (f.State < best.State)))
def o5 (day:Int) (s:Bool × GFact) (f:GFact):Bool × GFact:=bif Mw day f then (bif Id s.1 s.2 f then (true,f) else s) else s
theorem tg (l:List GFact) (day:Int) (hl:l.length≤1000000):dH l day =
    some (bif (bif aa (0≤day) then aa (day≤73048) else false)&&kP (oO l) day then ((l.foldl (o5 day) (false,zS .GFact)).2.State,(l.foldl (o5 day) (false,zS .GFact)).1) else (0,false)):=by
  rw [uH,DD,Option.bind_some,qA l hl,Option.bind_some,xD _ _ (by simp),Option.bind_some]
  have e:(!(aa (day < 0))&&(!(aa (73049≤day))&&[oO l].any fun s=>kP s day)) = ((bif aa (0≤day) then aa (day≤73048) else false)&&kP (oO l) day):=by
    rw [ce,List.any_cons,List.any_nil,Bool.or_false]
    have e1:aa (0≤day) = !(aa (day < 0)):=by
      by_cases h:0≤day
      · rw [aY h,fc (p:=day < 0) (by omega)]; rfl
      · rw [fc h,aY (p:=day < 0) (by omega)]; rfl
    have e2:aa (day≤73048) = !(aa (73049≤day)):=by
      by_cases h:73049≤day
      · rw [aY h,fc (p:=day≤73048) (by omega)]; rfl
      · rw [fc h,aY (p:=day≤73048) (by omega)]; rfl
    rw [e1,e2,Bool.and_assoc]
  rw [e]
  have loop:aJ day false l (l.length:Int) 0 (⟨0,0,0,false,0,0,0,(⟨0,0⟩:GSpan),0,0,0,0,0⟩:GFact) = some ((l.foldl (o5 day) (false,zS .GFact)).2.State,(l.foldl (o5 day) (false,zS .GFact)).1):=by
    refine (wV l (fun i (s:Bool × GFact)=>aJ day s.1 l (l.length:Int) i s.2) (o5 day) (fun _ _=>True) (fun i s hi _=>⟨?_,trivial⟩) (false,zS .GFact) trivial).1.trans ?_
    · show aJ _ _ _ _ _ _ = aJ _ _ _ _ _ _
      rw [js]
      simp only [cg hi,cN,cond_true,aX,Bool.or_true,cD hi,cH hi (by omega)]
      rw [jB,Option.bind_some]
      generalize l[i] = f
      obtain ⟨ok,best⟩:=s
      unfold o5 Mw Id kP
      have e1:aa (day < f.Span.From) = !(aa (f.Span.From≤day)):=by
        by_cases h:f.Span.From≤day
        · rw [aY h,fc (p:=day < f.Span.From) (by omega)]; rfl
        · rw [fc h,aY (p:=day < f.Span.From) (by omega)]; rfl
      have e2:aa (f.Span.To≤day) = !(aa (day < f.Span.To)):=by
        by_cases h:day < f.Span.To
        · rw [aY h,fc (p:=f.Span.To≤day) (by omega)]; rfl
        · rw [fc h,aY (p:=f.Span.To≤day) (by omega)]; rfl
      have e3:br f.Kind 5 = !(ai f.Kind 5):=rfl
      rw [e1,e2,e3]
      show _ = aJ day _ l (l.length:Int) _ _
      cases eH f <;> cases ai f.Kind 5 <;> cases aa (f.Span.From≤day) <;> cases aa (day < f.Span.To) <;> cases ok <;> cases aa (best.Span.From < f.Span.From) <;> cases ai f.Span.From best.Span.From <;> cases aa (f.State < best.State) <;> rfl
    · show aJ _ _ _ _ _ _ = _
      rw [js,cI,cond_false]
  rw [loop]
  cases (bif aa (0≤day) then aa (day≤73048) else false) <;> cases kP (oO l) day <;> rfl
def z8:GFact:=⟨0,1,1,false,1,5,1,⟨100,200⟩,0,0,0,0,0⟩
def nw:GFact:=⟨0,2,1,false,1,1,1,⟨100,200⟩,2,20,1,0,0⟩
def ny:GFact:=⟨0,3,1,false,1,1,2,⟨100,200⟩,2,80,1,0,0⟩
def Az:GCompetence_life:=⟨[z8,nw,ny],oO [z8,nw,ny],[],[⟨0,0,0,25,[]⟩]⟩
theorem Mq:[z8,nw,ny].filter eH = [z8,nw,ny]:=by kernel_rfl
theorem Om:bK Az 150 [1,2] = some [nw,ny]:=by
  rw [Hi _ _ _ (by decide) (by decide)]; kernel_rfl
theorem N6:bK Az 150 [1] = some [nw,ny]:=by
  rw [Hi _ _ _ (by decide) (by decide)]; kernel_rfl
theorem Oe:bK Az 150 [3] = some []:=by
  rw [Hi _ _ _ (by decide) (by decide)]; kernel_rfl
theorem N2:dH [z8,nw,ny] 150 = some (1,true):=by
  rw [tg _ _ (by decide)]; kernel_rfl
theorem MT:ip [nw,ny] = some [2]:=by
  rw [uJ]
  refine Eq.trans (b:=dn [nw,ny] 2 1 [2]) (by rw [fw]; kernel_rfl) ?_
  refine Eq.trans (b:=dn [nw,ny] 2 2 [2,2]) (by rw [fw]; kernel_rfl) ?_
  rw [fw]; kernel_rfl
theorem NY:eZ Az 150 25 = some (2,true):=by
  rw [nB,Om,Option.bind_some]
  refine Eq.trans (b:=bF 150 25 20 2 1 Az [1] [20] [nw,ny]) (by rw [di]; kernel_rfl) ?_
  refine Eq.trans (b:=bF 150 25 100 2 2 Az [1,2] [20,80] [nw,ny]) (by rw [di]; kernel_rfl) ?_
  rw [di,N6]
  show Option.bind (dH [z8,nw,ny] 150) _ = _
  rw [N2]
  show Option.bind (ip [nw,ny]) _ = _
  rw [MT]
  kernel_rfl
theorem Ox:wc [⟨0,0,0,25,[]⟩] 150 = some (⟨0,0,0,25,[]⟩,true):=by
  show qN [⟨0,0,0,25,[]⟩] 150 = _
  kernel_rfl
theorem Nr:fp Az 150 0 = some (0,false):=by
  rw [oc,ly]; kernel_rfl
theorem MH:gH Az 150 = some (0,false):=by
  rw [pV,Oe,Option.bind_some,mw]; kernel_rfl
theorem MY:rH = some true:=by
  rw [BI]
  have e:kG [z8,nw,ny] [⟨0,0,0,25,[]⟩] 150 = some (2,3):=by
    have hP:jz [z8,nw,ny] [⟨0,0,0,25,[]⟩] = some (Az,true):=by
      rw [sy,nI _ (by decide),Option.bind_some,Mq,qA _ (by decide),Option.bind_some,EA _ (by decide) (by rw [Mq]; decide),Option.bind_some,
        Mf _ (by decide) (by decide) rfl (fun i hi=>by
          have:i = 0:=by simp at hi; omega
          subst this
          exact ⟨by simp [LB],⟨by simp,fun i hi=>by simp at hi⟩,fun h=>by omega⟩)]
      rfl
    rw [yO,hP,Option.bind_some,q8]
    show ((wc [⟨0,0,0,25,[]⟩] 150).bind _).bind _ = _
    rw [Ox,Option.bind_some,zO,Nr,MH,NY]
    kernel_rfl
  show (kG [z8,nw,ny] [⟨0,0,0,25,[]⟩] 150).bind _ = _
  rw [e]
  kernel_rfl
theorem Hu (l:List GPensionhand_Fact) (n:List Int) (dense:Bool) (hn:n.length≤100000000):En (fun a:List GFact=>a.length≤30) (qd l n dense):=by
  rw [AK]
  have fin:∀ out:List GFact,out.length≤12→En (fun a:List GFact=>a.length≤30) (bif aa ((0:Int) < (n.length:Int)) then (oG n).bind fun r1=>(ui r1 1).bind fun r2=>gb (aa (((out.length+r2.length)*112)≤140737488355328))<|gb (aa ((out.length+r2.length)≤140737488355328))<|(iK (out++r2) []).bind fun r3=>some r3
      else (iK out []).bind fun r4=>some r4):=by
    intro out ho
    refine En.bif (fun _=>.bind (Mj n hn) fun r1 h1=>?_) fun _=>.bind (Fw out [] (by simp; omega)) fun r h=>.some (by simp at h; omega)
    rw [Fs r1 1 (by omega),Option.bind_some]
    have hf:=List.length_filter_le (Mt 1) r1
    exact En.gd (by omega) (En.gd (by omega) (.bind (Fw _ [] (by simp; omega)) fun r h=>.some (by simp at h; omega)))
  have key:∀ (k:Nat) (i:Int) (out:List GFact),12 - i≤k→0≤i→i≤12→(out.length:Int)≤i→En (fun a:List GFact=>a.length≤30) (gQ l n dense i out):=by
    intro k
    induction k with
    | zero=>intro i out hk h0 hi ho; rw [mh]; exact En.and (fun _ e=>by have:=cE e; omega) fun _=>fin out (by omega)
    | succ k ih =>
      intro i out hk h0 hi ho
      rw [mh]
      refine En.and (fun a b=>?_) fun _=>fin out (by omega)
      have a:=cE a
      have b:=cE b
      have nx:∀ r,En (fun a:List GFact=>a.length≤30) (d9 l n dense i out r):=by
        intro r
        rw [rL,al (n:=i+1) (by omega) (by omega)]
        exact .bind (M5 r) fun f _=>En.gd (by omega) (En.gd (by omega) (ih _ _ (by omega) (by omega) (by omega) (by simp; omega)))
      exact En.gd h0 (En.gd a (En.bif (fun _=>.bind (yU _ 60 (by decide) (by decide)) fun _ _=>.bind (yU _ 40 (by decide) (by decide)) fun _ _=>.bind (yU _ 14 (by decide) (by decide)) fun _ _=>En.bif (fun _=>nx _) fun _=>nx _) fun _=>nx _))
  exact key 12 0 [] (by omega) (by omega) (by omega) (by simp)
theorem Kb (n:List Int) (hn:n.length≤100000000):En AM (rF n 0):=by
  rw [Ce]
  exact .bind (MQ n hn) fun y h=>.some h
theorem Fp (l:List GPensionhand_Fact) (n:List Int) (dense:Bool) (raw:List GSegment) (state rule:Int):sb l n dense raw state rule = some true:=by
  rw [xB]
  cases hc:(bif aa (60 < (n.length:Int)) then true else aa (30 < (raw.length:Int))) with
  | true=>rfl
  | false =>
    have hn:n.length≤60∧raw.length≤30:=by
      rw [kh] at hc
      have:=mM (Bool.or_eq_false_iff.1 hc).1
      have:=mM (Bool.or_eq_false_iff.1 hc).2
      omega
    rw [cond_false]
    obtain ⟨a,ha,h1⟩:=Hu l n dense (by omega)
    obtain ⟨y,hy,h2⟩:=Kb n (by omega)
    obtain ⟨m1,m2⟩:=LE h2
    obtain ⟨w,hw,h3⟩:=Nv a h1 y m1 m2
    rw [ha,Option.bind_some,hy,Option.bind_some,hw,Option.bind_some,od state 4 (by omega),Option.bind_some,od rule 7 (by omega),Option.bind_some,MY,Option.bind_some,cond_true]
    generalize (if (4:Int) < 1 then 0 else state % 4) = st
    generalize (if (7:Int) < 1 then 0 else rule % 7) = rk
    have l1:=List.length_filter_le (lu st rk) w
    have l2:=List.length_filter_le (lu st rk) raw
    rw [lL w st rk (by omega),Option.bind_some,qD w st rk (by omega),Option.bind_some]
    have n1:=AX (io (nt w st rk)).1
    have n2:=AX (io (nt raw st rk)).1
    rw [sE _ (by omega),Option.bind_some,cond_true,lL raw st rk (by omega),Option.bind_some,qD raw st rk (by omega),Option.bind_some,sE _ (by omega)]
    rfl
end Go.Ax
