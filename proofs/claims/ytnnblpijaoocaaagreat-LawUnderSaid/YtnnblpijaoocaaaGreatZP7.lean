import Derived.Test.YtnnblpijaoocaaaGreatZP6
set_option linter.all false
/- The document's validity; facts that count; life. -/
set_option maxRecDepth 100000
namespace Go.Ax
theorem C4 (k:Int) (c:Nat) (hc:c < 256):ub k (c:Int) = some (cX k c):=by
  rw [Eh,jR,Option.bind_some]
  have hn:=ph k
  have hs:=qR k
  unfold cX
  generalize cW k = l at hn hs
  have:=mq l (fun i=>dE c (ab l) i) (fun x=>x == c) (some true) (some false) (by
    show dE _ _ _ = _
    rw [oB,aq,cI]; rfl) fun i hi=>by
      show dE _ _ _ = if _ then _ else dE _ _ _
      rw [oB,aq]
      simp only [cg hi,cN,cond_true,aX,Bool.or_true,cD hi,cH hi (by omega)]
      rw [Int.toNat_natCast,JP l i hi]
      have hv:((UInt8.ofNat l[i]).toNat:Int) = (l[i]:Int):=by
        have:=hs _ (List.getElem_mem hi)
        simp [Nat.mod_eq_of_lt this]
      rw [hv]
      by_cases e:l[i] = c
      · rw [o7.2 (by omega),if_pos (by simp [e])]; rfl
      · rw [wQ.2 (by omega),if_neg (by simp [e])]; rfl
  rw [this]
  have e2:l.any (fun x=>x == c) = l.contains c:=by rw [List.contains_eq_any_beq]; congr 1; funext x; exact Bool.beq_comm
  rw [e2]
  cases l.contains c <;> rfl
theorem eo (k:Int) (c:Nat) (hc:c < 256) (n l m:Int):bH k (c:Int) n l m = some (bn (cX k c) n l m):=by
  rw [CO,C4 k c hc,Option.bind_some]
  unfold bn en
  cases cX k c
  · rfl
  · simp only [cond_true,ce,if_true]
theorem rf (k n l m:Int):(bH k 83 n l m = some (bn (cX k 83) n l m))∧(bH k 84 n l m = some (bn (cX k 84) n l m))∧(bH k 72 n l m = some (bn (cX k 72) n l m)) ∧
    (bH k 67 n l m = some (bn (cX k 67) n l m))∧(bH k 65 n l m = some (bn (cX k 65) n l m))∧(bH k 82 n l m = some (bn (cX k 82) n l m)) :=
  ⟨eo k 83 (by decide) n l m,eo k 84 (by decide) n l m,eo k 72 (by decide) n l m,eo k 67 (by decide) n l m,eo k 65 (by decide) n l m,eo k 82 (by decide) n l m⟩
theorem td {f:GFact} (h:eC f = true→False):some false = some (eC f):=by
  cases hv:eC f with
  | false=>rfl
  | true=>exact (h hv).elim
theorem fP (f:GFact):fW f = some (eC f):=by
  rw [BQ,jR]
  have out:∀ {p:Prop} [Decidable p] {o:Option Bool},(p→eC f = true→False)→(¬ p→o = some (eC f))→(bif aa p then some false else o) = some (eC f):=by
    intro p _ o h1 h2
    by_cases hp:p
    · rw [aY hp,cond_true]; exact td (h1 hp)
    · rw [fc hp,cond_false]; exact h2 hp
  have V:=zP f
  refine out (fun h hv=>?_) fun c1=>out (fun h hv=>?_) fun c2=>out (fun h hv=>?_) fun c3=>out (fun h hv=>?_) fun c4=>out (fun h hv=>?_) fun c5=>out (fun h hv=>?_) fun c6=>out (fun h hv=>?_) fun c7=>out (fun h hv=>?_) fun c8=>?_
  any_goals (obtain ⟨g0,g1,g2,g3,g4,_⟩:=V.1 hv; omega)
  rw [Option.bind_some,FH]
  cases h0:(cW f.Kind).isEmpty with
  | true=>rw [cond_true]; exact td fun hv=>by obtain ⟨g0,_⟩:=V.1 hv; rw [g0] at h0; cases h0
  | false =>
    rw [cond_false]
    simp only [kh,ce]
    cases h2:(aa (f.Span.From < 0)||aa (f.Span.To≤f.Span.From)||aa (73049 < f.Span.To)) with
    | true =>
      rw [cond_true]
      refine td fun hv=>?_
      obtain ⟨g0,g1,g2,g3,g4,_,_,g5,_⟩:=V.1 hv
      simp only [Bool.or_eq_true,decide_eq_true_eq] at h2
      omega
    | false =>
      rw [cond_false]
      simp only [Bool.or_eq_false_iff,decide_eq_false_iff_not] at h2
      rw [al (by omega) (by omega)]
      cases h3:((ai f.Kind 11||ai f.Kind 12)&&br (f.Span.To - f.Span.From) 1||ai f.Kind 4&&ai f.Seat f.State||(ai f.Kind 10||ai f.Kind 14)&&ai f.Ref f.Person) with
      | true =>
        rw [cond_true]
        refine td fun hv=>?_
        obtain ⟨_,g1,g2,g3,g4,_,_,g5,_,_,_,_,g6⟩:=V.1 hv
        unfold tG at g6
        simp only [Bool.or_eq_true,Bool.and_eq_true,beq_iff_eq,bne_iff_ne,ne_eq,ai,br] at h3
        split at g6
        · simp only [bne_iff_ne,ne_eq] at g6; omega
        · split at g6
          · simp only [beq_iff_eq] at g6; omega
          · split at g6
            · simp only [bne_iff_ne,ne_eq] at g6; omega
            · omega
      | false =>
        rw [cond_false]
        have hf:=fun n l m=>rf f.Kind n l m
        simp only [(hf _ _ _).1,(hf _ _ _).2.1,(hf _ _ _).2.2.1,(hf _ _ _).2.2.2.1,(hf _ _ _).2.2.2.2.1,(hf _ _ _).2.2.2.2.2,Option.bind_some]
        have hkind:tG f = true:=by
          simp only [Bool.or_eq_false_iff,Bool.and_eq_false_iff,beq_eq_false_iff_ne,bne_eq_false_iff_eq,ne_eq,ai,br] at h3
          unfold tG
          split
          · simp only [bne_iff_ne,ne_eq]; omega
          · split
            · simp only [beq_iff_eq]; omega
            · split
              · simp only [bne_iff_ne,ne_eq]; omega
              · rfl
        have e:∀ (a b:Bool),(bif a then some b else some false) = some (a&&b):=by intro a b; cases a <;> rfl
        simp only [e,Option.some.injEq]
        rw [Bool.eq_iff_iff,V]
        simp only [Bool.and_eq_true]
        constructor
        · rintro ⟨a1,a2,a3,a4,a5,a6⟩
          exact ⟨h0,by omega,by omega,by omega,by omega,a1,a2,by omega,a3,a4,a5,a6,hkind⟩
        · rintro ⟨_,_,_,_,_,a1,a2,_,a3,a4,a5,a6,_⟩
          exact ⟨a1,a2,a3,a4,a5,a6⟩
def Mt (person:Int) (f:GFact):Bool:=ai f.Person person
theorem Fs (l:List GFact) (person:Int) (hn:l.length≤1000000):ui l person = some (l.filter (Mt person)):=by
  rw [HR]
  refine (EI l (fun i out=>dZ l person i out) (Mt person) fun i out hi ho=>?_).trans ?_
  · show dZ _ _ _ _ = dZ _ _ _ _
    rw [qj]
    simp only [cg hi,cN,cond_true,aX,Bool.or_true,cD hi,cH hi (by omega)]
    rw [pH]
    unfold Mt
    cases ai l[i].Person person <;> rfl
  · show dZ _ _ _ _ = _
    rw [qj,cI]; rfl
def eH (f:GFact):Bool:=eC f&&!f.Withdrawn
theorem jB (f:GFact):gF f = some (eH f):=by
  rw [xx,CE,Option.bind_some,ce]; rfl
theorem fZ (l:List GFact) (hn:l.length≤1000000):fy l = some (l.filter eH):=by
  rw [yz]
  refine (EI l (fun i out=>bY l i out) eH fun i out hi ho=>?_).trans ?_
  · show bY _ _ _ = bY _ _ _
    rw [lr]
    simp only [cg hi,cN,cond_true,aX,Bool.or_true,cD hi,cH hi (by omega)]
    rw [fP,Option.bind_some,pH]
    unfold eH
    cases eC l[i] <;> cases l[i].Withdrawn <;> rfl
  · show bY _ _ _ = _
    rw [lr,cI]; rfl
theorem nI (l:List GFact) (hn:l.length≤1000000):jG l = some (l.filter eH):=by
  rw [xw,yG]
  have:bB l (l.length:Int) 0 [] = some (l.filter eH):=by
    refine (EI l (fun i out=>bB l (l.length:Int) i out) eH fun i out hi ho=>?_).trans ?_
    · show bB _ _ _ _ = bB _ _ _ _
      rw [ln]
      simp only [cg hi,cN,cond_true,aX,Bool.or_true,cD hi,cH hi (by omega)]
      rw [jB,Option.bind_some,pH]
      cases eH l[i] <;> rfl
    · show bB _ _ _ _ = _
      rw [ln,cI]; rfl
  rw [this]; rfl
def Hl (kind:Int) (f:GFact) (a:Int × Bool):Int × Bool:=if (ai f.Kind kind&&(!a.2||aa (f.Span.From < a.1))) = true then (f.Span.From,true) else a
def iz (l:List GFact) (kind:Int):Int × Bool:=(l.filter eH).foldl (fun a f=>Hl kind f a) (0,false)
theorem n8 {A:Type} (p:GFact→Bool) (g:A→GFact→A):∀ (l:List GFact) (a:A),(l.filter p).foldl g a = l.foldl (fun a f=>if p f = true then g a f else a) a
  | [],_=>rfl
  | f :: l,a=>by
    rw [List.filter_cons,List.foldl_cons]
    by_cases h:p f = true
    · rw [if_pos h,if_pos h,List.foldl_cons,n8 p g l]
    · rw [if_neg h,if_neg h,n8 p g l]
theorem pe (l:List GFact) (kind:Int) (hn:l.length≤1000000):lA l kind = some (iz l kind):=by
  rw [AO]
  have:=(wV l (fun i (a:Int × Bool)=>cz kind a.1 a.2 l (l.length:Int) i) (fun a f=>if eH f = true then Hl kind f a else a) (fun _ _=>True) (fun i a hi _=>⟨?_,trivial⟩) (0,false) trivial).1
  · refine Eq.trans this ?_
    show cz _ _ _ _ _ _ = _
    rw [md,cI]
    unfold iz
    rw [n8]; rfl
  · show cz _ _ _ _ _ _ = cz _ _ _ _ _ _
    rw [md]
    simp only [cg hi,cN,cond_true,aX,Bool.or_true,cD hi,cH hi (by omega)]
    rw [jB,Option.bind_some]
    unfold Hl
    simp only [ce,kh]
    cases eH l[i] with
    | false=>rfl
    | true =>
      simp only [Bool.true_and,if_true]
      cases (ai l[i].Kind kind&&(!a.2||aa (l[i].Span.From < a.1))) <;> rfl
theorem qq (l:List GFact) (kind:Int) (hn:l.length≤1000000):mX l kind = some (iz l kind):=by
  rw [Bj,fZ l hn,Option.bind_some]
  have hc:(l.filter eH).length≤l.length:=List.length_filter_le _ _
  unfold iz
  generalize l.filter eH = c at hc
  have:=(wV c (fun i (a:Int × Bool)=>ck kind a.1 a.2 i c) (fun a f=>Hl kind f a) (fun _ _=>True) (fun i a hi _=>⟨?_,trivial⟩) (0,false) trivial).1
  · refine Eq.trans this ?_
    show ck _ _ _ _ _ = _
    rw [lY,cI]; rfl
  · show ck _ _ _ _ _ = ck _ _ _ _ _
    rw [lY]
    simp only [cg hi,cN,cond_true,aX,Bool.or_true,cD hi,cH hi (by omega)]
    unfold Hl
    simp only [ce,kh]
    cases (ai c[i].Kind kind&&(!a.2||aa (c[i].Span.From < a.1))) <;> rfl
def oO (l:List GFact):GSpan :=
  let d:=if (iz l 12).2 then (iz l 12).1 else 73048
  if d < (iz l 11).1 then ⟨0,0⟩ else ⟨(iz l 11).1,ac (d+1)⟩
theorem Im (a b:Int × Bool):(bif (!b.2) then bif aa (73048 < a.1) then some (⟨0,0⟩:GSpan) else some (⟨a.1,73049⟩:GSpan) else bif aa (b.1 < a.1) then some (⟨0,0⟩:GSpan) else some (⟨a.1,(ac (b.1+1))⟩:GSpan)) =
    some (let d:=if b.2 then b.1 else 73048; if d < a.1 then ⟨0,0⟩ else ⟨a.1,ac (d+1)⟩):=by
  cases b.2 with
  | false =>
    simp only [Bool.not_false,cond_true]
    by_cases h:73048 < a.1
    · simp [h]
    · simp [h,show ac 73049 = 73049 from al (by omega) (by omega)]
  | true =>
    simp only [Bool.not_true,cond_false,if_true]
    by_cases h:b.1 < a.1
    · simp [h]
    · simp [h]
theorem yS (l:List GFact) (hn:l.length≤1000000):pZ l = some (iz l 11):=by rw [Au,pe l 11 hn]; rfl
theorem yX (l:List GFact) (hn:l.length≤1000000):pG l = some (iz l 12):=by rw [AY,pe l 12 hn]; rfl
theorem Aq (l:List GFact) (hn:l.length≤1000000):qV l = some (iz l 11):=by rw [Cp,qq l 11 hn]; rfl
theorem zZ (l:List GFact) (hn:l.length≤1000000):rJ l = some (iz l 12):=by rw [Bf,qq l 12 hn]; rfl
theorem qA (l:List GFact) (hn:l.length≤1000000):mU l = some (oO l):=by
  rw [Bo,yS l hn,Option.bind_some,yX l hn,Option.bind_some]
  exact Im _ _
theorem mm (l:List GFact) (hn:l.length≤1000000):lS l = some (oO l):=by
  rw [Er,Aq l hn,Option.bind_some,zZ l hn,Option.bind_some]
  exact Im _ _
end Go.Ax
set_option linter.all false
/- Spans: lists that are joined; Make. -/
set_option maxRecDepth 100000
namespace Go.Ax
def cV (l:List GSpan) (d:Int):Prop:=∃ s∈l,s.From≤d∧d < s.To
def cf (lo:Int):List GSpan→Prop
  | []=>True
  | s :: r=>lo < s.From∧s.From < s.To∧s.To≤73049∧cf s.To r
def wF (lo:Int):List GSpan→Int
  | []=>lo
  | s :: r=>wF s.To r
theorem aI {s:GSpan} {r:List GSpan} {d:Int}:cV (s :: r) d↔(s.From≤d∧d < s.To)∨cV r d:=by simp [cV]
theorem cQ {d:Int}:¬ cV [] d:=by simp [cV]
theorem mQ {a b:List GSpan} {d:Int}:cV (a++b) d↔cV a d∨cV b d:=by
  unfold cV
  constructor
  · rintro ⟨s,hs,h⟩
    rcases List.mem_append.1 hs with hs | hs
    · exact .inl ⟨s,hs,h⟩
    · exact .inr ⟨s,hs,h⟩
  · rintro (⟨s,hs,h⟩ | ⟨s,hs,h⟩)
    · exact ⟨s,List.mem_append.2 (.inl hs),h⟩
    · exact ⟨s,List.mem_append.2 (.inr hs),h⟩
theorem fX:∀ {l:List GSpan} {lo d:Int},cf lo l→cV l d→lo < d∧d < 73049
  | [],_,_,_,hc=>(cQ hc).elim
  | s :: r,lo,d,⟨h1,h2,h3,h4⟩,hc=>by
    rcases aI.1 hc with h | h
    · omega
    · have:=fX h4 h
      omega
theorem wu:∀ {a b:List GSpan} {lo:Int},cf lo a→cf lo b→(∀ d,cV a d↔cV b d)→a = b
  | [],[],_,_,_,_=>rfl
  | [],t :: u,_,_,hb,h=>(cQ ((h t.From).2 (aI.2 (.inl ⟨Int.le_refl _,hb.2.1⟩)))).elim
  | s :: r,[],_,ha,_,h=>(cQ ((h s.From).1 (aI.2 (.inl ⟨Int.le_refl _,ha.2.1⟩)))).elim
  | s :: r,t :: u,lo,⟨a1,a2,a3,a4⟩,⟨b1,b2,b3,b4⟩,h=>by
    have hs:=(h s.From).1 (aI.2 (.inl ⟨Int.le_refl _,a2⟩))
    have ht:=(h t.From).2 (aI.2 (.inl ⟨Int.le_refl _,b2⟩))
    have e1:s.From = t.From:=by
      rcases aI.1 hs with hs | hs
      · rcases aI.1 ht with ht | ht
        · omega
        · have:=fX a4 ht; omega
      · have:=fX b4 hs
        rcases aI.1 ht with ht | ht
        · omega
        · have:=fX a4 ht; omega
    have e2:s.To = t.To:=by
      rcases Int.lt_trichotomy s.To t.To with hlt | he | hlt
      · have:=(h s.To).2 (aI.2 (.inl ⟨by omega,hlt⟩))
        rcases aI.1 this with hc | hc
        · omega
        · have:=fX a4 hc; omega
      · exact he
      · have:=(h t.To).1 (aI.2 (.inl ⟨by omega,hlt⟩))
        rcases aI.1 this with hc | hc
        · omega
        · have:=fX b4 hc; omega
    have e3:s = t:=by
      cases s; cases t
      simp only at e1 e2
      rw [e1,e2]
    subst e3
    rw [wu a4 b4 fun d=>?_]
    constructor
    · intro hc
      have h1:=fX a4 hc
      rcases aI.1 ((h d).1 (aI.2 (.inr hc))) with h2 | h2
      · omega
      · exact h2
    · intro hc
      have h1:=fX b4 hc
      rcases aI.1 ((h d).2 (aI.2 (.inr hc))) with h2 | h2
      · omega
      · exact h2
theorem kZ (lo:Int):∀ (l:List GSpan) (s:GSpan),wF lo (l++[s]) = s.To
  | [],s=>rfl
  | t :: r,s=>kZ t.To r s
theorem jE:∀ {l:List GSpan} {s:GSpan} {lo:Int},cf lo (l++[s])↔cf lo l∧wF lo l < s.From∧s.From < s.To∧s.To≤73049
  | [],s,lo=>by simp [cf,wF]
  | t :: r,s,lo=>by
    rw [List.cons_append]
    unfold cf wF
    rw [jE]
    constructor
    · rintro ⟨h1,h2,h3,h4,h5⟩; exact ⟨⟨h1,h2,h3,h4⟩,h5⟩
    · rintro ⟨⟨h1,h2,h3,h4⟩,h5⟩; exact ⟨h1,h2,h3,h4,h5⟩
theorem ig {T:Type} (l:List T):l = []∨∃ p x,l = p++[x]:=by
  rcases List.eq_nil_or_concat l with h | ⟨p,x,h⟩
  · exact .inl h
  · exact .inr ⟨p,x,by rw [h]; simp⟩
noncomputable def il (out:List GSpan) (s:GSpan):List GSpan:=match out.getLast? with
  | none=>[s]
  | some x=>if s.From≤x.To then out.dropLast++[⟨x.From,if x.To < s.To then s.To else x.To⟩] else out++[s]
theorem vz (s:GSpan):il [] s = [s]:=rfl
theorem sX (p:List GSpan) (x s:GSpan):il (p++[x]) s = if s.From≤x.To then p++[⟨x.From,if x.To < s.To then s.To else x.To⟩] else (p++[x])++[s]:=by
  unfold il
  rw [List.getLast?_concat]
  simp
theorem Kf {out:List GSpan} {s:GSpan} (hn:cf (-1) out) (hb:∀ x∈out,x.From≤s.From) (h1:0≤s.From) (h2:s.From < s.To) (h3:s.To≤73049) :
    cf (-1) (il out s)∧(∀ d,cV (il out s) d↔cV out d∨(s.From≤d∧d < s.To))∧(∀ x∈il out s,x.From≤s.From)∧(il out s).length≤out.length+1:=by
  rcases ig out with rfl | ⟨p,x,rfl⟩
  · rw [vz]
    refine ⟨⟨by omega,h2,h3,trivial⟩,fun d=>?_,fun x hx=>?_,by simp⟩
    · rw [aI]; simp [cQ]
    · rw [List.mem_singleton.1 hx]; exact Int.le_refl _
  · obtain ⟨n1,n2,n3,n4⟩:=jE.1 hn
    have hx:=hb x (by simp)
    rw [sX]
    by_cases hc:s.From≤x.To
    · rw [if_pos hc]
      have hm:x.To≤(if x.To < s.To then s.To else x.To)∧s.To≤(if x.To < s.To then s.To else x.To)∧((if x.To < s.To then s.To else x.To) = x.To∨(if x.To < s.To then s.To else x.To) = s.To):=by
        split <;> omega
      generalize (if x.To < s.To then s.To else x.To) = m at hm
      refine ⟨jE.2 ⟨n1,n2,by show x.From < m; omega,by show m≤73049; omega⟩,fun d=>?_,fun y hy=>?_,by simp⟩
      · rw [mQ,mQ,aI,aI]
        simp only [cQ,or_false]
        constructor
        · rintro (h | ⟨h4,h5⟩)
          · exact .inl (.inl h)
          · by_cases hd:d < x.To
            · exact .inl (.inr ⟨h4,hd⟩)
            · exact .inr ⟨by omega,by omega⟩
        · rintro ((h | ⟨h4,h5⟩) | ⟨h4,h5⟩)
          · exact .inl h
          · exact .inr ⟨h4,by omega⟩
          · exact .inr ⟨by omega,by omega⟩
      · rcases List.mem_append.1 hy with hy | hy
        · exact hb y (by simp [hy])
        · rw [List.mem_singleton.1 hy]; exact hx
    · rw [if_neg hc]
      refine ⟨jE.2 ⟨hn,by rw [kZ]; omega,h2,h3⟩,fun d=>?_,fun y hy=>?_,by simp⟩
      · rw [mQ (b:=[s]),aI]; simp [cQ]
      · rcases List.mem_append.1 hy with hy | hy
        · exact hb y hy
        · rw [List.mem_singleton.1 hy]; exact Int.le_refl _
theorem DJ:∀ (l out:List GSpan),cf (-1) out→(∀ x∈out, ∀ s∈l,x.From≤s.From)→l.Pairwise (fun a b=>a.From≤b.From)→(∀ s∈l,0≤s.From∧s.From < s.To∧s.To≤73049) →
    cf (-1) (l.foldl il out)∧(∀ d,cV (l.foldl il out) d↔cV out d∨cV l d)∧(l.foldl il out).length≤out.length+l.length
  | [],out,hn,_,_,_=>⟨hn,fun d=>by simp [cQ],by simp⟩
  | s :: l,out,hn,hb,hp,ho=>by
    obtain ⟨o1,o2,o3⟩:=ho s (by simp)
    obtain ⟨j1,j2,j3,j4⟩:=Kf hn (fun x hx=>hb x hx s (by simp)) o1 o2 o3
    obtain ⟨p1,p2⟩:=List.pairwise_cons.1 hp
    obtain ⟨f1,f2,f3⟩:=DJ l (il out s) j1 (fun x hx t ht=>by have:=j3 x hx; have:=p1 t ht; omega) p2 (fun t ht=>ho t (by simp [ht]))
    rw [List.foldl_cons]
    refine ⟨f1,fun d=>?_,by rw [List.length_cons]; omega⟩
    rw [f2,j2,aI,or_assoc]
def aF (s:GSpan):GSpan:=GSpan.mk (if s.From < (0:Int) then (0:Int) else s.From) (if (73049:Int) < s.To then (73049:Int) else s.To)
def oI (s:GSpan):Bool:=decide (s.From < s.To)
def iM (l:List GSpan):List GSpan:=(l.map aF).filter oI
theorem DZ (s:GSpan) (d:Int):((aF s).From≤d∧d < (aF s).To)↔(s.From≤d∧d < s.To)∧0≤d∧d < 73049:=by
  unfold aF
  simp only
  split <;> split <;> omega
theorem pU (l:List GSpan) (d:Int):cV (iM l) d↔cV l d∧0≤d∧d < 73049:=by
  unfold cV iM
  constructor
  · rintro ⟨s,hs,h⟩
    obtain ⟨h1,_⟩:=List.mem_filter.1 hs
    obtain ⟨t,ht,rfl⟩:=List.mem_map.1 h1
    have:=(DZ t d).1 h
    exact ⟨⟨t,ht,this.1⟩,this.2⟩
  · rintro ⟨⟨t,ht,h⟩,h2⟩
    have:=(DZ t d).2 ⟨h,h2⟩
    refine ⟨aF t,List.mem_filter.2 ⟨List.mem_map.2 ⟨t,ht,rfl⟩, ?_⟩,this⟩
    unfold oI
    rw [decide_eq_true_iff]; omega
theorem Il (l:List GSpan):∀ s∈iM l,0≤s.From∧s.From < s.To∧s.To≤73049:=by
  intro s hs
  obtain ⟨h1,h2⟩:=List.mem_filter.1 hs
  obtain ⟨t,ht,rfl⟩:=List.mem_map.1 h1
  unfold oI at h2
  rw [decide_eq_true_iff] at h2
  refine ⟨?_,h2, ?_⟩ <;> (unfold aF; simp only; split <;> omega)
theorem Gm (l:List GSpan):(iM l).length≤l.length:=by
  unfold iM
  have:=List.length_filter_le oI (l.map aF)
  simpa using this
theorem Iy (p:List GSpan) (x:GSpan) (h:p.length≤1000000000):ac ((((p++[x]).length:Nat):Int) - 1) = ((p.length:Nat):Int):=by
  have hl:(p++[x]).length = p.length+1:=by simp
  rw [al (by omega) (by omega)]
  omega
theorem G5 {T:Type} (p:List T) (x y:T):(p++[x]).set p.length y = p++[y]:=by
  rw [List.set_append_right _ _ (Nat.le_refl _)]
  simp
theorem IK {T:Type} (p:List T) (x z:T):gD (p++[x]) p.length z = x:=tu p [] x z
theorem Jp (t out:List GSpan) (i:Nat) (hi:i < t.length) (ho:out.length≤1000000000) (hn:t.length≤1000000000) :
    cM (t.length:Int) (i:Int) out t = cM (t.length:Int) ((i+1:Nat):Int) (il out t[i]) t:=by
  rw [nM]
  simp only [cg hi,cN,cond_true,aX,Bool.or_true,cD hi,cH hi (by omega)]
  rcases ig out with rfl | ⟨p,x,rfl⟩
  · rw [show aa ((0:Int) < ((([]:List GSpan).length:Nat):Int)) = false from rfl]
    simp only [Bool.false_and,Bool.not_false,Bool.true_or,aX,cond_false]
    rw [pH (by simp) (by simp),vz]
    rfl
  · have hp:p.length≤1000000000:=by simp at ho; omega
    have hl:(p++[x]).length = p.length+1:=by simp
    have h0:aa ((0:Int) < (((p++[x]).length:Nat):Int)) = true:=aY (by omega)
    have hlt:aa (((p.length:Nat):Int) < (((p++[x]).length:Nat):Int)) = true:=aY (by omega)
    have hi0:aa ((0:Int)≤((p.length:Nat):Int)) = true:=aY (by omega)
    rw [Iy p x hp]
    simp only [h0,hlt,hi0,Bool.or_true,aX,cond_true,IK,Int.toNat_natCast,G5,sX]
    by_cases hc:t[i].From≤x.To
    · rw [aY hc,cond_true,if_pos hc]
      by_cases hd:x.To < t[i].To
      · rw [aY hd,if_pos hd]; rfl
      · rw [fc hd,if_neg hd]; rfl
    · rw [fc hc,cond_false,pH (by omega) (by omega),if_neg hc]
theorem KY (out:List GSpan) (s:GSpan):(il out s).length≤out.length+1:=by
  rcases ig out with rfl | ⟨p,x,rfl⟩
  · rw [vz]; simp
  · rw [sX]; split <;> simp
theorem J0 (s:GSpan):rr s = some (aF s):=by
  rw [CI]
  unfold aF
  by_cases h1:s.From < 0 <;> by_cases h2:73049 < s.To <;> simp [h1,h2]
theorem K3:Go.Sort.SWO fun (a b:GSpan)=>aa (a.From < b.From):=⟨fun x=>by simp,fun x y z h1 h2=>by simp at *; omega,fun x y z h1 h2=>by simp at *; omega⟩
noncomputable def eF (l:List GSpan):List GSpan:=(gP (iM l)).foldl il []
theorem uy (l:List GSpan):(gP l).Perm l∧(gP l).Pairwise fun a b=>a.From≤b.From:=by
  obtain ⟨h1,h2⟩:=@A4 _ ⟨zS .GSpan⟩ _ K3 l
  exact ⟨h1,h2.imp fun h=>by simp at h; omega⟩
theorem Cj (l:List GSpan) (hn:l.length≤1000000000):ua l = some (eF l):=by
  have hc:=Gm l
  have hs:=(uy (iM l)).1.length_eq
  rw [D4]
  have e:iM l = l.flatMap fun s=>if oI (aF s) = true then [aF s] else []:=by
    unfold iM
    rw [lh (fun s=>oI (aF s)) aF,List.filter_map]
    rfl
  refine (JL l (fun i out=>da l (l.length:Int) i out) (fun s=>if oI (aF s) = true then [aF s] else []) 1 (fun x _=>by split <;> simp) fun i out hi ho=>?_).trans ?_
  · show da _ _ _ _ = da _ _ _ _
    rw [oE]
    simp only [cg hi,cN,cond_true,aX,Bool.or_true,cD hi,cH hi (by omega)]
    rw [J0,Option.bind_some,pH (by omega) (by omega)]
    unfold oI
    by_cases hk:(aF l[i]).From < (aF l[i]).To
    · rw [aY hk,decide_eq_true hk]; rfl
    · rw [fc hk,decide_eq_false hk]; simp
  · rw [← e]
    show da _ _ _ _ = _
    rw [oE,cI,cond_false,bL (by omega)]
    unfold eF
    generalize hg:gP (iM l) = t at hs
    refine ((wV t (fun i out=>cM (t.length:Int) i out t) il (fun i out=>out.length≤i) (fun i out hi ho=>⟨Jp t out i hi (by omega) (by omega),by have:=KY out t[i]; omega⟩) [] (by simp)).1).trans ?_
    show cM _ _ _ _ = _
    rw [nM,cI]; rfl
theorem io (l:List GSpan):cf (-1) (eF l)∧(∀ d,cV (eF l) d↔cV l d∧0≤d∧d < 73049)∧(eF l).length≤l.length:=by
  obtain ⟨hp,hs⟩:=uy (iM l)
  have hc:=Gm l
  obtain ⟨f1,f2,f3⟩:=DJ (gP (iM l)) [] trivial (fun x hx=>by simp at hx) hs (fun s h=>Il l s (hp.mem_iff.1 h))
  refine ⟨f1,fun d=>?_, ?_⟩
  · unfold eF
    rw [f2, ← pU]
    constructor
    · rintro (h | ⟨s,h,h'⟩)
      · exact (cQ h).elim
      · exact ⟨s,hp.mem_iff.1 h,h'⟩
    · rintro ⟨s,h,h'⟩
      exact .inr ⟨s,hp.mem_iff.2 h,h'⟩
  · unfold eF
    have:=hp.length_eq
    simp at f3
    omega
end Go.Ax
