import Derived.Test.YtnnblpijaoocaaaGreatYP6
set_option linter.all false
/- The document's validity; facts that count; life. -/
set_option maxRecDepth 100000
namespace Go.Ax
theorem C5 (k:Int) (c:Nat) (hc:c < 256):uC k (c:Int) = some (cY k c):=by
  rw [Fx,mZ,Option.bind_some]
  have hn:=xF k
  have hs:=sr k
  unfold cY
  generalize dx k = l at hn hs
  have:=po l (fun i=>er c (ab l) i) (fun x=>x == c) (some true) (some false) (by
    show er _ _ _ = _
    rw [oP,ao,ca]; rfl) fun i hi=>by
      show er _ _ _ = if _ then _ else er _ _ _
      rw [oP,ao]
      simp only [bH hi,ce,cond_true,aK,Bool.or_true,bq hi,cd hi (by omega)]
      rw [Int.toNat_natCast,Ll l i hi]
      have hv:((UInt8.ofNat l[i]).toNat:Int) = (l[i]:Int):=by
        have:=hs _ (List.getElem_mem hi)
        simp [Nat.mod_eq_of_lt this]
      rw [hv]
      by_cases e:l[i] = c
      · rw [pk.2 (by omega),if_pos (by simp [e])]; rfl
      · rw [ul.2 (by omega),if_neg (by simp [e])]; rfl
  rw [this]
  have e2:l.any (fun x=>x == c) = l.contains c:=by rw [List.contains_eq_any_beq]; congr 1; funext x; exact Bool.beq_comm
  rw [e2]
  cases l.contains c <;> rfl
theorem eX (k:Int) (c:Nat) (hc:c < 256) (n l m:Int):bY k (c:Int) n l m = some (bG (cY k c) n l m):=by
  rw [B8,C5 k c hc,Option.bind_some]
  unfold bG eY
  cases cY k c
  · rfl
  · simp only [cond_true,eQ,if_true]
theorem rf (k n l m:Int):(bY k 83 n l m = some (bG (cY k 83) n l m))∧(bY k 84 n l m = some (bG (cY k 84) n l m))∧(bY k 72 n l m = some (bG (cY k 72) n l m)) ∧
    (bY k 67 n l m = some (bG (cY k 67) n l m))∧(bY k 65 n l m = some (bG (cY k 65) n l m))∧(bY k 82 n l m = some (bG (cY k 82) n l m)) :=
  ⟨eX k 83 (by decide) n l m,eX k 84 (by decide) n l m,eX k 72 (by decide) n l m,eX k 67 (by decide) n l m,eX k 65 (by decide) n l m,eX k 82 (by decide) n l m⟩
theorem ux {f:GFact} (h:cX f = true→False):some false = some (cX f):=by
  cases hv:cX f with
  | false=>rfl
  | true=>exact (h hv).elim
theorem AR (f:GFact):sa f = some (cX f):=by
  rw [CA,mZ]
  have out:∀ {p:Prop} [Decidable p] {o:Option Bool},(p→cX f = true→False)→(¬ p→o = some (cX f))→(bif aa p then some false else o) = some (cX f):=by
    intro p _ o h1 h2
    by_cases hp:p
    · rw [aF hp,cond_true]; exact ux (h1 hp)
    · rw [bw hp,cond_false]; exact h2 hp
  have V:=o8 f
  refine out (fun h hv=>?_) fun c1=>out (fun h hv=>?_) fun c2=>out (fun h hv=>?_) fun c3=>out (fun h hv=>?_) fun c4=>out (fun h hv=>?_) fun c5=>out (fun h hv=>?_) fun c6=>out (fun h hv=>?_) fun c7=>out (fun h hv=>?_) fun c8=>?_
  any_goals (obtain ⟨g0,g1,g2,g3,g4,_⟩:=V.1 hv; omega)
  rw [Option.bind_some,Ip]
  cases h0:(dx f.Kind).isEmpty with
  | true=>rw [cond_true]; exact ux fun hv=>by obtain ⟨g0,_⟩:=V.1 hv; rw [g0] at h0; cases h0
  | false =>
    rw [cond_false]
    simp only [mi,eQ]
    cases h2:(aa (f.Span.From < 0)||aa (f.Span.To≤f.Span.From)||aa (73049 < f.Span.To)) with
    | true =>
      rw [cond_true]
      refine ux fun hv=>?_
      obtain ⟨g0,g1,g2,g3,g4,_,_,g5,_⟩:=V.1 hv
      simp only [Bool.or_eq_true,decide_eq_true_eq] at h2
      omega
    | false =>
      rw [cond_false]
      simp only [Bool.or_eq_false_iff,decide_eq_false_iff_not] at h2
      rw [al (by omega) (by omega)]
      cases h3:((ah f.Kind 11||ah f.Kind 12)&&bT (f.Span.To - f.Span.From) 1||ah f.Kind 4&&ah f.Seat f.State||(ah f.Kind 10||ah f.Kind 14)&&ah f.Ref f.Person) with
      | true =>
        rw [cond_true]
        refine ux fun hv=>?_
        obtain ⟨_,g1,g2,g3,g4,_,_,g5,_,_,_,_,g6⟩:=V.1 hv
        unfold uP at g6
        simp only [Bool.or_eq_true,Bool.and_eq_true,beq_iff_eq,bne_iff_ne,ne_eq,ah,bT] at h3
        split at g6
        · simp only [bne_iff_ne,ne_eq] at g6; omega
        · split at g6
          · simp only [beq_iff_eq] at g6; omega
          · split at g6
            · simp only [bne_iff_ne,ne_eq] at g6; omega
            · omega
      | false =>
        rw [cond_false]
        have hf:=fun n l m=>rf f.Kind n l m
        simp only [(hf _ _ _).1,(hf _ _ _).2.1,(hf _ _ _).2.2.1,(hf _ _ _).2.2.2.1,(hf _ _ _).2.2.2.2.1,(hf _ _ _).2.2.2.2.2,Option.bind_some]
        have hkind:uP f = true:=by
          simp only [Bool.or_eq_false_iff,Bool.and_eq_false_iff,beq_eq_false_iff_ne,bne_eq_false_iff_eq,ne_eq,ah,bT] at h3
          unfold uP
          split
          · simp only [bne_iff_ne,ne_eq]; omega
          · split
            · simp only [beq_iff_eq]; omega
            · split
              · simp only [bne_iff_ne,ne_eq]; omega
              · rfl
        have e:∀ (a b:Bool),(bif a then some b else some false) = some (a&&b):=by intro a b; cases a <;> rfl
        simp only [e,Option.some.injEq]
        rw [Bool.eq_iff_iff,V]
        simp only [Bool.and_eq_true]
        constructor
        · rintro ⟨a1,a2,a3,a4,a5,a6⟩
          exact ⟨h0,by omega,by omega,by omega,by omega,a1,a2,by omega,a3,a4,a5,a6,hkind⟩
        · rintro ⟨_,_,_,_,_,a1,a2,_,a3,a4,a5,a6,_⟩
          exact ⟨a1,a2,a3,a4,a5,a6⟩
def aI (f:GFact):Bool:=cX f&&!f.Withdrawn
theorem jB (f:GFact):gZ f = some (aI f):=by
  rw [yK,DQ,Option.bind_some,eQ]; rfl
theorem kG (l:List GFact) (hn:l.length≤1000000):i7 l = some (l.filter aI):=by
  rw [Ai]
  refine (KL l (fun i out=>cx l i out) aI fun i out hi ho=>?_).trans ?_
  · show cx _ _ _ = cx _ _ _
    rw [mD]
    simp only [bH hi,ce,cond_true,aK,Bool.or_true,bq hi,cd hi (by omega)]
    rw [AR,Option.bind_some,pG]
    unfold aI
    cases cX l[i] <;> cases l[i].Withdrawn <;> rfl
  · show cx _ _ _ = _
    rw [mD,ca]; rfl
theorem j6 (l:List GFact) (hn:l.length≤1000000):kh l = some (l.filter aI):=by
  rw [yA,Af]
  have:bP l (l.length:Int) 0 [] = some (l.filter aI):=by
    refine (KL l (fun i out=>bP l (l.length:Int) i out) aI fun i out hi ho=>?_).trans ?_
    · show bP _ _ _ _ = bP _ _ _ _
      rw [mz]
      simp only [bH hi,ce,cond_true,aK,Bool.or_true,bq hi,cd hi (by omega)]
      rw [jB,Option.bind_some,pG]
      cases aI l[i] <;> rfl
    · show bP _ _ _ _ = _
      rw [mz,ca]; rfl
  rw [this]; rfl
def xO (kind:Int) (f:GFact) (a:Int × Bool):Int × Bool:=if (ah f.Kind kind&&(!a.2||aa (f.Span.From < a.1))) = true then (f.Span.From,true) else a
def cU (l:List GFact) (kind:Int):Int × Bool:=(l.filter aI).foldl (fun a f=>xO kind f a) (0,false)
theorem ov {A:Type} (p:GFact→Bool) (g:A→GFact→A):∀ (l:List GFact) (a:A),(l.filter p).foldl g a = l.foldl (fun a f=>if p f = true then g a f else a) a
  | [],_=>rfl
  | f :: l,a=>by
    rw [List.filter_cons,List.foldl_cons]
    by_cases h:p f = true
    · rw [if_pos h,if_pos h,List.foldl_cons,ov p g l]
    · rw [if_neg h,if_neg h,ov p g l]
theorem pz (l:List GFact) (kind:Int) (hn:l.length≤1000000):mC l kind = some (cU l kind):=by
  rw [AE]
  have:=(tB l (fun i (a:Int × Bool)=>cK kind a.1 a.2 l (l.length:Int) i) (fun a f=>if aI f = true then xO kind f a else a) (fun _ _=>True) (fun i a hi _=>⟨?_,trivial⟩) (0,false) trivial).1
  · refine Eq.trans this ?_
    show cK _ _ _ _ _ _ = _
    rw [mK,ca]
    unfold cU
    rw [ov]; rfl
  · show cK _ _ _ _ _ _ = cK _ _ _ _ _ _
    rw [mK]
    simp only [bH hi,ce,cond_true,aK,Bool.or_true,bq hi,cd hi (by omega)]
    rw [jB,Option.bind_some]
    unfold xO
    simp only [eQ,mi]
    cases aI l[i] with
    | false=>rfl
    | true =>
      simp only [Bool.true_and,if_true]
      cases (ah l[i].Kind kind&&(!a.2||aa (l[i].Span.From < a.1))) <;> rfl
theorem qS (l:List GFact) (kind:Int) (hn:l.length≤1000000):nH l kind = some (cU l kind):=by
  rw [C9,kG l hn,Option.bind_some]
  have hc:(l.filter aI).length≤l.length:=List.length_filter_le _ _
  unfold cU
  generalize l.filter aI = c at hc
  have:=(tB c (fun i (a:Int × Bool)=>cL kind a.1 a.2 i c) (fun a f=>xO kind f a) (fun _ _=>True) (fun i a hi _=>⟨?_,trivial⟩) (0,false) trivial).1
  · refine Eq.trans this ?_
    show cL _ _ _ _ _ = _
    rw [mN,ca]; rfl
  · show cL _ _ _ _ _ = cL _ _ _ _ _
    rw [mN]
    simp only [bH hi,ce,cond_true,aK,Bool.or_true,bq hi,cd hi (by omega)]
    unfold xO
    simp only [eQ,mi]
    cases (ah c[i].Kind kind&&(!a.2||aa (c[i].Span.From < a.1))) <;> rfl
def aU (l:List GFact):GSpan :=
  let d:=if (cU l 12).2 then (cU l 12).1 else 73048
  if d < (cU l 11).1 then ⟨0,0⟩ else ⟨(cU l 11).1,ae (d+1)⟩
theorem Jm (a b:Int × Bool):(bif (!b.2) then bif aa (73048 < a.1) then some (⟨0,0⟩:GSpan) else some (⟨a.1,73049⟩:GSpan) else bif aa (b.1 < a.1) then some (⟨0,0⟩:GSpan) else some (⟨a.1,(ae (b.1+1))⟩:GSpan)) =
    some (let d:=if b.2 then b.1 else 73048; if d < a.1 then ⟨0,0⟩ else ⟨a.1,ae (d+1)⟩):=by
  cases b.2 with
  | false =>
    simp only [Bool.not_false,cond_true]
    by_cases h:73048 < a.1
    · simp [h]
    · simp [h,show ae 73049 = 73049 from al (by omega) (by omega)]
  | true =>
    simp only [Bool.not_true,cond_false,if_true]
    by_cases h:b.1 < a.1
    · simp [h]
    · simp [h]
theorem zp (l:List GFact) (hn:l.length≤1000000):qg l = some (cU l 11):=by rw [Bi,pz l 11 hn]; rfl
theorem Ah (l:List GFact) (hn:l.length≤1000000):qy l = some (cU l 12):=by rw [Bz,pz l 12 hn]; rfl
theorem B6 (l:List GFact) (hn:l.length≤1000000):sk l = some (cU l 11):=by rw [Dj,qS l 11 hn]; rfl
theorem AT (l:List GFact) (hn:l.length≤1000000):rL l = some (cU l 12):=by rw [DC,qS l 12 hn]; rfl
theorem jt (l:List GFact) (hn:l.length≤1000000):kI l = some (aU l):=by
  rw [DI,zp l hn,Option.bind_some,Ah l hn,Option.bind_some]
  exact Jm _ _
theorem mW (l:List GFact) (hn:l.length≤1000000):o7 l = some (aU l):=by
  rw [FQ,B6 l hn,Option.bind_some,AT l hn,Option.bind_some]
  exact Jm _ _
end Go.Ax
set_option linter.all false
/- Spans: lists that are joined; Make. -/
set_option maxRecDepth 100000
namespace Go.Ax
def dj (l:List GSpan) (d:Int):Prop:=∃ s∈l,s.From≤d∧d < s.To
def cP (lo:Int):List GSpan→Prop
  | []=>True
  | s :: r=>lo < s.From∧s.From < s.To∧s.To≤73049∧cP s.To r
def xd (lo:Int):List GSpan→Int
  | []=>lo
  | s :: r=>xd s.To r
theorem aN {s:GSpan} {r:List GSpan} {d:Int}:dj (s :: r) d↔(s.From≤d∧d < s.To)∨dj r d:=by simp [dj]
theorem cO {d:Int}:¬ dj [] d:=by simp [dj]
theorem nt {a b:List GSpan} {d:Int}:dj (a++b) d↔dj a d∨dj b d:=by
  unfold dj
  constructor
  · rintro ⟨s,hs,h⟩
    rcases List.mem_append.1 hs with hs | hs
    · exact .inl ⟨s,hs,h⟩
    · exact .inr ⟨s,hs,h⟩
  · rintro (⟨s,hs,h⟩ | ⟨s,hs,h⟩)
    · exact ⟨s,List.mem_append.2 (.inl hs),h⟩
    · exact ⟨s,List.mem_append.2 (.inr hs),h⟩
theorem fI:∀ {l:List GSpan} {lo d:Int},cP lo l→dj l d→lo < d∧d < 73049
  | [],_,_,_,hc=>(cO hc).elim
  | s :: r,lo,d,⟨h1,h2,h3,h4⟩,hc=>by
    rcases aN.1 hc with h | h
    · omega
    · have:=fI h4 h
      omega
theorem Ee:∀ {a b:List GSpan} {lo:Int},cP lo a→cP lo b→(∀ d,dj a d↔dj b d)→a = b
  | [],[],_,_,_,_=>rfl
  | [],t :: u,_,_,hb,h=>(cO ((h t.From).2 (aN.2 (.inl ⟨Int.le_refl _,hb.2.1⟩)))).elim
  | s :: r,[],_,ha,_,h=>(cO ((h s.From).1 (aN.2 (.inl ⟨Int.le_refl _,ha.2.1⟩)))).elim
  | s :: r,t :: u,lo,⟨a1,a2,a3,a4⟩,⟨b1,b2,b3,b4⟩,h=>by
    have hs:=(h s.From).1 (aN.2 (.inl ⟨Int.le_refl _,a2⟩))
    have ht:=(h t.From).2 (aN.2 (.inl ⟨Int.le_refl _,b2⟩))
    have e1:s.From = t.From:=by
      rcases aN.1 hs with hs | hs
      · rcases aN.1 ht with ht | ht
        · omega
        · have:=fI a4 ht; omega
      · have:=fI b4 hs
        rcases aN.1 ht with ht | ht
        · omega
        · have:=fI a4 ht; omega
    have e2:s.To = t.To:=by
      rcases Int.lt_trichotomy s.To t.To with hlt | he | hlt
      · have:=(h s.To).2 (aN.2 (.inl ⟨by omega,hlt⟩))
        rcases aN.1 this with hc | hc
        · omega
        · have:=fI a4 hc; omega
      · exact he
      · have:=(h t.To).1 (aN.2 (.inl ⟨by omega,hlt⟩))
        rcases aN.1 this with hc | hc
        · omega
        · have:=fI b4 hc; omega
    have e3:s = t:=by
      cases s; cases t
      simp only at e1 e2
      rw [e1,e2]
    subst e3
    rw [Ee a4 b4 fun d=>?_]
    constructor
    · intro hc
      have h1:=fI a4 hc
      rcases aN.1 ((h d).1 (aN.2 (.inr hc))) with h2 | h2
      · omega
      · exact h2
    · intro hc
      have h1:=fI b4 hc
      rcases aN.1 ((h d).2 (aN.2 (.inr hc))) with h2 | h2
      · omega
      · exact h2
theorem lK (lo:Int):∀ (l:List GSpan) (s:GSpan),xd lo (l++[s]) = s.To
  | [],s=>rfl
  | t :: r,s=>lK t.To r s
theorem jM:∀ {l:List GSpan} {s:GSpan} {lo:Int},cP lo (l++[s])↔cP lo l∧xd lo l < s.From∧s.From < s.To∧s.To≤73049
  | [],s,lo=>by simp [cP,xd]
  | t :: r,s,lo=>by
    rw [List.cons_append]
    unfold cP xd
    rw [jM]
    constructor
    · rintro ⟨h1,h2,h3,h4,h5⟩; exact ⟨⟨h1,h2,h3,h4⟩,h5⟩
    · rintro ⟨⟨h1,h2,h3,h4⟩,h5⟩; exact ⟨h1,h2,h3,h4,h5⟩
theorem gH {T:Type} (l:List T):l = []∨∃ p x,l = p++[x]:=by
  rcases List.eq_nil_or_concat l with h | ⟨p,x,h⟩
  · exact .inl h
  · exact .inr ⟨p,x,by rw [h]; simp⟩
noncomputable def iF (out:List GSpan) (s:GSpan):List GSpan:=match out.getLast? with
  | none=>[s]
  | some x=>if s.From≤x.To then out.dropLast++[⟨x.From,if x.To < s.To then s.To else x.To⟩] else out++[s]
theorem w9 (s:GSpan):iF [] s = [s]:=rfl
theorem uR (p:List GSpan) (x s:GSpan):iF (p++[x]) s = if s.From≤x.To then p++[⟨x.From,if x.To < s.To then s.To else x.To⟩] else (p++[x])++[s]:=by
  unfold iF
  rw [List.getLast?_concat]
  simp
theorem MX {out:List GSpan} {s:GSpan} (hn:cP (-1) out) (hb:∀ x∈out,x.From≤s.From) (h1:0≤s.From) (h2:s.From < s.To) (h3:s.To≤73049) :
    cP (-1) (iF out s)∧(∀ d,dj (iF out s) d↔dj out d∨(s.From≤d∧d < s.To))∧(∀ x∈iF out s,x.From≤s.From)∧(iF out s).length≤out.length+1:=by
  rcases gH out with rfl | ⟨p,x,rfl⟩
  · rw [w9]
    refine ⟨⟨by omega,h2,h3,trivial⟩,fun d=>?_,fun x hx=>?_,by simp⟩
    · rw [aN]; simp [cO]
    · rw [List.mem_singleton.1 hx]; exact Int.le_refl _
  · obtain ⟨n1,n2,n3,n4⟩:=jM.1 hn
    have hx:=hb x (by simp)
    rw [uR]
    by_cases hc:s.From≤x.To
    · rw [if_pos hc]
      have hm:x.To≤(if x.To < s.To then s.To else x.To)∧s.To≤(if x.To < s.To then s.To else x.To)∧((if x.To < s.To then s.To else x.To) = x.To∨(if x.To < s.To then s.To else x.To) = s.To):=by
        split <;> omega
      generalize (if x.To < s.To then s.To else x.To) = m at hm
      refine ⟨jM.2 ⟨n1,n2,by show x.From < m; omega,by show m≤73049; omega⟩,fun d=>?_,fun y hy=>?_,by simp⟩
      · rw [nt,nt,aN,aN]
        simp only [cO,or_false]
        constructor
        · rintro (h | ⟨h4,h5⟩)
          · exact .inl (.inl h)
          · by_cases hd:d < x.To
            · exact .inl (.inr ⟨h4,hd⟩)
            · exact .inr ⟨by omega,by omega⟩
        · rintro ((h | ⟨h4,h5⟩) | ⟨h4,h5⟩)
          · exact .inl h
          · exact .inr ⟨h4,by omega⟩
          · exact .inr ⟨by omega,by omega⟩
      · rcases List.mem_append.1 hy with hy | hy
        · exact hb y (by simp [hy])
        · rw [List.mem_singleton.1 hy]; exact hx
    · rw [if_neg hc]
      refine ⟨jM.2 ⟨hn,by rw [lK]; omega,h2,h3⟩,fun d=>?_,fun y hy=>?_,by simp⟩
      · rw [nt (b:=[s]),aN]; simp [cO]
      · rcases List.mem_append.1 hy with hy | hy
        · exact hb y hy
        · rw [List.mem_singleton.1 hy]; exact Int.le_refl _
theorem EQ:∀ (l out:List GSpan),cP (-1) out→(∀ x∈out, ∀ s∈l,x.From≤s.From)→l.Pairwise (fun a b=>a.From≤b.From)→(∀ s∈l,0≤s.From∧s.From < s.To∧s.To≤73049) →
    cP (-1) (l.foldl iF out)∧(∀ d,dj (l.foldl iF out) d↔dj out d∨dj l d)∧(l.foldl iF out).length≤out.length+l.length
  | [],out,hn,_,_,_=>⟨hn,fun d=>by simp [cO],by simp⟩
  | s :: l,out,hn,hb,hp,ho=>by
    obtain ⟨o1,o2,o3⟩:=ho s (by simp)
    obtain ⟨j1,j2,j3,j4⟩:=MX hn (fun x hx=>hb x hx s (by simp)) o1 o2 o3
    obtain ⟨p1,p2⟩:=List.pairwise_cons.1 hp
    obtain ⟨f1,f2,f3⟩:=EQ l (iF out s) j1 (fun x hx t ht=>by have:=j3 x hx; have:=p1 t ht; omega) p2 (fun t ht=>ho t (by simp [ht]))
    rw [List.foldl_cons]
    refine ⟨f1,fun d=>?_,by rw [List.length_cons]; omega⟩
    rw [f2,j2,aN,or_assoc]
def aD (s:GSpan):GSpan:=GSpan.mk (if s.From < (0:Int) then (0:Int) else s.From) (if (73049:Int) < s.To then (73049:Int) else s.To)
def oX (s:GSpan):Bool:=decide (s.From < s.To)
def ji (l:List GSpan):List GSpan:=(l.map aD).filter oX
theorem D7 (s:GSpan) (d:Int):((aD s).From≤d∧d < (aD s).To)↔(s.From≤d∧d < s.To)∧0≤d∧d < 73049:=by
  unfold aD
  simp only
  split <;> split <;> omega
theorem qv (l:List GSpan) (d:Int):dj (ji l) d↔dj l d∧0≤d∧d < 73049:=by
  unfold dj ji
  constructor
  · rintro ⟨s,hs,h⟩
    obtain ⟨h1,_⟩:=List.mem_filter.1 hs
    obtain ⟨t,ht,rfl⟩:=List.mem_map.1 h1
    have:=(D7 t d).1 h
    exact ⟨⟨t,ht,this.1⟩,this.2⟩
  · rintro ⟨⟨t,ht,h⟩,h2⟩
    have:=(D7 t d).2 ⟨h,h2⟩
    refine ⟨aD t,List.mem_filter.2 ⟨List.mem_map.2 ⟨t,ht,rfl⟩, ?_⟩,this⟩
    unfold oX
    rw [decide_eq_true_iff]; omega
theorem J5 (l:List GSpan):∀ s∈ji l,0≤s.From∧s.From < s.To∧s.To≤73049:=by
  intro s hs
  obtain ⟨h1,h2⟩:=List.mem_filter.1 hs
  obtain ⟨t,ht,rfl⟩:=List.mem_map.1 h1
  unfold oX at h2
  rw [decide_eq_true_iff] at h2
  refine ⟨?_,h2, ?_⟩ <;> (unfold aD; simp only; split <;> omega)
theorem GO (l:List GSpan):(ji l).length≤l.length:=by
  unfold ji
  have:=List.length_filter_le oX (l.map aD)
  simpa using this
theorem J9 (p:List GSpan) (x:GSpan) (h:p.length≤1000000000):ae ((((p++[x]).length:Nat):Int) - 1) = ((p.length:Nat):Int):=by
  have hl:(p++[x]).length = p.length+1:=by simp
  rw [al (by omega) (by omega)]
  omega
theorem Gu {T:Type} (p:List T) (x y:T):(p++[x]).set p.length y = p++[y]:=by
  rw [List.set_append_right _ _ (Nat.le_refl _)]
  simp
theorem JD {T:Type} (p:List T) (x z:T):gD (p++[x]) p.length z = x:=tR p [] x z
theorem Kc (t out:List GSpan) (i:Nat) (hi:i < t.length) (ho:out.length≤1000000000) (hn:t.length≤1000000000) :
    db (t.length:Int) (i:Int) out t = db (t.length:Int) ((i+1:Nat):Int) (iF out t[i]) t:=by
  rw [om]
  simp only [bH hi,ce,cond_true,aK,Bool.or_true,bq hi,cd hi (by omega)]
  rcases gH out with rfl | ⟨p,x,rfl⟩
  · rw [show aa ((0:Int) < ((([]:List GSpan).length:Nat):Int)) = false from rfl]
    simp only [Bool.false_and,Bool.not_false,Bool.true_or,aK,cond_false]
    rw [pG (by simp) (by simp),w9]
    rfl
  · have hp:p.length≤1000000000:=by simp at ho; omega
    have hl:(p++[x]).length = p.length+1:=by simp
    have h0:aa ((0:Int) < (((p++[x]).length:Nat):Int)) = true:=aF (by omega)
    have hlt:aa (((p.length:Nat):Int) < (((p++[x]).length:Nat):Int)) = true:=aF (by omega)
    have hi0:aa ((0:Int)≤((p.length:Nat):Int)) = true:=aF (by omega)
    rw [J9 p x hp]
    simp only [h0,hlt,hi0,Bool.or_true,aK,cond_true,JD,Int.toNat_natCast,Gu,uR]
    by_cases hc:t[i].From≤x.To
    · rw [aF hc,cond_true,if_pos hc]
      by_cases hd:x.To < t[i].To
      · rw [aF hd,if_pos hd]; rfl
      · rw [bw hd,if_neg hd]; rfl
    · rw [bw hc,cond_false,pG (by omega) (by omega),if_neg hc]
theorem MZ (out:List GSpan) (s:GSpan):(iF out s).length≤out.length+1:=by
  rcases gH out with rfl | ⟨p,x,rfl⟩
  · rw [w9]; simp
  · rw [uR]; split <;> simp
theorem LO (s:GSpan):rQ s = some (aD s):=by
  rw [CO]
  unfold aD
  by_cases h1:s.From < 0 <;> by_cases h2:73049 < s.To <;> simp [h1,h2]
theorem Mf:Go.Sort.SWO fun (a b:GSpan)=>aa (a.From < b.From):=⟨fun x=>by simp,fun x y z h1 h2=>by simp at *; omega,fun x y z h1 h2=>by simp at *; omega⟩
noncomputable def fQ (l:List GSpan):List GSpan:=(iL (ji l)).foldl iF []
theorem vB (l:List GSpan):(iL l).Perm l∧(iL l).Pairwise fun a b=>a.From≤b.From:=by
  obtain ⟨h1,h2⟩:=@BJ _ ⟨zS .GSpan⟩ _ Mf l
  exact ⟨h1,h2.imp fun h=>by simp at h; omega⟩
theorem sO (l:List GSpan) (hn:l.length≤1000000000):pi l = some (fQ l):=by
  have hc:=GO l
  have hs:=(vB (ji l)).1.length_eq
  rw [FE]
  have e:ji l = l.flatMap fun s=>if oX (aD s) = true then [aD s] else []:=by
    unfold ji
    rw [l7 (fun s=>oX (aD s)) aD,List.filter_map]
    rfl
  refine (KD l (fun i out=>du l (l.length:Int) i out) (fun s=>if oX (aD s) = true then [aD s] else []) 1 (fun x _=>by split <;> simp) fun i out hi ho=>?_).trans ?_
  · show du _ _ _ _ = du _ _ _ _
    rw [oQ]
    simp only [bH hi,ce,cond_true,aK,Bool.or_true,bq hi,cd hi (by omega)]
    rw [LO,Option.bind_some,pG (by omega) (by omega)]
    unfold oX
    by_cases hk:(aD l[i]).From < (aD l[i]).To
    · rw [aF hk,decide_eq_true hk]; rfl
    · rw [bw hk,decide_eq_false hk]; simp
  · rw [← e]
    show du _ _ _ _ = _
    rw [oQ,ca,cond_false,aG (by omega)]
    unfold fQ
    generalize hg:iL (ji l) = t at hs
    refine ((tB t (fun i out=>db (t.length:Int) i out t) iF (fun i out=>out.length≤i) (fun i out hi ho=>⟨Kc t out i hi (by omega) (by omega),by have:=MZ out t[i]; omega⟩) [] (by simp)).1).trans ?_
    show db _ _ _ _ = _
    rw [om,ca]; rfl
theorem jY (l:List GSpan):cP (-1) (fQ l)∧(∀ d,dj (fQ l) d↔dj l d∧0≤d∧d < 73049)∧(fQ l).length≤l.length:=by
  obtain ⟨hp,hs⟩:=vB (ji l)
  have hc:=GO l
  obtain ⟨f1,f2,f3⟩:=EQ (iL (ji l)) [] trivial (fun x hx=>by simp at hx) hs (fun s h=>J5 l s (hp.mem_iff.1 h))
  refine ⟨f1,fun d=>?_, ?_⟩
  · unfold fQ
    rw [f2, ← qv]
    constructor
    · rintro (h | ⟨s,h,h'⟩)
      · exact (cO h).elim
      · exact ⟨s,hp.mem_iff.1 h,h'⟩
    · rintro ⟨s,h,h'⟩
      exact .inr ⟨s,hp.mem_iff.2 h,h'⟩
  · unfold fQ
    have:=hp.length_eq
    simp at f3
    omega
end Go.Ax
