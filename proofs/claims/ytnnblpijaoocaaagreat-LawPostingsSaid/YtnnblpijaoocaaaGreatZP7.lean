import Derived.Test.YtnnblpijaoocaaaGreatZP6
set_option linter.all false
/- The document's validity; facts that count; life. -/
set_option maxRecDepth 100000
namespace Go.Ax
theorem x6 (k:Int) (c:Nat) (hc:c < 256):pG k (c:Int) = some (cE k c):=by
  rw [zJ,iy,Option.bind_some]
  have hn:=mt k
  have hs:=ou k
  unfold cE
  generalize cF k = l at hn hs
  have:=kO l (fun i=>dz c (aw l) i) (fun x=>x == c) (some true) (some false) (by
    show dz _ _ _ = _
    rw [lO,nM,bU]; rfl) fun i hi=>by
      show dz _ _ _ = if _ then _ else dz _ _ _
      rw [lO,nM]
      simp only [bp hi,bW,cond_true,aH,Bool.or_true,bj hi,bV hi (by omega)]
      rw [Int.toNat_natCast,D4 l i hi]
      have hv:((UInt8.ofNat l[i]).toNat:Int) = (l[i]:Int):=by
        have:=hs _ (List.getElem_mem hi)
        simp [Nat.mod_eq_of_lt this]
      rw [hv]
      by_cases e:l[i] = c
      · rw [td.2 (by omega),if_pos (by simp [e])]; rfl
      · rw [tj.2 (by omega),if_neg (by simp [e])]; rfl
  rw [this]
  have e2:l.any (fun x=>x == c) = l.contains c:=by rw [List.contains_eq_any_beq]; congr 1; funext x; exact Bool.beq_comm
  rw [e2]
  cases l.contains c <;> rfl
theorem dQ (k:Int) (c:Nat) (hc:c < 256) (n l m:Int):bB k (c:Int) n l m = some (bg (cE k c) n l m):=by
  rw [xA,x6 k c hc,Option.bind_some]
  unfold bg dN
  cases cE k c
  · rfl
  · simp only [cond_true,iA,if_true]
theorem rf (k n l m:Int):(bB k 83 n l m = some (bg (cE k 83) n l m))∧(bB k 84 n l m = some (bg (cE k 84) n l m))∧(bB k 72 n l m = some (bg (cE k 72) n l m)) ∧
    (bB k 67 n l m = some (bg (cE k 67) n l m))∧(bB k 65 n l m = some (bg (cE k 65) n l m))∧(bB k 82 n l m = some (bg (cE k 82) n l m)) :=
  ⟨dQ k 83 (by decide) n l m,dQ k 84 (by decide) n l m,dQ k 72 (by decide) n l m,dQ k 67 (by decide) n l m,dQ k 65 (by decide) n l m,dQ k 82 (by decide) n l m⟩
theorem qn {f:GFact} (h:dT f = true→False):some false = some (dT f):=by
  cases hv:dT f with
  | false=>rfl
  | true=>exact (h hv).elim
theorem eH (f:GFact):eY f = some (dT f):=by
  rw [xb,iy]
  have out:∀ {p:Prop} [Decidable p] {o:Option Bool},(p→dT f = true→False)→(¬ p→o = some (dT f))→(bif aa p then some false else o) = some (dT f):=by
    intro p _ o h1 h2
    by_cases hp:p
    · rw [aU hp,cond_true]; exact qn (h1 hp)
    · rw [cP hp,cond_false]; exact h2 hp
  have V:=wH f
  refine out (fun h hv=>?_) fun c1=>out (fun h hv=>?_) fun c2=>out (fun h hv=>?_) fun c3=>out (fun h hv=>?_) fun c4=>out (fun h hv=>?_) fun c5=>out (fun h hv=>?_) fun c6=>out (fun h hv=>?_) fun c7=>out (fun h hv=>?_) fun c8=>?_
  any_goals (obtain ⟨g0,g1,g2,g3,g4,_⟩:=V.1 hv; omega)
  rw [Option.bind_some,A9]
  cases h0:(cF f.Kind).isEmpty with
  | true=>rw [cond_true]; exact qn fun hv=>by obtain ⟨g0,_⟩:=V.1 hv; rw [g0] at h0; cases h0
  | false =>
    rw [cond_false]
    simp only [wx,iA]
    cases h2:(aa (f.Span.From < 0)||aa (f.Span.To≤f.Span.From)||aa (73049 < f.Span.To)) with
    | true =>
      rw [cond_true]
      refine qn fun hv=>?_
      obtain ⟨g0,g1,g2,g3,g4,_,_,g5,_⟩:=V.1 hv
      simp only [Bool.or_eq_true,decide_eq_true_eq] at h2
      omega
    | false =>
      rw [cond_false]
      simp only [Bool.or_eq_false_iff,decide_eq_false_iff_not] at h2
      rw [aY (by omega) (by omega)]
      cases h3:((ah f.Kind 11||ah f.Kind 12)&&gH (f.Span.To - f.Span.From) 1||ah f.Kind 4&&ah f.Seat f.State||(ah f.Kind 10||ah f.Kind 14)&&ah f.Ref f.Person) with
      | true =>
        rw [cond_true]
        refine qn fun hv=>?_
        obtain ⟨_,g1,g2,g3,g4,_,_,g5,_,_,_,_,g6⟩:=V.1 hv
        unfold pM at g6
        simp only [Bool.or_eq_true,Bool.and_eq_true,beq_iff_eq,bne_iff_ne,ne_eq,ah,gH] at h3
        split at g6
        · simp only [bne_iff_ne,ne_eq] at g6; omega
        · split at g6
          · simp only [beq_iff_eq] at g6; omega
          · split at g6
            · simp only [bne_iff_ne,ne_eq] at g6; omega
            · omega
      | false =>
        rw [cond_false]
        have hf:=fun n l m=>rf f.Kind n l m
        simp only [(hf _ _ _).1,(hf _ _ _).2.1,(hf _ _ _).2.2.1,(hf _ _ _).2.2.2.1,(hf _ _ _).2.2.2.2.1,(hf _ _ _).2.2.2.2.2,Option.bind_some]
        have hkind:pM f = true:=by
          simp only [Bool.or_eq_false_iff,Bool.and_eq_false_iff,beq_eq_false_iff_ne,bne_eq_false_iff_eq,ne_eq,ah,gH] at h3
          unfold pM
          split
          · simp only [bne_iff_ne,ne_eq]; omega
          · split
            · simp only [beq_iff_eq]; omega
            · split
              · simp only [bne_iff_ne,ne_eq]; omega
              · rfl
        have e:∀ (a b:Bool),(bif a then some b else some false) = some (a&&b):=by intro a b; cases a <;> rfl
        simp only [e,Option.some.injEq]
        rw [Bool.eq_iff_iff,V]
        simp only [Bool.and_eq_true]
        constructor
        · rintro ⟨a1,a2,a3,a4,a5,a6⟩
          exact ⟨h0,by omega,by omega,by omega,by omega,a1,a2,by omega,a3,a4,a5,a6,hkind⟩
        · rintro ⟨_,_,_,_,_,a1,a2,_,a3,a4,a5,a6,_⟩
          exact ⟨a1,a2,a3,a4,a5,a6⟩
def H5 (person:Int) (f:GFact):Bool:=ah f.Person person
theorem BC (l:List GFact) (person:Int) (hn:l.length≤1000000):qw l person = some (l.filter (H5 person)):=by
  rw [CZ]
  refine (Ad l (fun i out=>dL l person i out) (H5 person) fun i out hi ho=>?_).trans ?_
  · show dL _ _ _ _ = dL _ _ _ _
    rw [nJ]
    simp only [bp hi,bW,cond_true,aH,Bool.or_true,bj hi,bV hi (by omega)]
    rw [lJ]
    unfold H5
    cases ah l[i].Person person <;> rfl
  · show dL _ _ _ _ = _
    rw [nJ,bU]; rfl
def dq (f:GFact):Bool:=dT f&&!f.Withdrawn
theorem io (f:GFact):fm f = some (dq f):=by
  rw [tJ,yg,Option.bind_some,iA]; rfl
theorem lR (l:List GFact) (hn:l.length≤1000000):jd l = some (l.filter dq):=by
  rw [uW]
  refine (Ad l (fun i out=>bL l i out) dq fun i out hi ho=>?_).trans ?_
  · show bL _ _ _ = bL _ _ _
    rw [jI]
    simp only [bp hi,bW,cond_true,aH,Bool.or_true,bj hi,bV hi (by omega)]
    rw [eH,Option.bind_some,lJ]
    unfold dq
    cases dT l[i] <;> cases l[i].Withdrawn <;> rfl
  · show bL _ _ _ = _
    rw [jI,bU]; rfl
theorem lv (l:List GFact) (hn:l.length≤1000000):iC l = some (l.filter dq):=by
  rw [tC,uS]
  have:br l (l.length:Int) 0 [] = some (l.filter dq):=by
    refine (Ad l (fun i out=>br l (l.length:Int) i out) dq fun i out hi ho=>?_).trans ?_
    · show br _ _ _ _ = br _ _ _ _
      rw [jV]
      simp only [bp hi,bW,cond_true,aH,Bool.or_true,bj hi,bV hi (by omega)]
      rw [io,Option.bind_some,lJ]
      cases dq l[i] <;> rfl
    · show br _ _ _ _ = _
      rw [jV,bU]; rfl
  rw [this]; rfl
def AB (kind:Int) (f:GFact) (a:Int × Bool):Int × Bool:=if (ah f.Kind kind&&(!a.2||aa (f.Span.From < a.1))) = true then (f.Span.From,true) else a
def gn (l:List GFact) (kind:Int):Int × Bool:=(l.filter dq).foldl (fun a f=>AB kind f a) (0,false)
theorem lH {A:Type} (p:GFact→Bool) (g:A→GFact→A):∀ (l:List GFact) (a:A),(l.filter p).foldl g a = l.foldl (fun a f=>if p f = true then g a f else a) a
  | [],_=>rfl
  | f :: l,a=>by
    rw [List.filter_cons,List.foldl_cons]
    by_cases h:p f = true
    · rw [if_pos h,if_pos h,List.foldl_cons,lH p g l]
    · rw [if_neg h,if_neg h,lH p g l]
theorem mu (l:List GFact) (kind:Int) (hn:l.length≤1000000):jK l kind = some (gn l kind):=by
  rw [wA]
  have:=(tv l (fun i (a:Int × Bool)=>cm kind a.1 a.2 l (l.length:Int) i) (fun a f=>if dq f = true then AB kind f a else a) (fun _ _=>True) (fun i a hi _=>⟨?_,trivial⟩) (0,false) trivial).1
  · refine Eq.trans this ?_
    show cm _ _ _ _ _ _ = _
    rw [kr,bU]
    unfold gn
    rw [lH]; rfl
  · show cm _ _ _ _ _ _ = cm _ _ _ _ _ _
    rw [kr]
    simp only [bp hi,bW,cond_true,aH,Bool.or_true,bj hi,bV hi (by omega)]
    rw [io,Option.bind_some]
    unfold AB
    simp only [iA,wx]
    cases dq l[i] with
    | false=>rfl
    | true =>
      simp only [Bool.true_and,if_true]
      cases (ah l[i].Kind kind&&(!a.2||aa (l[i].Span.From < a.1))) <;> rfl
theorem nP (l:List GFact) (kind:Int) (hn:l.length≤1000000):kW l kind = some (gn l kind):=by
  rw [xL,lR l hn,Option.bind_some]
  have hc:(l.filter dq).length≤l.length:=List.length_filter_le _ _
  unfold gn
  generalize l.filter dq = c at hc
  have:=(tv c (fun i (a:Int × Bool)=>cb kind a.1 a.2 i c) (fun a f=>AB kind f a) (fun _ _=>True) (fun i a hi _=>⟨?_,trivial⟩) (0,false) trivial).1
  · refine Eq.trans this ?_
    show cb _ _ _ _ _ = _
    rw [kq,bU]; rfl
  · show cb _ _ _ _ _ = cb _ _ _ _ _
    rw [kq]
    simp only [bp hi,bW,cond_true,aH,Bool.or_true,bj hi,bV hi (by omega)]
    unfold AB
    simp only [iA,wx]
    cases (ah c[i].Kind kind&&(!a.2||aa (c[i].Span.From < a.1))) <;> rfl
def cw (l:List GFact):GSpan :=
  let d:=if (gn l 12).2 then (gn l 12).1 else 73048
  if d < (gn l 11).1 then ⟨0,0⟩ else ⟨(gn l 11).1,ae (d+1)⟩
theorem De (a b:Int × Bool):(bif (!b.2) then bif aa (73048 < a.1) then some (⟨0,0⟩:GSpan) else some (⟨a.1,73049⟩:GSpan) else bif aa (b.1 < a.1) then some (⟨0,0⟩:GSpan) else some (⟨a.1,(ae (b.1+1))⟩:GSpan)) =
    some (let d:=if b.2 then b.1 else 73048; if d < a.1 then ⟨0,0⟩ else ⟨a.1,ae (d+1)⟩):=by
  cases b.2 with
  | false =>
    simp only [Bool.not_false,cond_true]
    by_cases h:73048 < a.1
    · simp [h]
    · simp [h,show ae 73049 = 73049 from aY (by omega) (by omega)]
  | true =>
    simp only [Bool.not_true,cond_false,if_true]
    by_cases h:b.1 < a.1
    · simp [h]
    · simp [h]
theorem uf (l:List GFact) (hn:l.length≤1000000):mZ l = some (gn l 11):=by rw [vM,mu l 11 hn]; rfl
theorem uT (l:List GFact) (hn:l.length≤1000000):mx l = some (gn l 12):=by rw [vS,mu l 12 hn]; rfl
theorem vu (l:List GFact) (hn:l.length≤1000000):od l = some (gn l 11):=by rw [wZ,nP l 11 hn]; rfl
theorem vJ (l:List GFact) (hn:l.length≤1000000):nX l = some (gn l 12):=by rw [wU,nP l 12 hn]; rfl
theorem jF (l:List GFact) (hn:l.length≤1000000):iN l = some (cw l):=by
  rw [xf,uf l hn,Option.bind_some,uT l hn,Option.bind_some]
  exact De _ _
theorem xO (l:List GFact) (hn:l.length≤1000000):pO l = some (cw l):=by
  rw [zA,vu l hn,Option.bind_some,vJ l hn,Option.bind_some]
  exact De _ _
end Go.Ax
set_option linter.all false
/- Spans: lists that are joined; Make. -/
set_option maxRecDepth 100000
namespace Go.Ax
def cD (l:List GSpan) (d:Int):Prop:=∃ s∈l,s.From≤d∧d < s.To
def cq (lo:Int):List GSpan→Prop
  | []=>True
  | s :: r=>lo < s.From∧s.From < s.To∧s.To≤73049∧cq s.To r
def sO (lo:Int):List GSpan→Int
  | []=>lo
  | s :: r=>sO s.To r
theorem aB {s:GSpan} {r:List GSpan} {d:Int}:cD (s :: r) d↔(s.From≤d∧d < s.To)∨cD r d:=by simp [cD]
theorem ct {d:Int}:¬ cD [] d:=by simp [cD]
theorem kI {a b:List GSpan} {d:Int}:cD (a++b) d↔cD a d∨cD b d:=by
  unfold cD
  constructor
  · rintro ⟨s,hs,h⟩
    rcases List.mem_append.1 hs with hs | hs
    · exact .inl ⟨s,hs,h⟩
    · exact .inr ⟨s,hs,h⟩
  · rintro (⟨s,hs,h⟩ | ⟨s,hs,h⟩)
    · exact ⟨s,List.mem_append.2 (.inl hs),h⟩
    · exact ⟨s,List.mem_append.2 (.inr hs),h⟩
theorem d9:∀ {l:List GSpan} {lo d:Int},cq lo l→cD l d→lo < d∧d < 73049
  | [],_,_,_,hc=>(ct hc).elim
  | s :: r,lo,d,⟨h1,h2,h3,h4⟩,hc=>by
    rcases aB.1 hc with h | h
    · omega
    · have:=d9 h4 h
      omega
theorem yH:∀ {a b:List GSpan} {lo:Int},cq lo a→cq lo b→(∀ d,cD a d↔cD b d)→a = b
  | [],[],_,_,_,_=>rfl
  | [],t :: u,_,_,hb,h=>(ct ((h t.From).2 (aB.2 (.inl ⟨Int.le_refl _,hb.2.1⟩)))).elim
  | s :: r,[],_,ha,_,h=>(ct ((h s.From).1 (aB.2 (.inl ⟨Int.le_refl _,ha.2.1⟩)))).elim
  | s :: r,t :: u,lo,⟨a1,a2,a3,a4⟩,⟨b1,b2,b3,b4⟩,h=>by
    have hs:=(h s.From).1 (aB.2 (.inl ⟨Int.le_refl _,a2⟩))
    have ht:=(h t.From).2 (aB.2 (.inl ⟨Int.le_refl _,b2⟩))
    have e1:s.From = t.From:=by
      rcases aB.1 hs with hs | hs
      · rcases aB.1 ht with ht | ht
        · omega
        · have:=d9 a4 ht; omega
      · have:=d9 b4 hs
        rcases aB.1 ht with ht | ht
        · omega
        · have:=d9 a4 ht; omega
    have e2:s.To = t.To:=by
      rcases Int.lt_trichotomy s.To t.To with hlt | he | hlt
      · have:=(h s.To).2 (aB.2 (.inl ⟨by omega,hlt⟩))
        rcases aB.1 this with hc | hc
        · omega
        · have:=d9 a4 hc; omega
      · exact he
      · have:=(h t.To).1 (aB.2 (.inl ⟨by omega,hlt⟩))
        rcases aB.1 this with hc | hc
        · omega
        · have:=d9 b4 hc; omega
    have e3:s = t:=by
      cases s; cases t
      simp only at e1 e2
      rw [e1,e2]
    subst e3
    rw [yH a4 b4 fun d=>?_]
    constructor
    · intro hc
      have h1:=d9 a4 hc
      rcases aB.1 ((h d).1 (aB.2 (.inr hc))) with h2 | h2
      · omega
      · exact h2
    · intro hc
      have h1:=d9 b4 hc
      rcases aB.1 ((h d).2 (aB.2 (.inr hc))) with h2 | h2
      · omega
      · exact h2
theorem jD (lo:Int):∀ (l:List GSpan) (s:GSpan),sO lo (l++[s]) = s.To
  | [],s=>rfl
  | t :: r,s=>jD t.To r s
theorem gV:∀ {l:List GSpan} {s:GSpan} {lo:Int},cq lo (l++[s])↔cq lo l∧sO lo l < s.From∧s.From < s.To∧s.To≤73049
  | [],s,lo=>by simp [cq,sO]
  | t :: r,s,lo=>by
    rw [List.cons_append]
    unfold cq sO
    rw [gV]
    constructor
    · rintro ⟨h1,h2,h3,h4,h5⟩; exact ⟨⟨h1,h2,h3,h4⟩,h5⟩
    · rintro ⟨⟨h1,h2,h3,h4⟩,h5⟩; exact ⟨h1,h2,h3,h4,h5⟩
theorem eR {T:Type} (l:List T):l = []∨∃ p x,l = p++[x]:=by
  rcases List.eq_nil_or_concat l with h | ⟨p,x,h⟩
  · exact .inl h
  · exact .inr ⟨p,x,by rw [h]; simp⟩
noncomputable def fM (out:List GSpan) (s:GSpan):List GSpan:=match out.getLast? with
  | none=>[s]
  | some x=>if s.From≤x.To then out.dropLast++[⟨x.From,if x.To < s.To then s.To else x.To⟩] else out++[s]
theorem sa (s:GSpan):fM [] s = [s]:=rfl
theorem pU (p:List GSpan) (x s:GSpan):fM (p++[x]) s = if s.From≤x.To then p++[⟨x.From,if x.To < s.To then s.To else x.To⟩] else (p++[x])++[s]:=by
  unfold fM
  rw [List.getLast?_concat]
  simp
theorem Gc {out:List GSpan} {s:GSpan} (hn:cq (-1) out) (hb:∀ x∈out,x.From≤s.From) (h1:0≤s.From) (h2:s.From < s.To) (h3:s.To≤73049) :
    cq (-1) (fM out s)∧(∀ d,cD (fM out s) d↔cD out d∨(s.From≤d∧d < s.To))∧(∀ x∈fM out s,x.From≤s.From)∧(fM out s).length≤out.length+1:=by
  rcases eR out with rfl | ⟨p,x,rfl⟩
  · rw [sa]
    refine ⟨⟨by omega,h2,h3,trivial⟩,fun d=>?_,fun x hx=>?_,by simp⟩
    · rw [aB]; simp [ct]
    · rw [List.mem_singleton.1 hx]; exact Int.le_refl _
  · obtain ⟨n1,n2,n3,n4⟩:=gV.1 hn
    have hx:=hb x (by simp)
    rw [pU]
    by_cases hc:s.From≤x.To
    · rw [if_pos hc]
      have hm:x.To≤(if x.To < s.To then s.To else x.To)∧s.To≤(if x.To < s.To then s.To else x.To)∧((if x.To < s.To then s.To else x.To) = x.To∨(if x.To < s.To then s.To else x.To) = s.To):=by
        split <;> omega
      generalize (if x.To < s.To then s.To else x.To) = m at hm
      refine ⟨gV.2 ⟨n1,n2,by show x.From < m; omega,by show m≤73049; omega⟩,fun d=>?_,fun y hy=>?_,by simp⟩
      · rw [kI,kI,aB,aB]
        simp only [ct,or_false]
        constructor
        · rintro (h | ⟨h4,h5⟩)
          · exact .inl (.inl h)
          · by_cases hd:d < x.To
            · exact .inl (.inr ⟨h4,hd⟩)
            · exact .inr ⟨by omega,by omega⟩
        · rintro ((h | ⟨h4,h5⟩) | ⟨h4,h5⟩)
          · exact .inl h
          · exact .inr ⟨h4,by omega⟩
          · exact .inr ⟨by omega,by omega⟩
      · rcases List.mem_append.1 hy with hy | hy
        · exact hb y (by simp [hy])
        · rw [List.mem_singleton.1 hy]; exact hx
    · rw [if_neg hc]
      refine ⟨gV.2 ⟨hn,by rw [jD]; omega,h2,h3⟩,fun d=>?_,fun y hy=>?_,by simp⟩
      · rw [kI (b:=[s]),aB]; simp [ct]
      · rcases List.mem_append.1 hy with hy | hy
        · exact hb y hy
        · rw [List.mem_singleton.1 hy]; exact Int.le_refl _
theorem zf:∀ (l out:List GSpan),cq (-1) out→(∀ x∈out, ∀ s∈l,x.From≤s.From)→l.Pairwise (fun a b=>a.From≤b.From)→(∀ s∈l,0≤s.From∧s.From < s.To∧s.To≤73049) →
    cq (-1) (l.foldl fM out)∧(∀ d,cD (l.foldl fM out) d↔cD out d∨cD l d)∧(l.foldl fM out).length≤out.length+l.length
  | [],out,hn,_,_,_=>⟨hn,fun d=>by simp [ct],by simp⟩
  | s :: l,out,hn,hb,hp,ho=>by
    obtain ⟨o1,o2,o3⟩:=ho s (by simp)
    obtain ⟨j1,j2,j3,j4⟩:=Gc hn (fun x hx=>hb x hx s (by simp)) o1 o2 o3
    obtain ⟨p1,p2⟩:=List.pairwise_cons.1 hp
    obtain ⟨f1,f2,f3⟩:=zf l (fM out s) j1 (fun x hx t ht=>by have:=j3 x hx; have:=p1 t ht; omega) p2 (fun t ht=>ho t (by simp [ht]))
    rw [List.foldl_cons]
    refine ⟨f1,fun d=>?_,by rw [List.length_cons]; omega⟩
    rw [f2,j2,aB,or_assoc]
def az (s:GSpan):GSpan:=GSpan.mk (if s.From < (0:Int) then (0:Int) else s.From) (if (73049:Int) < s.To then (73049:Int) else s.To)
def me (s:GSpan):Bool:=decide (s.From < s.To)
def gB (l:List GSpan):List GSpan:=(l.map az).filter me
theorem zo (s:GSpan) (d:Int):((az s).From≤d∧d < (az s).To)↔(s.From≤d∧d < s.To)∧0≤d∧d < 73049:=by
  unfold az
  simp only
  split <;> split <;> omega
theorem m0 (l:List GSpan) (d:Int):cD (gB l) d↔cD l d∧0≤d∧d < 73049:=by
  unfold cD gB
  constructor
  · rintro ⟨s,hs,h⟩
    obtain ⟨h1,_⟩:=List.mem_filter.1 hs
    obtain ⟨t,ht,rfl⟩:=List.mem_map.1 h1
    have:=(zo t d).1 h
    exact ⟨⟨t,ht,this.1⟩,this.2⟩
  · rintro ⟨⟨t,ht,h⟩,h2⟩
    have:=(zo t d).2 ⟨h,h2⟩
    refine ⟨az t,List.mem_filter.2 ⟨List.mem_map.2 ⟨t,ht,rfl⟩, ?_⟩,this⟩
    unfold me
    rw [decide_eq_true_iff]; omega
theorem Dr (l:List GSpan):∀ s∈gB l,0≤s.From∧s.From < s.To∧s.To≤73049:=by
  intro s hs
  obtain ⟨h1,h2⟩:=List.mem_filter.1 hs
  obtain ⟨t,ht,rfl⟩:=List.mem_map.1 h1
  unfold me at h2
  rw [decide_eq_true_iff] at h2
  refine ⟨?_,h2, ?_⟩ <;> (unfold az; simp only; split <;> omega)
theorem BR (l:List GSpan):(gB l).length≤l.length:=by
  unfold gB
  have:=List.length_filter_le me (l.map az)
  simpa using this
theorem Dk (p:List GSpan) (x:GSpan) (h:p.length≤1000000000):ae ((((p++[x]).length:Nat):Int) - 1) = ((p.length:Nat):Int):=by
  have hl:(p++[x]).length = p.length+1:=by simp
  rw [aY (by omega) (by omega)]
  omega
theorem Ai {T:Type} (p:List T) (x y:T):(p++[x]).set p.length y = p++[y]:=by
  rw [List.set_append_right _ _ (Nat.le_refl _)]
  simp
theorem DN {T:Type} (p:List T) (x z:T):gD (p++[x]) p.length z = x:=pz p [] x z
theorem DW (t out:List GSpan) (i:Nat) (hi:i < t.length) (ho:out.length≤1000000000) (hn:t.length≤1000000000) :
    cz (t.length:Int) (i:Int) out t = cz (t.length:Int) ((i+1:Nat):Int) (fM out t[i]) t:=by
  rw [li]
  simp only [bp hi,bW,cond_true,aH,Bool.or_true,bj hi,bV hi (by omega)]
  rcases eR out with rfl | ⟨p,x,rfl⟩
  · rw [show aa ((0:Int) < ((([]:List GSpan).length:Nat):Int)) = false from rfl]
    simp only [Bool.false_and,Bool.not_false,Bool.true_or,aH,cond_false]
    rw [lJ (by simp) (by simp),sa]
    rfl
  · have hp:p.length≤1000000000:=by simp at ho; omega
    have hl:(p++[x]).length = p.length+1:=by simp
    have h0:aa ((0:Int) < (((p++[x]).length:Nat):Int)) = true:=aU (by omega)
    have hlt:aa (((p.length:Nat):Int) < (((p++[x]).length:Nat):Int)) = true:=aU (by omega)
    have hi0:aa ((0:Int)≤((p.length:Nat):Int)) = true:=aU (by omega)
    rw [Dk p x hp]
    simp only [h0,hlt,hi0,Bool.or_true,aH,cond_true,DN,Int.toNat_natCast,Ai,pU]
    by_cases hc:t[i].From≤x.To
    · rw [aU hc,cond_true,if_pos hc]
      by_cases hd:x.To < t[i].To
      · rw [aU hd,if_pos hd]; rfl
      · rw [cP hd,if_neg hd]; rfl
    · rw [cP hc,cond_false,lJ (by omega) (by omega),if_neg hc]
theorem EZ (out:List GSpan) (s:GSpan):(fM out s).length≤out.length+1:=by
  rcases eR out with rfl | ⟨p,x,rfl⟩
  · rw [sa]; simp
  · rw [pU]; split <;> simp
theorem Fv (s:GSpan):oy s = some (az s):=by
  rw [xd]
  unfold az
  by_cases h1:s.From < 0 <;> by_cases h2:73049 < s.To <;> simp [h1,h2]
theorem F8:Go.Sort.SWO fun (a b:GSpan)=>aa (a.From < b.From):=⟨fun x=>by simp,fun x y z h1 h2=>by simp at *; omega,fun x y z h1 h2=>by simp at *; omega⟩
noncomputable def eo (l:List GSpan):List GSpan:=(fW (gB l)).foldl fM []
theorem qI (l:List GSpan):(fW l).Perm l∧(fW l).Pairwise fun a b=>a.From≤b.From:=by
  obtain ⟨h1,h2⟩:=@vr _ ⟨zS .GSpan⟩ _ F8 l
  exact ⟨h1,h2.imp fun h=>by simp at h; omega⟩
theorem oI (l:List GSpan) (hn:l.length≤1000000000):l7 l = some (eo l):=by
  have hc:=BR l
  have hs:=(qI (gB l)).1.length_eq
  rw [zx]
  have e:gB l = l.flatMap fun s=>if me (az s) = true then [az s] else []:=by
    unfold gB
    rw [jM (fun s=>me (az s)) az,List.filter_map]
    rfl
  refine (DT l (fun i out=>cK l (l.length:Int) i out) (fun s=>if me (az s) = true then [az s] else []) 1 (fun x _=>by split <;> simp) fun i out hi ho=>?_).trans ?_
  · show cK _ _ _ _ = cK _ _ _ _
    rw [lL]
    simp only [bp hi,bW,cond_true,aH,Bool.or_true,bj hi,bV hi (by omega)]
    rw [Fv,Option.bind_some,lJ (by omega) (by omega)]
    unfold me
    by_cases hk:(az l[i]).From < (az l[i]).To
    · rw [aU hk,decide_eq_true hk]; rfl
    · rw [cP hk,decide_eq_false hk]; simp
  · rw [← e]
    show cK _ _ _ _ = _
    rw [lL,bU,cond_false,aF (by omega)]
    unfold eo
    generalize hg:fW (gB l) = t at hs
    refine ((tv t (fun i out=>cz (t.length:Int) i out t) fM (fun i out=>out.length≤i) (fun i out hi ho=>⟨DW t out i hi (by omega) (by omega),by have:=EZ out t[i]; omega⟩) [] (by simp)).1).trans ?_
    show cz _ _ _ _ = _
    rw [li,bU]; rfl
theorem gU (l:List GSpan):cq (-1) (eo l)∧(∀ d,cD (eo l) d↔cD l d∧0≤d∧d < 73049)∧(eo l).length≤l.length:=by
  obtain ⟨hp,hs⟩:=qI (gB l)
  have hc:=BR l
  obtain ⟨f1,f2,f3⟩:=zf (fW (gB l)) [] trivial (fun x hx=>by simp at hx) hs (fun s h=>Dr l s (hp.mem_iff.1 h))
  refine ⟨f1,fun d=>?_, ?_⟩
  · unfold eo
    rw [f2, ← m0]
    constructor
    · rintro (h | ⟨s,h,h'⟩)
      · exact (ct h).elim
      · exact ⟨s,hp.mem_iff.1 h,h'⟩
    · rintro ⟨s,h,h'⟩
      exact .inr ⟨s,hp.mem_iff.2 h,h'⟩
  · unfold eo
    have:=hp.length_eq
    simp at f3
    omega
end Go.Ax
