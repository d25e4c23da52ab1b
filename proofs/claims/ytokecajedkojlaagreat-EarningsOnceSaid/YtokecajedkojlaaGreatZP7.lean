import Derived.Test.YtokecajedkojlaaGreatZP6
set_option linter.all false
/- The document's validity; facts that count; life. -/
set_option maxRecDepth 100000
namespace Go.Ax
theorem HE (k:Int) (c:Nat) (hc:c < 256):zb k (c:Int) = some (dV k c):=by
  rw [KR,mA,Option.bind_some]
  have hn:=vB k
  have hs:=xf k
  unfold dV
  generalize dW k = l at hn hs
  have:=PA l (fun i=>fa c (ac l) i) (fun x=>x == c) (some true) (some false) (by
    show fa _ _ _ = _
    rw [s6,aq,aX]; rfl) fun i hi=>by
      show fa _ _ _ = if _ then _ else fa _ _ _
      rw [s6,aq]
      simp only [aP hi,bj,cond_true,ay,Bool.or_true,bd hi,aW hi (by omega)]
      rw [Int.toNat_natCast,Ry l i hi]
      have hv:((UInt8.ofNat l[i]).toNat:Int) = (l[i]:Int):=by
        have:=hs _ (List.getElem_mem hi)
        simp [Nat.mod_eq_of_lt this]
      rw [hv]
      by_cases e:l[i] = c
      · rw [cA.2 (by omega),if_pos (by simp [e])]; rfl
      · rw [fx.2 (by omega),if_neg (by simp [e])]; rfl
  rw [this]
  have e2:l.any (fun x=>x == c) = l.contains c:=by rw [List.contains_eq_any_beq]; congr 1; funext x; exact Bool.beq_comm
  rw [e2]
  cases l.contains c <;> rfl
theorem fU (k:Int) (c:Nat) (hc:c < 256) (n l m:Int):co k (c:Int) n l m = some (bS (dV k c) n l m):=by
  rw [Hk,HE k c hc,Option.bind_some]
  unfold bS fj
  cases dV k c
  · rfl
  · simp only [cond_true,bB,if_true]
theorem rf (k n l m:Int):(co k 83 n l m = some (bS (dV k 83) n l m))∧(co k 84 n l m = some (bS (dV k 84) n l m))∧(co k 72 n l m = some (bS (dV k 72) n l m)) ∧
    (co k 67 n l m = some (bS (dV k 67) n l m))∧(co k 65 n l m = some (bS (dV k 65) n l m))∧(co k 82 n l m = some (bS (dV k 82) n l m)) :=
  ⟨fU k 83 (by decide) n l m,fU k 84 (by decide) n l m,fU k 72 (by decide) n l m,fU k 67 (by decide) n l m,fU k 65 (by decide) n l m,fU k 82 (by decide) n l m⟩
theorem zE {f:GFact} (h:cI f = true→False):some false = some (cI f):=by
  cases hv:cI f with
  | false=>rfl
  | true=>exact (h hv).elim
theorem eF (f:GFact):fw f = some (cI f):=by
  rw [HC,mA]
  have out:∀ {p:Prop} [Decidable p] {o:Option Bool},(p→cI f = true→False)→(¬ p→o = some (cI f))→(bif aa p then some false else o) = some (cI f):=by
    intro p _ o h1 h2
    by_cases hp:p
    · rw [aB hp,cond_true]; exact zE (h1 hp)
    · rw [aE hp,cond_false]; exact h2 hp
  have V:=tM f
  refine out (fun h hv=>?_) fun c1=>out (fun h hv=>?_) fun c2=>out (fun h hv=>?_) fun c3=>out (fun h hv=>?_) fun c4=>out (fun h hv=>?_) fun c5=>out (fun h hv=>?_) fun c6=>out (fun h hv=>?_) fun c7=>out (fun h hv=>?_) fun c8=>?_
  any_goals (obtain ⟨g0,g1,g2,g3,g4,_⟩:=V.1 hv; omega)
  rw [Option.bind_some,MY]
  cases h0:(dW f.Kind).isEmpty with
  | true=>rw [cond_true]; exact zE fun hv=>by obtain ⟨g0,_⟩:=V.1 hv; rw [g0] at h0; cases h0
  | false =>
    rw [cond_false]
    simp only [cW,bB]
    cases h2:(aa (f.Span.From < 0)||aa (f.Span.To≤f.Span.From)||aa (73049 < f.Span.To)) with
    | true =>
      rw [cond_true]
      refine zE fun hv=>?_
      obtain ⟨g0,g1,g2,g3,g4,_,_,g5,_⟩:=V.1 hv
      simp only [Bool.or_eq_true,decide_eq_true_eq] at h2
      omega
    | false =>
      rw [cond_false]
      simp only [Bool.or_eq_false_iff,decide_eq_false_iff_not] at h2
      rw [ah (by omega) (by omega)]
      cases h3:((af f.Kind 11||af f.Kind 12)&&aK (f.Span.To - f.Span.From) 1||af f.Kind 4&&af f.Seat f.State||(af f.Kind 10||af f.Kind 14)&&af f.Ref f.Person) with
      | true =>
        rw [cond_true]
        refine zE fun hv=>?_
        obtain ⟨_,g1,g2,g3,g4,_,_,g5,_,_,_,_,g6⟩:=V.1 hv
        unfold zH at g6
        simp only [Bool.or_eq_true,Bool.and_eq_true,beq_iff_eq,bne_iff_ne,ne_eq,af,aK] at h3
        split at g6
        · simp only [bne_iff_ne,ne_eq] at g6; omega
        · split at g6
          · simp only [beq_iff_eq] at g6; omega
          · split at g6
            · simp only [bne_iff_ne,ne_eq] at g6; omega
            · omega
      | false =>
        rw [cond_false]
        have hf:=fun n l m=>rf f.Kind n l m
        simp only [(hf _ _ _).1,(hf _ _ _).2.1,(hf _ _ _).2.2.1,(hf _ _ _).2.2.2.1,(hf _ _ _).2.2.2.2.1,(hf _ _ _).2.2.2.2.2,Option.bind_some]
        have hkind:zH f = true:=by
          simp only [Bool.or_eq_false_iff,Bool.and_eq_false_iff,beq_eq_false_iff_ne,bne_eq_false_iff_eq,ne_eq,af,aK] at h3
          unfold zH
          split
          · simp only [bne_iff_ne,ne_eq]; omega
          · split
            · simp only [beq_iff_eq]; omega
            · split
              · simp only [bne_iff_ne,ne_eq]; omega
              · rfl
        have e:∀ (a b:Bool),(bif a then some b else some false) = some (a&&b):=by intro a b; cases a <;> rfl
        simp only [e,Option.some.injEq]
        rw [Bool.eq_iff_iff,V]
        simp only [Bool.and_eq_true]
        constructor
        · rintro ⟨a1,a2,a3,a4,a5,a6⟩
          exact ⟨h0,by omega,by omega,by omega,by omega,a1,a2,by omega,a3,a4,a5,a6,hkind⟩
        · rintro ⟨_,_,_,_,_,a1,a2,_,a3,a4,a5,a6,_⟩
          exact ⟨a1,a2,a3,a4,a5,a6⟩
theorem o5 {f:GFact} (h:cI f = true):0≤f.Amount∧f.Amount≤1000000000∧0≤f.Span.From∧f.Span.From < f.Span.To∧f.Span.To≤73049:=by
  obtain ⟨_,_,_,_,_,_,_,g5,_,_,ga,_⟩:=(tM f).1 h
  unfold bS at ga
  split at ga
  · have:=q7.1 ga; omega
  · have:f.Amount = 0:=by simpa using ga
    omega
def Ve (person:Int) (f:GFact):Bool:=af f.Person person
theorem Mx (l:List GFact) (person:Int) (hn:l.length≤1000000):Aj l person = some (l.filter (Ve person)):=by
  rw [OF]
  refine (Qy l (fun i out=>fH l person i out) (Ve person) fun i out hi ho=>?_).trans ?_
  · show fH _ _ _ _ = fH _ _ _ _
    rw [wi]
    simp only [aP hi,bj,cond_true,ay,Bool.or_true,bd hi,aW hi (by omega)]
    rw [jO]
    unfold Ve
    cases af l[i].Person person <;> rfl
  · show fH _ _ _ _ = _
    rw [wi,aX]; rfl
def bp (f:GFact):Bool:=cI f&&!f.Withdrawn
theorem sC (f:GFact):mM f = some (bp f):=by
  rw [CP,x8,Option.bind_some,bB]; rfl
theorem eP (l:List GFact) (hn:l.length≤1000000):eQ l = some (l.filter bp):=by
  rw [EW]
  refine (Qy l (fun i out=>cN l i out) bp fun i out hi ho=>?_).trans ?_
  · show cN _ _ _ = cN _ _ _
    rw [po]
    simp only [aP hi,bj,cond_true,ay,Bool.or_true,bd hi,aW hi (by omega)]
    rw [eF,Option.bind_some,jO]
    unfold bp
    cases cI l[i] <;> cases l[i].Withdrawn <;> rfl
  · show cN _ _ _ = _
    rw [po,aX]; rfl
theorem B3 (l:List GFact) (hn:l.length≤1000000):qC l = some (l.filter bp):=by
  rw [CV,D1]
  have:cf l (l.length:Int) 0 [] = some (l.filter bp):=by
    refine (Qy l (fun i out=>cf l (l.length:Int) i out) bp fun i out hi ho=>?_).trans ?_
    · show cf _ _ _ _ = cf _ _ _ _
      rw [pE]
      simp only [aP hi,bj,cond_true,ay,Bool.or_true,bd hi,aW hi (by omega)]
      rw [sC,Option.bind_some,jO]
      cases bp l[i] <;> rfl
    · show cf _ _ _ _ = _
      rw [pE,aX]; rfl
  rw [this]; rfl
def M2 (kind:Int) (f:GFact) (a:Int × Bool):Int × Bool:=if (af f.Kind kind&&(!a.2||aa (f.Span.From < a.1))) = true then (f.Span.From,true) else a
def kR (l:List GFact) (kind:Int):Int × Bool:=(l.filter bp).foldl (fun a f=>M2 kind f a) (0,false)
theorem sX {A:Type} (p:GFact→Bool) (g:A→GFact→A):∀ (l:List GFact) (a:A),(l.filter p).foldl g a = l.foldl (fun a f=>if p f = true then g a f else a) a
  | [],_=>rfl
  | f :: l,a=>by
    rw [List.filter_cons,List.foldl_cons]
    by_cases h:p f = true
    · rw [if_pos h,if_pos h,List.foldl_cons,sX p g l]
    · rw [if_neg h,if_neg h,sX p g l]
theorem ui (l:List GFact) (kind:Int) (hn:l.length≤1000000):pK l kind = some (kR l kind):=by
  rw [GA]
  have:=(qX l (fun i (a:Int × Bool)=>dm kind a.1 a.2 l (l.length:Int) i) (fun a f=>if bp f = true then M2 kind f a else a) (fun _ _=>True) (fun i a hi _=>⟨?_,trivial⟩) (0,false) trivial).1
  · refine Eq.trans this ?_
    show dm _ _ _ _ _ _ = _
    rw [qe,aX]
    unfold kR
    rw [sX]; rfl
  · show dm _ _ _ _ _ _ = dm _ _ _ _ _ _
    rw [qe]
    simp only [aP hi,bj,cond_true,ay,Bool.or_true,bd hi,aW hi (by omega)]
    rw [sC,Option.bind_some]
    unfold M2
    simp only [bB,cW]
    cases bp l[i] with
    | false=>rfl
    | true =>
      simp only [Bool.true_and,if_true]
      cases (af l[i].Kind kind&&(!a.2||aa (l[i].Span.From < a.1))) <;> rfl
theorem wn (l:List GFact) (kind:Int) (hn:l.length≤1000000):rB l kind = some (kR l kind):=by
  rw [HF,eP l hn,Option.bind_some]
  have hc:(l.filter bp).length≤l.length:=List.length_filter_le _ _
  unfold kR
  generalize l.filter bp = c at hc
  have:=(qX c (fun i (a:Int × Bool)=>dj kind a.1 a.2 i c) (fun a f=>M2 kind f a) (fun _ _=>True) (fun i a hi _=>⟨?_,trivial⟩) (0,false) trivial).1
  · refine Eq.trans this ?_
    show dj _ _ _ _ _ = _
    rw [pZ,aX]; rfl
  · show dj _ _ _ _ _ = dj _ _ _ _ _
    rw [pZ]
    simp only [aP hi,bj,cond_true,ay,Bool.or_true,bd hi,aW hi (by omega)]
    unfold M2
    simp only [bB,cW]
    cases (af c[i].Kind kind&&(!a.2||aa (c[i].Span.From < a.1))) <;> rfl
def im (l:List GFact):GSpan :=
  let d:=if (kR l 12).2 then (kR l 12).1 else 73048
  if d < (kR l 11).1 then ⟨0,0⟩ else ⟨(kR l 11).1,ab (d+1)⟩
theorem Pw (a b:Int × Bool):(bif (!b.2) then bif aa (73048 < a.1) then some (⟨0,0⟩:GSpan) else some (⟨a.1,73049⟩:GSpan) else bif aa (b.1 < a.1) then some (⟨0,0⟩:GSpan) else some (⟨a.1,(ab (b.1+1))⟩:GSpan)) =
    some (let d:=if b.2 then b.1 else 73048; if d < a.1 then ⟨0,0⟩ else ⟨a.1,ab (d+1)⟩):=by
  cases b.2 with
  | false =>
    simp only [Bool.not_false,cond_true]
    by_cases h:73048 < a.1
    · simp [h]
    · simp [h,show ab 73049 = 73049 from ah (by omega) (by omega)]
  | true =>
    simp only [Bool.not_true,cond_false,if_true]
    by_cases h:b.1 < a.1
    · simp [h]
    · simp [h]
theorem E3 (l:List GFact) (hn:l.length≤1000000):vo l = some (kR l 11):=by rw [Gx,ui l 11 hn]; rfl
theorem ET (l:List GFact) (hn:l.length≤1000000):uG l = some (kR l 12):=by rw [F8,ui l 12 hn]; rfl
theorem FF (l:List GFact) (hn:l.length≤1000000):wX l = some (kR l 11):=by rw [IX,wn l 11 hn]; rfl
theorem F7 (l:List GFact) (hn:l.length≤1000000):wY l = some (kR l 12):=by rw [HD,wn l 12 hn]; rfl
theorem Fh (l:List GFact) (hn:l.length≤1000000):wT l = some (im l):=by
  rw [Jt,E3 l hn,Option.bind_some,ET l hn,Option.bind_some]
  exact Pw _ _
theorem gN (l:List GFact) (hn:l.length≤1000000):iB l = some (im l):=by
  rw [KW,FF l hn,Option.bind_some,F7 l hn,Option.bind_some]
  exact Pw _ _
end Go.Ax
set_option linter.all false
/- Spans: lists that are joined; Make. -/
set_option maxRecDepth 100000
namespace Go.Ax
def cP (l:List GSpan) (d:Int):Prop:=∃ s∈l,s.From≤d∧d < s.To
def bP (lo:Int):List GSpan→Prop
  | []=>True
  | s :: r=>lo < s.From∧s.From < s.To∧s.To≤73049∧bP s.To r
def A7 (lo:Int):List GSpan→Int
  | []=>lo
  | s :: r=>A7 s.To r
theorem aR {s:GSpan} {r:List GSpan} {d:Int}:cP (s :: r) d↔(s.From≤d∧d < s.To)∨cP r d:=by simp [cP]
theorem da {d:Int}:¬ cP [] d:=by simp [cP]
theorem qF {a b:List GSpan} {d:Int}:cP (a++b) d↔cP a d∨cP b d:=by
  unfold cP
  constructor
  · rintro ⟨s,hs,h⟩
    rcases List.mem_append.1 hs with hs | hs
    · exact .inl ⟨s,hs,h⟩
    · exact .inr ⟨s,hs,h⟩
  · rintro (⟨s,hs,h⟩ | ⟨s,hs,h⟩)
    · exact ⟨s,List.mem_append.2 (.inl hs),h⟩
    · exact ⟨s,List.mem_append.2 (.inr hs),h⟩
theorem gf:∀ {l:List GSpan} {lo d:Int},bP lo l→cP l d→lo < d∧d < 73049
  | [],_,_,_,hc=>(da hc).elim
  | s :: r,lo,d,⟨h1,h2,h3,h4⟩,hc=>by
    rcases aR.1 hc with h | h
    · omega
    · have:=gf h4 h
      omega
theorem oM:∀ {a b:List GSpan} {lo:Int},bP lo a→bP lo b→(∀ d,cP a d↔cP b d)→a = b
  | [],[],_,_,_,_=>rfl
  | [],t :: u,_,_,hb,h=>(da ((h t.From).2 (aR.2 (.inl ⟨Int.le_refl _,hb.2.1⟩)))).elim
  | s :: r,[],_,ha,_,h=>(da ((h s.From).1 (aR.2 (.inl ⟨Int.le_refl _,ha.2.1⟩)))).elim
  | s :: r,t :: u,lo,⟨a1,a2,a3,a4⟩,⟨b1,b2,b3,b4⟩,h=>by
    have hs:=(h s.From).1 (aR.2 (.inl ⟨Int.le_refl _,a2⟩))
    have ht:=(h t.From).2 (aR.2 (.inl ⟨Int.le_refl _,b2⟩))
    have e1:s.From = t.From:=by
      rcases aR.1 hs with hs | hs
      · rcases aR.1 ht with ht | ht
        · omega
        · have:=gf a4 ht; omega
      · have:=gf b4 hs
        rcases aR.1 ht with ht | ht
        · omega
        · have:=gf a4 ht; omega
    have e2:s.To = t.To:=by
      rcases Int.lt_trichotomy s.To t.To with hlt | he | hlt
      · have:=(h s.To).2 (aR.2 (.inl ⟨by omega,hlt⟩))
        rcases aR.1 this with hc | hc
        · omega
        · have:=gf a4 hc; omega
      · exact he
      · have:=(h t.To).1 (aR.2 (.inl ⟨by omega,hlt⟩))
        rcases aR.1 this with hc | hc
        · omega
        · have:=gf b4 hc; omega
    have e3:s = t:=by
      cases s; cases t
      simp only at e1 e2
      rw [e1,e2]
    subst e3
    rw [oM a4 b4 fun d=>?_]
    constructor
    · intro hc
      have h1:=gf a4 hc
      rcases aR.1 ((h d).1 (aR.2 (.inr hc))) with h2 | h2
      · omega
      · exact h2
    · intro hc
      have h1:=gf b4 hc
      rcases aR.1 ((h d).2 (aR.2 (.inr hc))) with h2 | h2
      · omega
      · exact h2
theorem oK (lo:Int):∀ (l:List GSpan) (s:GSpan),A7 lo (l++[s]) = s.To
  | [],s=>rfl
  | t :: r,s=>oK t.To r s
theorem mo:∀ {l:List GSpan} {s:GSpan} {lo:Int},bP lo (l++[s])↔bP lo l∧A7 lo l < s.From∧s.From < s.To∧s.To≤73049
  | [],s,lo=>by simp [bP,A7]
  | t :: r,s,lo=>by
    rw [List.cons_append]
    unfold bP A7
    rw [mo]
    constructor
    · rintro ⟨h1,h2,h3,h4,h5⟩; exact ⟨⟨h1,h2,h3,h4⟩,h5⟩
    · rintro ⟨⟨h1,h2,h3,h4⟩,h5⟩; exact ⟨h1,h2,h3,h4,h5⟩
theorem iO {T:Type} (l:List T):l = []∨∃ p x,l = p++[x]:=by
  rcases List.eq_nil_or_concat l with h | ⟨p,x,h⟩
  · exact .inl h
  · exact .inr ⟨p,x,by rw [h]; simp⟩
noncomputable def j6 (out:List GSpan) (s:GSpan):List GSpan:=match out.getLast? with
  | none=>[s]
  | some x=>if s.From≤x.To then out.dropLast++[⟨x.From,if x.To < s.To then s.To else x.To⟩] else out++[s]
theorem A3 (s:GSpan):j6 [] s = [s]:=rfl
theorem yZ (p:List GSpan) (x s:GSpan):j6 (p++[x]) s = if s.From≤x.To then p++[⟨x.From,if x.To < s.To then s.To else x.To⟩] else (p++[x])++[s]:=by
  unfold j6
  rw [List.getLast?_concat]
  simp
theorem Sj {out:List GSpan} {s:GSpan} (hn:bP (-1) out) (hb:∀ x∈out,x.From≤s.From) (h1:0≤s.From) (h2:s.From < s.To) (h3:s.To≤73049) :
    bP (-1) (j6 out s)∧(∀ d,cP (j6 out s) d↔cP out d∨(s.From≤d∧d < s.To))∧(∀ x∈j6 out s,x.From≤s.From)∧(j6 out s).length≤out.length+1:=by
  rcases iO out with rfl | ⟨p,x,rfl⟩
  · rw [A3]
    refine ⟨⟨by omega,h2,h3,trivial⟩,fun d=>?_,fun x hx=>?_,by simp⟩
    · rw [aR]; simp [da]
    · rw [List.mem_singleton.1 hx]; exact Int.le_refl _
  · obtain ⟨n1,n2,n3,n4⟩:=mo.1 hn
    have hx:=hb x (by simp)
    rw [yZ]
    by_cases hc:s.From≤x.To
    · rw [if_pos hc]
      have hm:x.To≤(if x.To < s.To then s.To else x.To)∧s.To≤(if x.To < s.To then s.To else x.To)∧((if x.To < s.To then s.To else x.To) = x.To∨(if x.To < s.To then s.To else x.To) = s.To):=by
        split <;> omega
      generalize (if x.To < s.To then s.To else x.To) = m at hm
      refine ⟨mo.2 ⟨n1,n2,by show x.From < m; omega,by show m≤73049; omega⟩,fun d=>?_,fun y hy=>?_,by simp⟩
      · rw [qF,qF,aR,aR]
        simp only [da,or_false]
        constructor
        · rintro (h | ⟨h4,h5⟩)
          · exact .inl (.inl h)
          · by_cases hd:d < x.To
            · exact .inl (.inr ⟨h4,hd⟩)
            · exact .inr ⟨by omega,by omega⟩
        · rintro ((h | ⟨h4,h5⟩) | ⟨h4,h5⟩)
          · exact .inl h
          · exact .inr ⟨h4,by omega⟩
          · exact .inr ⟨by omega,by omega⟩
      · rcases List.mem_append.1 hy with hy | hy
        · exact hb y (by simp [hy])
        · rw [List.mem_singleton.1 hy]; exact hx
    · rw [if_neg hc]
      refine ⟨mo.2 ⟨hn,by rw [oK]; omega,h2,h3⟩,fun d=>?_,fun y hy=>?_,by simp⟩
      · rw [qF (b:=[s]),aR]; simp [da]
      · rcases List.mem_append.1 hy with hy | hy
        · exact hb y hy
        · rw [List.mem_singleton.1 hy]; exact Int.le_refl _
theorem Kb:∀ (l out:List GSpan),bP (-1) out→(∀ x∈out, ∀ s∈l,x.From≤s.From)→l.Pairwise (fun a b=>a.From≤b.From)→(∀ s∈l,0≤s.From∧s.From < s.To∧s.To≤73049) →
    bP (-1) (l.foldl j6 out)∧(∀ d,cP (l.foldl j6 out) d↔cP out d∨cP l d)∧(l.foldl j6 out).length≤out.length+l.length
  | [],out,hn,_,_,_=>⟨hn,fun d=>by simp [da],by simp⟩
  | s :: l,out,hn,hb,hp,ho=>by
    obtain ⟨o1,o2,o3⟩:=ho s (by simp)
    obtain ⟨j1,j2,j3,j4⟩:=Sj hn (fun x hx=>hb x hx s (by simp)) o1 o2 o3
    obtain ⟨p1,p2⟩:=List.pairwise_cons.1 hp
    obtain ⟨f1,f2,f3⟩:=Kb l (j6 out s) j1 (fun x hx t ht=>by have:=j3 x hx; have:=p1 t ht; omega) p2 (fun t ht=>ho t (by simp [ht]))
    rw [List.foldl_cons]
    refine ⟨f1,fun d=>?_,by rw [List.length_cons]; omega⟩
    rw [f2,j2,aR,or_assoc]
def aL (s:GSpan):GSpan:=GSpan.mk (if s.From < (0:Int) then (0:Int) else s.From) (if (73049:Int) < s.To then (73049:Int) else s.To)
def tJ (s:GSpan):Bool:=decide (s.From < s.To)
def lk (l:List GSpan):List GSpan:=(l.map aL).filter tJ
theorem JF (s:GSpan) (d:Int):((aL s).From≤d∧d < (aL s).To)↔(s.From≤d∧d < s.To)∧0≤d∧d < 73049:=by
  unfold aL
  simp only
  split <;> split <;> omega
theorem uI (l:List GSpan) (d:Int):cP (lk l) d↔cP l d∧0≤d∧d < 73049:=by
  unfold cP lk
  constructor
  · rintro ⟨s,hs,h⟩
    obtain ⟨h1,_⟩:=List.mem_filter.1 hs
    obtain ⟨t,ht,rfl⟩:=List.mem_map.1 h1
    have:=(JF t d).1 h
    exact ⟨⟨t,ht,this.1⟩,this.2⟩
  · rintro ⟨⟨t,ht,h⟩,h2⟩
    have:=(JF t d).2 ⟨h,h2⟩
    refine ⟨aL t,List.mem_filter.2 ⟨List.mem_map.2 ⟨t,ht,rfl⟩, ?_⟩,this⟩
    unfold tJ
    rw [decide_eq_true_iff]; omega
theorem Po (l:List GSpan):∀ s∈lk l,0≤s.From∧s.From < s.To∧s.To≤73049:=by
  intro s hs
  obtain ⟨h1,h2⟩:=List.mem_filter.1 hs
  obtain ⟨t,ht,rfl⟩:=List.mem_map.1 h1
  unfold tJ at h2
  rw [decide_eq_true_iff] at h2
  refine ⟨?_,h2, ?_⟩ <;> (unfold aL; simp only; split <;> omega)
theorem LL (l:List GSpan):(lk l).length≤l.length:=by
  unfold lk
  have:=List.length_filter_le tJ (l.map aL)
  simpa using this
theorem Pm (p:List GSpan) (x:GSpan) (h:p.length≤1000000000):ab ((((p++[x]).length:Nat):Int) - 1) = ((p.length:Nat):Int):=by
  have hl:(p++[x]).length = p.length+1:=by simp
  rw [ah (by omega) (by omega)]
  omega
theorem EB {T:Type} (p:List T) (x y:T):(p++[x]).set p.length y = p++[y]:=by
  rw [List.set_append_right _ _ (Nat.le_refl _)]
  simp
theorem HI {T:Type} (p:List T) (x z:T):gD (p++[x]) p.length z = x:=Ad p [] x z
theorem Rn (t out:List GSpan) (i:Nat) (hi:i < t.length) (ho:out.length≤1000000000) (hn:t.length≤1000000000) :
    dK (t.length:Int) (i:Int) out t = dK (t.length:Int) ((i+1:Nat):Int) (j6 out t[i]) t:=by
  rw [rQ]
  simp only [aP hi,bj,cond_true,ay,Bool.or_true,bd hi,aW hi (by omega)]
  rcases iO out with rfl | ⟨p,x,rfl⟩
  · rw [show aa ((0:Int) < ((([]:List GSpan).length:Nat):Int)) = false from rfl]
    simp only [Bool.false_and,Bool.not_false,Bool.true_or,ay,cond_false]
    rw [jO (by simp) (by simp),A3]
    rfl
  · have hp:p.length≤1000000000:=by simp at ho; omega
    have hl:(p++[x]).length = p.length+1:=by simp
    have h0:aa ((0:Int) < (((p++[x]).length:Nat):Int)) = true:=aB (by omega)
    have hlt:aa (((p.length:Nat):Int) < (((p++[x]).length:Nat):Int)) = true:=aB (by omega)
    have hi0:aa ((0:Int)≤((p.length:Nat):Int)) = true:=aB (by omega)
    rw [Pm p x hp]
    simp only [h0,hlt,hi0,Bool.or_true,ay,cond_true,HI,Int.toNat_natCast,EB,yZ]
    by_cases hc:t[i].From≤x.To
    · rw [aB hc,cond_true,if_pos hc]
      by_cases hd:x.To < t[i].To
      · rw [aB hd,if_pos hd]; rfl
      · rw [aE hd,if_neg hd]; rfl
    · rw [aE hc,cond_false,jO (by omega) (by omega),if_neg hc]
theorem SG (out:List GSpan) (s:GSpan):(j6 out s).length≤out.length+1:=by
  rcases iO out with rfl | ⟨p,x,rfl⟩
  · rw [A3]; simp
  · rw [yZ]; split <;> simp
theorem SE (s:GSpan):wC s = some (aL s):=by
  rw [Ho]
  unfold aL
  by_cases h1:s.From < 0 <;> by_cases h2:73049 < s.To <;> simp [h1,h2]
theorem SR:Go.Sort.SWO fun (a b:GSpan)=>aa (a.From < b.From):=⟨fun x=>by simp,fun x y z h1 h2=>by simp at *; omega,fun x y z h1 h2=>by simp at *; omega⟩
noncomputable def bE (l:List GSpan):List GSpan:=(jZ (lk l)).foldl j6 []
theorem Ak (l:List GSpan):(jZ l).Perm l∧(jZ l).Pairwise fun a b=>a.From≤b.From:=by
  obtain ⟨h1,h2⟩:=@GR _ ⟨zS .GSpan⟩ _ SR l
  exact ⟨h1,h2.imp fun h=>by simp at h; omega⟩
theorem mr (l:List GSpan) (hn:l.length≤1000000000):mv l = some (bE l):=by
  have hc:=LL l
  have hs:=(Ak (lk l)).1.length_eq
  rw [KJ]
  have e:lk l = l.flatMap fun s=>if tJ (aL s) = true then [aL s] else []:=by
    unfold lk
    rw [pd (fun s=>tJ (aL s)) aL,List.filter_map]
    rfl
  refine (zP l (fun i out=>ea l (l.length:Int) i out) (fun s=>if tJ (aL s) = true then [aL s] else []) 1 (fun x _=>by split <;> simp) fun i out hi ho=>?_).trans ?_
  · show ea _ _ _ _ = ea _ _ _ _
    rw [tj]
    simp only [aP hi,bj,cond_true,ay,Bool.or_true,bd hi,aW hi (by omega)]
    rw [SE,Option.bind_some,jO (by omega) (by omega)]
    unfold tJ
    by_cases hk:(aL l[i]).From < (aL l[i]).To
    · rw [aB hk,decide_eq_true hk]; rfl
    · rw [aE hk,decide_eq_false hk]; simp
  · rw [← e]
    show ea _ _ _ _ = _
    rw [tj,aX,cond_false,aT (by omega)]
    unfold bE
    generalize hg:jZ (lk l) = t at hs
    refine ((qX t (fun i out=>dK (t.length:Int) i out t) j6 (fun i out=>out.length≤i) (fun i out hi ho=>⟨Rn t out i hi (by omega) (by omega),by have:=SG out t[i]; omega⟩) [] (by simp)).1).trans ?_
    show dK _ _ _ _ = _
    rw [rQ,aX]; rfl
theorem cV (l:List GSpan):bP (-1) (bE l)∧(∀ d,cP (bE l) d↔cP l d∧0≤d∧d < 73049)∧(bE l).length≤l.length:=by
  obtain ⟨hp,hs⟩:=Ak (lk l)
  have hc:=LL l
  obtain ⟨f1,f2,f3⟩:=Kb (jZ (lk l)) [] trivial (fun x hx=>by simp at hx) hs (fun s h=>Po l s (hp.mem_iff.1 h))
  refine ⟨f1,fun d=>?_, ?_⟩
  · unfold bE
    rw [f2, ← uI]
    constructor
    · rintro (h | ⟨s,h,h'⟩)
      · exact (da h).elim
      · exact ⟨s,hp.mem_iff.1 h,h'⟩
    · rintro ⟨s,h,h'⟩
      exact .inr ⟨s,hp.mem_iff.2 h,h'⟩
  · unfold bE
    have:=hp.length_eq
    simp at f3
    omega
end Go.Ax
