import Derived.Test.YtnnblpijaoocaaaGreatXP6
set_option linter.all false
/- The document's validity;facts that count;life. -/
set_option maxRecDepth 100000
namespace Go.Ax
theorem Gu (k:Int) (c:Nat) (hc:c < 256):ym k (c:Int) = some (dC k c):=by
 rw [Jb,lU,Option.bind_some]
 have hn:=tE k
 have hs:=vB k
 unfold dC
 generalize d8 k = l at hn hs
 have:=lT l (fun i=>fy c (ac l) i) (fun x=>x == c) (some true) (some false) (by
  show fy _ _ _ = _
  rw [rM,ar,aS];rfl) fun i hi=>by
   show fy _ _ _ = if _ then _ else fy _ _ _
   rw [rM,ar]
   simp only [aO hi,aM,cond_true,ap,Bool.or_true,aH hi,aL hi (by omega)]
   rw [Int.toNat_natCast,OX l i hi]
   have hv:((UInt8.ofNat l[i]).toNat:Int) = (l[i]:Int):=by
    have:=hs _ (List.getElem_mem hi)
    simp [Nat.mod_eq_of_lt this]
   rw [hv]
   by_cases e:l[i] = c
   ·rw [ct.2 (by omega),if_pos (by simp [e])];rfl
   ·rw [il.2 (by omega),if_neg (by simp [e])];rfl
 rw [this]
 have e2:l.any (fun x=>x == c) = l.contains c:=by rw [List.contains_eq_any_beq];congr 1;funext x;exact Bool.beq_comm
 rw [e2]
 cases l.contains c <;> rfl
theorem gi (k:Int) (c:Nat) (hc:c < 256) (n l m:Int):cO k (c:Int) n l m = some (bV (dC k c) n l m):=by
 rw [Hf,Gu k c hc,Option.bind_some]
 unfold bV fW
 cases dC k c
 ·rfl
 ·simp only [cond_true,eX,if_true]
theorem rf (k n l m:Int):(cO k 83 n l m = some (bV (dC k 83) n l m))∧(cO k 84 n l m = some (bV (dC k 84) n l m))∧(cO k 72 n l m = some (bV (dC k 72) n l m)) ∧
  (cO k 67 n l m = some (bV (dC k 67) n l m))∧(cO k 65 n l m = some (bV (dC k 65) n l m))∧(cO k 82 n l m = some (bV (dC k 82) n l m)) :=
 ⟨gi k 83 (by decide) n l m,gi k 84 (by decide) n l m,gi k 72 (by decide) n l m,gi k 67 (by decide) n l m,gi k 65 (by decide) n l m,gi k 82 (by decide) n l m⟩
theorem wN {f:GFact} (h:cq f = true→False):some false = some (cq f):=by
 cases hv:cq f with
 | false=>rfl
 | true=>exact (h hv).elim
theorem iN (f:GFact):iX f = some (cq f):=by
 rw [GP,lU]
 have out:∀ {p:Prop} [Decidable p] {o:Option Bool},(p→cq f = true→False)→(¬ p→o = some (cq f))→(bif aa p then some false else o) = some (cq f):=by
  intro p _ o h1 h2
  by_cases hp:p
  ·rw [ax hp,cond_true];exact wN (h1 hp)
  ·rw [aJ hp,cond_false];exact h2 hp
 have V:=iA f
 refine out (fun h hv=>?_) fun c1=>out (fun h hv=>?_) fun c2=>out (fun h hv=>?_) fun c3=>out (fun h hv=>?_) fun c4=>out (fun h hv=>?_) fun c5=>out (fun h hv=>?_) fun c6=>out (fun h hv=>?_) fun c7=>out (fun h hv=>?_) fun c8=>?_
 any_goals (obtain ⟨g0,g1,g2,g3,g4,_⟩:=V.1 hv;omega)
 rw [Option.bind_some,K3]
 cases h0:(d8 f.Kind).isEmpty with
 | true=>rw [cond_true];exact wN fun hv=>by obtain ⟨g0,_⟩:=V.1 hv;rw [g0] at h0;cases h0
 | false =>
  rw [cond_false]
  simp only [nZ,eX]
  cases h2:(aa (f.Span.From < 0)||aa (f.Span.To≤f.Span.From)||aa (73049 < f.Span.To)) with
  | true =>
   rw [cond_true]
   refine wN fun hv=>?_
   obtain ⟨g0,g1,g2,g3,g4,_,_,g5,_⟩:=V.1 hv
   simp only [Bool.or_eq_true,decide_eq_true_eq] at h2
   omega
  | false =>
   rw [cond_false]
   simp only [Bool.or_eq_false_iff,decide_eq_false_iff_not] at h2
   rw [al (by omega) (by omega)]
   cases h3:((ae f.Kind 11||ae f.Kind 12)&&bW (f.Span.To - f.Span.From) 1||ae f.Kind 4&&ae f.Seat f.State||(ae f.Kind 10||ae f.Kind 14)&&ae f.Ref f.Person) with
   | true =>
    rw [cond_true]
    refine wN fun hv=>?_
    obtain ⟨_,g1,g2,g3,g4,_,_,g5,_,_,_,_,g6⟩:=V.1 hv
    unfold wP at g6
    simp only [Bool.or_eq_true,Bool.and_eq_true,beq_iff_eq,bne_iff_ne,ne_eq,ae,bW] at h3
    split at g6
    ·simp only [bne_iff_ne,ne_eq] at g6;omega
    ·split at g6
     ·simp only [beq_iff_eq] at g6;omega
     ·split at g6
      ·simp only [bne_iff_ne,ne_eq] at g6;omega
      ·omega
   | false =>
    rw [cond_false]
    have hf:=fun n l m=>rf f.Kind n l m
    simp only [(hf _ _ _).1,(hf _ _ _).2.1,(hf _ _ _).2.2.1,(hf _ _ _).2.2.2.1,(hf _ _ _).2.2.2.2.1,(hf _ _ _).2.2.2.2.2,Option.bind_some]
    have hkind:wP f = true:=by
     simp only [Bool.or_eq_false_iff,Bool.and_eq_false_iff,beq_eq_false_iff_ne,bne_eq_false_iff_eq,ne_eq,ae,bW] at h3
     unfold wP
     split
     ·simp only [bne_iff_ne,ne_eq];omega
     ·split
      ·simp only [beq_iff_eq];omega
      ·split
       ·simp only [bne_iff_ne,ne_eq];omega
       ·rfl
    have e:∀ (a b:Bool),(bif a then some b else some false) = some (a&&b):=by intro a b;cases a <;> rfl
    simp only [e,Option.some.injEq]
    rw [Bool.eq_iff_iff,V]
    simp only [Bool.and_eq_true]
    constructor
    ·rintro ⟨a1,a2,a3,a4,a5,a6⟩
     exact ⟨h0,by omega,by omega,by omega,by omega,a1,a2,by omega,a3,a4,a5,a6,hkind⟩
    ·rintro ⟨_,_,_,_,_,a1,a2,_,a3,a4,a5,a6,_⟩
     exact ⟨a1,a2,a3,a4,a5,a6⟩
def S2 (person:Int) (f:GFact):Bool:=ae f.Person person
theorem LM (l:List GFact) (person:Int) (hn:l.length≤1000000):yh l person = some (l.filter (S2 person)):=by
 rw [MO]
 refine (JY l (fun i out=>fP l person i out) (S2 person) fun i out hi ho=>?_).trans ?_
 ·show fP _ _ _ _ = fP _ _ _ _
  rw [uD]
  simp only [aO hi,aM,cond_true,ap,Bool.or_true,aH hi,aL hi (by omega)]
  rw [nc]
  unfold S2
  cases ae l[i].Person person <;> rfl
 ·show fP _ _ _ _ = _
  rw [uD,aS];rfl
def av (f:GFact):Bool:=cq f&&!f.Withdrawn
theorem lN (f:GFact):ju f = some (av f):=by
 rw [BW,F0,Option.bind_some,eX];rfl
theorem i8 (l:List GFact) (hn:l.length≤1000000):iw l = some (l.filter av):=by
 rw [CT]
 refine (JY l (fun i out=>dc l i out) av fun i out hi ho=>?_).trans ?_
 ·show dc _ _ _ = dc _ _ _
  rw [oC]
  simp only [aO hi,aM,cond_true,ap,Bool.or_true,aH hi,aL hi (by omega)]
  rw [iN,Option.bind_some,nc]
  unfold av
  cases cq l[i] <;> cases l[i].Withdrawn <;> rfl
 ·show dc _ _ _ = _
  rw [oC,aS];rfl
theorem iU (l:List GFact) (hn:l.length≤1000000):mi l = some (l.filter av):=by
 rw [Ca,CU]
 have:cJ l (l.length:Int) 0 [] = some (l.filter av):=by
  refine (JY l (fun i out=>cJ l (l.length:Int) i out) av fun i out hi ho=>?_).trans ?_
  ·show cJ _ _ _ _ = cJ _ _ _ _
   rw [nX]
   simp only [aO hi,aM,cond_true,ap,Bool.or_true,aH hi,aL hi (by omega)]
   rw [lN,Option.bind_some,nc]
   cases av l[i] <;> rfl
  ·show cJ _ _ _ _ = _
   rw [nX,aS];rfl
 rw [this];rfl
def Aj (kind:Int) (f:GFact) (a:Int × Bool):Int × Bool:=if (ae f.Kind kind&&(!a.2||aa (f.Span.From < a.1))) = true then (f.Span.From,true) else a
def cz (l:List GFact) (kind:Int):Int × Bool:=(l.filter av).foldl (fun a f=>Aj kind f a) (0,false)
theorem qY {A:Type} (p:GFact→Bool) (g:A→GFact→A):∀ (l:List GFact) (a:A),(l.filter p).foldl g a = l.foldl (fun a f=>if p f = true then g a f else a) a
 | [],_=>rfl
 | f :: l,a=>by
  rw [List.filter_cons,List.foldl_cons]
  by_cases h:p f = true
  ·rw [if_pos h,if_pos h,List.foldl_cons,qY p g l]
  ·rw [if_neg h,if_neg h,qY p g l]
theorem ta (l:List GFact) (kind:Int) (hn:l.length≤1000000):oB l kind = some (cz l kind):=by
 rw [El]
 have:=(kg l (fun i (a:Int × Bool)=>dy kind a.1 a.2 l (l.length:Int) i) (fun a f=>if av f = true then Aj kind f a else a) (fun _ _=>True) (fun i a hi _=>⟨?_,trivial⟩) (0,false) trivial).1
 ·refine Eq.trans this ?_
  show dy _ _ _ _ _ _ = _
  rw [o5,aS]
  unfold cz
  rw [qY];rfl
 ·show dy _ _ _ _ _ _ = dy _ _ _ _ _ _
  rw [o5]
  simp only [aO hi,aM,cond_true,ap,Bool.or_true,aH hi,aL hi (by omega)]
  rw [lN,Option.bind_some]
  unfold Aj
  simp only [eX,nZ]
  cases av l[i] with
  | false=>rfl
  | true =>
   simp only [Bool.true_and,if_true]
   cases (ae l[i].Kind kind&&(!a.2||aa (l[i].Span.From < a.1))) <;> rfl
theorem uv (l:List GFact) (kind:Int) (hn:l.length≤1000000):pQ l kind = some (cz l kind):=by
 rw [Hi,i8 l hn,Option.bind_some]
 have hc:(l.filter av).length≤l.length:=List.length_filter_le _ _
 unfold cz
 generalize l.filter av = c at hc
 have:=(kg c (fun i (a:Int × Bool)=>dE kind a.1 a.2 i c) (fun a f=>Aj kind f a) (fun _ _=>True) (fun i a hi _=>⟨?_,trivial⟩) (0,false) trivial).1
 ·refine Eq.trans this ?_
  show dE _ _ _ _ _ = _
  rw [oS,aS];rfl
 ·show dE _ _ _ _ _ = dE _ _ _ _ _
  rw [oS]
  simp only [aO hi,aM,cond_true,ap,Bool.or_true,aH hi,aL hi (by omega)]
  unfold Aj
  simp only [eX,nZ]
  cases (ae c[i].Kind kind&&(!a.2||aa (c[i].Span.From < a.1))) <;> rfl
def am (l:List GFact):GSpan :=
 let d:=if (cz l 12).2 then (cz l 12).1 else 73048
 if d < (cz l 11).1 then ⟨0,0⟩ else ⟨(cz l 11).1,ab (d+1)⟩
theorem Ow (a b:Int × Bool):(bif (!b.2) then bif aa (73048 < a.1) then some (⟨0,0⟩:GSpan) else some (⟨a.1,73049⟩:GSpan) else bif aa (b.1 < a.1) then some (⟨0,0⟩:GSpan) else some (⟨a.1,(ab (b.1+1))⟩:GSpan)) =
  some (let d:=if b.2 then b.1 else 73048;if d < a.1 then ⟨0,0⟩ else ⟨a.1,ab (d+1)⟩):=by
 cases b.2 with
 | false =>
  simp only [Bool.not_false,cond_true]
  by_cases h:73048 < a.1
  ·simp [h]
  ·simp [h,show ab 73049 = 73049 from al (by omega) (by omega)]
 | true =>
  simp only [Bool.not_true,cond_false,if_true]
  by_cases h:b.1 < a.1
  ·simp [h]
  ·simp [h]
theorem DL (l:List GFact) (hn:l.length≤1000000):s8 l = some (cz l 11):=by rw [D8,ta l 11 hn];rfl
theorem D1 (l:List GFact) (hn:l.length≤1000000):tc l = some (cz l 12):=by rw [ER,ta l 12 hn];rfl
theorem Er (l:List GFact) (hn:l.length≤1000000):vu l = some (cz l 11):=by rw [G0,uv l 11 hn];rfl
theorem Fk (l:List GFact) (hn:l.length≤1000000):vz l = some (cz l 12):=by rw [FS,uv l 12 hn];rfl
theorem iK (l:List GFact) (hn:l.length≤1000000):mz l = some (am l):=by
 rw [HT,DL l hn,Option.bind_some,D1 l hn,Option.bind_some]
 exact Ow _ _
theorem l3 (l:List GFact) (hn:l.length≤1000000):nQ l = some (am l):=by
 rw [Jf,Er l hn,Option.bind_some,Fk l hn,Option.bind_some]
 exact Ow _ _
end Go.Ax
set_option linter.all false
/- Spans: lists that are joined; Make. -/
set_option maxRecDepth 100000
namespace Go.Ax
def dO (l:List GSpan) (d:Int):Prop:=∃ s∈l,s.From≤d∧d < s.To
def cW (lo:Int):List GSpan→Prop
 | []=>True
 | s :: r=>lo < s.From∧s.From < s.To∧s.To≤73049∧cW s.To r
def Bb (lo:Int):List GSpan→Int
 | []=>lo
 | s :: r=>Bb s.To r
theorem aX {s:GSpan} {r:List GSpan} {d:Int}:dO (s :: r) d↔(s.From≤d∧d < s.To)∨dO r d:=by simp [dO]
theorem dK {d:Int}:¬ dO [] d:=by simp [dO]
theorem pj {a b:List GSpan} {d:Int}:dO (a++b) d↔dO a d∨dO b d:=by
 unfold dO
 constructor
 ·rintro ⟨s,hs,h⟩
  rcases List.mem_append.1 hs with hs | hs
  ·exact .inl ⟨s,hs,h⟩
  ·exact .inr ⟨s,hs,h⟩
 ·rintro (⟨s,hs,h⟩ | ⟨s,hs,h⟩)
  ·exact ⟨s,List.mem_append.2 (.inl hs),h⟩
  ·exact ⟨s,List.mem_append.2 (.inr hs),h⟩
theorem gn:∀ {l:List GSpan} {lo d:Int},cW lo l→dO l d→lo < d∧d < 73049
 | [],_,_,_,hc=>(dK hc).elim
 | s :: r,lo,d,⟨h1,h2,h3,h4⟩,hc=>by
  rcases aX.1 hc with h | h
  ·omega
  ·have:=gn h4 h
   omega
theorem IU:∀ {a b:List GSpan} {lo:Int},cW lo a→cW lo b→(∀ d,dO a d↔dO b d)→a = b
 | [],[],_,_,_,_=>rfl
 | [],t :: u,_,_,hb,h=>(dK ((h t.From).2 (aX.2 (.inl ⟨Int.le_refl _,hb.2.1⟩)))).elim
 | s :: r,[],_,ha,_,h=>(dK ((h s.From).1 (aX.2 (.inl ⟨Int.le_refl _,ha.2.1⟩)))).elim
 | s :: r,t :: u,lo,⟨a1,a2,a3,a4⟩,⟨b1,b2,b3,b4⟩,h=>by
  have hs:=(h s.From).1 (aX.2 (.inl ⟨Int.le_refl _,a2⟩))
  have ht:=(h t.From).2 (aX.2 (.inl ⟨Int.le_refl _,b2⟩))
  have e1:s.From = t.From:=by
   rcases aX.1 hs with hs | hs
   ·rcases aX.1 ht with ht | ht
    ·omega
    ·have:=gn a4 ht;omega
   ·have:=gn b4 hs
    rcases aX.1 ht with ht | ht
    ·omega
    ·have:=gn a4 ht;omega
  have e2:s.To = t.To:=by
   rcases Int.lt_trichotomy s.To t.To with hlt | he | hlt
   ·have:=(h s.To).2 (aX.2 (.inl ⟨by omega,hlt⟩))
    rcases aX.1 this with hc | hc
    ·omega
    ·have:=gn a4 hc;omega
   ·exact he
   ·have:=(h t.To).1 (aX.2 (.inl ⟨by omega,hlt⟩))
    rcases aX.1 this with hc | hc
    ·omega
    ·have:=gn b4 hc;omega
  have e3:s = t:=by
   cases s;cases t
   simp only at e1 e2
   rw [e1,e2]
  subst e3
  rw [IU a4 b4 fun d=>?_]
  constructor
  ·intro hc
   have h1:=gn a4 hc
   rcases aX.1 ((h d).1 (aX.2 (.inr hc))) with h2 | h2
   ·omega
   ·exact h2
  ·intro hc
   have h1:=gn b4 hc
   rcases aX.1 ((h d).2 (aX.2 (.inr hc))) with h2 | h2
   ·omega
   ·exact h2
theorem nM (lo:Int):∀ (l:List GSpan) (s:GSpan),Bb lo (l++[s]) = s.To
 | [],s=>rfl
 | t :: r,s=>nM t.To r s
theorem lD:∀ {l:List GSpan} {s:GSpan} {lo:Int},cW lo (l++[s])↔cW lo l∧Bb lo l < s.From∧s.From < s.To∧s.To≤73049
 | [],s,lo=>by simp [cW,Bb]
 | t :: r,s,lo=>by
  rw [List.cons_append]
  unfold cW Bb
  rw [lD]
  constructor
  ·rintro ⟨h1,h2,h3,h4,h5⟩;exact ⟨⟨h1,h2,h3,h4⟩,h5⟩
  ·rintro ⟨⟨h1,h2,h3,h4⟩,h5⟩;exact ⟨h1,h2,h3,h4,h5⟩
theorem eI {T:Type} (l:List T):l = []∨∃ p x,l = p++[x]:=by
 rcases List.eq_nil_or_concat l with h | ⟨p,x,h⟩
 ·exact .inl h
 ·exact .inr ⟨p,x,by rw [h];simp⟩
noncomputable def ka (out:List GSpan) (s:GSpan):List GSpan:=match out.getLast? with
 | none=>[s]
 | some x=>if s.From≤x.To then out.dropLast++[⟨x.From,if x.To < s.To then s.To else x.To⟩] else out++[s]
theorem AX (s:GSpan):ka [] s = [s]:=rfl
theorem xb (p:List GSpan) (x s:GSpan):ka (p++[x]) s = if s.From≤x.To then p++[⟨x.From,if x.To < s.To then s.To else x.To⟩] else (p++[x])++[s]:=by
 unfold ka
 rw [List.getLast?_concat]
 simp
theorem Q0 {out:List GSpan} {s:GSpan} (hn:cW (-1) out) (hb:∀ x∈out,x.From≤s.From) (h1:0≤s.From) (h2:s.From < s.To) (h3:s.To≤73049) :
  cW (-1) (ka out s)∧(∀ d,dO (ka out s) d↔dO out d∨(s.From≤d∧d < s.To))∧(∀ x∈ka out s,x.From≤s.From)∧(ka out s).length≤out.length+1:=by
 rcases eI out with rfl | ⟨p,x,rfl⟩
 ·rw [AX]
  refine ⟨⟨by omega,h2,h3,trivial⟩,fun d=>?_,fun x hx=>?_,by simp⟩
  ·rw [aX];simp [dK]
  ·rw [List.mem_singleton.1 hx];exact Int.le_refl _
 ·obtain ⟨n1,n2,n3,n4⟩:=lD.1 hn
  have hx:=hb x (by simp)
  rw [xb]
  by_cases hc:s.From≤x.To
  ·rw [if_pos hc]
   have hm:x.To≤(if x.To < s.To then s.To else x.To)∧s.To≤(if x.To < s.To then s.To else x.To)∧((if x.To < s.To then s.To else x.To) = x.To∨(if x.To < s.To then s.To else x.To) = s.To):=by
    split <;> omega
   generalize (if x.To < s.To then s.To else x.To) = m at hm
   refine ⟨lD.2 ⟨n1,n2,by show x.From < m;omega,by show m≤73049;omega⟩,fun d=>?_,fun y hy=>?_,by simp⟩
   ·rw [pj,pj,aX,aX]
    simp only [dK,or_false]
    constructor
    ·rintro (h | ⟨h4,h5⟩)
     ·exact .inl (.inl h)
     ·by_cases hd:d < x.To
      ·exact .inl (.inr ⟨h4,hd⟩)
      ·exact .inr ⟨by omega,by omega⟩
    ·rintro ((h | ⟨h4,h5⟩) | ⟨h4,h5⟩)
     ·exact .inl h
     ·exact .inr ⟨h4,by omega⟩
     ·exact .inr ⟨by omega,by omega⟩
   ·rcases List.mem_append.1 hy with hy | hy
    ·exact hb y (by simp [hy])
    ·rw [List.mem_singleton.1 hy];exact hx
  ·rw [if_neg hc]
   refine ⟨lD.2 ⟨hn,by rw [nM];omega,h2,h3⟩,fun d=>?_,fun y hy=>?_,by simp⟩
   ·rw [pj (b:=[s]),aX];simp [dK]
   ·rcases List.mem_append.1 hy with hy | hy
    ·exact hb y hy
    ·rw [List.mem_singleton.1 hy];exact Int.le_refl _
theorem IZ:∀ (l out:List GSpan),cW (-1) out→(∀ x∈out, ∀ s∈l,x.From≤s.From)→l.Pairwise (fun a b=>a.From≤b.From)→(∀ s∈l,0≤s.From∧s.From < s.To∧s.To≤73049) →
  cW (-1) (l.foldl ka out)∧(∀ d,dO (l.foldl ka out) d↔dO out d∨dO l d)∧(l.foldl ka out).length≤out.length+l.length
 | [],out,hn,_,_,_=>⟨hn,fun d=>by simp [dK],by simp⟩
 | s :: l,out,hn,hb,hp,ho=>by
  obtain ⟨o1,o2,o3⟩:=ho s (by simp)
  obtain ⟨j1,j2,j3,j4⟩:=Q0 hn (fun x hx=>hb x hx s (by simp)) o1 o2 o3
  obtain ⟨p1,p2⟩:=List.pairwise_cons.1 hp
  obtain ⟨f1,f2,f3⟩:=IZ l (ka out s) j1 (fun x hx t ht=>by have:=j3 x hx;have:=p1 t ht;omega) p2 (fun t ht=>ho t (by simp [ht]))
  rw [List.foldl_cons]
  refine ⟨f1,fun d=>?_,by rw [List.length_cons];omega⟩
  rw [f2,j2,aX,or_assoc]
def aT (s:GSpan):GSpan:=GSpan.mk (if s.From < (0:Int) then (0:Int) else s.From) (if (73049:Int) < s.To then (73049:Int) else s.To)
def sj (s:GSpan):Bool:=decide (s.From < s.To)
def kH (l:List GSpan):List GSpan:=(l.map aT).filter sj
theorem ID (s:GSpan) (d:Int):((aT s).From≤d∧d < (aT s).To)↔(s.From≤d∧d < s.To)∧0≤d∧d < 73049:=by
 unfold aT
 simp only
 split <;> split <;> omega
theorem sT (l:List GSpan) (d:Int):dO (kH l) d↔dO l d∧0≤d∧d < 73049:=by
 unfold dO kH
 constructor
 ·rintro ⟨s,hs,h⟩
  obtain ⟨h1,_⟩:=List.mem_filter.1 hs
  obtain ⟨t,ht,rfl⟩:=List.mem_map.1 h1
  have:=(ID t d).1 h
  exact ⟨⟨t,ht,this.1⟩,this.2⟩
 ·rintro ⟨⟨t,ht,h⟩,h2⟩
  have:=(ID t d).2 ⟨h,h2⟩
  refine ⟨aT t,List.mem_filter.2 ⟨List.mem_map.2 ⟨t,ht,rfl⟩, ?_⟩,this⟩
  unfold sj
  rw [decide_eq_true_iff];omega
theorem N9 (l:List GSpan):∀ s∈kH l,0≤s.From∧s.From < s.To∧s.To≤73049:=by
 intro s hs
 obtain ⟨h1,h2⟩:=List.mem_filter.1 hs
 obtain ⟨t,ht,rfl⟩:=List.mem_map.1 h1
 unfold sj at h2
 rw [decide_eq_true_iff] at h2
 refine ⟨?_,h2, ?_⟩ <;> (unfold aT;simp only;split <;> omega)
theorem Ke (l:List GSpan):(kH l).length≤l.length:=by
 unfold kH
 have:=List.length_filter_le sj (l.map aT)
 simpa using this
theorem N7 (p:List GSpan) (x:GSpan) (h:p.length≤1000000000):ab ((((p++[x]).length:Nat):Int) - 1) = ((p.length:Nat):Int):=by
 have hl:(p++[x]).length = p.length+1:=by simp
 rw [al (by omega) (by omega)]
 omega
theorem pD {T:Type} (p:List T) (x y:T):(p++[x]).set p.length y = p++[y]:=by
 rw [List.set_append_right _ _ (Nat.le_refl _)]
 simp
theorem sF {T:Type} (p:List T) (x z:T):gD (p++[x]) p.length z = x:=wT p [] x z
theorem PE (t out:List GSpan) (i:Nat) (hi:i < t.length) (ho:out.length≤1000000000) (hn:t.length≤1000000000) :
  dT (t.length:Int) (i:Int) out t = dT (t.length:Int) ((i+1:Nat):Int) (ka out t[i]) t:=by
 rw [qI]
 simp only [aO hi,aM,cond_true,ap,Bool.or_true,aH hi,aL hi (by omega)]
 rcases eI out with rfl | ⟨p,x,rfl⟩
 ·rw [show aa ((0:Int) < ((([]:List GSpan).length:Nat):Int)) = false from rfl]
  simp only [Bool.false_and,Bool.not_false,Bool.true_or,ap,cond_false]
  rw [nc (by simp) (by simp),AX]
  rfl
 ·have hp:p.length≤1000000000:=by simp at ho;omega
  have hl:(p++[x]).length = p.length+1:=by simp
  have h0:aa ((0:Int) < (((p++[x]).length:Nat):Int)) = true:=ax (by omega)
  have hlt:aa (((p.length:Nat):Int) < (((p++[x]).length:Nat):Int)) = true:=ax (by omega)
  have hi0:aa ((0:Int)≤((p.length:Nat):Int)) = true:=ax (by omega)
  rw [N7 p x hp]
  simp only [h0,hlt,hi0,Bool.or_true,ap,cond_true,sF,Int.toNat_natCast,pD,xb]
  by_cases hc:t[i].From≤x.To
  ·rw [ax hc,cond_true,if_pos hc]
   by_cases hd:x.To < t[i].To
   ·rw [ax hd,if_pos hd];rfl
   ·rw [aJ hd,if_neg hd];rfl
  ·rw [aJ hc,cond_false,nc (by omega) (by omega),if_neg hc]
theorem QP (out:List GSpan) (s:GSpan):(ka out s).length≤out.length+1:=by
 rcases eI out with rfl | ⟨p,x,rfl⟩
 ·rw [AX];simp
 ·rw [xb];split <;> simp
theorem Rg (s:GSpan):vG s = some (aT s):=by
 rw [Gn]
 unfold aT
 by_cases h1:s.From < 0 <;> by_cases h2:73049 < s.To <;> simp [h1,h2]
theorem Rf:Go.Sort.SWO fun (a b:GSpan)=>aa (a.From < b.From):=⟨fun x=>by simp,fun x y z h1 h2=>by simp at *; omega,fun x y z h1 h2=>by simp at *; omega⟩
noncomputable def ii (l:List GSpan):List GSpan:=(ki (kH l)).foldl ka []
theorem yO (l:List GSpan):(ki l).Perm l∧(ki l).Pairwise fun a b=>a.From≤b.From:=by
 obtain ⟨h1,h2⟩:=@Fy _ ⟨zS .GSpan⟩ _ Rf l
 exact ⟨h1,h2.imp fun h=>by simp at h;omega⟩
theorem wD (l:List GSpan) (hn:l.length≤1000000000):sa l = some (ii l):=by
 have hc:=Ke l
 have hs:=(yO (kH l)).1.length_eq
 rw [Js]
 have e:kH l = l.flatMap fun s=>if sj (aT s) = true then [aT s] else []:=by
  unfold kH
  rw [oN (fun s=>sj (aT s)) aT,List.filter_map]
  rfl
 refine (Pc l (fun i out=>eh l (l.length:Int) i out) (fun s=>if sj (aT s) = true then [aT s] else []) 1 (fun x _=>by split <;> simp) fun i out hi ho=>?_).trans ?_
 ·show eh _ _ _ _ = eh _ _ _ _
  rw [ry]
  simp only [aO hi,aM,cond_true,ap,Bool.or_true,aH hi,aL hi (by omega)]
  rw [Rg,Option.bind_some,nc (by omega) (by omega)]
  unfold sj
  by_cases hk:(aT l[i]).From < (aT l[i]).To
  ·rw [ax hk,decide_eq_true hk];rfl
  ·rw [aJ hk,decide_eq_false hk];simp
 ·rw [← e]
  show eh _ _ _ _ = _
  rw [ry,aS,cond_false,ay (by omega)]
  unfold ii
  generalize hg:ki (kH l) = t at hs
  refine ((kg t (fun i out=>dT (t.length:Int) i out t) ka (fun i out=>out.length≤i) (fun i out hi ho=>⟨PE t out i hi (by omega) (by omega),by have:=QP out t[i];omega⟩) [] (by simp)).1).trans ?_
  show dT _ _ _ _ = _
  rw [qI,aS];rfl
theorem lP (l:List GSpan):cW (-1) (ii l)∧(∀ d,dO (ii l) d↔dO l d∧0≤d∧d < 73049)∧(ii l).length≤l.length:=by
 obtain ⟨hp,hs⟩:=yO (kH l)
 have hc:=Ke l
 obtain ⟨f1,f2,f3⟩:=IZ (ki (kH l)) [] trivial (fun x hx=>by simp at hx) hs (fun s h=>N9 l s (hp.mem_iff.1 h))
 refine ⟨f1,fun d=>?_, ?_⟩
 ·unfold ii
  rw [f2, ← sT]
  constructor
  ·rintro (h | ⟨s,h,h'⟩)
   ·exact (dK h).elim
   ·exact ⟨s,hp.mem_iff.1 h,h'⟩
  ·rintro ⟨s,h,h'⟩
   exact .inr ⟨s,hp.mem_iff.2 h,h'⟩
 ·unfold ii
  have:=hp.length_eq
  simp at f3
  omega
end Go.Ax
