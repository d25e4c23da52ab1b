import Derived.Test.YtnnblpijaoocaaaGreatWP6
set_option linter.all false
/- The document's validity;facts that count;life. -/
set_option maxRecDepth 100000
namespace Go.Ax
theorem DE (k:Int) (c:Nat) (hc:c < 256):uN k (c:Int) = some (cT k c):=by
 rw [Ga,kN,Option.bind_some]
 have hn:=ql k
 have hs:=ta k
 unfold cT
 generalize dy k = l at hn hs
 have:=qb l (fun i=>eG c (ab l) i) (fun x=>x == c) (some true) (some false) (by
  show eG _ _ _ = _
  rw [pC,ao,cm];rfl) fun i hi=>by
   show eG _ _ _ = if _ then _ else eG _ _ _
   rw [pC,ao]
   simp only [cB hi,cz,cond_true,aO,Bool.or_true,bP hi,bS hi (by omega)]
   rw [Int.toNat_natCast,Lv l i hi]
   have hv:((UInt8.ofNat l[i]).toNat:Int) = (l[i]:Int):=by
    have:=hs _ (List.getElem_mem hi)
    simp [Nat.mod_eq_of_lt this]
   rw [hv]
   by_cases e:l[i] = c
   ·rw [cF.2 (by omega),if_pos (by simp [e])];rfl
   ·rw [jT.2 (by omega),if_neg (by simp [e])];rfl
 rw [this]
 have e2:l.any (fun x=>x == c) = l.contains c:=by rw [List.contains_eq_any_beq];congr 1;funext x;exact Bool.beq_comm
 rw [e2]
 cases l.contains c <;> rfl
theorem fe (k:Int) (c:Nat) (hc:c < 256) (n l m:Int):cq k (c:Int) n l m = some (bF (cT k c) n l m):=by
 rw [Et,DE k c hc,Option.bind_some]
 unfold bF ff
 cases cT k c
 ·rfl
 ·simp only [cond_true,fW,if_true]
theorem rf (k n l m:Int):(cq k 83 n l m = some (bF (cT k 83) n l m))∧(cq k 84 n l m = some (bF (cT k 84) n l m))∧(cq k 72 n l m = some (bF (cT k 72) n l m)) ∧
  (cq k 67 n l m = some (bF (cT k 67) n l m))∧(cq k 65 n l m = some (bF (cT k 65) n l m))∧(cq k 82 n l m = some (bF (cT k 82) n l m)) :=
 ⟨fe k 83 (by decide) n l m,fe k 84 (by decide) n l m,fe k 72 (by decide) n l m,fe k 67 (by decide) n l m,fe k 65 (by decide) n l m,fe k 82 (by decide) n l m⟩
theorem vA {f:GFact} (h:cb f = true→False):some false = some (cb f):=by
 cases hv:cb f with
 | false=>rfl
 | true=>exact (h hv).elim
theorem jM (f:GFact):jC f = some (cb f):=by
 rw [DK,kN]
 have out:∀ {p:Prop} [Decidable p] {o:Option Bool},(p→cb f = true→False)→(¬ p→o = some (cb f))→(bif aa p then some false else o) = some (cb f):=by
  intro p _ o h1 h2
  by_cases hp:p
  ·rw [aM hp,cond_true];exact vA (h1 hp)
  ·rw [bu hp,cond_false];exact h2 hp
 have V:=gN f
 refine out (fun h hv=>?_) fun c1=>out (fun h hv=>?_) fun c2=>out (fun h hv=>?_) fun c3=>out (fun h hv=>?_) fun c4=>out (fun h hv=>?_) fun c5=>out (fun h hv=>?_) fun c6=>out (fun h hv=>?_) fun c7=>out (fun h hv=>?_) fun c8=>?_
 any_goals (obtain ⟨g0,g1,g2,g3,g4,_⟩:=V.1 hv;omega)
 rw [Option.bind_some,Hp]
 cases h0:(dy f.Kind).isEmpty with
 | true=>rw [cond_true];exact vA fun hv=>by obtain ⟨g0,_⟩:=V.1 hv;rw [g0] at h0;cases h0
 | false =>
  rw [cond_false]
  simp only [oN,fW]
  cases h2:(aa (f.Span.From < 0)||aa (f.Span.To≤f.Span.From)||aa (73049 < f.Span.To)) with
  | true =>
   rw [cond_true]
   refine vA fun hv=>?_
   obtain ⟨g0,g1,g2,g3,g4,_,_,g5,_⟩:=V.1 hv
   simp only [Bool.or_eq_true,decide_eq_true_eq] at h2
   omega
  | false =>
   rw [cond_false]
   simp only [Bool.or_eq_false_iff,decide_eq_false_iff_not] at h2
   rw [al (by omega) (by omega)]
   cases h3:((af f.Kind 11||af f.Kind 12)&&bZ (f.Span.To - f.Span.From) 1||af f.Kind 4&&af f.Seat f.State||(af f.Kind 10||af f.Kind 14)&&af f.Ref f.Person) with
   | true =>
    rw [cond_true]
    refine vA fun hv=>?_
    obtain ⟨_,g1,g2,g3,g4,_,_,g5,_,_,_,_,g6⟩:=V.1 hv
    unfold uA at g6
    simp only [Bool.or_eq_true,Bool.and_eq_true,beq_iff_eq,bne_iff_ne,ne_eq,af,bZ] at h3
    split at g6
    ·simp only [bne_iff_ne,ne_eq] at g6;omega
    ·split at g6
     ·simp only [beq_iff_eq] at g6;omega
     ·split at g6
      ·simp only [bne_iff_ne,ne_eq] at g6;omega
      ·omega
   | false =>
    rw [cond_false]
    have hf:=fun n l m=>rf f.Kind n l m
    simp only [(hf _ _ _).1,(hf _ _ _).2.1,(hf _ _ _).2.2.1,(hf _ _ _).2.2.2.1,(hf _ _ _).2.2.2.2.1,(hf _ _ _).2.2.2.2.2,Option.bind_some]
    have hkind:uA f = true:=by
     simp only [Bool.or_eq_false_iff,Bool.and_eq_false_iff,beq_eq_false_iff_ne,bne_eq_false_iff_eq,ne_eq,af,bZ] at h3
     unfold uA
     split
     ·simp only [bne_iff_ne,ne_eq];omega
     ·split
      ·simp only [beq_iff_eq];omega
      ·split
       ·simp only [bne_iff_ne,ne_eq];omega
       ·rfl
    have e:∀ (a b:Bool),(bif a then some b else some false) = some (a&&b):=by intro a b;cases a <;> rfl
    simp only [e,Option.some.injEq]
    rw [Bool.eq_iff_iff,V]
    simp only [Bool.and_eq_true]
    constructor
    ·rintro ⟨a1,a2,a3,a4,a5,a6⟩
     exact ⟨h0,by omega,by omega,by omega,by omega,a1,a2,by omega,a3,a4,a5,a6,hkind⟩
    ·rintro ⟨_,_,_,_,_,a1,a2,_,a3,a4,a5,a6,_⟩
     exact ⟨a1,a2,a3,a4,a5,a6⟩
def Pw (person:Int) (f:GFact):Bool:=af f.Person person
theorem HA (l:List GFact) (person:Int) (hn:l.length≤1000000):uw l person = some (l.filter (Pw person)):=by
 rw [Jy]
 refine (Lu l (fun i out=>eY l person i out) (Pw person) fun i out hi ho=>?_).trans ?_
 ·show eY _ _ _ _ = eY _ _ _ _
  rw [sb]
  simp only [cB hi,cz,cond_true,aO,Bool.or_true,bP hi,bS hi (by omega)]
  rw [sL]
  unfold Pw
  cases af l[i].Person person <;> rfl
 ·show eY _ _ _ _ = _
  rw [sb,cm];rfl
def aG (f:GFact):Bool:=cb f&&!f.Withdrawn
theorem kB (f:GFact):iP f = some (aG f):=by
 rw [zH,EN,Option.bind_some,fW];rfl
theorem j7 (l:List GFact) (hn:l.length≤1000000):kI l = some (l.filter aG):=by
 rw [zF,Bi]
 have:ck l (l.length:Int) 0 [] = some (l.filter aG):=by
  refine (Lu l (fun i out=>ck l (l.length:Int) i out) aG fun i out hi ho=>?_).trans ?_
  ·show ck _ _ _ _ = ck _ _ _ _
   rw [mN]
   simp only [cB hi,cz,cond_true,aO,Bool.or_true,bP hi,bS hi (by omega)]
   rw [kB,Option.bind_some,sL]
   cases aG l[i] <;> rfl
  ·show ck _ _ _ _ = _
   rw [mN,cm];rfl
 rw [this];rfl
def yH (kind:Int) (f:GFact) (a:Int × Bool):Int × Bool:=if (af f.Kind kind&&(!a.2||aa (f.Span.From < a.1))) = true then (f.Span.From,true) else a
def ca (l:List GFact) (kind:Int):Int × Bool:=(l.filter aG).foldl (fun a f=>yH kind f a) (0,false)
theorem o7 {A:Type} (p:GFact→Bool) (g:A→GFact→A):∀ (l:List GFact) (a:A),(l.filter p).foldl g a = l.foldl (fun a f=>if p f = true then g a f else a) a
 | [],_=>rfl
 | f :: l,a=>by
  rw [List.filter_cons,List.foldl_cons]
  by_cases h:p f = true
  ·rw [if_pos h,if_pos h,List.foldl_cons,o7 p g l]
  ·rw [if_neg h,if_neg h,o7 p g l]
theorem qz (l:List GFact) (kind:Int) (hn:l.length≤1000000):m6 l kind = some (ca l kind):=by
 rw [BI]
 have:=(mz l (fun i (a:Int × Bool)=>cY kind a.1 a.2 l (l.length:Int) i) (fun a f=>if aG f = true then yH kind f a else a) (fun _ _=>True) (fun i a hi _=>⟨?_,trivial⟩) (0,false) trivial).1
 ·refine Eq.trans this ?_
  show cY _ _ _ _ _ _ = _
  rw [m8,cm]
  unfold ca
  rw [o7];rfl
 ·show cY _ _ _ _ _ _ = cY _ _ _ _ _ _
  rw [m8]
  simp only [cB hi,cz,cond_true,aO,Bool.or_true,bP hi,bS hi (by omega)]
  rw [kB,Option.bind_some]
  unfold yH
  simp only [fW,oN]
  cases aG l[i] with
  | false=>rfl
  | true =>
   simp only [Bool.true_and,if_true]
   cases (af l[i].Kind kind&&(!a.2||aa (l[i].Span.From < a.1))) <;> rfl
def ar (l:List GFact):GSpan :=
 let d:=if (ca l 12).2 then (ca l 12).1 else 73048
 if d < (ca l 11).1 then ⟨0,0⟩ else ⟨(ca l 11).1,ac (d+1)⟩
theorem P8 (a b:Int × Bool):(bif (!b.2) then bif aa (73048 < a.1) then some (⟨0,0⟩:GSpan) else some (⟨a.1,73049⟩:GSpan) else bif aa (b.1 < a.1) then some (⟨0,0⟩:GSpan) else some (⟨a.1,(ac (b.1+1))⟩:GSpan)) =
  some (let d:=if b.2 then b.1 else 73048;if d < a.1 then ⟨0,0⟩ else ⟨a.1,ac (d+1)⟩):=by
 cases b.2 with
 | false =>
  simp only [Bool.not_false,cond_true]
  by_cases h:73048 < a.1
  ·simp [h]
  ·simp [h,show ac 73049 = 73049 from al (by omega) (by omega)]
 | true =>
  simp only [Bool.not_true,cond_false,if_true]
  by_cases h:b.1 < a.1
  ·simp [h]
  ·simp [h]
theorem AP (l:List GFact) (hn:l.length≤1000000):qB l = some (ca l 11):=by rw [CL,qz l 11 hn];rfl
theorem AO (l:List GFact) (hn:l.length≤1000000):qD l = some (ca l 12):=by rw [Bt,qz l 12 hn];rfl
theorem jY (l:List GFact) (hn:l.length≤1000000):lC l = some (ar l):=by
 rw [DX,AP l hn,Option.bind_some,AO l hn,Option.bind_some]
 exact P8 _ _
end Go.Ax
set_option linter.all false
/- Spans: lists that are joined; Make. -/
set_option maxRecDepth 100000
namespace Go.Ax
def fN (l:List GSpan) (d:Int):Prop:=∃ s∈l,s.From≤d∧d < s.To
def dI (lo:Int):List GSpan→Prop
 | []=>True
 | s :: r=>lo < s.From∧s.From < s.To∧s.To≤73049∧dI s.To r
def Ha (lo:Int):List GSpan→Int
 | []=>lo
 | s :: r=>Ha s.To r
theorem bd {s:GSpan} {r:List GSpan} {d:Int}:fN (s :: r) d↔(s.From≤d∧d < s.To)∨fN r d:=by simp [fN]
theorem fw {d:Int}:¬ fN [] d:=by simp [fN]
theorem yY {a b:List GSpan} {d:Int}:fN (a++b) d↔fN a d∨fN b d:=by
 unfold fN
 constructor
 ·rintro ⟨s,hs,h⟩
  rcases List.mem_append.1 hs with hs | hs
  ·exact .inl ⟨s,hs,h⟩
  ·exact .inr ⟨s,hs,h⟩
 ·rintro (⟨s,hs,h⟩ | ⟨s,hs,h⟩)
  ·exact ⟨s,List.mem_append.2 (.inl hs),h⟩
  ·exact ⟨s,List.mem_append.2 (.inr hs),h⟩
theorem fB:∀ {l:List GSpan} {lo d:Int},dI lo l→fN l d→lo < d∧d < 73049
 | [],_,_,_,hc=>(fw hc).elim
 | s :: r,lo,d,⟨h1,h2,h3,h4⟩,hc=>by
  rcases bd.1 hc with h | h
  ·omega
  ·have:=fB h4 h
   omega
theorem FM:∀ {a b:List GSpan} {lo:Int},dI lo a→dI lo b→(∀ d,fN a d↔fN b d)→a = b
 | [],[],_,_,_,_=>rfl
 | [],t :: u,_,_,hb,h=>(fw ((h t.From).2 (bd.2 (.inl ⟨Int.le_refl _,hb.2.1⟩)))).elim
 | s :: r,[],_,ha,_,h=>(fw ((h s.From).1 (bd.2 (.inl ⟨Int.le_refl _,ha.2.1⟩)))).elim
 | s :: r,t :: u,lo,⟨a1,a2,a3,a4⟩,⟨b1,b2,b3,b4⟩,h=>by
  have hs:=(h s.From).1 (bd.2 (.inl ⟨Int.le_refl _,a2⟩))
  have ht:=(h t.From).2 (bd.2 (.inl ⟨Int.le_refl _,b2⟩))
  have e1:s.From = t.From:=by
   rcases bd.1 hs with hs | hs
   ·rcases bd.1 ht with ht | ht
    ·omega
    ·have:=fB a4 ht;omega
   ·have:=fB b4 hs
    rcases bd.1 ht with ht | ht
    ·omega
    ·have:=fB a4 ht;omega
  have e2:s.To = t.To:=by
   rcases Int.lt_trichotomy s.To t.To with hlt | he | hlt
   ·have:=(h s.To).2 (bd.2 (.inl ⟨by omega,hlt⟩))
    rcases bd.1 this with hc | hc
    ·omega
    ·have:=fB a4 hc;omega
   ·exact he
   ·have:=(h t.To).1 (bd.2 (.inl ⟨by omega,hlt⟩))
    rcases bd.1 this with hc | hc
    ·omega
    ·have:=fB b4 hc;omega
  have e3:s = t:=by
   cases s;cases t
   simp only at e1 e2
   rw [e1,e2]
  subst e3
  rw [FM a4 b4 fun d=>?_]
  constructor
  ·intro hc
   have h1:=fB a4 hc
   rcases bd.1 ((h d).1 (bd.2 (.inr hc))) with h2 | h2
   ·omega
   ·exact h2
  ·intro hc
   have h1:=fB b4 hc
   rcases bd.1 ((h d).2 (bd.2 (.inr hc))) with h2 | h2
   ·omega
   ·exact h2
theorem FP (lo:Int):∀ (l:List GSpan) (s:GSpan),Ha lo (l++[s]) = s.To
 | [],s=>rfl
 | t :: r,s=>FP t.To r s
theorem rU:∀ {l:List GSpan} {s:GSpan} {lo:Int},dI lo (l++[s])↔dI lo l∧Ha lo l < s.From∧s.From < s.To∧s.To≤73049
 | [],s,lo=>by simp [dI,Ha]
 | t :: r,s,lo=>by
  rw [List.cons_append]
  unfold dI Ha
  rw [rU]
  constructor
  ·rintro ⟨h1,h2,h3,h4,h5⟩;exact ⟨⟨h1,h2,h3,h4⟩,h5⟩
  ·rintro ⟨⟨h1,h2,h3,h4⟩,h5⟩;exact ⟨h1,h2,h3,h4,h5⟩
theorem mU {T:Type} (l:List T):l = []∨∃ p x,l = p++[x]:=by
 rcases List.eq_nil_or_concat l with h | ⟨p,x,h⟩
 ·exact .inl h
 ·exact .inr ⟨p,x,by rw [h];simp⟩
noncomputable def i8 (out:List GSpan) (s:GSpan):List GSpan:=match out.getLast? with
 | none=>[s]
 | some x=>if s.From≤x.To then out.dropLast++[⟨x.From,if x.To < s.To then s.To else x.To⟩] else out++[s]
theorem yI (s:GSpan):i8 [] s = [s]:=rfl
theorem vn (p:List GSpan) (x s:GSpan):i8 (p++[x]) s = if s.From≤x.To then p++[⟨x.From,if x.To < s.To then s.To else x.To⟩] else (p++[x])++[s]:=by
 unfold i8
 rw [List.getLast?_concat]
 simp
theorem NE {out:List GSpan} {s:GSpan} (hn:dI (-1) out) (hb:∀ x∈out,x.From≤s.From) (h1:0≤s.From) (h2:s.From < s.To) (h3:s.To≤73049) :
  dI (-1) (i8 out s)∧(∀ d,fN (i8 out s) d↔fN out d∨(s.From≤d∧d < s.To))∧(∀ x∈i8 out s,x.From≤s.From)∧(i8 out s).length≤out.length+1:=by
 rcases mU out with rfl | ⟨p,x,rfl⟩
 ·rw [yI]
  refine ⟨⟨by omega,h2,h3,trivial⟩,fun d=>?_,fun x hx=>?_,by simp⟩
  ·rw [bd];simp [fw]
  ·rw [List.mem_singleton.1 hx];exact Int.le_refl _
 ·obtain ⟨n1,n2,n3,n4⟩:=rU.1 hn
  have hx:=hb x (by simp)
  rw [vn]
  by_cases hc:s.From≤x.To
  ·rw [if_pos hc]
   have hm:x.To≤(if x.To < s.To then s.To else x.To)∧s.To≤(if x.To < s.To then s.To else x.To)∧((if x.To < s.To then s.To else x.To) = x.To∨(if x.To < s.To then s.To else x.To) = s.To):=by
    split <;> omega
   generalize (if x.To < s.To then s.To else x.To) = m at hm
   refine ⟨rU.2 ⟨n1,n2,by show x.From < m;omega,by show m≤73049;omega⟩,fun d=>?_,fun y hy=>?_,by simp⟩
   ·rw [yY,yY,bd,bd]
    simp only [fw,or_false]
    constructor
    ·rintro (h | ⟨h4,h5⟩)
     ·exact .inl (.inl h)
     ·by_cases hd:d < x.To
      ·exact .inl (.inr ⟨h4,hd⟩)
      ·exact .inr ⟨by omega,by omega⟩
    ·rintro ((h | ⟨h4,h5⟩) | ⟨h4,h5⟩)
     ·exact .inl h
     ·exact .inr ⟨h4,by omega⟩
     ·exact .inr ⟨by omega,by omega⟩
   ·rcases List.mem_append.1 hy with hy | hy
    ·exact hb y (by simp [hy])
    ·rw [List.mem_singleton.1 hy];exact hx
  ·rw [if_neg hc]
   refine ⟨rU.2 ⟨hn,by rw [FP];omega,h2,h3⟩,fun d=>?_,fun y hy=>?_,by simp⟩
   ·rw [yY (b:=[s]),bd];simp [fw]
   ·rcases List.mem_append.1 hy with hy | hy
    ·exact hb y hy
    ·rw [List.mem_singleton.1 hy];exact Int.le_refl _
theorem Fm:∀ (l out:List GSpan),dI (-1) out→(∀ x∈out, ∀ s∈l,x.From≤s.From)→l.Pairwise (fun a b=>a.From≤b.From)→(∀ s∈l,0≤s.From∧s.From < s.To∧s.To≤73049) →
  dI (-1) (l.foldl i8 out)∧(∀ d,fN (l.foldl i8 out) d↔fN out d∨fN l d)∧(l.foldl i8 out).length≤out.length+l.length
 | [],out,hn,_,_,_=>⟨hn,fun d=>by simp [fw],by simp⟩
 | s :: l,out,hn,hb,hp,ho=>by
  obtain ⟨o1,o2,o3⟩:=ho s (by simp)
  obtain ⟨j1,j2,j3,j4⟩:=NE hn (fun x hx=>hb x hx s (by simp)) o1 o2 o3
  obtain ⟨p1,p2⟩:=List.pairwise_cons.1 hp
  obtain ⟨f1,f2,f3⟩:=Fm l (i8 out s) j1 (fun x hx t ht=>by have:=j3 x hx;have:=p1 t ht;omega) p2 (fun t ht=>ho t (by simp [ht]))
  rw [List.foldl_cons]
  refine ⟨f1,fun d=>?_,by rw [List.length_cons];omega⟩
  rw [f2,j2,bd,or_assoc]
def e9 (s:GSpan):GSpan:=GSpan.mk (if s.From < (0:Int) then (0:Int) else s.From) (if (73049:Int) < s.To then (73049:Int) else s.To)
def rQ (s:GSpan):Bool:=decide (s.From < s.To)
def pd (l:List GSpan):List GSpan:=(l.map e9).filter rQ
theorem Fe (s:GSpan) (d:Int):((e9 s).From≤d∧d < (e9 s).To)↔(s.From≤d∧d < s.To)∧0≤d∧d < 73049:=by
 unfold e9
 simp only
 split <;> split <;> omega
theorem NW (l:List GSpan) (d:Int):fN (pd l) d↔fN l d∧0≤d∧d < 73049:=by
 unfold fN pd
 constructor
 ·rintro ⟨s,hs,h⟩
  obtain ⟨h1,_⟩:=List.mem_filter.1 hs
  obtain ⟨t,ht,rfl⟩:=List.mem_map.1 h1
  have:=(Fe t d).1 h
  exact ⟨⟨t,ht,this.1⟩,this.2⟩
 ·rintro ⟨⟨t,ht,h⟩,h2⟩
  have:=(Fe t d).2 ⟨h,h2⟩
  refine ⟨e9 t,List.mem_filter.2 ⟨List.mem_map.2 ⟨t,ht,rfl⟩, ?_⟩,this⟩
  unfold rQ
  rw [decide_eq_true_iff];omega
theorem Qf (l:List GSpan):∀ s∈pd l,0≤s.From∧s.From < s.To∧s.To≤73049:=by
 intro s hs
 obtain ⟨h1,h2⟩:=List.mem_filter.1 hs
 obtain ⟨t,ht,rfl⟩:=List.mem_map.1 h1
 unfold rQ at h2
 rw [decide_eq_true_iff] at h2
 refine ⟨?_,h2, ?_⟩ <;> (unfold e9;simp only;split <;> omega)
theorem Ig (l:List GSpan):(pd l).length≤l.length:=by
 unfold pd
 have:=List.length_filter_le rQ (l.map e9)
 simpa using this
theorem Qq (p:List GSpan) (x:GSpan) (h:p.length≤1000000000):ac ((((p++[x]).length:Nat):Int) - 1) = ((p.length:Nat):Int):=by
 have hl:(p++[x]).length = p.length+1:=by simp
 rw [al (by omega) (by omega)]
 omega
theorem uP {T:Type} (p:List T) (x y:T):(p++[x]).set p.length y = p++[y]:=by
 rw [List.set_append_right _ _ (Nat.le_refl _)]
 simp
theorem yX {T:Type} (p:List T) (x z:T):gD (p++[x]) p.length z = x:=O9 p [] x z
theorem Mg (t out:List GSpan) (i:Nat) (hi:i < t.length) (ho:out.length≤1000000000) (hn:t.length≤1000000000) :
  dn (t.length:Int) (i:Int) out t = dn (t.length:Int) ((i+1:Nat):Int) (i8 out t[i]) t:=by
 rw [oC]
 simp only [cB hi,cz,cond_true,aO,Bool.or_true,bP hi,bS hi (by omega)]
 rcases mU out with rfl | ⟨p,x,rfl⟩
 ·rw [show aa ((0:Int) < ((([]:List GSpan).length:Nat):Int)) = false from rfl]
  simp only [Bool.false_and,Bool.not_false,Bool.true_or,aO,cond_false]
  rw [sL (by simp) (by simp),yI]
  rfl
 ·have hp:p.length≤1000000000:=by simp at ho;omega
  have hl:(p++[x]).length = p.length+1:=by simp
  have h0:aa ((0:Int) < (((p++[x]).length:Nat):Int)) = true:=aM (by omega)
  have hlt:aa (((p.length:Nat):Int) < (((p++[x]).length:Nat):Int)) = true:=aM (by omega)
  have hi0:aa ((0:Int)≤((p.length:Nat):Int)) = true:=aM (by omega)
  rw [Qq p x hp]
  simp only [h0,hlt,hi0,Bool.or_true,aO,cond_true,yX,Int.toNat_natCast,uP,vn]
  by_cases hc:t[i].From≤x.To
  ·rw [aM hc,cond_true,if_pos hc]
   by_cases hd:x.To < t[i].To
   ·rw [aM hd,if_pos hd];rfl
   ·rw [bu hd,if_neg hd];rfl
  ·rw [bu hc,cond_false,sL (by omega) (by omega),if_neg hc]
theorem M9 (out:List GSpan) (s:GSpan):(i8 out s).length≤out.length+1:=by
 rcases mU out with rfl | ⟨p,x,rfl⟩
 ·rw [yI];simp
 ·rw [vn];split <;> simp
theorem NO (s:GSpan):sS s = some (e9 s):=by
 rw [Dc]
 unfold e9
 by_cases h1:s.From < 0 <;> by_cases h2:73049 < s.To <;> simp [h1,h2]
theorem Nu:Go.Sort.SWO fun (a b:GSpan)=>aa (a.From < b.From):=⟨fun x=>by simp,fun x y z h1 h2=>by simp at *; omega,fun x y z h1 h2=>by simp at *; omega⟩
noncomputable def gv (l:List GSpan):List GSpan:=(jl (pd l)).foldl i8 []
theorem wx (l:List GSpan):(jl l).Perm l∧(jl l).Pairwise fun a b=>a.From≤b.From:=by
 obtain ⟨h1,h2⟩:=@Ci _ ⟨zS .GSpan⟩ _ Nu l
 exact ⟨h1,h2.imp fun h=>by simp at h;omega⟩
theorem tG (l:List GSpan) (hn:l.length≤1000000000):pT l = some (gv l):=by
 have hc:=Ig l
 have hs:=(wx (pd l)).1.length_eq
 rw [Ge]
 have e:pd l = l.flatMap fun s=>if rQ (e9 s) = true then [e9 s] else []:=by
  unfold pd
  rw [mM (fun s=>rQ (e9 s)) e9,List.filter_map]
  rfl
 refine (Lg l (fun i out=>dD l (l.length:Int) i out) (fun s=>if rQ (e9 s) = true then [e9 s] else []) 1 (fun x _=>by split <;> simp) fun i out hi ho=>?_).trans ?_
 ·show dD _ _ _ _ = dD _ _ _ _
  rw [pD]
  simp only [cB hi,cz,cond_true,aO,Bool.or_true,bP hi,bS hi (by omega)]
  rw [NO,Option.bind_some,sL (by omega) (by omega)]
  unfold rQ
  by_cases hk:(e9 l[i]).From < (e9 l[i]).To
  ·rw [aM hk,decide_eq_true hk];rfl
  ·rw [bu hk,decide_eq_false hk];simp
 ·rw [← e]
  show dD _ _ _ _ = _
  rw [pD,cm,cond_false,aN (by omega)]
  unfold gv
  generalize hg:jl (pd l) = t at hs
  refine ((mz t (fun i out=>dn (t.length:Int) i out t) i8 (fun i out=>out.length≤i) (fun i out hi ho=>⟨Mg t out i hi (by omega) (by omega),by have:=M9 out t[i];omega⟩) [] (by simp)).1).trans ?_
  show dn _ _ _ _ = _
  rw [oC,cm];rfl
theorem ko (l:List GSpan):dI (-1) (gv l)∧(∀ d,fN (gv l) d↔fN l d∧0≤d∧d < 73049)∧(gv l).length≤l.length:=by
 obtain ⟨hp,hs⟩:=wx (pd l)
 have hc:=Ig l
 obtain ⟨f1,f2,f3⟩:=Fm (jl (pd l)) [] trivial (fun x hx=>by simp at hx) hs (fun s h=>Qf l s (hp.mem_iff.1 h))
 refine ⟨f1,fun d=>?_, ?_⟩
 ·unfold gv
  rw [f2, ← NW]
  constructor
  ·rintro (h | ⟨s,h,h'⟩)
   ·exact (fw h).elim
   ·exact ⟨s,hp.mem_iff.1 h,h'⟩
  ·rintro ⟨s,h,h'⟩
   exact .inr ⟨s,hp.mem_iff.2 h,h'⟩
 ·unfold gv
  have:=hp.length_eq
  simp at f3
  omega
end Go.Ax
