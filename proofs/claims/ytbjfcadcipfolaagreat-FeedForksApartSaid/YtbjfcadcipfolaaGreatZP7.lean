import Derived.Test.YtbjfcadcipfolaaGreatZP1
set_option linter.all false
/- The document's validity;facts that count;life. -/
set_option maxRecDepth 100000
namespace Go.Ax
theorem BY (k:Int) (c:Nat) (hc:c < 256):tR k (c:Int) = some (dm k c):=by
 rw [C3,gO,Option.bind_some]
 have hn:=jG k
 have hs:=kK k
 unfold dm
 generalize bp k = l at hn hs
 have:=AB l (fun i=>dQ c (aE l) i) (fun x=>x == c) (some true) (some false) (by
  show dQ _ _ _ = _
  rw [oD,fa,dq];rfl) fun i hi=>by
   show dQ _ _ _ = if _ then _ else dQ _ _ _
   rw [oD,fa]
   simp only [eD hi,cu,cond_true,aF,Bool.or_true,eH hi,di hi (by omega)]
   rw [Int.toNat_natCast,zk l i hi]
   have hv:((UInt8.ofNat l[i]).toNat:Int) = (l[i]:Int):=by
    have:=hs _ (List.getElem_mem hi)
    simp [Nat.mod_eq_of_lt this]
   rw [hv]
   by_cases e:l[i] = c
   ·rw [aZ.2 (by omega),if_pos (by simp [e])];rfl
   ·rw [gz.2 (by omega),if_neg (by simp [e])];rfl
 rw [this]
 have e2:l.any (fun x=>x == c) = l.contains c:=by rw [List.contains_eq_any_beq];congr 1;funext x;exact Bool.beq_comm
 rw [e2]
 cases l.contains c <;> rfl
theorem eF (k:Int) (c:Nat) (hc:c < 256) (n l m:Int):bP k (c:Int) n l m = some (bI (dm k c) n l m):=by
 rw [AT,BY k c hc,Option.bind_some]
 unfold bI ap
 cases dm k c
 ·rfl
 ·simp only [cond_true,dM,if_true]
theorem rf (k n l m:Int):(bP k 83 n l m = some (bI (dm k 83) n l m))∧(bP k 84 n l m = some (bI (dm k 84) n l m))∧(bP k 72 n l m = some (bI (dm k 72) n l m)) ∧
  (bP k 67 n l m = some (bI (dm k 67) n l m))∧(bP k 65 n l m = some (bI (dm k 65) n l m))∧(bP k 82 n l m = some (bI (dm k 82) n l m)) :=
 ⟨eF k 83 (by decide) n l m,eF k 84 (by decide) n l m,eF k 72 (by decide) n l m,eF k 67 (by decide) n l m,eF k 65 (by decide) n l m,eF k 82 (by decide) n l m⟩
theorem uk {f:GFact} (h:bH f = true→False):some false = some (bH f):=by
 cases hv:bH f with
 | false=>rfl
 | true=>exact (h hv).elim
theorem qH (f:GFact):nc f = some (bH f):=by
 rw [AX,gO]
 have out:∀ {p:Prop} [Decidable p] {o:Option Bool},(p→bH f = true→False)→(¬ p→o = some (bH f))→(bif aa p then some false else o) = some (bH f):=by
  intro p _ o h1 h2
  by_cases hp:p
  ·rw [bf hp,cond_true];exact uk (h1 hp)
  ·rw [bJ hp,cond_false];exact h2 hp
 have V:=HN f
 refine out (fun h hv=>?_) fun c1=>out (fun h hv=>?_) fun c2=>out (fun h hv=>?_) fun c3=>out (fun h hv=>?_) fun c4=>out (fun h hv=>?_) fun c5=>out (fun h hv=>?_) fun c6=>out (fun h hv=>?_) fun c7=>out (fun h hv=>?_) fun c8=>?_
 any_goals (obtain ⟨g0,g1,g2,g3,g4,_⟩:=V.1 hv;omega)
 rw [Option.bind_some,Fp]
 cases h0:(bp f.Kind).isEmpty with
 | true=>rw [cond_true];exact uk fun hv=>by obtain ⟨g0,_⟩:=V.1 hv;rw [g0] at h0;cases h0
 | false =>
  rw [cond_false]
  simp only [zC,dM]
  cases h2:(aa (f.Span.From < 0)||aa (f.Span.To≤f.Span.From)||aa (73049 < f.Span.To)) with
  | true =>
   rw [cond_true]
   refine uk fun hv=>?_
   obtain ⟨g0,g1,g2,g3,g4,_,_,g5,_⟩:=V.1 hv
   simp only [Bool.or_eq_true,decide_eq_true_eq] at h2
   omega
  | false =>
   rw [cond_false]
   simp only [Bool.or_eq_false_iff,decide_eq_false_iff_not] at h2
   rw [aD (by omega) (by omega)]
   cases h3:((ak f.Kind 11||ak f.Kind 12)&&aT (f.Span.To - f.Span.From) 1||ak f.Kind 4&&ak f.Seat f.State||(ak f.Kind 10||ak f.Kind 14)&&ak f.Ref f.Person) with
   | true =>
    rw [cond_true]
    refine uk fun hv=>?_
    obtain ⟨_,g1,g2,g3,g4,_,_,g5,_,_,_,_,g6⟩:=V.1 hv
    unfold ut at g6
    simp only [Bool.or_eq_true,Bool.and_eq_true,beq_iff_eq,bne_iff_ne,ne_eq,ak,aT] at h3
    split at g6
    ·simp only [bne_iff_ne,ne_eq] at g6;omega
    ·split at g6
     ·simp only [beq_iff_eq] at g6;omega
     ·split at g6
      ·simp only [bne_iff_ne,ne_eq] at g6;omega
      ·omega
   | false =>
    rw [cond_false]
    have hf:=fun n l m=>rf f.Kind n l m
    simp only [(hf _ _ _).1,(hf _ _ _).2.1,(hf _ _ _).2.2.1,(hf _ _ _).2.2.2.1,(hf _ _ _).2.2.2.2.1,(hf _ _ _).2.2.2.2.2,Option.bind_some]
    have hkind:ut f = true:=by
     simp only [Bool.or_eq_false_iff,Bool.and_eq_false_iff,beq_eq_false_iff_ne,bne_eq_false_iff_eq,ne_eq,ak,aT] at h3
     unfold ut
     split
     ·simp only [bne_iff_ne,ne_eq];omega
     ·split
      ·simp only [beq_iff_eq];omega
      ·split
       ·simp only [bne_iff_ne,ne_eq];omega
       ·rfl
    have e:∀ (a b:Bool),(bif a then some b else some false) = some (a&&b):=by intro a b;cases a <;> rfl
    simp only [e,Option.some.injEq]
    rw [Bool.eq_iff_iff,V]
    simp only [Bool.and_eq_true]
    constructor
    ·rintro ⟨a1,a2,a3,a4,a5,a6⟩
     exact ⟨h0,by omega,by omega,by omega,by omega,a1,a2,by omega,a3,a4,a5,a6,hkind⟩
    ·rintro ⟨_,_,_,_,_,a1,a2,_,a3,a4,a5,a6,_⟩
     exact ⟨a1,a2,a3,a4,a5,a6⟩
end Go.Ax
set_option linter.all false
/- Spans: lists that are joined; Make. -/
set_option maxRecDepth 100000
namespace Go.Ax
def ko (l:List GSpan) (d:Int):Prop:=∃ s∈l,s.From≤d∧d < s.To
def j9 (lo:Int):List GSpan→Prop
 | []=>True
 | s :: r=>lo < s.From∧s.From < s.To∧s.To≤73049∧j9 s.To r
def FJ (lo:Int):List GSpan→Int
 | []=>lo
 | s :: r=>FJ s.To r
theorem bG {s:GSpan} {r:List GSpan} {d:Int}:ko (s :: r) d↔(s.From≤d∧d < s.To)∨ko r d:=by simp [ko]
theorem jX {d:Int}:¬ ko [] d:=by simp [ko]
theorem BI {a b:List GSpan} {d:Int}:ko (a++b) d↔ko a d∨ko b d:=by
 unfold ko
 constructor
 ·rintro ⟨s,hs,h⟩
  rcases List.mem_append.1 hs with hs | hs
  ·exact .inl ⟨s,hs,h⟩
  ·exact .inr ⟨s,hs,h⟩
 ·rintro (⟨s,hs,h⟩ | ⟨s,hs,h⟩)
  ·exact ⟨s,List.mem_append.2 (.inl hs),h⟩
  ·exact ⟨s,List.mem_append.2 (.inr hs),h⟩
theorem jC:∀ {l:List GSpan} {lo d:Int},j9 lo l→ko l d→lo < d∧d < 73049
 | [],_,_,_,hc=>(jX hc).elim
 | s :: r,lo,d,⟨h1,h2,h3,h4⟩,hc=>by
  rcases bG.1 hc with h | h
  ·omega
  ·have:=jC h4 h
   omega
theorem CW:∀ {a b:List GSpan} {lo:Int},j9 lo a→j9 lo b→(∀ d,ko a d↔ko b d)→a = b
 | [],[],_,_,_,_=>rfl
 | [],t :: u,_,_,hb,h=>(jX ((h t.From).2 (bG.2 (.inl ⟨Int.le_refl _,hb.2.1⟩)))).elim
 | s :: r,[],_,ha,_,h=>(jX ((h s.From).1 (bG.2 (.inl ⟨Int.le_refl _,ha.2.1⟩)))).elim
 | s :: r,t :: u,lo,⟨a1,a2,a3,a4⟩,⟨b1,b2,b3,b4⟩,h=>by
  have hs:=(h s.From).1 (bG.2 (.inl ⟨Int.le_refl _,a2⟩))
  have ht:=(h t.From).2 (bG.2 (.inl ⟨Int.le_refl _,b2⟩))
  have e1:s.From = t.From:=by
   rcases bG.1 hs with hs | hs
   ·rcases bG.1 ht with ht | ht
    ·omega
    ·have:=jC a4 ht;omega
   ·have:=jC b4 hs
    rcases bG.1 ht with ht | ht
    ·omega
    ·have:=jC a4 ht;omega
  have e2:s.To = t.To:=by
   rcases Int.lt_trichotomy s.To t.To with hlt | he | hlt
   ·have:=(h s.To).2 (bG.2 (.inl ⟨by omega,hlt⟩))
    rcases bG.1 this with hc | hc
    ·omega
    ·have:=jC a4 hc;omega
   ·exact he
   ·have:=(h t.To).1 (bG.2 (.inl ⟨by omega,hlt⟩))
    rcases bG.1 this with hc | hc
    ·omega
    ·have:=jC b4 hc;omega
  have e3:s = t:=by
   cases s;cases t
   simp only at e1 e2
   rw [e1,e2]
  subst e3
  rw [CW a4 b4 fun d=>?_]
  constructor
  ·intro hc
   have h1:=jC a4 hc
   rcases bG.1 ((h d).1 (bG.2 (.inr hc))) with h2 | h2
   ·omega
   ·exact h2
  ·intro hc
   have h1:=jC b4 hc
   rcases bG.1 ((h d).2 (bG.2 (.inr hc))) with h2 | h2
   ·omega
   ·exact h2
theorem Cy (lo:Int):∀ (l:List GSpan) (s:GSpan),FJ lo (l++[s]) = s.To
 | [],s=>rfl
 | t :: r,s=>Cy t.To r s
theorem qR:∀ {l:List GSpan} {s:GSpan} {lo:Int},j9 lo (l++[s])↔j9 lo l∧FJ lo l < s.From∧s.From < s.To∧s.To≤73049
 | [],s,lo=>by simp [j9,FJ]
 | t :: r,s,lo=>by
  rw [List.cons_append]
  unfold j9 FJ
  rw [qR]
  constructor
  ·rintro ⟨h1,h2,h3,h4,h5⟩;exact ⟨⟨h1,h2,h3,h4⟩,h5⟩
  ·rintro ⟨⟨h1,h2,h3,h4⟩,h5⟩;exact ⟨h1,h2,h3,h4,h5⟩
theorem lU {T:Type} (l:List T):l = []∨∃ p x,l = p++[x]:=by
 rcases List.eq_nil_or_concat l with h | ⟨p,x,h⟩
 ·exact .inl h
 ·exact .inr ⟨p,x,by rw [h];simp⟩
noncomputable def eG (out:List GSpan) (s:GSpan):List GSpan:=match out.getLast? with
 | none=>[s]
 | some x=>if s.From≤x.To then out.dropLast++[⟨x.From,if x.To < s.To then s.To else x.To⟩] else out++[s]
theorem qV (s:GSpan):eG [] s = [s]:=rfl
theorem l7 (p:List GSpan) (x s:GSpan):eG (p++[x]) s = if s.From≤x.To then p++[⟨x.From,if x.To < s.To then s.To else x.To⟩] else (p++[x])++[s]:=by
 unfold eG
 rw [List.getLast?_concat]
 simp
theorem Jv {out:List GSpan} {s:GSpan} (hn:j9 (-1) out) (hb:∀ x∈out,x.From≤s.From) (h1:0≤s.From) (h2:s.From < s.To) (h3:s.To≤73049) :
  j9 (-1) (eG out s)∧(∀ d,ko (eG out s) d↔ko out d∨(s.From≤d∧d < s.To))∧(∀ x∈eG out s,x.From≤s.From)∧(eG out s).length≤out.length+1:=by
 rcases lU out with rfl | ⟨p,x,rfl⟩
 ·rw [qV]
  refine ⟨⟨by omega,h2,h3,trivial⟩,fun d=>?_,fun x hx=>?_,by simp⟩
  ·rw [bG];simp [jX]
  ·rw [List.mem_singleton.1 hx];exact Int.le_refl _
 ·obtain ⟨n1,n2,n3,n4⟩:=qR.1 hn
  have hx:=hb x (by simp)
  rw [l7]
  by_cases hc:s.From≤x.To
  ·rw [if_pos hc]
   have hm:x.To≤(if x.To < s.To then s.To else x.To)∧s.To≤(if x.To < s.To then s.To else x.To)∧((if x.To < s.To then s.To else x.To) = x.To∨(if x.To < s.To then s.To else x.To) = s.To):=by
    split <;> omega
   generalize (if x.To < s.To then s.To else x.To) = m at hm
   refine ⟨qR.2 ⟨n1,n2,by show x.From < m;omega,by show m≤73049;omega⟩,fun d=>?_,fun y hy=>?_,by simp⟩
   ·rw [BI,BI,bG,bG]
    simp only [jX,or_false]
    constructor
    ·rintro (h | ⟨h4,h5⟩)
     ·exact .inl (.inl h)
     ·by_cases hd:d < x.To
      ·exact .inl (.inr ⟨h4,hd⟩)
      ·exact .inr ⟨by omega,by omega⟩
    ·rintro ((h | ⟨h4,h5⟩) | ⟨h4,h5⟩)
     ·exact .inl h
     ·exact .inr ⟨h4,by omega⟩
     ·exact .inr ⟨by omega,by omega⟩
   ·rcases List.mem_append.1 hy with hy | hy
    ·exact hb y (by simp [hy])
    ·rw [List.mem_singleton.1 hy];exact hx
  ·rw [if_neg hc]
   refine ⟨qR.2 ⟨hn,by rw [Cy];omega,h2,h3⟩,fun d=>?_,fun y hy=>?_,by simp⟩
   ·rw [BI (b:=[s]),bG];simp [jX]
   ·rcases List.mem_append.1 hy with hy | hy
    ·exact hb y hy
    ·rw [List.mem_singleton.1 hy];exact Int.le_refl _
theorem wj:∀ (l out:List GSpan),j9 (-1) out→(∀ x∈out, ∀ s∈l,x.From≤s.From)→l.Pairwise (fun a b=>a.From≤b.From)→(∀ s∈l,0≤s.From∧s.From < s.To∧s.To≤73049) →
  j9 (-1) (l.foldl eG out)∧(∀ d,ko (l.foldl eG out) d↔ko out d∨ko l d)∧(l.foldl eG out).length≤out.length+l.length
 | [],out,hn,_,_,_=>⟨hn,fun d=>by simp [jX],by simp⟩
 | s :: l,out,hn,hb,hp,ho=>by
  obtain ⟨o1,o2,o3⟩:=ho s (by simp)
  obtain ⟨j1,j2,j3,j4⟩:=Jv hn (fun x hx=>hb x hx s (by simp)) o1 o2 o3
  obtain ⟨p1,p2⟩:=List.pairwise_cons.1 hp
  obtain ⟨f1,f2,f3⟩:=wj l (eG out s) j1 (fun x hx t ht=>by have:=j3 x hx;have:=p1 t ht;omega) p2 (fun t ht=>ho t (by simp [ht]))
  rw [List.foldl_cons]
  refine ⟨f1,fun d=>?_,by rw [List.length_cons];omega⟩
  rw [f2,j2,bG,or_assoc]
def em (s:GSpan):GSpan:=GSpan.mk (if s.From < (0:Int) then (0:Int) else s.From) (if (73049:Int) < s.To then (73049:Int) else s.To)
def qC (s:GSpan):Bool:=decide (s.From < s.To)
def ox (l:List GSpan):List GSpan:=(l.map em).filter qC
theorem Cr (s:GSpan) (d:Int):((em s).From≤d∧d < (em s).To)↔(s.From≤d∧d < s.To)∧0≤d∧d < 73049:=by
 unfold em
 simp only
 split <;> split <;> omega
theorem Lp (l:List GSpan) (d:Int):ko (ox l) d↔ko l d∧0≤d∧d < 73049:=by
 unfold ko ox
 constructor
 ·rintro ⟨s,hs,h⟩
  obtain ⟨h1,_⟩:=List.mem_filter.1 hs
  obtain ⟨t,ht,rfl⟩:=List.mem_map.1 h1
  have:=(Cr t d).1 h
  exact ⟨⟨t,ht,this.1⟩,this.2⟩
 ·rintro ⟨⟨t,ht,h⟩,h2⟩
  have:=(Cr t d).2 ⟨h,h2⟩
  refine ⟨em t,List.mem_filter.2 ⟨List.mem_map.2 ⟨t,ht,rfl⟩, ?_⟩,this⟩
  unfold qC
  rw [decide_eq_true_iff];omega
theorem L7 (l:List GSpan):∀ s∈ox l,0≤s.From∧s.From < s.To∧s.To≤73049:=by
 intro s hs
 obtain ⟨h1,h2⟩:=List.mem_filter.1 hs
 obtain ⟨t,ht,rfl⟩:=List.mem_map.1 h1
 unfold qC at h2
 rw [decide_eq_true_iff] at h2
 refine ⟨?_,h2, ?_⟩ <;> (unfold em;simp only;split <;> omega)
theorem F1 (l:List GSpan):(ox l).length≤l.length:=by
 unfold ox
 have:=List.length_filter_le qC (l.map em)
 simpa using this
theorem GT (p:List GSpan) (x:GSpan) (h:p.length≤1000000000):ae ((((p++[x]).length:Nat):Int) - 1) = ((p.length:Nat):Int):=by
 have hl:(p++[x]).length = p.length+1:=by simp
 rw [aD (by omega) (by omega)]
 omega
theorem Ed {T:Type} (p:List T) (x y:T):(p++[x]).set p.length y = p++[y]:=by
 rw [List.set_append_right _ _ (Nat.le_refl _)]
 simp
theorem Be {T:Type} (p:List T) (x z:T):gD (p++[x]) p.length z = x:=Lr p [] x z
theorem IJ (t out:List GSpan) (i:Nat) (hi:i < t.length) (ho:out.length≤1000000000) (hn:t.length≤1000000000) :
  cR (t.length:Int) (i:Int) out t = cR (t.length:Int) ((i+1:Nat):Int) (eG out t[i]) t:=by
 rw [nW]
 simp only [eD hi,cu,cond_true,aF,Bool.or_true,eH hi,di hi (by omega)]
 rcases lU out with rfl | ⟨p,x,rfl⟩
 ·rw [show aa ((0:Int) < ((([]:List GSpan).length:Nat):Int)) = false from rfl]
  simp only [Bool.false_and,Bool.not_false,Bool.true_or,aF,cond_false]
  rw [Ld (by simp) (by simp),qV]
  rfl
 ·have hp:p.length≤1000000000:=by simp at ho;omega
  have hl:(p++[x]).length = p.length+1:=by simp
  have h0:aa ((0:Int) < (((p++[x]).length:Nat):Int)) = true:=bf (by omega)
  have hlt:aa (((p.length:Nat):Int) < (((p++[x]).length:Nat):Int)) = true:=bf (by omega)
  have hi0:aa ((0:Int)≤((p.length:Nat):Int)) = true:=bf (by omega)
  rw [GT p x hp]
  simp only [h0,hlt,hi0,Bool.or_true,aF,cond_true,Be,Int.toNat_natCast,Ed,l7]
  by_cases hc:t[i].From≤x.To
  ·rw [bf hc,cond_true,if_pos hc]
   by_cases hd:x.To < t[i].To
   ·rw [bf hd,if_pos hd];rfl
   ·rw [bJ hd,if_neg hd];rfl
  ·rw [bJ hc,cond_false,Ld (by omega) (by omega),if_neg hc]
theorem CL (out:List GSpan) (s:GSpan):(eG out s).length≤out.length+1:=by
 rcases lU out with rfl | ⟨p,x,rfl⟩
 ·rw [qV];simp
 ·rw [l7];split <;> simp
theorem JY (s:GSpan):rz s = some (em s):=by
 rw [BV]
 unfold em
 by_cases h1:s.From < 0 <;> by_cases h2:73049 < s.To <;> simp [h1,h2]
theorem I9:Go.Sort.SWO fun (a b:GSpan)=>aa (a.From < b.From):=⟨fun x=>by simp,fun x y z h1 h2=>by simp at *; omega,fun x y z h1 h2=>by simp at *; omega⟩
noncomputable def qU (l:List GSpan):List GSpan:=(iq (ox l)).foldl eG []
theorem uI (l:List GSpan):(iq l).Perm l∧(iq l).Pairwise fun a b=>a.From≤b.From:=by
 obtain ⟨h1,h2⟩:=@zJ _ ⟨zS .GSpan⟩ _ I9 l
 exact ⟨h1,h2.imp fun h=>by simp at h;omega⟩
theorem Bp (l:List GSpan) (hn:l.length≤1000000000):tP l = some (qU l):=by
 have hc:=F1 l
 have hs:=(uI (ox l)).1.length_eq
 rw [De]
 have e:ox l = l.flatMap fun s=>if qC (em s) = true then [em s] else []:=by
  unfold ox
  rw [md (fun s=>qC (em s)) em,List.filter_map]
  rfl
 refine (LD l (fun i out=>dg l (l.length:Int) i out) (fun s=>if qC (em s) = true then [em s] else []) 1 (fun x _=>by split <;> simp) fun i out hi ho=>?_).trans ?_
 ·show dg _ _ _ _ = dg _ _ _ _
  rw [oJ]
  simp only [eD hi,cu,cond_true,aF,Bool.or_true,eH hi,di hi (by omega)]
  rw [JY,Option.bind_some,Ld (by omega) (by omega)]
  unfold qC
  by_cases hk:(em l[i]).From < (em l[i]).To
  ·rw [bf hk,decide_eq_true hk];rfl
  ·rw [bJ hk,decide_eq_false hk];simp
 ·rw [← e]
  show dg _ _ _ _ = _
  rw [oJ,dq,cond_false,ac (by omega)]
  unfold qU
  generalize hg:iq (ox l) = t at hs
  refine ((wJ t (fun i out=>cR (t.length:Int) i out t) eG (fun i out=>out.length≤i) (fun i out hi ho=>⟨IJ t out i hi (by omega) (by omega),by have:=CL out t[i];omega⟩) [] (by simp)).1).trans ?_
  show cR _ _ _ _ = _
  rw [nW,dq];rfl
theorem EF (l:List GSpan):j9 (-1) (qU l)∧(∀ d,ko (qU l) d↔ko l d∧0≤d∧d < 73049)∧(qU l).length≤l.length:=by
 obtain ⟨hp,hs⟩:=uI (ox l)
 have hc:=F1 l
 obtain ⟨f1,f2,f3⟩:=wj (iq (ox l)) [] trivial (fun x hx=>by simp at hx) hs (fun s h=>L7 l s (hp.mem_iff.1 h))
 refine ⟨f1,fun d=>?_, ?_⟩
 ·unfold qU
  rw [f2, ← Lp]
  constructor
  ·rintro (h | ⟨s,h,h'⟩)
   ·exact (jX h).elim
   ·exact ⟨s,hp.mem_iff.1 h,h'⟩
  ·rintro ⟨s,h,h'⟩
   exact .inr ⟨s,hp.mem_iff.2 h,h'⟩
 ·unfold qU
  have:=hp.length_eq
  simp at f3
  omega
end Go.Ax
