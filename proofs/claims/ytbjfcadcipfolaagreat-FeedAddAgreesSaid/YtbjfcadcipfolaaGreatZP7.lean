import Derived.Test.YtbjfcadcipfolaaGreatZP1
set_option linter.all false
/- The document's validity;facts that count;life. -/
set_option maxRecDepth 100000
namespace Go.Ax
theorem FF (k:Int) (c:Nat) (hc:c < 256):xW k (c:Int) = some (em k c):=by
 rw [Hi,i6,Option.bind_some]
 have hn:=lG k
 have hs:=mv k
 unfold em
 generalize bG k = l at hn hs
 have:=AV l (fun i=>eR c (aI l) i) (fun x=>x == c) (some true) (some false) (by
  show eR _ _ _ = _
  rw [rR,gB,cJ];rfl) fun i hi=>by
   show eR _ _ _ = if _ then _ else eR _ _ _
   rw [rR,gB]
   simp only [dj hi,bH,cond_true,ap,Bool.or_true,cz hi,co hi (by omega)]
   rw [Int.toNat_natCast,Dc l i hi]
   have hv:((UInt8.ofNat l[i]).toNat:Int) = (l[i]:Int):=by
    have:=hs _ (List.getElem_mem hi)
    simp [Nat.mod_eq_of_lt this]
   rw [hv]
   by_cases e:l[i] = c
   ·rw [aZ.2 (by omega),if_pos (by simp [e])];rfl
   ·rw [eJ.2 (by omega),if_neg (by simp [e])];rfl
 rw [this]
 have e2:l.any (fun x=>x == c) = l.contains c:=by rw [List.contains_eq_any_beq];congr 1;funext x;exact Bool.beq_comm
 rw [e2]
 cases l.contains c <;> rfl
theorem fP (k:Int) (c:Nat) (hc:c < 256) (n l m:Int):cG k (c:Int) n l m = some (cr (em k c) n l m):=by
 rw [E4,FF k c hc,Option.bind_some]
 unfold cr ar
 cases em k c
 ·rfl
 ·simp only [cond_true,dS,if_true]
theorem rf (k n l m:Int):(cG k 83 n l m = some (cr (em k 83) n l m))∧(cG k 84 n l m = some (cr (em k 84) n l m))∧(cG k 72 n l m = some (cr (em k 72) n l m)) ∧
  (cG k 67 n l m = some (cr (em k 67) n l m))∧(cG k 65 n l m = some (cr (em k 65) n l m))∧(cG k 82 n l m = some (cr (em k 82) n l m)) :=
 ⟨fP k 83 (by decide) n l m,fP k 84 (by decide) n l m,fP k 72 (by decide) n l m,fP k 67 (by decide) n l m,fP k 65 (by decide) n l m,fP k 82 (by decide) n l m⟩
theorem xJ {f:GFact} (h:cq f = true→False):some false = some (cq f):=by
 cases hv:cq f with
 | false=>rfl
 | true=>exact (h hv).elim
theorem vg (f:GFact):ql f = some (cq f):=by
 rw [FY,i6]
 have out:∀ {p:Prop} [Decidable p] {o:Option Bool},(p→cq f = true→False)→(¬ p→o = some (cq f))→(bif aa p then some false else o) = some (cq f):=by
  intro p _ o h1 h2
  by_cases hp:p
  ·rw [aV hp,cond_true];exact xJ (h1 hp)
  ·rw [bp hp,cond_false];exact h2 hp
 have V:=M4 f
 refine out (fun h hv=>?_) fun c1=>out (fun h hv=>?_) fun c2=>out (fun h hv=>?_) fun c3=>out (fun h hv=>?_) fun c4=>out (fun h hv=>?_) fun c5=>out (fun h hv=>?_) fun c6=>out (fun h hv=>?_) fun c7=>out (fun h hv=>?_) fun c8=>?_
 any_goals (obtain ⟨g0,g1,g2,g3,g4,_⟩:=V.1 hv;omega)
 rw [Option.bind_some,IK]
 cases h0:(bG f.Kind).isEmpty with
 | true=>rw [cond_true];exact xJ fun hv=>by obtain ⟨g0,_⟩:=V.1 hv;rw [g0] at h0;cases h0
 | false =>
  rw [cond_false]
  simp only [Dg,dS]
  cases h2:(aa (f.Span.From < 0)||aa (f.Span.To≤f.Span.From)||aa (73049 < f.Span.To)) with
  | true =>
   rw [cond_true]
   refine xJ fun hv=>?_
   obtain ⟨g0,g1,g2,g3,g4,_,_,g5,_⟩:=V.1 hv
   simp only [Bool.or_eq_true,decide_eq_true_eq] at h2
   omega
  | false =>
   rw [cond_false]
   simp only [Bool.or_eq_false_iff,decide_eq_false_iff_not] at h2
   rw [ay (by omega) (by omega)]
   cases h3:((am f.Kind 11||am f.Kind 12)&&aQ (f.Span.To - f.Span.From) 1||am f.Kind 4&&am f.Seat f.State||(am f.Kind 10||am f.Kind 14)&&am f.Ref f.Person) with
   | true =>
    rw [cond_true]
    refine xJ fun hv=>?_
    obtain ⟨_,g1,g2,g3,g4,_,_,g5,_,_,_,_,g6⟩:=V.1 hv
    unfold xg at g6
    simp only [Bool.or_eq_true,Bool.and_eq_true,beq_iff_eq,bne_iff_ne,ne_eq,am,aQ] at h3
    split at g6
    ·simp only [bne_iff_ne,ne_eq] at g6;omega
    ·split at g6
     ·simp only [beq_iff_eq] at g6;omega
     ·split at g6
      ·simp only [bne_iff_ne,ne_eq] at g6;omega
      ·omega
   | false =>
    rw [cond_false]
    have hf:=fun n l m=>rf f.Kind n l m
    simp only [(hf _ _ _).1,(hf _ _ _).2.1,(hf _ _ _).2.2.1,(hf _ _ _).2.2.2.1,(hf _ _ _).2.2.2.2.1,(hf _ _ _).2.2.2.2.2,Option.bind_some]
    have hkind:xg f = true:=by
     simp only [Bool.or_eq_false_iff,Bool.and_eq_false_iff,beq_eq_false_iff_ne,bne_eq_false_iff_eq,ne_eq,am,aQ] at h3
     unfold xg
     split
     ·simp only [bne_iff_ne,ne_eq];omega
     ·split
      ·simp only [beq_iff_eq];omega
      ·split
       ·simp only [bne_iff_ne,ne_eq];omega
       ·rfl
    have e:∀ (a b:Bool),(bif a then some b else some false) = some (a&&b):=by intro a b;cases a <;> rfl
    simp only [e,Option.some.injEq]
    rw [Bool.eq_iff_iff,V]
    simp only [Bool.and_eq_true]
    constructor
    ·rintro ⟨a1,a2,a3,a4,a5,a6⟩
     exact ⟨h0,by omega,by omega,by omega,by omega,a1,a2,by omega,a3,a4,a5,a6,hkind⟩
    ·rintro ⟨_,_,_,_,_,a1,a2,_,a3,a4,a5,a6,_⟩
     exact ⟨a1,a2,a3,a4,a5,a6⟩
end Go.Ax
set_option linter.all false
/- Spans: lists that are joined; Make. -/
set_option maxRecDepth 100000
namespace Go.Ax
def me (l:List GSpan) (d:Int):Prop:=∃ s∈l,s.From≤d∧d < s.To
def lK (lo:Int):List GSpan→Prop
 | []=>True
 | s :: r=>lo < s.From∧s.From < s.To∧s.To≤73049∧lK s.To r
def I8 (lo:Int):List GSpan→Int
 | []=>lo
 | s :: r=>I8 s.To r
theorem ce {s:GSpan} {r:List GSpan} {d:Int}:me (s :: r) d↔(s.From≤d∧d < s.To)∨me r d:=by simp [me]
theorem lH {d:Int}:¬ me [] d:=by simp [me]
theorem FO {a b:List GSpan} {d:Int}:me (a++b) d↔me a d∨me b d:=by
 unfold me
 constructor
 ·rintro ⟨s,hs,h⟩
  rcases List.mem_append.1 hs with hs | hs
  ·exact .inl ⟨s,hs,h⟩
  ·exact .inr ⟨s,hs,h⟩
 ·rintro (⟨s,hs,h⟩ | ⟨s,hs,h⟩)
  ·exact ⟨s,List.mem_append.2 (.inl hs),h⟩
  ·exact ⟨s,List.mem_append.2 (.inr hs),h⟩
theorem lC:∀ {l:List GSpan} {lo d:Int},lK lo l→me l d→lo < d∧d < 73049
 | [],_,_,_,hc=>(lH hc).elim
 | s :: r,lo,d,⟨h1,h2,h3,h4⟩,hc=>by
  rcases ce.1 hc with h | h
  ·omega
  ·have:=lC h4 h
   omega
theorem GQ:∀ {a b:List GSpan} {lo:Int},lK lo a→lK lo b→(∀ d,me a d↔me b d)→a = b
 | [],[],_,_,_,_=>rfl
 | [],t :: u,_,_,hb,h=>(lH ((h t.From).2 (ce.2 (.inl ⟨Int.le_refl _,hb.2.1⟩)))).elim
 | s :: r,[],_,ha,_,h=>(lH ((h s.From).1 (ce.2 (.inl ⟨Int.le_refl _,ha.2.1⟩)))).elim
 | s :: r,t :: u,lo,⟨a1,a2,a3,a4⟩,⟨b1,b2,b3,b4⟩,h=>by
  have hs:=(h s.From).1 (ce.2 (.inl ⟨Int.le_refl _,a2⟩))
  have ht:=(h t.From).2 (ce.2 (.inl ⟨Int.le_refl _,b2⟩))
  have e1:s.From = t.From:=by
   rcases ce.1 hs with hs | hs
   ·rcases ce.1 ht with ht | ht
    ·omega
    ·have:=lC a4 ht;omega
   ·have:=lC b4 hs
    rcases ce.1 ht with ht | ht
    ·omega
    ·have:=lC a4 ht;omega
  have e2:s.To = t.To:=by
   rcases Int.lt_trichotomy s.To t.To with hlt | he | hlt
   ·have:=(h s.To).2 (ce.2 (.inl ⟨by omega,hlt⟩))
    rcases ce.1 this with hc | hc
    ·omega
    ·have:=lC a4 hc;omega
   ·exact he
   ·have:=(h t.To).1 (ce.2 (.inl ⟨by omega,hlt⟩))
    rcases ce.1 this with hc | hc
    ·omega
    ·have:=lC b4 hc;omega
  have e3:s = t:=by
   cases s;cases t
   simp only at e1 e2
   rw [e1,e2]
  subst e3
  rw [GQ a4 b4 fun d=>?_]
  constructor
  ·intro hc
   have h1:=lC a4 hc
   rcases ce.1 ((h d).1 (ce.2 (.inr hc))) with h2 | h2
   ·omega
   ·exact h2
  ·intro hc
   have h1:=lC b4 hc
   rcases ce.1 ((h d).2 (ce.2 (.inr hc))) with h2 | h2
   ·omega
   ·exact h2
theorem Gq (lo:Int):∀ (l:List GSpan) (s:GSpan),I8 lo (l++[s]) = s.To
 | [],s=>rfl
 | t :: r,s=>Gq t.To r s
theorem uG:∀ {l:List GSpan} {s:GSpan} {lo:Int},lK lo (l++[s])↔lK lo l∧I8 lo l < s.From∧s.From < s.To∧s.To≤73049
 | [],s,lo=>by simp [lK,I8]
 | t :: r,s,lo=>by
  rw [List.cons_append]
  unfold lK I8
  rw [uG]
  constructor
  ·rintro ⟨h1,h2,h3,h4,h5⟩;exact ⟨⟨h1,h2,h3,h4⟩,h5⟩
  ·rintro ⟨⟨h1,h2,h3,h4⟩,h5⟩;exact ⟨h1,h2,h3,h4,h5⟩
theorem ow {T:Type} (l:List T):l = []∨∃ p x,l = p++[x]:=by
 rcases List.eq_nil_or_concat l with h | ⟨p,x,h⟩
 ·exact .inl h
 ·exact .inr ⟨p,x,by rw [h];simp⟩
noncomputable def fH (out:List GSpan) (s:GSpan):List GSpan:=match out.getLast? with
 | none=>[s]
 | some x=>if s.From≤x.To then out.dropLast++[⟨x.From,if x.To < s.To then s.To else x.To⟩] else out++[s]
theorem u7 (s:GSpan):fH [] s = [s]:=rfl
theorem oz (p:List GSpan) (x s:GSpan):fH (p++[x]) s = if s.From≤x.To then p++[⟨x.From,if x.To < s.To then s.To else x.To⟩] else (p++[x])++[s]:=by
 unfold fH
 rw [List.getLast?_concat]
 simp
theorem Oo {out:List GSpan} {s:GSpan} (hn:lK (-1) out) (hb:∀ x∈out,x.From≤s.From) (h1:0≤s.From) (h2:s.From < s.To) (h3:s.To≤73049) :
  lK (-1) (fH out s)∧(∀ d,me (fH out s) d↔me out d∨(s.From≤d∧d < s.To))∧(∀ x∈fH out s,x.From≤s.From)∧(fH out s).length≤out.length+1:=by
 rcases ow out with rfl | ⟨p,x,rfl⟩
 ·rw [u7]
  refine ⟨⟨by omega,h2,h3,trivial⟩,fun d=>?_,fun x hx=>?_,by simp⟩
  ·rw [ce];simp [lH]
  ·rw [List.mem_singleton.1 hx];exact Int.le_refl _
 ·obtain ⟨n1,n2,n3,n4⟩:=uG.1 hn
  have hx:=hb x (by simp)
  rw [oz]
  by_cases hc:s.From≤x.To
  ·rw [if_pos hc]
   have hm:x.To≤(if x.To < s.To then s.To else x.To)∧s.To≤(if x.To < s.To then s.To else x.To)∧((if x.To < s.To then s.To else x.To) = x.To∨(if x.To < s.To then s.To else x.To) = s.To):=by
    split <;> omega
   generalize (if x.To < s.To then s.To else x.To) = m at hm
   refine ⟨uG.2 ⟨n1,n2,by show x.From < m;omega,by show m≤73049;omega⟩,fun d=>?_,fun y hy=>?_,by simp⟩
   ·rw [FO,FO,ce,ce]
    simp only [lH,or_false]
    constructor
    ·rintro (h | ⟨h4,h5⟩)
     ·exact .inl (.inl h)
     ·by_cases hd:d < x.To
      ·exact .inl (.inr ⟨h4,hd⟩)
      ·exact .inr ⟨by omega,by omega⟩
    ·rintro ((h | ⟨h4,h5⟩) | ⟨h4,h5⟩)
     ·exact .inl h
     ·exact .inr ⟨h4,by omega⟩
     ·exact .inr ⟨by omega,by omega⟩
   ·rcases List.mem_append.1 hy with hy | hy
    ·exact hb y (by simp [hy])
    ·rw [List.mem_singleton.1 hy];exact hx
  ·rw [if_neg hc]
   refine ⟨uG.2 ⟨hn,by rw [Gq];omega,h2,h3⟩,fun d=>?_,fun y hy=>?_,by simp⟩
   ·rw [FO (b:=[s]),ce];simp [lH]
   ·rcases List.mem_append.1 hy with hy | hy
    ·exact hb y hy
    ·rw [List.mem_singleton.1 hy];exact Int.le_refl _
theorem zO:∀ (l out:List GSpan),lK (-1) out→(∀ x∈out, ∀ s∈l,x.From≤s.From)→l.Pairwise (fun a b=>a.From≤b.From)→(∀ s∈l,0≤s.From∧s.From < s.To∧s.To≤73049) →
  lK (-1) (l.foldl fH out)∧(∀ d,me (l.foldl fH out) d↔me out d∨me l d)∧(l.foldl fH out).length≤out.length+l.length
 | [],out,hn,_,_,_=>⟨hn,fun d=>by simp [lH],by simp⟩
 | s :: l,out,hn,hb,hp,ho=>by
  obtain ⟨o1,o2,o3⟩:=ho s (by simp)
  obtain ⟨j1,j2,j3,j4⟩:=Oo hn (fun x hx=>hb x hx s (by simp)) o1 o2 o3
  obtain ⟨p1,p2⟩:=List.pairwise_cons.1 hp
  obtain ⟨f1,f2,f3⟩:=zO l (fH out s) j1 (fun x hx t ht=>by have:=j3 x hx;have:=p1 t ht;omega) p2 (fun t ht=>ho t (by simp [ht]))
  rw [List.foldl_cons]
  refine ⟨f1,fun d=>?_,by rw [List.length_cons];omega⟩
  rw [f2,j2,ce,or_assoc]
def fq (s:GSpan):GSpan:=GSpan.mk (if s.From < (0:Int) then (0:Int) else s.From) (if (73049:Int) < s.To then (73049:Int) else s.To)
def uT (s:GSpan):Bool:=decide (s.From < s.To)
def rr (l:List GSpan):List GSpan:=(l.map fq).filter uT
theorem G2 (s:GSpan) (d:Int):((fq s).From≤d∧d < (fq s).To)↔(s.From≤d∧d < s.To)∧0≤d∧d < 73049:=by
 unfold fq
 simp only
 split <;> split <;> omega
theorem OY (l:List GSpan) (d:Int):me (rr l) d↔me l d∧0≤d∧d < 73049:=by
 unfold me rr
 constructor
 ·rintro ⟨s,hs,h⟩
  obtain ⟨h1,_⟩:=List.mem_filter.1 hs
  obtain ⟨t,ht,rfl⟩:=List.mem_map.1 h1
  have:=(G2 t d).1 h
  exact ⟨⟨t,ht,this.1⟩,this.2⟩
 ·rintro ⟨⟨t,ht,h⟩,h2⟩
  have:=(G2 t d).2 ⟨h,h2⟩
  refine ⟨fq t,List.mem_filter.2 ⟨List.mem_map.2 ⟨t,ht,rfl⟩, ?_⟩,this⟩
  unfold uT
  rw [decide_eq_true_iff];omega
theorem Qp (l:List GSpan):∀ s∈rr l,0≤s.From∧s.From < s.To∧s.To≤73049:=by
 intro s hs
 obtain ⟨h1,h2⟩:=List.mem_filter.1 hs
 obtain ⟨t,ht,rfl⟩:=List.mem_map.1 h1
 unfold uT at h2
 rw [decide_eq_true_iff] at h2
 refine ⟨?_,h2, ?_⟩ <;> (unfold fq;simp only;split <;> omega)
theorem HR (l:List GSpan):(rr l).length≤l.length:=by
 unfold rr
 have:=List.length_filter_le uT (l.map fq)
 simpa using this
theorem LD (p:List GSpan) (x:GSpan) (h:p.length≤1000000000):ac ((((p++[x]).length:Nat):Int) - 1) = ((p.length:Nat):Int):=by
 have hl:(p++[x]).length = p.length+1:=by simp
 rw [ay (by omega) (by omega)]
 omega
theorem Iw {T:Type} (p:List T) (x y:T):(p++[x]).set p.length y = p++[y]:=by
 rw [List.set_append_right _ _ (Nat.le_refl _)]
 simp
theorem FM {T:Type} (p:List T) (x z:T):gD (p++[x]) p.length z = x:=Pv p [] x z
theorem MW (t out:List GSpan) (i:Nat) (hi:i < t.length) (ho:out.length≤1000000000) (hn:t.length≤1000000000) :
  dO (t.length:Int) (i:Int) out t = dO (t.length:Int) ((i+1:Nat):Int) (fH out t[i]) t:=by
 rw [qQ]
 simp only [dj hi,bH,cond_true,ap,Bool.or_true,cz hi,co hi (by omega)]
 rcases ow out with rfl | ⟨p,x,rfl⟩
 ·rw [show aa ((0:Int) < ((([]:List GSpan).length:Nat):Int)) = false from rfl]
  simp only [Bool.false_and,Bool.not_false,Bool.true_or,ap,cond_false]
  rw [Pr (by simp) (by simp),u7]
  rfl
 ·have hp:p.length≤1000000000:=by simp at ho;omega
  have hl:(p++[x]).length = p.length+1:=by simp
  have h0:aa ((0:Int) < (((p++[x]).length:Nat):Int)) = true:=aV (by omega)
  have hlt:aa (((p.length:Nat):Int) < (((p++[x]).length:Nat):Int)) = true:=aV (by omega)
  have hi0:aa ((0:Int)≤((p.length:Nat):Int)) = true:=aV (by omega)
  rw [LD p x hp]
  simp only [h0,hlt,hi0,Bool.or_true,ap,cond_true,FM,Int.toNat_natCast,Iw,oz]
  by_cases hc:t[i].From≤x.To
  ·rw [aV hc,cond_true,if_pos hc]
   by_cases hd:x.To < t[i].To
   ·rw [aV hd,if_pos hd];rfl
   ·rw [bp hd,if_neg hd];rfl
  ·rw [bp hc,cond_false,Pr (by omega) (by omega),if_neg hc]
theorem GO (out:List GSpan) (s:GSpan):(fH out s).length≤out.length+1:=by
 rcases ow out with rfl | ⟨p,x,rfl⟩
 ·rw [u7];simp
 ·rw [oz];split <;> simp
theorem Oz (s:GSpan):vC s = some (fq s):=by
 rw [Ej]
 unfold fq
 by_cases h1:s.From < 0 <;> by_cases h2:73049 < s.To <;> simp [h1,h2]
theorem NI:Go.Sort.SWO fun (a b:GSpan)=>aa (a.From < b.From):=⟨fun x=>by simp,fun x y z h1 h2=>by simp at *; omega,fun x y z h1 h2=>by simp at *; omega⟩
noncomputable def vf (l:List GSpan):List GSpan:=(jR (rr l)).foldl fH []
theorem yL (l:List GSpan):(jR l).Perm l∧(jR l).Pairwise fun a b=>a.From≤b.From:=by
 obtain ⟨h1,h2⟩:=@D6 _ ⟨zS .GSpan⟩ _ NI l
 exact ⟨h1,h2.imp fun h=>by simp at h;omega⟩
theorem EC (l:List GSpan) (hn:l.length≤1000000000):yA l = some (vf l):=by
 have hc:=HR l
 have hs:=(yL (rr l)).1.length_eq
 rw [Hh]
 have e:rr l = l.flatMap fun s=>if uT (fq s) = true then [fq s] else []:=by
  unfold rr
  rw [oC (fun s=>uT (fq s)) fq,List.filter_map]
  rfl
 refine (P6 l (fun i out=>d7 l (l.length:Int) i out) (fun s=>if uT (fq s) = true then [fq s] else []) 1 (fun x _=>by split <;> simp) fun i out hi ho=>?_).trans ?_
 ·show d7 _ _ _ _ = d7 _ _ _ _
  rw [rV]
  simp only [dj hi,bH,cond_true,ap,Bool.or_true,cz hi,co hi (by omega)]
  rw [Oz,Option.bind_some,Pr (by omega) (by omega)]
  unfold uT
  by_cases hk:(fq l[i]).From < (fq l[i]).To
  ·rw [aV hk,decide_eq_true hk];rfl
  ·rw [bp hk,decide_eq_false hk];simp
 ·rw [← e]
  show d7 _ _ _ _ = _
  rw [rV,cJ,cond_false,ab (by omega)]
  unfold vf
  generalize hg:jR (rr l) = t at hs
  refine ((xH t (fun i out=>dO (t.length:Int) i out t) fH (fun i out=>out.length≤i) (fun i out hi ho=>⟨MW t out i hi (by omega) (by omega),by have:=GO out t[i];omega⟩) [] (by simp)).1).trans ?_
  show dO _ _ _ _ = _
  rw [qQ,cJ];rfl
theorem IX (l:List GSpan):lK (-1) (vf l)∧(∀ d,me (vf l) d↔me l d∧0≤d∧d < 73049)∧(vf l).length≤l.length:=by
 obtain ⟨hp,hs⟩:=yL (rr l)
 have hc:=HR l
 obtain ⟨f1,f2,f3⟩:=zO (jR (rr l)) [] trivial (fun x hx=>by simp at hx) hs (fun s h=>Qp l s (hp.mem_iff.1 h))
 refine ⟨f1,fun d=>?_, ?_⟩
 ·unfold vf
  rw [f2, ← OY]
  constructor
  ·rintro (h | ⟨s,h,h'⟩)
   ·exact (lH h).elim
   ·exact ⟨s,hp.mem_iff.1 h,h'⟩
  ·rintro ⟨s,h,h'⟩
   exact .inr ⟨s,hp.mem_iff.2 h,h'⟩
 ·unfold vf
  have:=hp.length_eq
  simp at f3
  omega
end Go.Ax
