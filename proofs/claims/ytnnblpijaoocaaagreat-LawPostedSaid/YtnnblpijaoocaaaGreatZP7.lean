import Derived.Test.YtnnblpijaoocaaaGreatZP6
set_option linter.all false
/- The document's validity;facts that count;life. -/
set_option maxRecDepth 100000
namespace Go.Ax
theorem FO (k:Int) (c:Nat) (hc:c < 256):wL k (c:Int) = some (cI k c):=by
 rw [H9,lD,Option.bind_some]
 have hn:=rX k
 have hs:=uF k
 unfold cI
 generalize dJ k = l at hn hs
 have:=mV l (fun i=>ff c (ab l) i) (fun x=>x == c) (some true) (some false) (by
  show ff _ _ _ = _
  rw [qz,ap,bi];rfl) fun i hi=>by
   show ff _ _ _ = if _ then _ else ff _ _ _
   rw [qz,ap]
   simp only [be hi,bp,cond_true,av,Bool.or_true,aR hi,bd hi (by omega)]
   rw [Int.toNat_natCast,NI l i hi]
   have hv:((UInt8.ofNat l[i]).toNat:Int) = (l[i]:Int):=by
    have:=hs _ (List.getElem_mem hi)
    simp [Nat.mod_eq_of_lt this]
   rw [hv]
   by_cases e:l[i] = c
   ·rw [dN.2 (by omega),if_pos (by simp [e])];rfl
   ·rw [gZ.2 (by omega),if_neg (by simp [e])];rfl
 rw [this]
 have e2:l.any (fun x=>x == c) = l.contains c:=by rw [List.contains_eq_any_beq];congr 1;funext x;exact Bool.beq_comm
 rw [e2]
 cases l.contains c <;> rfl
theorem fO (k:Int) (c:Nat) (hc:c < 256) (n l m:Int):cK k (c:Int) n l m = some (bj (cI k c) n l m):=by
 rw [EK,FO k c hc,Option.bind_some]
 unfold bj fN
 cases cI k c
 ·rfl
 ·simp only [cond_true,eY,if_true]
theorem rf (k n l m:Int):(cK k 83 n l m = some (bj (cI k 83) n l m))∧(cK k 84 n l m = some (bj (cI k 84) n l m))∧(cK k 72 n l m = some (bj (cI k 72) n l m)) ∧
  (cK k 67 n l m = some (bj (cI k 67) n l m))∧(cK k 65 n l m = some (bj (cI k 65) n l m))∧(cK k 82 n l m = some (bj (cI k 82) n l m)) :=
 ⟨fO k 83 (by decide) n l m,fO k 84 (by decide) n l m,fO k 72 (by decide) n l m,fO k 67 (by decide) n l m,fO k 65 (by decide) n l m,fO k 82 (by decide) n l m⟩
theorem wW {f:GFact} (h:cH f = true→False):some false = some (cH f):=by
 cases hv:cH f with
 | false=>rfl
 | true=>exact (h hv).elim
theorem fV (f:GFact):iI f = some (cH f):=by
 rw [Fm,lD]
 have out:∀ {p:Prop} [Decidable p] {o:Option Bool},(p→cH f = true→False)→(¬ p→o = some (cH f))→(bif aa p then some false else o) = some (cH f):=by
  intro p _ o h1 h2
  by_cases hp:p
  ·rw [au hp,cond_true];exact wW (h1 hp)
  ·rw [aL hp,cond_false];exact h2 hp
 have V:=lr f
 refine out (fun h hv=>?_) fun c1=>out (fun h hv=>?_) fun c2=>out (fun h hv=>?_) fun c3=>out (fun h hv=>?_) fun c4=>out (fun h hv=>?_) fun c5=>out (fun h hv=>?_) fun c6=>out (fun h hv=>?_) fun c7=>out (fun h hv=>?_) fun c8=>?_
 any_goals (obtain ⟨g0,g1,g2,g3,g4,_⟩:=V.1 hv;omega)
 rw [Option.bind_some,Kq]
 cases h0:(dJ f.Kind).isEmpty with
 | true=>rw [cond_true];exact wW fun hv=>by obtain ⟨g0,_⟩:=V.1 hv;rw [g0] at h0;cases h0
 | false =>
  rw [cond_false]
  simp only [nL,eY]
  cases h2:(aa (f.Span.From < 0)||aa (f.Span.To≤f.Span.From)||aa (73049 < f.Span.To)) with
  | true =>
   rw [cond_true]
   refine wW fun hv=>?_
   obtain ⟨g0,g1,g2,g3,g4,_,_,g5,_⟩:=V.1 hv
   simp only [Bool.or_eq_true,decide_eq_true_eq] at h2
   omega
  | false =>
   rw [cond_false]
   simp only [Bool.or_eq_false_iff,decide_eq_false_iff_not] at h2
   rw [al (by omega) (by omega)]
   cases h3:((ae f.Kind 11||ae f.Kind 12)&&bI (f.Span.To - f.Span.From) 1||ae f.Kind 4&&ae f.Seat f.State||(ae f.Kind 10||ae f.Kind 14)&&ae f.Ref f.Person) with
   | true =>
    rw [cond_true]
    refine wW fun hv=>?_
    obtain ⟨_,g1,g2,g3,g4,_,_,g5,_,_,_,_,g6⟩:=V.1 hv
    unfold tw at g6
    simp only [Bool.or_eq_true,Bool.and_eq_true,beq_iff_eq,bne_iff_ne,ne_eq,ae,bI] at h3
    split at g6
    ·simp only [bne_iff_ne,ne_eq] at g6;omega
    ·split at g6
     ·simp only [beq_iff_eq] at g6;omega
     ·split at g6
      ·simp only [bne_iff_ne,ne_eq] at g6;omega
      ·omega
   | false =>
    rw [cond_false]
    have hf:=fun n l m=>rf f.Kind n l m
    simp only [(hf _ _ _).1,(hf _ _ _).2.1,(hf _ _ _).2.2.1,(hf _ _ _).2.2.2.1,(hf _ _ _).2.2.2.2.1,(hf _ _ _).2.2.2.2.2,Option.bind_some]
    have hkind:tw f = true:=by
     simp only [Bool.or_eq_false_iff,Bool.and_eq_false_iff,beq_eq_false_iff_ne,bne_eq_false_iff_eq,ne_eq,ae,bI] at h3
     unfold tw
     split
     ·simp only [bne_iff_ne,ne_eq];omega
     ·split
      ·simp only [beq_iff_eq];omega
      ·split
       ·simp only [bne_iff_ne,ne_eq];omega
       ·rfl
    have e:∀ (a b:Bool),(bif a then some b else some false) = some (a&&b):=by intro a b;cases a <;> rfl
    simp only [e,Option.some.injEq]
    rw [Bool.eq_iff_iff,V]
    simp only [Bool.and_eq_true]
    constructor
    ·rintro ⟨a1,a2,a3,a4,a5,a6⟩
     exact ⟨h0,by omega,by omega,by omega,by omega,a1,a2,by omega,a3,a4,a5,a6,hkind⟩
    ·rintro ⟨_,_,_,_,_,a1,a2,_,a3,a4,a5,a6,_⟩
     exact ⟨a1,a2,a3,a4,a5,a6⟩
def RF (person:Int) (f:GFact):Bool:=ae f.Person person
theorem Kj (l:List GFact) (person:Int) (hn:l.length≤1000000):wN l person = some (l.filter (RF person)):=by
 rw [LS]
 refine (IE l (fun i out=>fD l person i out) (RF person) fun i out hi ho=>?_).trans ?_
 ·show fD _ _ _ _ = fD _ _ _ _
  rw [tl]
  simp only [be hi,bp,cond_true,av,Bool.or_true,aR hi,bd hi (by omega)]
  rw [oV]
  unfold RF
  cases ae l[i].Person person <;> rfl
 ·show fD _ _ _ _ = _
  rw [tl,bi];rfl
def aB (f:GFact):Bool:=cH f&&!f.Withdrawn
theorem k9 (f:GFact):jj f = some (aB f):=by
 rw [AQ,EB,Option.bind_some,eY];rfl
theorem iQ (l:List GFact) (hn:l.length≤1000000):im l = some (l.filter aB):=by
 rw [BG]
 refine (IE l (fun i out=>cX l i out) aB fun i out hi ho=>?_).trans ?_
 ·show cX _ _ _ = cX _ _ _
  rw [nN]
  simp only [be hi,bp,cond_true,av,Bool.or_true,aR hi,bd hi (by omega)]
  rw [fV,Option.bind_some,oV]
  unfold aB
  cases cH l[i] <;> cases l[i].Withdrawn <;> rfl
 ·show cX _ _ _ = _
  rw [nN,bi];rfl
theorem ln (l:List GFact) (hn:l.length≤1000000):ly l = some (l.filter aB):=by
 rw [A4,CP]
 have:cx l (l.length:Int) 0 [] = some (l.filter aB):=by
  refine (IE l (fun i out=>cx l (l.length:Int) i out) aB fun i out hi ho=>?_).trans ?_
  ·show cx _ _ _ _ = cx _ _ _ _
   rw [nH]
   simp only [be hi,bp,cond_true,av,Bool.or_true,aR hi,bd hi (by omega)]
   rw [k9,Option.bind_some,oV]
   cases aB l[i] <;> rfl
  ·show cx _ _ _ _ = _
   rw [nH,bi];rfl
 rw [this];rfl
def yl (kind:Int) (f:GFact) (a:Int × Bool):Int × Bool:=if (ae f.Kind kind&&(!a.2||aa (f.Span.From < a.1))) = true then (f.Span.From,true) else a
def gk (l:List GFact) (kind:Int):Int × Bool:=(l.filter aB).foldl (fun a f=>yl kind f a) (0,false)
theorem qr {A:Type} (p:GFact→Bool) (g:A→GFact→A):∀ (l:List GFact) (a:A),(l.filter p).foldl g a = l.foldl (fun a f=>if p f = true then g a f else a) a
 | [],_=>rfl
 | f :: l,a=>by
  rw [List.filter_cons,List.foldl_cons]
  by_cases h:p f = true
  ·rw [if_pos h,if_pos h,List.foldl_cons,qr p g l]
  ·rw [if_neg h,if_neg h,qr p g l]
theorem sI (l:List GFact) (kind:Int) (hn:l.length≤1000000):nQ l kind = some (gk l kind):=by
 rw [CW]
 have:=(mx l (fun i (a:Int × Bool)=>dx kind a.1 a.2 l (l.length:Int) i) (fun a f=>if aB f = true then yl kind f a else a) (fun _ _=>True) (fun i a hi _=>⟨?_,trivial⟩) (0,false) trivial).1
 ·refine Eq.trans this ?_
  show dx _ _ _ _ _ _ = _
  rw [oz,bi]
  unfold gk
  rw [qr];rfl
 ·show dx _ _ _ _ _ _ = dx _ _ _ _ _ _
  rw [oz]
  simp only [be hi,bp,cond_true,av,Bool.or_true,aR hi,bd hi (by omega)]
  rw [k9,Option.bind_some]
  unfold yl
  simp only [eY,nL]
  cases aB l[i] with
  | false=>rfl
  | true =>
   simp only [Bool.true_and,if_true]
   cases (ae l[i].Kind kind&&(!a.2||aa (l[i].Span.From < a.1))) <;> rfl
theorem tC (l:List GFact) (kind:Int) (hn:l.length≤1000000):po l kind = some (gk l kind):=by
 rw [E8,iQ l hn,Option.bind_some]
 have hc:(l.filter aB).length≤l.length:=List.length_filter_le _ _
 unfold gk
 generalize l.filter aB = c at hc
 have:=(mx c (fun i (a:Int × Bool)=>dl kind a.1 a.2 i c) (fun a f=>yl kind f a) (fun _ _=>True) (fun i a hi _=>⟨?_,trivial⟩) (0,false) trivial).1
 ·refine Eq.trans this ?_
  show dl _ _ _ _ _ = _
  rw [oC,bi];rfl
 ·show dl _ _ _ _ _ = dl _ _ _ _ _
  rw [oC]
  simp only [be hi,bp,cond_true,av,Bool.or_true,aR hi,bd hi (by omega)]
  unfold yl
  simp only [eY,nL]
  cases (ae c[i].Kind kind&&(!a.2||aa (c[i].Span.From < a.1))) <;> rfl
def aT (l:List GFact):GSpan :=
 let d:=if (gk l 12).2 then (gk l 12).1 else 73048
 if d < (gk l 11).1 then ⟨0,0⟩ else ⟨(gk l 11).1,ac (d+1)⟩
theorem ML (a b:Int × Bool):(bif (!b.2) then bif aa (73048 < a.1) then some (⟨0,0⟩:GSpan) else some (⟨a.1,73049⟩:GSpan) else bif aa (b.1 < a.1) then some (⟨0,0⟩:GSpan) else some (⟨a.1,(ac (b.1+1))⟩:GSpan)) =
  some (let d:=if b.2 then b.1 else 73048;if d < a.1 then ⟨0,0⟩ else ⟨a.1,ac (d+1)⟩):=by
 cases b.2 with
 | false =>
  simp only [Bool.not_false,cond_true]
  by_cases h:73048 < a.1
  ·simp [h]
  ·simp [h,show ac 73049 = 73049 from al (by omega) (by omega)]
 | true =>
  simp only [Bool.not_true,cond_false,if_true]
  by_cases h:b.1 < a.1
  ·simp [h]
  ·simp [h]
theorem CR (l:List GFact) (hn:l.length≤1000000):rO l = some (gk l 11):=by rw [DV,sI l 11 hn];rfl
theorem BP (l:List GFact) (hn:l.length≤1000000):rZ l = some (gk l 12):=by rw [DC,sI l 12 hn];rfl
theorem Dg (l:List GFact) (hn:l.length≤1000000):uy l = some (gk l 11):=by rw [FR,tC l 11 hn];rfl
theorem Do (l:List GFact) (hn:l.length≤1000000):uC l = some (gk l 12):=by rw [EE,tC l 12 hn];rfl
theorem kr (l:List GFact) (hn:l.length≤1000000):l3 l = some (aT l):=by
 rw [EF,CR l hn,Option.bind_some,BP l hn,Option.bind_some]
 exact ML _ _
theorem lv (l:List GFact) (hn:l.length≤1000000):nI l = some (aT l):=by
 rw [H1,Dg l hn,Option.bind_some,Do l hn,Option.bind_some]
 exact ML _ _
end Go.Ax
set_option linter.all false
/- Spans: lists that are joined; Make. -/
set_option maxRecDepth 100000
namespace Go.Ax
def dG (l:List GSpan) (d:Int):Prop:=∃ s∈l,s.From≤d∧d < s.To
def dc (lo:Int):List GSpan→Prop
 | []=>True
 | s :: r=>lo < s.From∧s.From < s.To∧s.To≤73049∧dc s.To r
def zD (lo:Int):List GSpan→Int
 | []=>lo
 | s :: r=>zD s.To r
theorem aU {s:GSpan} {r:List GSpan} {d:Int}:dG (s :: r) d↔(s.From≤d∧d < s.To)∨dG r d:=by simp [dG]
theorem dh {d:Int}:¬ dG [] d:=by simp [dG]
theorem oS {a b:List GSpan} {d:Int}:dG (a++b) d↔dG a d∨dG b d:=by
 unfold dG
 constructor
 ·rintro ⟨s,hs,h⟩
  rcases List.mem_append.1 hs with hs | hs
  ·exact .inl ⟨s,hs,h⟩
  ·exact .inr ⟨s,hs,h⟩
 ·rintro (⟨s,hs,h⟩ | ⟨s,hs,h⟩)
  ·exact ⟨s,List.mem_append.2 (.inl hs),h⟩
  ·exact ⟨s,List.mem_append.2 (.inr hs),h⟩
theorem gP:∀ {l:List GSpan} {lo d:Int},dc lo l→dG l d→lo < d∧d < 73049
 | [],_,_,_,hc=>(dh hc).elim
 | s :: r,lo,d,⟨h1,h2,h3,h4⟩,hc=>by
  rcases aU.1 hc with h | h
  ·omega
  ·have:=gP h4 h
   omega
theorem ze:∀ {a b:List GSpan} {lo:Int},dc lo a→dc lo b→(∀ d,dG a d↔dG b d)→a = b
 | [],[],_,_,_,_=>rfl
 | [],t :: u,_,_,hb,h=>(dh ((h t.From).2 (aU.2 (.inl ⟨Int.le_refl _,hb.2.1⟩)))).elim
 | s :: r,[],_,ha,_,h=>(dh ((h s.From).1 (aU.2 (.inl ⟨Int.le_refl _,ha.2.1⟩)))).elim
 | s :: r,t :: u,lo,⟨a1,a2,a3,a4⟩,⟨b1,b2,b3,b4⟩,h=>by
  have hs:=(h s.From).1 (aU.2 (.inl ⟨Int.le_refl _,a2⟩))
  have ht:=(h t.From).2 (aU.2 (.inl ⟨Int.le_refl _,b2⟩))
  have e1:s.From = t.From:=by
   rcases aU.1 hs with hs | hs
   ·rcases aU.1 ht with ht | ht
    ·omega
    ·have:=gP a4 ht;omega
   ·have:=gP b4 hs
    rcases aU.1 ht with ht | ht
    ·omega
    ·have:=gP a4 ht;omega
  have e2:s.To = t.To:=by
   rcases Int.lt_trichotomy s.To t.To with hlt | he | hlt
   ·have:=(h s.To).2 (aU.2 (.inl ⟨by omega,hlt⟩))
    rcases aU.1 this with hc | hc
    ·omega
    ·have:=gP a4 hc;omega
   ·exact he
   ·have:=(h t.To).1 (aU.2 (.inl ⟨by omega,hlt⟩))
    rcases aU.1 this with hc | hc
    ·omega
    ·have:=gP b4 hc;omega
  have e3:s = t:=by
   cases s;cases t
   simp only at e1 e2
   rw [e1,e2]
  subst e3
  rw [ze a4 b4 fun d=>?_]
  constructor
  ·intro hc
   have h1:=gP a4 hc
   rcases aU.1 ((h d).1 (aU.2 (.inr hc))) with h2 | h2
   ·omega
   ·exact h2
  ·intro hc
   have h1:=gP b4 hc
   rcases aU.1 ((h d).2 (aU.2 (.inr hc))) with h2 | h2
   ·omega
   ·exact h2
theorem m8 (lo:Int):∀ (l:List GSpan) (s:GSpan),zD lo (l++[s]) = s.To
 | [],s=>rfl
 | t :: r,s=>m8 t.To r s
theorem kV:∀ {l:List GSpan} {s:GSpan} {lo:Int},dc lo (l++[s])↔dc lo l∧zD lo l < s.From∧s.From < s.To∧s.To≤73049
 | [],s,lo=>by simp [dc,zD]
 | t :: r,s,lo=>by
  rw [List.cons_append]
  unfold dc zD
  rw [kV]
  constructor
  ·rintro ⟨h1,h2,h3,h4,h5⟩;exact ⟨⟨h1,h2,h3,h4⟩,h5⟩
  ·rintro ⟨⟨h1,h2,h3,h4⟩,h5⟩;exact ⟨h1,h2,h3,h4,h5⟩
theorem iG {T:Type} (l:List T):l = []∨∃ p x,l = p++[x]:=by
 rcases List.eq_nil_or_concat l with h | ⟨p,x,h⟩
 ·exact .inl h
 ·exact .inr ⟨p,x,by rw [h];simp⟩
noncomputable def jQ (out:List GSpan) (s:GSpan):List GSpan:=match out.getLast? with
 | none=>[s]
 | some x=>if s.From≤x.To then out.dropLast++[⟨x.From,if x.To < s.To then s.To else x.To⟩] else out++[s]
theorem zb (s:GSpan):jQ [] s = [s]:=rfl
theorem wS (p:List GSpan) (x s:GSpan):jQ (p++[x]) s = if s.From≤x.To then p++[⟨x.From,if x.To < s.To then s.To else x.To⟩] else (p++[x])++[s]:=by
 unfold jQ
 rw [List.getLast?_concat]
 simp
theorem Pp {out:List GSpan} {s:GSpan} (hn:dc (-1) out) (hb:∀ x∈out,x.From≤s.From) (h1:0≤s.From) (h2:s.From < s.To) (h3:s.To≤73049) :
  dc (-1) (jQ out s)∧(∀ d,dG (jQ out s) d↔dG out d∨(s.From≤d∧d < s.To))∧(∀ x∈jQ out s,x.From≤s.From)∧(jQ out s).length≤out.length+1:=by
 rcases iG out with rfl | ⟨p,x,rfl⟩
 ·rw [zb]
  refine ⟨⟨by omega,h2,h3,trivial⟩,fun d=>?_,fun x hx=>?_,by simp⟩
  ·rw [aU];simp [dh]
  ·rw [List.mem_singleton.1 hx];exact Int.le_refl _
 ·obtain ⟨n1,n2,n3,n4⟩:=kV.1 hn
  have hx:=hb x (by simp)
  rw [wS]
  by_cases hc:s.From≤x.To
  ·rw [if_pos hc]
   have hm:x.To≤(if x.To < s.To then s.To else x.To)∧s.To≤(if x.To < s.To then s.To else x.To)∧((if x.To < s.To then s.To else x.To) = x.To∨(if x.To < s.To then s.To else x.To) = s.To):=by
    split <;> omega
   generalize (if x.To < s.To then s.To else x.To) = m at hm
   refine ⟨kV.2 ⟨n1,n2,by show x.From < m;omega,by show m≤73049;omega⟩,fun d=>?_,fun y hy=>?_,by simp⟩
   ·rw [oS,oS,aU,aU]
    simp only [dh,or_false]
    constructor
    ·rintro (h | ⟨h4,h5⟩)
     ·exact .inl (.inl h)
     ·by_cases hd:d < x.To
      ·exact .inl (.inr ⟨h4,hd⟩)
      ·exact .inr ⟨by omega,by omega⟩
    ·rintro ((h | ⟨h4,h5⟩) | ⟨h4,h5⟩)
     ·exact .inl h
     ·exact .inr ⟨h4,by omega⟩
     ·exact .inr ⟨by omega,by omega⟩
   ·rcases List.mem_append.1 hy with hy | hy
    ·exact hb y (by simp [hy])
    ·rw [List.mem_singleton.1 hy];exact hx
  ·rw [if_neg hc]
   refine ⟨kV.2 ⟨hn,by rw [m8];omega,h2,h3⟩,fun d=>?_,fun y hy=>?_,by simp⟩
   ·rw [oS (b:=[s]),aU];simp [dh]
   ·rcases List.mem_append.1 hy with hy | hy
    ·exact hb y hy
    ·rw [List.mem_singleton.1 hy];exact Int.le_refl _
theorem Hr:∀ (l out:List GSpan),dc (-1) out→(∀ x∈out, ∀ s∈l,x.From≤s.From)→l.Pairwise (fun a b=>a.From≤b.From)→(∀ s∈l,0≤s.From∧s.From < s.To∧s.To≤73049) →
  dc (-1) (l.foldl jQ out)∧(∀ d,dG (l.foldl jQ out) d↔dG out d∨dG l d)∧(l.foldl jQ out).length≤out.length+l.length
 | [],out,hn,_,_,_=>⟨hn,fun d=>by simp [dh],by simp⟩
 | s :: l,out,hn,hb,hp,ho=>by
  obtain ⟨o1,o2,o3⟩:=ho s (by simp)
  obtain ⟨j1,j2,j3,j4⟩:=Pp hn (fun x hx=>hb x hx s (by simp)) o1 o2 o3
  obtain ⟨p1,p2⟩:=List.pairwise_cons.1 hp
  obtain ⟨f1,f2,f3⟩:=Hr l (jQ out s) j1 (fun x hx t ht=>by have:=j3 x hx;have:=p1 t ht;omega) p2 (fun t ht=>ho t (by simp [ht]))
  rw [List.foldl_cons]
  refine ⟨f1,fun d=>?_,by rw [List.length_cons];omega⟩
  rw [f2,j2,aU,or_assoc]
def aO (s:GSpan):GSpan:=GSpan.mk (if s.From < (0:Int) then (0:Int) else s.From) (if (73049:Int) < s.To then (73049:Int) else s.To)
def ro (s:GSpan):Bool:=decide (s.From < s.To)
def kg (l:List GSpan):List GSpan:=(l.map aO).filter ro
theorem Hj (s:GSpan) (d:Int):((aO s).From≤d∧d < (aO s).To)↔(s.From≤d∧d < s.To)∧0≤d∧d < 73049:=by
 unfold aO
 simp only
 split <;> split <;> omega
theorem rW (l:List GSpan) (d:Int):dG (kg l) d↔dG l d∧0≤d∧d < 73049:=by
 unfold dG kg
 constructor
 ·rintro ⟨s,hs,h⟩
  obtain ⟨h1,_⟩:=List.mem_filter.1 hs
  obtain ⟨t,ht,rfl⟩:=List.mem_map.1 h1
  have:=(Hj t d).1 h
  exact ⟨⟨t,ht,this.1⟩,this.2⟩
 ·rintro ⟨⟨t,ht,h⟩,h2⟩
  have:=(Hj t d).2 ⟨h,h2⟩
  refine ⟨aO t,List.mem_filter.2 ⟨List.mem_map.2 ⟨t,ht,rfl⟩, ?_⟩,this⟩
  unfold ro
  rw [decide_eq_true_iff];omega
theorem MV (l:List GSpan):∀ s∈kg l,0≤s.From∧s.From < s.To∧s.To≤73049:=by
 intro s hs
 obtain ⟨h1,h2⟩:=List.mem_filter.1 hs
 obtain ⟨t,ht,rfl⟩:=List.mem_map.1 h1
 unfold ro at h2
 rw [decide_eq_true_iff] at h2
 refine ⟨?_,h2, ?_⟩ <;> (unfold aO;simp only;split <;> omega)
theorem JL (l:List GSpan):(kg l).length≤l.length:=by
 unfold kg
 have:=List.length_filter_le ro (l.map aO)
 simpa using this
theorem My (p:List GSpan) (x:GSpan) (h:p.length≤1000000000):ac ((((p++[x]).length:Nat):Int) - 1) = ((p.length:Nat):Int):=by
 have hl:(p++[x]).length = p.length+1:=by simp
 rw [al (by omega) (by omega)]
 omega
theorem K9 {T:Type} (p:List T) (x y:T):(p++[x]).set p.length y = p++[y]:=by
 rw [List.set_append_right _ _ (Nat.le_refl _)]
 simp
theorem MX {T:Type} (p:List T) (x z:T):gD (p++[x]) p.length z = x:=vL p [] x z
theorem M9 (t out:List GSpan) (i:Nat) (hi:i < t.length) (ho:out.length≤1000000000) (hn:t.length≤1000000000) :
  dH (t.length:Int) (i:Int) out t = dH (t.length:Int) ((i+1:Nat):Int) (jQ out t[i]) t:=by
 rw [pQ]
 simp only [be hi,bp,cond_true,av,Bool.or_true,aR hi,bd hi (by omega)]
 rcases iG out with rfl | ⟨p,x,rfl⟩
 ·rw [show aa ((0:Int) < ((([]:List GSpan).length:Nat):Int)) = false from rfl]
  simp only [Bool.false_and,Bool.not_false,Bool.true_or,av,cond_false]
  rw [oV (by simp) (by simp),zb]
  rfl
 ·have hp:p.length≤1000000000:=by simp at ho;omega
  have hl:(p++[x]).length = p.length+1:=by simp
  have h0:aa ((0:Int) < (((p++[x]).length:Nat):Int)) = true:=au (by omega)
  have hlt:aa (((p.length:Nat):Int) < (((p++[x]).length:Nat):Int)) = true:=au (by omega)
  have hi0:aa ((0:Int)≤((p.length:Nat):Int)) = true:=au (by omega)
  rw [My p x hp]
  simp only [h0,hlt,hi0,Bool.or_true,av,cond_true,MX,Int.toNat_natCast,K9,wS]
  by_cases hc:t[i].From≤x.To
  ·rw [au hc,cond_true,if_pos hc]
   by_cases hd:x.To < t[i].To
   ·rw [au hd,if_pos hd];rfl
   ·rw [aL hd,if_neg hd];rfl
  ·rw [aL hc,cond_false,oV (by omega) (by omega),if_neg hc]
theorem Oy (out:List GSpan) (s:GSpan):(jQ out s).length≤out.length+1:=by
 rcases iG out with rfl | ⟨p,x,rfl⟩
 ·rw [zb];simp
 ·rw [wS];split <;> simp
theorem OA (s:GSpan):uB s = some (aO s):=by
 rw [Fc]
 unfold aO
 by_cases h1:s.From < 0 <;> by_cases h2:73049 < s.To <;> simp [h1,h2]
theorem PM:Go.Sort.SWO fun (a b:GSpan)=>aa (a.From < b.From):=⟨fun x=>by simp,fun x y z h1 h2=>by simp at *; omega,fun x y z h1 h2=>by simp at *; omega⟩
noncomputable def gY (l:List GSpan):List GSpan:=(jz (kg l)).foldl jQ []
theorem xC (l:List GSpan):(jz l).Perm l∧(jz l).Pairwise fun a b=>a.From≤b.From:=by
 obtain ⟨h1,h2⟩:=@Eo _ ⟨zS .GSpan⟩ _ PM l
 exact ⟨h1,h2.imp fun h=>by simp at h;omega⟩
theorem vr (l:List GSpan) (hn:l.length≤1000000000):qU l = some (gY l):=by
 have hc:=JL l
 have hs:=(xC (kg l)).1.length_eq
 rw [H8]
 have e:kg l = l.flatMap fun s=>if ro (aO s) = true then [aO s] else []:=by
  unfold kg
  rw [oc (fun s=>ro (aO s)) aO,List.filter_map]
  rfl
 refine (NK l (fun i out=>dU l (l.length:Int) i out) (fun s=>if ro (aO s) = true then [aO s] else []) 1 (fun x _=>by split <;> simp) fun i out hi ho=>?_).trans ?_
 ·show dU _ _ _ _ = dU _ _ _ _
  rw [qy]
  simp only [be hi,bp,cond_true,av,Bool.or_true,aR hi,bd hi (by omega)]
  rw [OA,Option.bind_some,oV (by omega) (by omega)]
  unfold ro
  by_cases hk:(aO l[i]).From < (aO l[i]).To
  ·rw [au hk,decide_eq_true hk];rfl
  ·rw [aL hk,decide_eq_false hk];simp
 ·rw [← e]
  show dU _ _ _ _ = _
  rw [qy,bi,cond_false,ax (by omega)]
  unfold gY
  generalize hg:jz (kg l) = t at hs
  refine ((mx t (fun i out=>dH (t.length:Int) i out t) jQ (fun i out=>out.length≤i) (fun i out hi ho=>⟨M9 t out i hi (by omega) (by omega),by have:=Oy out t[i];omega⟩) [] (by simp)).1).trans ?_
  show dH _ _ _ _ = _
  rw [pQ,bi];rfl
theorem kI (l:List GSpan):dc (-1) (gY l)∧(∀ d,dG (gY l) d↔dG l d∧0≤d∧d < 73049)∧(gY l).length≤l.length:=by
 obtain ⟨hp,hs⟩:=xC (kg l)
 have hc:=JL l
 obtain ⟨f1,f2,f3⟩:=Hr (jz (kg l)) [] trivial (fun x hx=>by simp at hx) hs (fun s h=>MV l s (hp.mem_iff.1 h))
 refine ⟨f1,fun d=>?_, ?_⟩
 ·unfold gY
  rw [f2, ← rW]
  constructor
  ·rintro (h | ⟨s,h,h'⟩)
   ·exact (dh h).elim
   ·exact ⟨s,hp.mem_iff.1 h,h'⟩
  ·rintro ⟨s,h,h'⟩
   exact .inr ⟨s,hp.mem_iff.2 h,h'⟩
 ·unfold gY
  have:=hp.length_eq
  simp at f3
  omega
end Go.Ax
