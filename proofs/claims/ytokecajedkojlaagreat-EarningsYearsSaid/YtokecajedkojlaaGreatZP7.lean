import Derived.Test.YtokecajedkojlaaGreatZP6
set_option linter.all false
/- The document's validity; facts that count; life. -/
set_option maxRecDepth 100000
namespace Go.Ax
theorem Hs (k:Int) (c:Nat) (hc:c < 256):zl k (c:Int) = some (dV k c):=by
  rw [KL,mI,Option.bind_some]
  have hn:=ub k
  have hs:=wo k
  unfold dV
  generalize dS k = l at hn hs
  have:=HQ l (fun i=>fa c (ac l) i) (fun x=>x == c) (some true) (some false) (by
    show fa _ _ _ = _
    rw [sR,aq,bg]; rfl) fun i hi=>by
      show fa _ _ _ = if _ then _ else fa _ _ _
      rw [sR,aq]
      simp only [aT hi,br,cond_true,aC,Bool.or_true,be hi,bf hi (by omega)]
      rw [Int.toNat_natCast,Qo l i hi]
      have hv:((UInt8.ofNat l[i]).toNat:Int) = (l[i]:Int):=by
        have:=hs _ (List.getElem_mem hi)
        simp [Nat.mod_eq_of_lt this]
      rw [hv]
      by_cases e:l[i] = c
      · rw [cY.2 (by omega),if_pos (by simp [e])]; rfl
      · rw [fI.2 (by omega),if_neg (by simp [e])]; rfl
  rw [this]
  have e2:l.any (fun x=>x == c) = l.contains c:=by rw [List.contains_eq_any_beq]; congr 1; funext x; exact Bool.beq_comm
  rw [e2]
  cases l.contains c <;> rfl
theorem fP (k:Int) (c:Nat) (hc:c < 256) (n l m:Int):cz k (c:Int) n l m = some (bU (dV k c) n l m):=by
  rw [G4,Hs k c hc,Option.bind_some]
  unfold bU fO
  cases dV k c
  · rfl
  · simp only [cond_true,bD,if_true]
theorem rf (k n l m:Int):(cz k 83 n l m = some (bU (dV k 83) n l m))∧(cz k 84 n l m = some (bU (dV k 84) n l m))∧(cz k 72 n l m = some (bU (dV k 72) n l m)) ∧
    (cz k 67 n l m = some (bU (dV k 67) n l m))∧(cz k 65 n l m = some (bU (dV k 65) n l m))∧(cz k 82 n l m = some (bU (dV k 82) n l m)) :=
  ⟨fP k 83 (by decide) n l m,fP k 84 (by decide) n l m,fP k 72 (by decide) n l m,fP k 67 (by decide) n l m,fP k 65 (by decide) n l m,fP k 82 (by decide) n l m⟩
theorem zF {f:GFact} (h:ee f = true→False):some false = some (ee f):=by
  cases hv:ee f with
  | false=>rfl
  | true=>exact (h hv).elim
theorem eo (f:GFact):fm f = some (ee f):=by
  rw [Io,mI]
  have out:∀ {p:Prop} [Decidable p] {o:Option Bool},(p→ee f = true→False)→(¬ p→o = some (ee f))→(bif aa p then some false else o) = some (ee f):=by
    intro p _ o h1 h2
    by_cases hp:p
    · rw [ay hp,cond_true]; exact zF (h1 hp)
    · rw [aB hp,cond_false]; exact h2 hp
  have V:=yK f
  refine out (fun h hv=>?_) fun c1=>out (fun h hv=>?_) fun c2=>out (fun h hv=>?_) fun c3=>out (fun h hv=>?_) fun c4=>out (fun h hv=>?_) fun c5=>out (fun h hv=>?_) fun c6=>out (fun h hv=>?_) fun c7=>out (fun h hv=>?_) fun c8=>?_
  any_goals (obtain ⟨g0,g1,g2,g3,g4,_⟩:=V.1 hv; omega)
  rw [Option.bind_some,Ln]
  cases h0:(dS f.Kind).isEmpty with
  | true=>rw [cond_true]; exact zF fun hv=>by obtain ⟨g0,_⟩:=V.1 hv; rw [g0] at h0; cases h0
  | false =>
    rw [cond_false]
    simp only [dR,bD]
    cases h2:(aa (f.Span.From < 0)||aa (f.Span.To≤f.Span.From)||aa (73049 < f.Span.To)) with
    | true =>
      rw [cond_true]
      refine zF fun hv=>?_
      obtain ⟨g0,g1,g2,g3,g4,_,_,g5,_⟩:=V.1 hv
      simp only [Bool.or_eq_true,decide_eq_true_eq] at h2
      omega
    | false =>
      rw [cond_false]
      simp only [Bool.or_eq_false_iff,decide_eq_false_iff_not] at h2
      rw [ai (by omega) (by omega)]
      cases h3:((af f.Kind 11||af f.Kind 12)&&aJ (f.Span.To - f.Span.From) 1||af f.Kind 4&&af f.Seat f.State||(af f.Kind 10||af f.Kind 14)&&af f.Ref f.Person) with
      | true =>
        rw [cond_true]
        refine zF fun hv=>?_
        obtain ⟨_,g1,g2,g3,g4,_,_,g5,_,_,_,_,g6⟩:=V.1 hv
        unfold zm at g6
        simp only [Bool.or_eq_true,Bool.and_eq_true,beq_iff_eq,bne_iff_ne,ne_eq,af,aJ] at h3
        split at g6
        · simp only [bne_iff_ne,ne_eq] at g6; omega
        · split at g6
          · simp only [beq_iff_eq] at g6; omega
          · split at g6
            · simp only [bne_iff_ne,ne_eq] at g6; omega
            · omega
      | false =>
        rw [cond_false]
        have hf:=fun n l m=>rf f.Kind n l m
        simp only [(hf _ _ _).1,(hf _ _ _).2.1,(hf _ _ _).2.2.1,(hf _ _ _).2.2.2.1,(hf _ _ _).2.2.2.2.1,(hf _ _ _).2.2.2.2.2,Option.bind_some]
        have hkind:zm f = true:=by
          simp only [Bool.or_eq_false_iff,Bool.and_eq_false_iff,beq_eq_false_iff_ne,bne_eq_false_iff_eq,ne_eq,af,aJ] at h3
          unfold zm
          split
          · simp only [bne_iff_ne,ne_eq]; omega
          · split
            · simp only [beq_iff_eq]; omega
            · split
              · simp only [bne_iff_ne,ne_eq]; omega
              · rfl
        have e:∀ (a b:Bool),(bif a then some b else some false) = some (a&&b):=by intro a b; cases a <;> rfl
        simp only [e,Option.some.injEq]
        rw [Bool.eq_iff_iff,V]
        simp only [Bool.and_eq_true]
        constructor
        · rintro ⟨a1,a2,a3,a4,a5,a6⟩
          exact ⟨h0,by omega,by omega,by omega,by omega,a1,a2,by omega,a3,a4,a5,a6,hkind⟩
        · rintro ⟨_,_,_,_,_,a1,a2,_,a3,a4,a5,a6,_⟩
          exact ⟨a1,a2,a3,a4,a5,a6⟩
theorem Bj {f:GFact} (h:ee f = true):0≤f.Amount∧f.Amount≤1000000000∧0≤f.Span.From∧f.Span.From < f.Span.To∧f.Span.To≤73049:=by
  obtain ⟨_,_,_,_,_,_,_,g5,_,_,ga,_⟩:=(yK f).1 h
  unfold bU at ga
  split at ga
  · have:=wR.1 ga; omega
  · have:f.Amount = 0:=by simpa using ga
    omega
def Uo (person:Int) (f:GFact):Bool:=af f.Person person
theorem MF (l:List GFact) (person:Int) (hn:l.length≤1000000):yh l person = some (l.filter (Uo person)):=by
  rw [Ok]
  refine (QL l (fun i out=>fG l person i out) (Uo person) fun i out hi ho=>?_).trans ?_
  · show fG _ _ _ _ = fG _ _ _ _
    rw [vG]
    simp only [aT hi,br,cond_true,aC,Bool.or_true,be hi,bf hi (by omega)]
    rw [jx]
    unfold Uo
    cases af l[i].Person person <;> rfl
  · show fG _ _ _ _ = _
    rw [vG,bg]; rfl
def bC (f:GFact):Bool:=ee f&&!f.Withdrawn
theorem rB (f:GFact):mF f = some (bC f):=by
  rw [CG,xw,Option.bind_some,bD]; rfl
theorem eD (l:List GFact) (hn:l.length≤1000000):eH l = some (l.filter bC):=by
  rw [El]
  refine (QL l (fun i out=>cR l i out) bC fun i out hi ho=>?_).trans ?_
  · show cR _ _ _ = cR _ _ _
    rw [pG]
    simp only [aT hi,br,cond_true,aC,Bool.or_true,be hi,bf hi (by omega)]
    rw [eo,Option.bind_some,jx]
    unfold bC
    cases ee l[i] <;> cases l[i].Withdrawn <;> rfl
  · show cR _ _ _ = _
    rw [pG,bg]; rfl
theorem AD (l:List GFact) (hn:l.length≤1000000):qm l = some (l.filter bC):=by
  rw [CE,Ds]
  have:ct l (l.length:Int) 0 [] = some (l.filter bC):=by
    refine (QL l (fun i out=>ct l (l.length:Int) i out) bC fun i out hi ho=>?_).trans ?_
    · show ct _ _ _ _ = ct _ _ _ _
      rw [oV]
      simp only [aT hi,br,cond_true,aC,Bool.or_true,be hi,bf hi (by omega)]
      rw [rB,Option.bind_some,jx]
      cases bC l[i] <;> rfl
    · show ct _ _ _ _ = _
      rw [oV,bg]; rfl
  rw [this]; rfl
def Na (kind:Int) (f:GFact) (a:Int × Bool):Int × Bool:=if (af f.Kind kind&&(!a.2||aa (f.Span.From < a.1))) = true then (f.Span.From,true) else a
def kv (l:List GFact) (kind:Int):Int × Bool:=(l.filter bC).foldl (fun a f=>Na kind f a) (0,false)
theorem su {A:Type} (p:GFact→Bool) (g:A→GFact→A):∀ (l:List GFact) (a:A),(l.filter p).foldl g a = l.foldl (fun a f=>if p f = true then g a f else a) a
  | [],_=>rfl
  | f :: l,a=>by
    rw [List.filter_cons,List.foldl_cons]
    by_cases h:p f = true
    · rw [if_pos h,if_pos h,List.foldl_cons,su p g l]
    · rw [if_neg h,if_neg h,su p g l]
theorem uO (l:List GFact) (kind:Int) (hn:l.length≤1000000):pc l kind = some (kv l kind):=by
  rw [E3]
  have:=(vX l (fun i (a:Int × Bool)=>dv kind a.1 a.2 l (l.length:Int) i) (fun a f=>if bC f = true then Na kind f a else a) (fun _ _=>True) (fun i a hi _=>⟨?_,trivial⟩) (0,false) trivial).1
  · refine Eq.trans this ?_
    show dv _ _ _ _ _ _ = _
    rw [pZ,bg]
    unfold kv
    rw [su]; rfl
  · show dv _ _ _ _ _ _ = dv _ _ _ _ _ _
    rw [pZ]
    simp only [aT hi,br,cond_true,aC,Bool.or_true,be hi,bf hi (by omega)]
    rw [rB,Option.bind_some]
    unfold Na
    simp only [bD,dR]
    cases bC l[i] with
    | false=>rfl
    | true =>
      simp only [Bool.true_and,if_true]
      cases (af l[i].Kind kind&&(!a.2||aa (l[i].Span.From < a.1))) <;> rfl
theorem vD (l:List GFact) (kind:Int) (hn:l.length≤1000000):qQ l kind = some (kv l kind):=by
  rw [IO,eD l hn,Option.bind_some]
  have hc:(l.filter bC).length≤l.length:=List.length_filter_le _ _
  unfold kv
  generalize l.filter bC = c at hc
  have:=(vX c (fun i (a:Int × Bool)=>da kind a.1 a.2 i c) (fun a f=>Na kind f a) (fun _ _=>True) (fun i a hi _=>⟨?_,trivial⟩) (0,false) trivial).1
  · refine Eq.trans this ?_
    show da _ _ _ _ _ = _
    rw [p8,bg]; rfl
  · show da _ _ _ _ _ = da _ _ _ _ _
    rw [p8]
    simp only [aT hi,br,cond_true,aC,Bool.or_true,be hi,bf hi (by omega)]
    unfold Na
    simp only [bD,dR]
    cases (af c[i].Kind kind&&(!a.2||aa (c[i].Span.From < a.1))) <;> rfl
def ig (l:List GFact):GSpan :=
  let d:=if (kv l 12).2 then (kv l 12).1 else 73048
  if d < (kv l 11).1 then ⟨0,0⟩ else ⟨(kv l 11).1,ab (d+1)⟩
theorem Pz (a b:Int × Bool):(bif (!b.2) then bif aa (73048 < a.1) then some (⟨0,0⟩:GSpan) else some (⟨a.1,73049⟩:GSpan) else bif aa (b.1 < a.1) then some (⟨0,0⟩:GSpan) else some (⟨a.1,(ab (b.1+1))⟩:GSpan)) =
    some (let d:=if b.2 then b.1 else 73048; if d < a.1 then ⟨0,0⟩ else ⟨a.1,ab (d+1)⟩):=by
  cases b.2 with
  | false =>
    simp only [Bool.not_false,cond_true]
    by_cases h:73048 < a.1
    · simp [h]
    · simp [h,show ab 73049 = 73049 from ai (by omega) (by omega)]
  | true =>
    simp only [Bool.not_true,cond_false,if_true]
    by_cases h:b.1 < a.1
    · simp [h]
    · simp [h]
theorem Ev (l:List GFact) (hn:l.length≤1000000):uM l = some (kv l 11):=by rw [EW,uO l 11 hn]; rfl
theorem EB (l:List GFact) (hn:l.length≤1000000):uc l = some (kv l 12):=by rw [FT,uO l 12 hn]; rfl
theorem F3 (l:List GFact) (hn:l.length≤1000000):xc l = some (kv l 11):=by rw [HX,vD l 11 hn]; rfl
theorem F1 (l:List GFact) (hn:l.length≤1000000):wE l = some (kv l 12):=by rw [G7,vD l 12 hn]; rfl
theorem FC (l:List GFact) (hn:l.length≤1000000):wY l = some (ig l):=by
  rw [IX,Ev l hn,Option.bind_some,EB l hn,Option.bind_some]
  exact Pz _ _
theorem gI (l:List GFact) (hn:l.length≤1000000):iE l = some (ig l):=by
  rw [Kr,F3 l hn,Option.bind_some,F1 l hn,Option.bind_some]
  exact Pz _ _
end Go.Ax
set_option linter.all false
/- Spans: lists that are joined; Make. -/
set_option maxRecDepth 100000
namespace Go.Ax
def cW (l:List GSpan) (d:Int):Prop:=∃ s∈l,s.From≤d∧d < s.To
def bV (lo:Int):List GSpan→Prop
  | []=>True
  | s :: r=>lo < s.From∧s.From < s.To∧s.To≤73049∧bV s.To r
def A1 (lo:Int):List GSpan→Int
  | []=>lo
  | s :: r=>A1 s.To r
theorem aS {s:GSpan} {r:List GSpan} {d:Int}:cW (s :: r) d↔(s.From≤d∧d < s.To)∨cW r d:=by simp [cW]
theorem dA {d:Int}:¬ cW [] d:=by simp [cW]
theorem qo {a b:List GSpan} {d:Int}:cW (a++b) d↔cW a d∨cW b d:=by
  unfold cW
  constructor
  · rintro ⟨s,hs,h⟩
    rcases List.mem_append.1 hs with hs | hs
    · exact .inl ⟨s,hs,h⟩
    · exact .inr ⟨s,hs,h⟩
  · rintro (⟨s,hs,h⟩ | ⟨s,hs,h⟩)
    · exact ⟨s,List.mem_append.2 (.inl hs),h⟩
    · exact ⟨s,List.mem_append.2 (.inr hs),h⟩
theorem gT:∀ {l:List GSpan} {lo d:Int},bV lo l→cW l d→lo < d∧d < 73049
  | [],_,_,_,hc=>(dA hc).elim
  | s :: r,lo,d,⟨h1,h2,h3,h4⟩,hc=>by
    rcases aS.1 hc with h | h
    · omega
    · have:=gT h4 h
      omega
theorem oB:∀ {a b:List GSpan} {lo:Int},bV lo a→bV lo b→(∀ d,cW a d↔cW b d)→a = b
  | [],[],_,_,_,_=>rfl
  | [],t :: u,_,_,hb,h=>(dA ((h t.From).2 (aS.2 (.inl ⟨Int.le_refl _,hb.2.1⟩)))).elim
  | s :: r,[],_,ha,_,h=>(dA ((h s.From).1 (aS.2 (.inl ⟨Int.le_refl _,ha.2.1⟩)))).elim
  | s :: r,t :: u,lo,⟨a1,a2,a3,a4⟩,⟨b1,b2,b3,b4⟩,h=>by
    have hs:=(h s.From).1 (aS.2 (.inl ⟨Int.le_refl _,a2⟩))
    have ht:=(h t.From).2 (aS.2 (.inl ⟨Int.le_refl _,b2⟩))
    have e1:s.From = t.From:=by
      rcases aS.1 hs with hs | hs
      · rcases aS.1 ht with ht | ht
        · omega
        · have:=gT a4 ht; omega
      · have:=gT b4 hs
        rcases aS.1 ht with ht | ht
        · omega
        · have:=gT a4 ht; omega
    have e2:s.To = t.To:=by
      rcases Int.lt_trichotomy s.To t.To with hlt | he | hlt
      · have:=(h s.To).2 (aS.2 (.inl ⟨by omega,hlt⟩))
        rcases aS.1 this with hc | hc
        · omega
        · have:=gT a4 hc; omega
      · exact he
      · have:=(h t.To).1 (aS.2 (.inl ⟨by omega,hlt⟩))
        rcases aS.1 this with hc | hc
        · omega
        · have:=gT b4 hc; omega
    have e3:s = t:=by
      cases s; cases t
      simp only at e1 e2
      rw [e1,e2]
    subst e3
    rw [oB a4 b4 fun d=>?_]
    constructor
    · intro hc
      have h1:=gT a4 hc
      rcases aS.1 ((h d).1 (aS.2 (.inr hc))) with h2 | h2
      · omega
      · exact h2
    · intro hc
      have h1:=gT b4 hc
      rcases aS.1 ((h d).2 (aS.2 (.inr hc))) with h2 | h2
      · omega
      · exact h2
theorem ox (lo:Int):∀ (l:List GSpan) (s:GSpan),A1 lo (l++[s]) = s.To
  | [],s=>rfl
  | t :: r,s=>ox t.To r s
theorem lQ:∀ {l:List GSpan} {s:GSpan} {lo:Int},bV lo (l++[s])↔bV lo l∧A1 lo l < s.From∧s.From < s.To∧s.To≤73049
  | [],s,lo=>by simp [bV,A1]
  | t :: r,s,lo=>by
    rw [List.cons_append]
    unfold bV A1
    rw [lQ]
    constructor
    · rintro ⟨h1,h2,h3,h4,h5⟩; exact ⟨⟨h1,h2,h3,h4⟩,h5⟩
    · rintro ⟨⟨h1,h2,h3,h4⟩,h5⟩; exact ⟨h1,h2,h3,h4,h5⟩
theorem iR {T:Type} (l:List T):l = []∨∃ p x,l = p++[x]:=by
  rcases List.eq_nil_or_concat l with h | ⟨p,x,h⟩
  · exact .inl h
  · exact .inr ⟨p,x,by rw [h]; simp⟩
noncomputable def kg (out:List GSpan) (s:GSpan):List GSpan:=match out.getLast? with
  | none=>[s]
  | some x=>if s.From≤x.To then out.dropLast++[⟨x.From,if x.To < s.To then s.To else x.To⟩] else out++[s]
theorem BX (s:GSpan):kg [] s = [s]:=rfl
theorem zf (p:List GSpan) (x s:GSpan):kg (p++[x]) s = if s.From≤x.To then p++[⟨x.From,if x.To < s.To then s.To else x.To⟩] else (p++[x])++[s]:=by
  unfold kg
  rw [List.getLast?_concat]
  simp
theorem SN {out:List GSpan} {s:GSpan} (hn:bV (-1) out) (hb:∀ x∈out,x.From≤s.From) (h1:0≤s.From) (h2:s.From < s.To) (h3:s.To≤73049) :
    bV (-1) (kg out s)∧(∀ d,cW (kg out s) d↔cW out d∨(s.From≤d∧d < s.To))∧(∀ x∈kg out s,x.From≤s.From)∧(kg out s).length≤out.length+1:=by
  rcases iR out with rfl | ⟨p,x,rfl⟩
  · rw [BX]
    refine ⟨⟨by omega,h2,h3,trivial⟩,fun d=>?_,fun x hx=>?_,by simp⟩
    · rw [aS]; simp [dA]
    · rw [List.mem_singleton.1 hx]; exact Int.le_refl _
  · obtain ⟨n1,n2,n3,n4⟩:=lQ.1 hn
    have hx:=hb x (by simp)
    rw [zf]
    by_cases hc:s.From≤x.To
    · rw [if_pos hc]
      have hm:x.To≤(if x.To < s.To then s.To else x.To)∧s.To≤(if x.To < s.To then s.To else x.To)∧((if x.To < s.To then s.To else x.To) = x.To∨(if x.To < s.To then s.To else x.To) = s.To):=by
        split <;> omega
      generalize (if x.To < s.To then s.To else x.To) = m at hm
      refine ⟨lQ.2 ⟨n1,n2,by show x.From < m; omega,by show m≤73049; omega⟩,fun d=>?_,fun y hy=>?_,by simp⟩
      · rw [qo,qo,aS,aS]
        simp only [dA,or_false]
        constructor
        · rintro (h | ⟨h4,h5⟩)
          · exact .inl (.inl h)
          · by_cases hd:d < x.To
            · exact .inl (.inr ⟨h4,hd⟩)
            · exact .inr ⟨by omega,by omega⟩
        · rintro ((h | ⟨h4,h5⟩) | ⟨h4,h5⟩)
          · exact .inl h
          · exact .inr ⟨h4,by omega⟩
          · exact .inr ⟨by omega,by omega⟩
      · rcases List.mem_append.1 hy with hy | hy
        · exact hb y (by simp [hy])
        · rw [List.mem_singleton.1 hy]; exact hx
    · rw [if_neg hc]
      refine ⟨lQ.2 ⟨hn,by rw [ox]; omega,h2,h3⟩,fun d=>?_,fun y hy=>?_,by simp⟩
      · rw [qo (b:=[s]),aS]; simp [dA]
      · rcases List.mem_append.1 hy with hy | hy
        · exact hb y hy
        · rw [List.mem_singleton.1 hy]; exact Int.le_refl _
theorem JL:∀ (l out:List GSpan),bV (-1) out→(∀ x∈out, ∀ s∈l,x.From≤s.From)→l.Pairwise (fun a b=>a.From≤b.From)→(∀ s∈l,0≤s.From∧s.From < s.To∧s.To≤73049) →
    bV (-1) (l.foldl kg out)∧(∀ d,cW (l.foldl kg out) d↔cW out d∨cW l d)∧(l.foldl kg out).length≤out.length+l.length
  | [],out,hn,_,_,_=>⟨hn,fun d=>by simp [dA],by simp⟩
  | s :: l,out,hn,hb,hp,ho=>by
    obtain ⟨o1,o2,o3⟩:=ho s (by simp)
    obtain ⟨j1,j2,j3,j4⟩:=SN hn (fun x hx=>hb x hx s (by simp)) o1 o2 o3
    obtain ⟨p1,p2⟩:=List.pairwise_cons.1 hp
    obtain ⟨f1,f2,f3⟩:=JL l (kg out s) j1 (fun x hx t ht=>by have:=j3 x hx; have:=p1 t ht; omega) p2 (fun t ht=>ho t (by simp [ht]))
    rw [List.foldl_cons]
    refine ⟨f1,fun d=>?_,by rw [List.length_cons]; omega⟩
    rw [f2,j2,aS,or_assoc]
def aL (s:GSpan):GSpan:=GSpan.mk (if s.From < (0:Int) then (0:Int) else s.From) (if (73049:Int) < s.To then (73049:Int) else s.To)
def tw (s:GSpan):Bool:=decide (s.From < s.To)
def kS (l:List GSpan):List GSpan:=(l.map aL).filter tw
theorem JO (s:GSpan) (d:Int):((aL s).From≤d∧d < (aL s).To)↔(s.From≤d∧d < s.To)∧0≤d∧d < 73049:=by
  unfold aL
  simp only
  split <;> split <;> omega
theorem uX (l:List GSpan) (d:Int):cW (kS l) d↔cW l d∧0≤d∧d < 73049:=by
  unfold cW kS
  constructor
  · rintro ⟨s,hs,h⟩
    obtain ⟨h1,_⟩:=List.mem_filter.1 hs
    obtain ⟨t,ht,rfl⟩:=List.mem_map.1 h1
    have:=(JO t d).1 h
    exact ⟨⟨t,ht,this.1⟩,this.2⟩
  · rintro ⟨⟨t,ht,h⟩,h2⟩
    have:=(JO t d).2 ⟨h,h2⟩
    refine ⟨aL t,List.mem_filter.2 ⟨List.mem_map.2 ⟨t,ht,rfl⟩, ?_⟩,this⟩
    unfold tw
    rw [decide_eq_true_iff]; omega
theorem Pq (l:List GSpan):∀ s∈kS l,0≤s.From∧s.From < s.To∧s.To≤73049:=by
  intro s hs
  obtain ⟨h1,h2⟩:=List.mem_filter.1 hs
  obtain ⟨t,ht,rfl⟩:=List.mem_map.1 h1
  unfold tw at h2
  rw [decide_eq_true_iff] at h2
  refine ⟨?_,h2, ?_⟩ <;> (unfold aL; simp only; split <;> omega)
theorem Lk (l:List GSpan):(kS l).length≤l.length:=by
  unfold kS
  have:=List.length_filter_le tw (l.map aL)
  simpa using this
theorem OU (p:List GSpan) (x:GSpan) (h:p.length≤1000000000):ab ((((p++[x]).length:Nat):Int) - 1) = ((p.length:Nat):Int):=by
  have hl:(p++[x]).length = p.length+1:=by simp
  rw [ai (by omega) (by omega)]
  omega
theorem DW {T:Type} (p:List T) (x y:T):(p++[x]).set p.length y = p++[y]:=by
  rw [List.set_append_right _ _ (Nat.le_refl _)]
  simp
theorem It {T:Type} (p:List T) (x z:T):gD (p++[x]) p.length z = x:=yD p [] x z
theorem PD (t out:List GSpan) (i:Nat) (hi:i < t.length) (ho:out.length≤1000000000) (hn:t.length≤1000000000) :
    dJ (t.length:Int) (i:Int) out t = dJ (t.length:Int) ((i+1:Nat):Int) (kg out t[i]) t:=by
  rw [rI]
  simp only [aT hi,br,cond_true,aC,Bool.or_true,be hi,bf hi (by omega)]
  rcases iR out with rfl | ⟨p,x,rfl⟩
  · rw [show aa ((0:Int) < ((([]:List GSpan).length:Nat):Int)) = false from rfl]
    simp only [Bool.false_and,Bool.not_false,Bool.true_or,aC,cond_false]
    rw [jx (by simp) (by simp),BX]
    rfl
  · have hp:p.length≤1000000000:=by simp at ho; omega
    have hl:(p++[x]).length = p.length+1:=by simp
    have h0:aa ((0:Int) < (((p++[x]).length:Nat):Int)) = true:=ay (by omega)
    have hlt:aa (((p.length:Nat):Int) < (((p++[x]).length:Nat):Int)) = true:=ay (by omega)
    have hi0:aa ((0:Int)≤((p.length:Nat):Int)) = true:=ay (by omega)
    rw [OU p x hp]
    simp only [h0,hlt,hi0,Bool.or_true,aC,cond_true,It,Int.toNat_natCast,DW,zf]
    by_cases hc:t[i].From≤x.To
    · rw [ay hc,cond_true,if_pos hc]
      by_cases hd:x.To < t[i].To
      · rw [ay hd,if_pos hd]; rfl
      · rw [aB hd,if_neg hd]; rfl
    · rw [aB hc,cond_false,jx (by omega) (by omega),if_neg hc]
theorem Su (out:List GSpan) (s:GSpan):(kg out s).length≤out.length+1:=by
  rcases iR out with rfl | ⟨p,x,rfl⟩
  · rw [BX]; simp
  · rw [zf]; split <;> simp
theorem Sz (s:GSpan):xb s = some (aL s):=by
  rw [Ii]
  unfold aL
  by_cases h1:s.From < 0 <;> by_cases h2:73049 < s.To <;> simp [h1,h2]
theorem Rh:Go.Sort.SWO fun (a b:GSpan)=>aa (a.From < b.From):=⟨fun x=>by simp,fun x y z h1 h2=>by simp at *; omega,fun x y z h1 h2=>by simp at *; omega⟩
noncomputable def bE (l:List GSpan):List GSpan:=(j7 (kS l)).foldl kg []
theorem Ab (l:List GSpan):(j7 l).Perm l∧(j7 l).Pairwise fun a b=>a.From≤b.From:=by
  obtain ⟨h1,h2⟩:=@FV _ ⟨zS .GSpan⟩ _ Rh l
  exact ⟨h1,h2.imp fun h=>by simp at h; omega⟩
theorem mz (l:List GSpan) (hn:l.length≤1000000000):mG l = some (bE l):=by
  have hc:=Lk l
  have hs:=(Ab (kS l)).1.length_eq
  rw [Kp]
  have e:kS l = l.flatMap fun s=>if tw (aL s) = true then [aL s] else []:=by
    unfold kS
    rw [oI (fun s=>tw (aL s)) aL,List.filter_map]
    rfl
  refine (ya l (fun i out=>d8 l (l.length:Int) i out) (fun s=>if tw (aL s) = true then [aL s] else []) 1 (fun x _=>by split <;> simp) fun i out hi ho=>?_).trans ?_
  · show d8 _ _ _ _ = d8 _ _ _ _
    rw [sK]
    simp only [aT hi,br,cond_true,aC,Bool.or_true,be hi,bf hi (by omega)]
    rw [Sz,Option.bind_some,jx (by omega) (by omega)]
    unfold tw
    by_cases hk:(aL l[i]).From < (aL l[i]).To
    · rw [ay hk,decide_eq_true hk]; rfl
    · rw [aB hk,decide_eq_false hk]; simp
  · rw [← e]
    show d8 _ _ _ _ = _
    rw [sK,bg,cond_false,aP (by omega)]
    unfold bE
    generalize hg:j7 (kS l) = t at hs
    refine ((vX t (fun i out=>dJ (t.length:Int) i out t) kg (fun i out=>out.length≤i) (fun i out hi ho=>⟨PD t out i hi (by omega) (by omega),by have:=Su out t[i]; omega⟩) [] (by simp)).1).trans ?_
    show dJ _ _ _ _ = _
    rw [rI,bg]; rfl
theorem dn (l:List GSpan):bV (-1) (bE l)∧(∀ d,cW (bE l) d↔cW l d∧0≤d∧d < 73049)∧(bE l).length≤l.length:=by
  obtain ⟨hp,hs⟩:=Ab (kS l)
  have hc:=Lk l
  obtain ⟨f1,f2,f3⟩:=JL (j7 (kS l)) [] trivial (fun x hx=>by simp at hx) hs (fun s h=>Pq l s (hp.mem_iff.1 h))
  refine ⟨f1,fun d=>?_, ?_⟩
  · unfold bE
    rw [f2, ← uX]
    constructor
    · rintro (h | ⟨s,h,h'⟩)
      · exact (dA h).elim
      · exact ⟨s,hp.mem_iff.1 h,h'⟩
    · rintro ⟨s,h,h'⟩
      exact .inr ⟨s,hp.mem_iff.2 h,h'⟩
  · unfold bE
    have:=hp.length_eq
    simp at f3
    omega
end Go.Ax
