import Derived.Test.YtnnblpijaoocaaaGreatXP9
set_option linter.all false
/- The document's combinations of spans. -/
set_option maxRecDepth 100000
namespace Go.Ax
def kw (l:List GSpan) (x:Int):Prop:=∃ s∈kH l,x = s.From∨x = s.To
theorem Qo (s:GSpan) (l:List GSpan):kH (s :: l) = if (aT s).From < (aT s).To then aT s :: kH l else kH l:=by
 unfold kH
 rw [List.map_cons,List.filter_cons]
 unfold sj
 by_cases h:(aT s).From < (aT s).To
 ·rw [if_pos (decide_eq_true h),if_pos h]
 ·rw [if_neg (by rw [decide_eq_false h];simp),if_neg h]
theorem Ik (s:GSpan) (l:List GSpan) (x:Int):kw (s :: l) x↔((aT s).From < (aT s).To∧(x = (aT s).From∨x = (aT s).To))∨kw l x:=by
 unfold kw
 rw [Qo]
 by_cases h:(aT s).From < (aT s).To
 ·rw [if_pos h]
  constructor
  ·rintro ⟨t,ht,hx⟩
   rcases List.mem_cons.1 ht with rfl | ht
   ·exact .inl ⟨h,hx⟩
   ·exact .inr ⟨t,ht,hx⟩
  ·rintro (⟨_,hx⟩ | ⟨t,ht,hx⟩)
   ·exact ⟨_,List.mem_cons_self ..,hx⟩
   ·exact ⟨t,List.mem_cons_of_mem _ ht,hx⟩
 ·rw [if_neg h]
  constructor
  ·exact .inr
  ·rintro (⟨h',_⟩ | h')
   ·exact (h h').elim
   ·exact h'
theorem MZ (s:GSpan):tr s = some (aT s,aa ((aT s).From < (aT s).To)):=by
 rw [Ew]
 unfold aT
 by_cases h1:s.From < 0 <;> by_cases h2:73049 < s.To <;> simp [h1,h2]
def Km (l:List Int):Prop:=∀ x∈l,0≤x∧x≤73049
theorem NS:∀ (l:List Int) (lo:Int),gG l→(∀ x∈l,lo≤x∧x≤73049)→lo≤73050→(l.length:Int)≤73050 - lo
 | [],lo,_,_,h=>by simp;omega
 | x :: r,lo,ha,hb,h=>by
  obtain ⟨h1,h2⟩:=List.pairwise_cons.1 ha
  have hx:=hb x (by simp)
  have:=NS r (x+1) h2 (fun y hy=>⟨by have:=h1 y hy;omega,(hb y (by simp [hy])).2⟩) (by omega)
  rw [List.length_cons];omega
theorem HA {l:List Int} (ha:gG l) (hb:Km l):l.length≤73050:=by
 have:=NS l 0 ha hb (by omega)
 omega
theorem QD {s:GSpan} (h:(aT s).From < (aT s).To):(0≤(aT s).From∧(aT s).From≤73049)∧0≤(aT s).To∧(aT s).To≤73049:=by
 unfold aT at h ⊢
 simp only at h ⊢
 split at h <;> split at h <;> omega
theorem QT (L:List (List GSpan)) (i:Nat) (hi:i < L.length) (hLn:L.length≤1000) (hl:(L[i]).length≤4000000):∀ (n k:Nat) (out:List Int),(L[i]).length = k+n→gG out→Km out →
  ∃ r,dD L out (i:Int) (k:Int) = fw L r ((i+1:Nat):Int)∧gG r∧(∀ x,x∈r↔x∈out∨kw ((L[i]).drop k) x)∧Km r:=by
 intro n
 induction n with
 | zero =>
  intro k out h ho hb
  have:k = (L[i]).length:=by omega
  subst this
  refine ⟨out, ?_,ho,fun x=>?_,hb⟩
  ·rw [o4]
   simp only [aO hi,aM,cond_true,ap,Bool.or_true,aH hi,aL hi (by omega)]
   rw [aS,cond_false]
  ·rw [List.drop_length]
   simp [kw,kH]
 | succ n ih =>
  intro k out h ho hb
  have hk:k < (L[i]).length:=by omega
  have hstep:dD L out (i:Int) (k:Int) = bif aa ((aT (L[i])[k]).From < (aT (L[i])[k]).To) then (cV out (aT (L[i])[k]).From).bind fun r1=>(cV r1 (aT (L[i])[k]).To).bind fun r2=>dD L r2 (i:Int) ((k+1:Nat):Int) else dD L out (i:Int) ((k+1:Nat):Int):=by
   rw [o4]
   simp only [aO hi,aM,cond_true,ap,Bool.or_true,aH hi,aL hi (by omega)]
   simp only [aO hk,aM,cond_true,ap,Bool.or_true,aH hk,aL hk (by omega)]
   rw [MZ,Option.bind_some]
  rw [List.drop_eq_getElem_cons hk]
  by_cases hc:(aT (L[i])[k]).From < (aT (L[i])[k]).To
  ·obtain ⟨rg1,rg2⟩:=QD hc
   obtain ⟨r2,a1,a2,a3,a4⟩:=oq out (aT (L[i])[k]).From (by have:=HA ho hb;omega) ho
   have d2:Km r2:=fun x hx=>((a3 x).1 hx).elim (hb x) fun e=>e ▸ rg1
   obtain ⟨r3,b1,b2,b3,b4⟩:=oq r2 (aT (L[i])[k]).To (by have:=HA a2 d2;omega) a2
   have d3:Km r3:=fun x hx=>((b3 x).1 hx).elim (d2 x) fun e=>e ▸ rg2
   rw [ax hc,cond_true,a1,Option.bind_some,b1,Option.bind_some] at hstep
   obtain ⟨r,c1,c2,c3,c4⟩:=ih (k+1) r3 (by omega) b2 d3
   refine ⟨r,by rw [hstep];exact c1,c2,fun x=>?_,c4⟩
   rw [c3,b3,a3,Ik]
   constructor
   ·rintro (((h1 | h1) | h1) | h1)
    ·exact .inl h1
    ·exact .inr (.inl ⟨hc, .inl h1⟩)
    ·exact .inr (.inl ⟨hc, .inr h1⟩)
    ·exact .inr (.inr h1)
   ·rintro (h1 | ⟨_,h1 | h1⟩ | h1)
    ·exact .inl (.inl (.inl h1))
    ·exact .inl (.inl (.inr h1))
    ·exact .inl (.inr h1)
    ·exact .inr h1
  ·rw [aJ hc,cond_false] at hstep
   obtain ⟨r,c1,c2,c3,c4⟩:=ih (k+1) out (by omega) ho hb
   refine ⟨r,by rw [hstep];exact c1,c2,fun x=>?_,c4⟩
   rw [c3,Ik]
   constructor
   ·rintro (h1 | h1)
    ·exact .inl h1
    ·exact .inr (.inr h1)
   ·rintro (h1 | ⟨h2,_⟩ | h1)
    ·exact .inl h1
    ·exact (hc h2).elim
    ·exact .inr h1
theorem Io (L:List (List GSpan)) (i:Nat) (hi:i < L.length) (hl:(L[i]).length≤4000000) (out:List Int) (ho:gG out) (hb:Km out) (hn:L.length≤1000) :
  ∃ r,fw L out (i:Int) = fw L r ((i+1:Nat):Int)∧gG r∧(∀ x,x∈r↔x∈out∨kw (L[i]) x)∧Km r:=by
 obtain ⟨r,h1,h2,h3,h4⟩:=QT L i hi hn hl (L[i]).length 0 out (by omega) ho hb
 refine ⟨r, ?_,h2,by rw [List.drop_zero] at h3;exact h3,h4⟩
 rw [rH,aO hi,cond_true]
 exact h1
theorem HC (a b:List GSpan) (ha:a.length≤4000000) (hb:b.length≤4000000):∃ e,xR [a,b] = some e∧gG e∧(∀ x,x∈e↔kw a x∨kw b x)∧e.length≤500000:=by
 obtain ⟨r,h1,h2,h3,h4⟩:=Io [a,b] 0 (by simp) (by show a.length≤_;omega) [] List.Pairwise.nil (fun x hx=>by simp at hx) (by simp)
 obtain ⟨q,g1,g2,g3,g4⟩:=Io [a,b] 1 (by simp) (by show b.length≤_;omega) r h2 h4 (by simp)
 have g4':=HA g2 g4
 refine ⟨q, ?_,g2,fun x=>?_,by omega⟩
 ·rw [JL]
  refine Eq.trans h1 (Eq.trans g1 ?_)
  show fw [a,b] q (([a,b].length:Nat):Int) = _
  rw [rH,aS];rfl
 ·rw [g3,h3]
  simp
theorem tD (d:Int):it d = some (bif decide ((0:Int)≤d) then decide (d≤(73048:Int)) else false):=by rw [sS]
def BG (d:Int) (s:GSpan):Bool:=(decide (s.From≤d)&&decide (d < s.To))&&(decide (0≤d)&&decide (d < 73049))
theorem rB (l:List GSpan) (d:Int) (hl:l.length≤1000000000):∃ b,mY l d = some b∧(b = true↔dO l d∧0≤d∧d < 73049):=by
 refine ⟨l.any (BG d), ?_, ?_⟩
 ·rw [Dw]
  have:=lT l (fun i=>cH l d i) (BG d) (some true) (some false) (by
   show cH _ _ _ = _
   rw [oF,aS];rfl) fun i hi=>by
    show cH _ _ _ = if _ then _ else cH _ _ _
    rw [oF]
    simp only [aO hi,aM,cond_true,ap,Bool.or_true,aH hi,aL hi (by omega)]
    rw [tD,Option.bind_some]
    unfold BG
    by_cases c1:l[i].From≤d
    ·by_cases c2:d < l[i].To
     ·by_cases c3:0≤d
      ·by_cases c4:d≤73048
       ·simp [c1,c2,c3,c4,show d < 73049 by omega]
       ·simp [c1,c2,c3,c4,show ¬ d < 73049 by omega]
      ·simp [c1,c2,c3]
     ·simp [c1,c2]
    ·simp [c1]
  rw [this]
  cases l.any (BG d) <;> rfl
 ·rw [List.any_eq_true]
  unfold dO
  constructor
  ·rintro ⟨s,hs,h⟩
   simp only [BG,Bool.and_eq_true,decide_eq_true_eq] at h
   exact ⟨⟨s,hs,h.1⟩,h.2⟩
  ·rintro ⟨⟨s,hs,h⟩,h2⟩
   exact ⟨s,hs,by simp only [BG,Bool.and_eq_true,decide_eq_true_eq];exact ⟨h,h2⟩⟩
noncomputable def yA (out:List GSpan) (s:GSpan):List GSpan:=match out.getLast? with
 | none=>[s]
 | some x=>if x.To = s.From then out.dropLast++[⟨x.From,s.To⟩] else out++[s]
theorem IX (p:List GSpan) (x s:GSpan):yA (p++[x]) s = if x.To = s.From then p++[⟨x.From,s.To⟩] else (p++[x])++[s]:=by
 unfold yA
 rw [List.getLast?_concat]
 simp
theorem J5 (out:List GSpan) (s:GSpan) (hn:out.length≤900000):Dl out s = some (yA out s):=by
 rw [Ng]
 rcases eI out with rfl | ⟨p,x,rfl⟩
 ·rw [show aa ((0:Int) < ((([]:List GSpan).length:Nat):Int)) = false from rfl]
  simp only [Bool.false_and,Bool.not_false,Bool.true_or,ap,cond_false]
  rw [ay (by simp),ay (by simp),nc (by simp) (by simp)]
  rfl
 ·have hl:(p++[x]).length = p.length+1:=by simp
  have hp:p.length≤1000000:=by omega
  have h0:aa ((0:Int) < (((p++[x]).length:Nat):Int)) = true:=ax (by omega)
  have hlt:aa (((p.length:Nat):Int) < (((p++[x]).length:Nat):Int)) = true:=ax (by omega)
  have hi0:aa ((0:Int)≤((p.length:Nat):Int)) = true:=ax (by omega)
  rw [N7 p x (by omega)]
  simp only [h0,hlt,hi0,Bool.or_true,ap,cond_true,sF,Int.toNat_natCast,pD,IX]
  by_cases hc:x.To = s.From
  ·rw [ct.2 hc,cond_true,ay (by omega),ay (by omega),if_pos hc]
  ·rw [il.2 hc,cond_false,ay (by omega),ay (by omega),nc (by omega) (by omega),if_neg hc]
theorem Sr {out:List GSpan} {s:GSpan} (hn:cW (-1) out) (hb:Bb (-1) out≤s.From) (h1:0≤s.From) (h2:s.From < s.To) (h3:s.To≤73049) :
  cW (-1) (yA out s)∧(∀ d,dO (yA out s) d↔dO out d∨(s.From≤d∧d < s.To))∧Bb (-1) (yA out s)≤s.To∧(yA out s).length≤out.length+1:=by
 rcases eI out with rfl | ⟨p,x,rfl⟩
 ·refine ⟨⟨by omega,h2,h3,trivial⟩,fun d=>?_,Int.le_refl _,by simp [yA]⟩
  show dO [s] d↔_
  rw [aX];simp [dK]
 ·obtain ⟨n1,n2,n3,n4⟩:=lD.1 hn
  rw [nM] at hb
  rw [IX]
  by_cases hc:x.To = s.From
  ·rw [if_pos hc]
   refine ⟨lD.2 ⟨n1,n2,by show x.From < s.To;omega,h3⟩,fun d=>?_,by rw [nM];exact Int.le_refl _,by simp⟩
   rw [pj,pj,aX,aX]
   simp only [dK,or_false]
   constructor
   ·rintro (h | ⟨h4,h5⟩)
    ·exact .inl (.inl h)
    ·by_cases hd:d < x.To
     ·exact .inl (.inr ⟨h4,hd⟩)
     ·exact .inr ⟨by omega,h5⟩
   ·rintro ((h | ⟨h4,h5⟩) | ⟨h4,h5⟩)
    ·exact .inl h
    ·exact .inr ⟨h4,by omega⟩
    ·exact .inr ⟨by omega,h5⟩
  ·rw [if_neg hc]
   refine ⟨lD.2 ⟨hn,by rw [nM];omega,h2,h3⟩,fun d=>?_,by rw [nM];exact Int.le_refl _,by simp⟩
   rw [pj (b:=[s]),aX];simp [dK]
def qZ (l:List GSpan) (d:Int):Bool:=l.any fun s=>decide (s.From≤d)&&decide (d < s.To)
theorem tn {l:List GSpan} {d:Int}:qZ l d = true↔dO l d:=by
 unfold qZ dO
 rw [List.any_eq_true]
 constructor
 ·rintro ⟨s,hs,h⟩
  rw [Bool.and_eq_true,decide_eq_true_iff,decide_eq_true_iff] at h
  exact ⟨s,hs,h⟩
 ·rintro ⟨s,hs,h⟩
  exact ⟨s,hs,by rw [Bool.and_eq_true,decide_eq_true_iff,decide_eq_true_iff];exact h⟩
def Fs (f:Bool→Bool→Bool) (a b:List GSpan) (d:Int):Prop:=f (qZ a d) (qZ b d) = true∧0≤d∧d < 73049
def mZ (kind:Int) (x y:Bool):Bool:=(bif (bif (bif (bif (kind == (1:Int)) then x else false) then y else false) then true else (bif (kind == (2:Int)) then (bif x then true else y) else false)) then true else (bif (bif (kind == (3:Int)) then x else false) then (!y) else false))
theorem KQ {l:List GSpan} {x:Int} (h:kw l x):0≤x∧x≤73049:=by
 obtain ⟨s,hs,hx⟩:=h
 have:=N9 l s hs
 omega
theorem Oy {e:List Int} {a:List GSpan} {i:Nat} (he:gG e) (hi:i+1 < e.length) (hE:∀ x,kw a x→x∈e) {d:Int} (h1:e[i]'(by omega)≤d) (h2:d < e[i+1]) :
  (dO a d∧0≤d∧d < 73049)↔(dO a (e[i]'(by omega))∧0≤e[i]'(by omega)∧e[i]'(by omega) < 73049):=by
 have hasc:∀ j k (hj:j < e.length) (hk:k < e.length),j < k→e[j] < e[k]:=fun j k hj hk h=>List.pairwise_iff_getElem.1 he j k hj hk h
 have hlo:∀ x∈e,x < e[i+1]→x≤e[i]'(by omega):=by
  intro x hx hlt
  obtain ⟨j,hj,rfl⟩:=List.getElem_of_mem hx
  rcases Nat.lt_trichotomy j i with h | h | h
  ·have:=hasc j i hj (by omega) h;omega
  ·subst h;exact Int.le_refl _
  ·by_cases h':j = i+1
   ·subst h'; omega
   ·have:=hasc (i+1) j hi hj (by omega);omega
 have hhi:∀ x∈e,e[i]'(by omega) < x→e[i+1]≤x:=by
  intro x hx hlt
  obtain ⟨j,hj,rfl⟩:=List.getElem_of_mem hx
  rcases Nat.lt_trichotomy j (i+1) with h | h | h
  ·by_cases h':j = i
   ·subst h'; omega
   ·have:=hasc j i hj (by omega) (by omega);omega
  ·subst h;exact Int.le_refl _
  ·have:=hasc (i+1) j hi hj h;omega
 rw [← sT, ← sT]
 constructor
 ·rintro ⟨s,hs,h3,h4⟩
  have e1:=hE _ ⟨s,hs, .inl rfl⟩
  have:=hlo _ e1 (by omega)
  exact ⟨s,hs,this,by omega⟩
 ·rintro ⟨s,hs,h3,h4⟩
  have e2:=hE _ ⟨s,hs, .inr rfl⟩
  have:=hhi _ e2 h4
  exact ⟨s,hs,by omega,by omega⟩
theorem LS (a b:List GSpan) (e:List Int) (ha:a.length≤4000000) (hb:b.length≤4000000) (hel:e.length≤500000) (he:gG e) (hE:∀ x,x∈e↔kw a x∨kw b x) (kind:Int) :
  ∀ (n i:Nat) (out:List GSpan) (hi:i < e.length),e.length = i+1+n→cW (-1) out→Bb (-1) out≤e[i]→(∀ d,dO out d↔Fs (mZ kind) a b d∧d < e[i])→out.length≤i →
  ∃ r,cI a b kind e (i:Int) out = some r∧cW (-1) r∧(∀ d,dO r d↔Fs (mZ kind) a b d∧d < e[e.length - 1]'(by omega)):=by
 intro n
 induction n with
 | zero =>
  intro i out hi h hn ht hc ho
  refine ⟨out, ?_,hn, ?_⟩
  ·rw [j6,C8 (by omega),show i+1 = e.length by omega,aS,cond_false]
  ·have:e.length - 1 = i:=by omega
   simp only [this]
   exact hc
 | succ n ih =>
  intro i out hi h hn ht hc ho
  have hi1:i+1 < e.length:=by omega
  have hlt:e[i] < e[i+1]:=List.pairwise_iff_getElem.1 he i (i+1) hi hi1 (by omega)
  have r0:∀ x∈e,0≤x∧x≤73049:=by
   intro x hx
   rcases (hE x).1 hx with h | h <;> exact KQ h
  have ri:=r0 e[i] (List.getElem_mem hi)
  have rj:=r0 e[i+1] (List.getElem_mem hi1)
  obtain ⟨x,hx1,hx2⟩:=rB a e[i] (by omega)
  obtain ⟨y,hy1,hy2⟩:=rB b e[i] (by omega)
  have hstep:cI a b kind e (i:Int) out = bif (mZ kind x y) then cI a b kind e ((i+1:Nat):Int) (yA out ⟨e[i],e[i+1]⟩) else cI a b kind e ((i+1:Nat):Int) out:=by
   rw [j6,C8 (by omega)]
   simp only [aO hi1,aO hi,aM,cond_true,ap,aH hi,aH hi1]
   rw [hx1,Option.bind_some,hy1,Option.bind_some,J5 _ _ (by omega),Option.bind_some]
   rfl
  have hbt:∀ d,e[i]≤d→d < e[i+1]→(Fs (mZ kind) a b d↔(mZ kind x y) = true):=by
   intro d h1 h2
   have ba:=Oy (a:=a) he hi1 (fun z hz=>(hE z).2 (.inl hz)) h1 h2
   have bb:=Oy (a:=b) he hi1 (fun z hz=>(hE z).2 (.inr hz)) h1 h2
   have rd:0≤d∧d < 73049:=by omega
   have ex:qZ a d = x:=by
    rw [Bool.eq_iff_iff,tn,hx2, ← ba]
    exact ⟨fun h=>⟨h,rd⟩,And.left⟩
   have ey:qZ b d = y:=by
    rw [Bool.eq_iff_iff,tn,hy2, ← bb]
    exact ⟨fun h=>⟨h,rd⟩,And.left⟩
   unfold Fs
   rw [ex,ey]
   exact ⟨And.left,fun h=>⟨h,rd⟩⟩
  rw [hstep]
  cases hxy:(mZ kind x y) with
  | true =>
   rw [hxy] at hbt
   obtain ⟨s1,s2,s3,s4⟩:=Sr (s:=⟨e[i],e[i+1]⟩) hn ht ri.1 hlt rj.2
   rw [cond_true]
   refine ih (i+1) _ hi1 (by omega) s1 s3 (fun d=>?_) (by omega)
   rw [s2,hc]
   show (Fs (mZ kind) a b d∧d < e[i])∨(e[i]≤d∧d < e[i+1])↔_
   constructor
   ·rintro (⟨h1,h2⟩ | ⟨h1,h2⟩)
    ·exact ⟨h1,by omega⟩
    ·exact ⟨(hbt d h1 h2).2 rfl,h2⟩
   ·rintro ⟨h1,h2⟩
    by_cases h3:d < e[i]
    ·exact .inl ⟨h1,h3⟩
    ·exact .inr ⟨by omega,h2⟩
  | false =>
   rw [hxy] at hbt
   rw [cond_false]
   refine ih (i+1) _ hi1 (by omega) hn (by omega) (fun d=>?_) (by omega)
   rw [hc]
   constructor
   ·rintro ⟨h1,h2⟩;exact ⟨h1,by omega⟩
   ·rintro ⟨h1,h2⟩
    refine ⟨h1, ?_⟩
    by_cases h3:d < e[i]
    ·exact h3
    ·have:=(hbt d (by omega) h2).1 h1
     cases this
theorem BX (l b:List GSpan) (kind:Int) (hn:l.length≤4000000) (hb:b.length≤4000000) (hk:mZ kind false false = false):∃ r,tH l b kind = some r∧cW (-1) r∧∀ d,dO r d↔Fs (mZ kind) l b d:=by
 obtain ⟨e,h1,h2,h3,h4⟩:=HC l b hn hb
 have key:∃ r,cI l b kind e 0 [] = some r∧cW (-1) r∧∀ d,dO r d↔Fs (mZ kind) l b d:=by
  have hin:∀ d,Fs (mZ kind) l b d→∃ x∈e, ∃ y∈e,x≤d∧d < y:=by
   intro d hd
   have hor:dO l d∨dO b d:=by
    rw [← tn, ← tn]
    have:=hd.1
    cases hx:qZ l d <;> cases hy:qZ b d <;> simp
    rw [hx,hy,hk] at this
    cases this
   rcases hor with hor | hor
   ·obtain ⟨t,ht,h⟩:=(sT l d).2 ⟨hor,hd.2⟩
    exact ⟨t.From,(h3 _).2 (.inl ⟨t,ht, .inl rfl⟩),t.To,(h3 _).2 (.inl ⟨t,ht, .inr rfl⟩),h⟩
   ·obtain ⟨t,ht,h⟩:=(sT b d).2 ⟨hor,hd.2⟩
    exact ⟨t.From,(h3 _).2 (.inr ⟨t,ht, .inl rfl⟩),t.To,(h3 _).2 (.inr ⟨t,ht, .inr rfl⟩),h⟩
  by_cases he:e.length = 0
  ·have:e = []:=List.length_eq_zero_iff.1 he
   subst this
   refine ⟨[], ?_,trivial,fun d=>⟨fun h=>(dK h).elim,fun h=>?_⟩⟩
   ·rw [j6];rfl
   ·obtain ⟨x,hx,_⟩:=hin d h
    simp at hx
  ·have h0:0 < e.length:=by omega
   have hfirst:∀ x∈e,e[0]≤x:=by
    intro x hx
    obtain ⟨j,hj,rfl⟩:=List.getElem_of_mem hx
    by_cases hj0:j = 0
    ·subst hj0;exact Int.le_refl _
    ·have:=List.pairwise_iff_getElem.1 h2 0 j h0 hj (by omega);omega
   have hlast:∀ x∈e,x≤e[e.length - 1]:=by
    intro x hx
    obtain ⟨j,hj,rfl⟩:=List.getElem_of_mem hx
    by_cases hj0:j = e.length - 1
    ·subst hj0;exact Int.le_refl _
    ·have:=List.pairwise_iff_getElem.1 h2 j (e.length - 1) hj (by omega) (by omega);omega
   have r0:0≤e[0]:=by
    rcases (h3 _).1 (List.getElem_mem h0) with h | h <;> exact (KQ h).1
   obtain ⟨r,g1,g2,g3⟩:=LS l b e hn hb h4 h2 h3 kind (e.length - 1) 0 [] h0 (by omega) trivial (by show (-1:Int)≤_;omega) (fun d=>⟨fun h=>(dK h).elim,fun ⟨h,h'⟩=>by
    obtain ⟨x,hx,_,_,hxd,_⟩:=hin d h
    have:=hfirst x hx
    omega⟩) (by simp)
   refine ⟨r,g1,g2,fun d=>?_⟩
   rw [g3]
   constructor
   ·exact And.left
   ·intro h
    obtain ⟨_,_,y,hy,_,hd⟩:=hin d h
    have:=hlast y hy
    exact ⟨h,by omega⟩
 obtain ⟨r,g1,g2,g3⟩:=key
 refine ⟨r, ?_,g2,g3⟩
 rw [Et,h1,Option.bind_some]
 exact g1
theorem JO (l:List GSpan) (s:GSpan) (hn:l.length≤4000000):An l s = some (ik l s):=by
 obtain ⟨r,h1,h2,h3⟩:=BX l [s] 1 hn (by simp) rfl
 obtain ⟨c1,c2⟩:=pC l s
 rw [LA]
 have e:r = ik l s:=IU h2 c1 fun d=>by
  rw [h3,c2]
  unfold Fs
  have h:qZ [s] d = true↔s.From≤d∧d < s.To:=by simp [qZ]
  rw [← tn, ← h]
  cases qZ l d <;> cases qZ [s] d <;> simp [mZ]
 rw [h1,Option.bind_some,e]
end Go.Ax
