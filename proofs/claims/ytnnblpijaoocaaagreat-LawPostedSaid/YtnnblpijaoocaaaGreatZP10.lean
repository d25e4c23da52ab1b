import Derived.Test.YtnnblpijaoocaaaGreatZP9
set_option linter.all false
/- The document's combinations of spans. -/
set_option maxRecDepth 100000
namespace Go.Ax
def jT (l:List GSpan) (x:Int):Prop:=∃ s∈kg l,x = s.From∨x = s.To
theorem OE (s:GSpan) (l:List GSpan):kg (s :: l) = if (aO s).From < (aO s).To then aO s :: kg l else kg l:=by
 unfold kg
 rw [List.map_cons,List.filter_cons]
 unfold ro
 by_cases h:(aO s).From < (aO s).To
 ·rw [if_pos (decide_eq_true h),if_pos h]
 ·rw [if_neg (by rw [decide_eq_false h];simp),if_neg h]
theorem HG (s:GSpan) (l:List GSpan) (x:Int):jT (s :: l) x↔((aO s).From < (aO s).To∧(x = (aO s).From∨x = (aO s).To))∨jT l x:=by
 unfold jT
 rw [OE]
 by_cases h:(aO s).From < (aO s).To
 ·rw [if_pos h]
  constructor
  ·rintro ⟨t,ht,hx⟩
   rcases List.mem_cons.1 ht with rfl | ht
   ·exact .inl ⟨h,hx⟩
   ·exact .inr ⟨t,ht,hx⟩
  ·rintro (⟨_,hx⟩ | ⟨t,ht,hx⟩)
   ·exact ⟨_,List.mem_cons_self ..,hx⟩
   ·exact ⟨t,List.mem_cons_of_mem _ ht,hx⟩
 ·rw [if_neg h]
  constructor
  ·exact .inr
  ·rintro (⟨h',_⟩ | h')
   ·exact (h h').elim
   ·exact h'
theorem LE (s:GSpan):sN s = some (aO s,aa ((aO s).From < (aO s).To)):=by
 rw [Et]
 unfold aO
 by_cases h1:s.From < 0 <;> by_cases h2:73049 < s.To <;> simp [h1,h2]
def Ky (l:List Int):Prop:=∀ x∈l,0≤x∧x≤73049
theorem M1:∀ (l:List Int) (lo:Int),kj l→(∀ x∈l,lo≤x∧x≤73049)→lo≤73050→(l.length:Int)≤73050 - lo
 | [],lo,_,_,h=>by simp;omega
 | x :: r,lo,ha,hb,h=>by
  obtain ⟨h1,h2⟩:=List.pairwise_cons.1 ha
  have hx:=hb x (by simp)
  have:=M1 r (x+1) h2 (fun y hy=>⟨by have:=h1 y hy;omega,(hb y (by simp [hy])).2⟩) (by omega)
  rw [List.length_cons];omega
theorem Fw {l:List Int} (ha:kj l) (hb:Ky l):l.length≤73050:=by
 have:=M1 l 0 ha hb (by omega)
 omega
theorem OG {s:GSpan} (h:(aO s).From < (aO s).To):(0≤(aO s).From∧(aO s).From≤73049)∧0≤(aO s).To∧(aO s).To≤73049:=by
 unfold aO at h ⊢
 simp only at h ⊢
 split at h <;> split at h <;> omega
theorem OP (L:List (List GSpan)) (i:Nat) (hi:i < L.length) (hLn:L.length≤1000) (hl:(L[i]).length≤4000000):∀ (n k:Nat) (out:List Int),(L[i]).length = k+n→kj out→Ky out →
  ∃ r,dq L out (i:Int) (k:Int) = eW L r ((i+1:Nat):Int)∧kj r∧(∀ x,x∈r↔x∈out∨jT ((L[i]).drop k) x)∧Ky r:=by
 intro n
 induction n with
 | zero =>
  intro k out h ho hb
  have:k = (L[i]).length:=by omega
  subst this
  refine ⟨out, ?_,ho,fun x=>?_,hb⟩
  ·rw [oD]
   simp only [be hi,bp,cond_true,av,Bool.or_true,aR hi,bd hi (by omega)]
   rw [bi,cond_false]
  ·rw [List.drop_length]
   simp [jT,kg]
 | succ n ih =>
  intro k out h ho hb
  have hk:k < (L[i]).length:=by omega
  have hstep:dq L out (i:Int) (k:Int) = bif aa ((aO (L[i])[k]).From < (aO (L[i])[k]).To) then (jM out (aO (L[i])[k]).From).bind fun r1=>(jM r1 (aO (L[i])[k]).To).bind fun r2=>dq L r2 (i:Int) ((k+1:Nat):Int) else dq L out (i:Int) ((k+1:Nat):Int):=by
   rw [oD]
   simp only [be hi,bp,cond_true,av,Bool.or_true,aR hi,bd hi (by omega)]
   simp only [be hk,bp,cond_true,av,Bool.or_true,aR hk,bd hk (by omega)]
   rw [LE,Option.bind_some]
  rw [List.drop_eq_getElem_cons hk]
  by_cases hc:(aO (L[i])[k]).From < (aO (L[i])[k]).To
  ·obtain ⟨rg1,rg2⟩:=OG hc
   obtain ⟨r2,a1,a2,a3,a4⟩:=sQ out (aO (L[i])[k]).From (by have:=Fw ho hb;omega) ho
   have d2:Ky r2:=fun x hx=>((a3 x).1 hx).elim (hb x) fun e=>e ▸ rg1
   obtain ⟨r3,b1,b2,b3,b4⟩:=sQ r2 (aO (L[i])[k]).To (by have:=Fw a2 d2;omega) a2
   have d3:Ky r3:=fun x hx=>((b3 x).1 hx).elim (d2 x) fun e=>e ▸ rg2
   rw [au hc,cond_true,a1,Option.bind_some,b1,Option.bind_some] at hstep
   obtain ⟨r,c1,c2,c3,c4⟩:=ih (k+1) r3 (by omega) b2 d3
   refine ⟨r,by rw [hstep];exact c1,c2,fun x=>?_,c4⟩
   rw [c3,b3,a3,HG]
   constructor
   ·rintro (((h1 | h1) | h1) | h1)
    ·exact .inl h1
    ·exact .inr (.inl ⟨hc, .inl h1⟩)
    ·exact .inr (.inl ⟨hc, .inr h1⟩)
    ·exact .inr (.inr h1)
   ·rintro (h1 | ⟨_,h1 | h1⟩ | h1)
    ·exact .inl (.inl (.inl h1))
    ·exact .inl (.inl (.inr h1))
    ·exact .inl (.inr h1)
    ·exact .inr h1
  ·rw [aL hc,cond_false] at hstep
   obtain ⟨r,c1,c2,c3,c4⟩:=ih (k+1) out (by omega) ho hb
   refine ⟨r,by rw [hstep];exact c1,c2,fun x=>?_,c4⟩
   rw [c3,HG]
   constructor
   ·rintro (h1 | h1)
    ·exact .inl h1
    ·exact .inr (.inr h1)
   ·rintro (h1 | ⟨h2,_⟩ | h1)
    ·exact .inl h1
    ·exact (hc h2).elim
    ·exact .inr h1
theorem Ht (L:List (List GSpan)) (i:Nat) (hi:i < L.length) (hl:(L[i]).length≤4000000) (out:List Int) (ho:kj out) (hb:Ky out) (hn:L.length≤1000) :
  ∃ r,eW L out (i:Int) = eW L r ((i+1:Nat):Int)∧kj r∧(∀ x,x∈r↔x∈out∨jT (L[i]) x)∧Ky r:=by
 obtain ⟨r,h1,h2,h3,h4⟩:=OP L i hi hn hl (L[i]).length 0 out (by omega) ho hb
 refine ⟨r, ?_,h2,by rw [List.drop_zero] at h3;exact h3,h4⟩
 rw [qI,be hi,cond_true]
 exact h1
theorem FM (a b:List GSpan) (ha:a.length≤4000000) (hb:b.length≤4000000):∃ e,wU [a,b] = some e∧kj e∧(∀ x,x∈e↔jT a x∨jT b x)∧e.length≤500000:=by
 obtain ⟨r,h1,h2,h3,h4⟩:=Ht [a,b] 0 (by simp) (by show a.length≤_;omega) [] List.Pairwise.nil (fun x hx=>by simp at hx) (by simp)
 obtain ⟨q,g1,g2,g3,g4⟩:=Ht [a,b] 1 (by simp) (by show b.length≤_;omega) r h2 h4 (by simp)
 have g4':=Fw g2 g4
 refine ⟨q, ?_,g2,fun x=>?_,by omega⟩
 ·rw [Ia]
  refine Eq.trans h1 (Eq.trans g1 ?_)
  show eW [a,b] q (([a,b].length:Nat):Int) = _
  rw [qI,bi];rfl
 ·rw [g3,h3]
  simp
theorem rE (d:Int):ij d = some (bif decide ((0:Int)≤d) then decide (d≤(73048:Int)) else false):=by rw [rJ]
def AO (d:Int) (s:GSpan):Bool:=(decide (s.From≤d)&&decide (d < s.To))&&(decide (0≤d)&&decide (d < 73049))
theorem qB (l:List GSpan) (d:Int) (hl:l.length≤1000000000):∃ b,mC l d = some b∧(b = true↔dG l d∧0≤d∧d < 73049):=by
 refine ⟨l.any (AO d), ?_, ?_⟩
 ·rw [B6]
  have:=mV l (fun i=>cz l d i) (AO d) (some true) (some false) (by
   show cz _ _ _ = _
   rw [ng,bi];rfl) fun i hi=>by
    show cz _ _ _ = if _ then _ else cz _ _ _
    rw [ng]
    simp only [be hi,bp,cond_true,av,Bool.or_true,aR hi,bd hi (by omega)]
    rw [rE,Option.bind_some]
    unfold AO
    by_cases c1:l[i].From≤d
    ·by_cases c2:d < l[i].To
     ·by_cases c3:0≤d
      ·by_cases c4:d≤73048
       ·simp [c1,c2,c3,c4,show d < 73049 by omega]
       ·simp [c1,c2,c3,c4,show ¬ d < 73049 by omega]
      ·simp [c1,c2,c3]
     ·simp [c1,c2]
    ·simp [c1]
  rw [this]
  cases l.any (AO d) <;> rfl
 ·rw [List.any_eq_true]
  unfold dG
  constructor
  ·rintro ⟨s,hs,h⟩
   simp only [AO,Bool.and_eq_true,decide_eq_true_eq] at h
   exact ⟨⟨s,hs,h.1⟩,h.2⟩
  ·rintro ⟨⟨s,hs,h⟩,h2⟩
   exact ⟨s,hs,by simp only [AO,Bool.and_eq_true,decide_eq_true_eq];exact ⟨h,h2⟩⟩
noncomputable def vN (out:List GSpan) (s:GSpan):List GSpan:=match out.getLast? with
 | none=>[s]
 | some x=>if x.To = s.From then out.dropLast++[⟨x.From,s.To⟩] else out++[s]
theorem Hd (p:List GSpan) (x s:GSpan):vN (p++[x]) s = if x.To = s.From then p++[⟨x.From,s.To⟩] else (p++[x])++[s]:=by
 unfold vN
 rw [List.getLast?_concat]
 simp
theorem Lf (out:List GSpan) (s:GSpan) (hn:out.length≤900000):CA out s = some (vN out s):=by
 rw [LR]
 rcases iG out with rfl | ⟨p,x,rfl⟩
 ·rw [show aa ((0:Int) < ((([]:List GSpan).length:Nat):Int)) = false from rfl]
  simp only [Bool.false_and,Bool.not_false,Bool.true_or,av,cond_false]
  rw [ax (by simp),ax (by simp),oV (by simp) (by simp)]
  rfl
 ·have hl:(p++[x]).length = p.length+1:=by simp
  have hp:p.length≤1000000:=by omega
  have h0:aa ((0:Int) < (((p++[x]).length:Nat):Int)) = true:=au (by omega)
  have hlt:aa (((p.length:Nat):Int) < (((p++[x]).length:Nat):Int)) = true:=au (by omega)
  have hi0:aa ((0:Int)≤((p.length:Nat):Int)) = true:=au (by omega)
  rw [My p x (by omega)]
  simp only [h0,hlt,hi0,Bool.or_true,av,cond_true,MX,Int.toNat_natCast,K9,Hd]
  by_cases hc:x.To = s.From
  ·rw [dN.2 hc,cond_true,ax (by omega),ax (by omega),if_pos hc]
  ·rw [gZ.2 hc,cond_false,ax (by omega),ax (by omega),oV (by omega) (by omega),if_neg hc]
theorem Qh {out:List GSpan} {s:GSpan} (hn:dc (-1) out) (hb:zD (-1) out≤s.From) (h1:0≤s.From) (h2:s.From < s.To) (h3:s.To≤73049) :
  dc (-1) (vN out s)∧(∀ d,dG (vN out s) d↔dG out d∨(s.From≤d∧d < s.To))∧zD (-1) (vN out s)≤s.To∧(vN out s).length≤out.length+1:=by
 rcases iG out with rfl | ⟨p,x,rfl⟩
 ·refine ⟨⟨by omega,h2,h3,trivial⟩,fun d=>?_,Int.le_refl _,by simp [vN]⟩
  show dG [s] d↔_
  rw [aU];simp [dh]
 ·obtain ⟨n1,n2,n3,n4⟩:=kV.1 hn
  rw [m8] at hb
  rw [Hd]
  by_cases hc:x.To = s.From
  ·rw [if_pos hc]
   refine ⟨kV.2 ⟨n1,n2,by show x.From < s.To;omega,h3⟩,fun d=>?_,by rw [m8];exact Int.le_refl _,by simp⟩
   rw [oS,oS,aU,aU]
   simp only [dh,or_false]
   constructor
   ·rintro (h | ⟨h4,h5⟩)
    ·exact .inl (.inl h)
    ·by_cases hd:d < x.To
     ·exact .inl (.inr ⟨h4,hd⟩)
     ·exact .inr ⟨by omega,h5⟩
   ·rintro ((h | ⟨h4,h5⟩) | ⟨h4,h5⟩)
    ·exact .inl h
    ·exact .inr ⟨h4,by omega⟩
    ·exact .inr ⟨by omega,h5⟩
  ·rw [if_neg hc]
   refine ⟨kV.2 ⟨hn,by rw [m8];omega,h2,h3⟩,fun d=>?_,by rw [m8];exact Int.le_refl _,by simp⟩
   rw [oS (b:=[s]),aU];simp [dh]
def qn (l:List GSpan) (d:Int):Bool:=l.any fun s=>decide (s.From≤d)&&decide (d < s.To)
theorem rN {l:List GSpan} {d:Int}:qn l d = true↔dG l d:=by
 unfold qn dG
 rw [List.any_eq_true]
 constructor
 ·rintro ⟨s,hs,h⟩
  rw [Bool.and_eq_true,decide_eq_true_iff,decide_eq_true_iff] at h
  exact ⟨s,hs,h⟩
 ·rintro ⟨s,hs,h⟩
  exact ⟨s,hs,by rw [Bool.and_eq_true,decide_eq_true_iff,decide_eq_true_iff];exact h⟩
def Dt (f:Bool→Bool→Bool) (a b:List GSpan) (d:Int):Prop:=f (qn a d) (qn b d) = true∧0≤d∧d < 73049
def mH (kind:Int) (x y:Bool):Bool:=(bif (bif (bif (bif (kind == (1:Int)) then x else false) then y else false) then true else (bif (kind == (2:Int)) then (bif x then true else y) else false)) then true else (bif (bif (kind == (3:Int)) then x else false) then (!y) else false))
theorem IQ {l:List GSpan} {x:Int} (h:jT l x):0≤x∧x≤73049:=by
 obtain ⟨s,hs,hx⟩:=h
 have:=MV l s hs
 omega
theorem MT {e:List Int} {a:List GSpan} {i:Nat} (he:kj e) (hi:i+1 < e.length) (hE:∀ x,jT a x→x∈e) {d:Int} (h1:e[i]'(by omega)≤d) (h2:d < e[i+1]) :
  (dG a d∧0≤d∧d < 73049)↔(dG a (e[i]'(by omega))∧0≤e[i]'(by omega)∧e[i]'(by omega) < 73049):=by
 have hasc:∀ j k (hj:j < e.length) (hk:k < e.length),j < k→e[j] < e[k]:=fun j k hj hk h=>List.pairwise_iff_getElem.1 he j k hj hk h
 have hlo:∀ x∈e,x < e[i+1]→x≤e[i]'(by omega):=by
  intro x hx hlt
  obtain ⟨j,hj,rfl⟩:=List.getElem_of_mem hx
  rcases Nat.lt_trichotomy j i with h | h | h
  ·have:=hasc j i hj (by omega) h;omega
  ·subst h;exact Int.le_refl _
  ·by_cases h':j = i+1
   ·subst h'; omega
   ·have:=hasc (i+1) j hi hj (by omega);omega
 have hhi:∀ x∈e,e[i]'(by omega) < x→e[i+1]≤x:=by
  intro x hx hlt
  obtain ⟨j,hj,rfl⟩:=List.getElem_of_mem hx
  rcases Nat.lt_trichotomy j (i+1) with h | h | h
  ·by_cases h':j = i
   ·subst h'; omega
   ·have:=hasc j i hj (by omega) (by omega);omega
  ·subst h;exact Int.le_refl _
  ·have:=hasc (i+1) j hi hj h;omega
 rw [← rW, ← rW]
 constructor
 ·rintro ⟨s,hs,h3,h4⟩
  have e1:=hE _ ⟨s,hs, .inl rfl⟩
  have:=hlo _ e1 (by omega)
  exact ⟨s,hs,this,by omega⟩
 ·rintro ⟨s,hs,h3,h4⟩
  have e2:=hE _ ⟨s,hs, .inr rfl⟩
  have:=hhi _ e2 h4
  exact ⟨s,hs,by omega,by omega⟩
theorem KW (a b:List GSpan) (e:List Int) (ha:a.length≤4000000) (hb:b.length≤4000000) (hel:e.length≤500000) (he:kj e) (hE:∀ x,x∈e↔jT a x∨jT b x) (kind:Int) :
  ∀ (n i:Nat) (out:List GSpan) (hi:i < e.length),e.length = i+1+n→dc (-1) out→zD (-1) out≤e[i]→(∀ d,dG out d↔Dt (mH kind) a b d∧d < e[i])→out.length≤i →
  ∃ r,cy a b kind e (i:Int) out = some r∧dc (-1) r∧(∀ d,dG r d↔Dt (mH kind) a b d∧d < e[e.length - 1]'(by omega)):=by
 intro n
 induction n with
 | zero =>
  intro i out hi h hn ht hc ho
  refine ⟨out, ?_,hn, ?_⟩
  ·rw [jB,CH (by omega),show i+1 = e.length by omega,bi,cond_false]
  ·have:e.length - 1 = i:=by omega
   simp only [this]
   exact hc
 | succ n ih =>
  intro i out hi h hn ht hc ho
  have hi1:i+1 < e.length:=by omega
  have hlt:e[i] < e[i+1]:=List.pairwise_iff_getElem.1 he i (i+1) hi hi1 (by omega)
  have r0:∀ x∈e,0≤x∧x≤73049:=by
   intro x hx
   rcases (hE x).1 hx with h | h <;> exact IQ h
  have ri:=r0 e[i] (List.getElem_mem hi)
  have rj:=r0 e[i+1] (List.getElem_mem hi1)
  obtain ⟨x,hx1,hx2⟩:=qB a e[i] (by omega)
  obtain ⟨y,hy1,hy2⟩:=qB b e[i] (by omega)
  have hstep:cy a b kind e (i:Int) out = bif (mH kind x y) then cy a b kind e ((i+1:Nat):Int) (vN out ⟨e[i],e[i+1]⟩) else cy a b kind e ((i+1:Nat):Int) out:=by
   rw [jB,CH (by omega)]
   simp only [be hi1,be hi,bp,cond_true,av,aR hi,aR hi1]
   rw [hx1,Option.bind_some,hy1,Option.bind_some,Lf _ _ (by omega),Option.bind_some]
   rfl
  have hbt:∀ d,e[i]≤d→d < e[i+1]→(Dt (mH kind) a b d↔(mH kind x y) = true):=by
   intro d h1 h2
   have ba:=MT (a:=a) he hi1 (fun z hz=>(hE z).2 (.inl hz)) h1 h2
   have bb:=MT (a:=b) he hi1 (fun z hz=>(hE z).2 (.inr hz)) h1 h2
   have rd:0≤d∧d < 73049:=by omega
   have ex:qn a d = x:=by
    rw [Bool.eq_iff_iff,rN,hx2, ← ba]
    exact ⟨fun h=>⟨h,rd⟩,And.left⟩
   have ey:qn b d = y:=by
    rw [Bool.eq_iff_iff,rN,hy2, ← bb]
    exact ⟨fun h=>⟨h,rd⟩,And.left⟩
   unfold Dt
   rw [ex,ey]
   exact ⟨And.left,fun h=>⟨h,rd⟩⟩
  rw [hstep]
  cases hxy:(mH kind x y) with
  | true =>
   rw [hxy] at hbt
   obtain ⟨s1,s2,s3,s4⟩:=Qh (s:=⟨e[i],e[i+1]⟩) hn ht ri.1 hlt rj.2
   rw [cond_true]
   refine ih (i+1) _ hi1 (by omega) s1 s3 (fun d=>?_) (by omega)
   rw [s2,hc]
   show (Dt (mH kind) a b d∧d < e[i])∨(e[i]≤d∧d < e[i+1])↔_
   constructor
   ·rintro (⟨h1,h2⟩ | ⟨h1,h2⟩)
    ·exact ⟨h1,by omega⟩
    ·exact ⟨(hbt d h1 h2).2 rfl,h2⟩
   ·rintro ⟨h1,h2⟩
    by_cases h3:d < e[i]
    ·exact .inl ⟨h1,h3⟩
    ·exact .inr ⟨by omega,h2⟩
  | false =>
   rw [hxy] at hbt
   rw [cond_false]
   refine ih (i+1) _ hi1 (by omega) hn (by omega) (fun d=>?_) (by omega)
   rw [hc]
   constructor
   ·rintro ⟨h1,h2⟩;exact ⟨h1,by omega⟩
   ·rintro ⟨h1,h2⟩
    refine ⟨h1, ?_⟩
    by_cases h3:d < e[i]
    ·exact h3
    ·have:=(hbt d (by omega) h2).1 h1
     cases this
theorem A9 (l b:List GSpan) (kind:Int) (hn:l.length≤4000000) (hb:b.length≤4000000) (hk:mH kind false false = false):∃ r,sS l b kind = some r∧dc (-1) r∧∀ d,dG r d↔Dt (mH kind) l b d:=by
 obtain ⟨e,h1,h2,h3,h4⟩:=FM l b hn hb
 have key:∃ r,cy l b kind e 0 [] = some r∧dc (-1) r∧∀ d,dG r d↔Dt (mH kind) l b d:=by
  have hin:∀ d,Dt (mH kind) l b d→∃ x∈e, ∃ y∈e,x≤d∧d < y:=by
   intro d hd
   have hor:dG l d∨dG b d:=by
    rw [← rN, ← rN]
    have:=hd.1
    cases hx:qn l d <;> cases hy:qn b d <;> simp
    rw [hx,hy,hk] at this
    cases this
   rcases hor with hor | hor
   ·obtain ⟨t,ht,h⟩:=(rW l d).2 ⟨hor,hd.2⟩
    exact ⟨t.From,(h3 _).2 (.inl ⟨t,ht, .inl rfl⟩),t.To,(h3 _).2 (.inl ⟨t,ht, .inr rfl⟩),h⟩
   ·obtain ⟨t,ht,h⟩:=(rW b d).2 ⟨hor,hd.2⟩
    exact ⟨t.From,(h3 _).2 (.inr ⟨t,ht, .inl rfl⟩),t.To,(h3 _).2 (.inr ⟨t,ht, .inr rfl⟩),h⟩
  by_cases he:e.length = 0
  ·have:e = []:=List.length_eq_zero_iff.1 he
   subst this
   refine ⟨[], ?_,trivial,fun d=>⟨fun h=>(dh h).elim,fun h=>?_⟩⟩
   ·rw [jB];rfl
   ·obtain ⟨x,hx,_⟩:=hin d h
    simp at hx
  ·have h0:0 < e.length:=by omega
   have hfirst:∀ x∈e,e[0]≤x:=by
    intro x hx
    obtain ⟨j,hj,rfl⟩:=List.getElem_of_mem hx
    by_cases hj0:j = 0
    ·subst hj0;exact Int.le_refl _
    ·have:=List.pairwise_iff_getElem.1 h2 0 j h0 hj (by omega);omega
   have hlast:∀ x∈e,x≤e[e.length - 1]:=by
    intro x hx
    obtain ⟨j,hj,rfl⟩:=List.getElem_of_mem hx
    by_cases hj0:j = e.length - 1
    ·subst hj0;exact Int.le_refl _
    ·have:=List.pairwise_iff_getElem.1 h2 j (e.length - 1) hj (by omega) (by omega);omega
   have r0:0≤e[0]:=by
    rcases (h3 _).1 (List.getElem_mem h0) with h | h <;> exact (IQ h).1
   obtain ⟨r,g1,g2,g3⟩:=KW l b e hn hb h4 h2 h3 kind (e.length - 1) 0 [] h0 (by omega) trivial (by show (-1:Int)≤_;omega) (fun d=>⟨fun h=>(dh h).elim,fun ⟨h,h'⟩=>by
    obtain ⟨x,hx,_,_,hxd,_⟩:=hin d h
    have:=hfirst x hx
    omega⟩) (by simp)
   refine ⟨r,g1,g2,fun d=>?_⟩
   rw [g3]
   constructor
   ·exact And.left
   ·intro h
    obtain ⟨_,_,y,hy,_,hd⟩:=hin d h
    have:=hlast y hy
    exact ⟨h,by omega⟩
 obtain ⟨r,g1,g2,g3⟩:=key
 refine ⟨r, ?_,g2,g3⟩
 rw [C2,h1,Option.bind_some]
 exact g1
theorem Ii (l:List GSpan) (s:GSpan) (hn:l.length≤4000000):yu l s = some (iM l s):=by
 obtain ⟨r,h1,h2,h3⟩:=A9 l [s] 1 hn (by simp) rfl
 obtain ⟨c1,c2⟩:=mK l s
 rw [JO]
 have e:r = iM l s:=ze h2 c1 fun d=>by
  rw [h3,c2]
  unfold Dt
  have h:qn [s] d = true↔s.From≤d∧d < s.To:=by simp [qn]
  rw [← rN, ← h]
  cases qn l d <;> cases qn [s] d <;> simp [mH]
 rw [h1,Option.bind_some,e]
end Go.Ax
