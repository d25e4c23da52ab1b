import Derived.Test.YtokecajedkojlaaGreatZP22
set_option linter.all false
/- The earnings of years: both ways of computing them. -/
set_option maxRecDepth 100000
namespace Go.Ax
theorem T8 (s:GSpan):bi [] s = []:=oB (ew [] s).1 (show bV (-1) [] from trivial) fun d=>by
  rw [(ew _ _).2]; simp [cW]
theorem U9 (y:Int):nC [] y = 0:=by unfold nC; rw [T8]; rfl
theorem D1 {l:List GFact} {c:List GCounted} {st:Int} {f:GFact} (h:bC f = true) (h2:wH l c st f = true):gV l c st f = gp l c st f:=by
  unfold gp
  have:(!(af (lg f st) 0)) = true:=by unfold wH at h2; exact (Bool.and_eq_true _ _ ▸ h2).1
  rw [h,this]; rfl
theorem Nd {l:List GFact} {c:List GCounted} {st:Int} {f:GFact} (h:(bC f&&wH l c st f) = false):gp l c st f = []:=by
  unfold gp
  cases h1:(bC f&&!(af (lg f st) 0)) with
  | false=>rfl
  | true =>
    rw [Bool.and_eq_true] at h1
    rw [h1.1,Bool.true_and] at h
    unfold wH at h
    rw [h1.2,Bool.true_and] at h
    have:=mJ h
    exact List.eq_nil_of_length_eq_zero (l:=gV l c st f) (by omega)
theorem O6 (l:List GFact) (c:List GCounted) (st:Int):mX l c st = l.filter fun f=>bC f&&wH l c st f:=N6 _ _ _
theorem zQ {l:List GFact} {c:List GCounted} {st:Int} {f:GFact}:f∈mX l c st↔f∈l∧bC f = true∧wH l c st f = true:=by
  rw [O6,List.mem_filter,Bool.and_eq_true]
theorem TN (t:List GRate) (to y:Int) (l:List GFact) (c:List GCounted) (st:Int):bt t to y (gV l c st) (mX l c st) 0 = bt t to y (gp l c st) l 0:=by
  rw [J5 t to y (gV l c st) (gp l c st) (mX l c st) 0 fun f hf=>D1 (zQ.1 hf).2.1 (zQ.1 hf).2.2,O6]
  exact Jo t to y (gp l c st) _ l 0 fun f _ hp=>by rw [Nd hp,U9]
theorem Je (l:List GFact) (c:List GCounted) (st:Int) (f:GFact):bV (-1) (gp l c st f):=by
  unfold gp
  cases (bC f&&!(af (lg f st) 0))
  · trivial
  · exact vT l c st f
theorem tA (l:List GFact) (c:List GCounted) (st:Int) (f:GFact):(gp l c st f).length≤73050:=o4 (Je l c st f)
section
variable {t:List GRate} (ht:lH t) {to:Int} (hto:1≤to∧to≤999) {l:List GFact} (hl:l.length≤1000) {D:GFact→List GSpan} (hD:∀ f,(D f).length≤100000)
include ht hto hl hD
theorem RP {y:Int} (hy:0≤y∧y≤199) (hi:Int) (all:List GSpan) (out:List GEarning):∀ (rest pre:List GFact) (s:Int),l = pre++rest→(0≤s∧s≤(pre.length:Int)*27000000000) →
    (((bt t to y D rest s).2≠0∧cw to t hi (1900+y) s (pre.length:Int) l (l.map D) all out ⟨1,1⟩ (oC y) = some ([],(bt t to y D rest s).2,l)) ∨
     ((bt t to y D rest s).2 = 0∧cw to t hi (1900+y) s (pre.length:Int) l (l.map D) all out ⟨1,1⟩ (oC y) = cw to t hi (1900+y) (bt t to y D rest s).1 (l.length:Int) l (l.map D) all out ⟨1,1⟩ (oC y))):=by
  intro rest
  induction rest with
  | nil =>
    intro pre s hF' hs
    rw [List.append_nil] at hF'
    subst hF'
    exact .inr ⟨rfl,rfl⟩
  | cons f rest ih =>
    intro pre s hF' hs
    have hlen:pre.length < l.length:=by rw [hF']; simp
    have hlt:pre.length < (l.map D).length:=by rw [List.length_map]; exact hlen
    have hf:l[pre.length] = f:=by subst hF'; simp
    have hget:(l.map D)[pre.length] = D f:=by rw [List.getElem_map,hf]
    have hpre:l = (pre++[f])++rest:=by rw [hF']; simp
    have hn:vO (bi (D f) (oC y)) = some (nC (D f) y):=(L3 (ew _ _).1).2
    have hm:0≤12*y+11∧12*y+11≤2399:=by omega
    have e:=l4 to t hi (1900+y) s (pre.length:Int) l (l.map D) all out ⟨1,1⟩ (oC y)
    simp only [aT hlen,aT hlt,br,cond_true,aC,be hlt,be hlen,hget,hf] at e
    rw [fU _ _ (by have:=hD f; omega),Option.bind_some,hn,Option.bind_some,bf hlen (by omega),show 1900+y - 1900 = y by omega,ai (n:=y) (by omega) (by omega),ai (n:=12*y) (by omega) (by omega),ai (n:=12*y+11) (by omega) (by omega)] at e
    have lp:(((pre++[f]).length:Nat):Int) = ((pre.length+1:Nat):Int):=by rw [List.length_append]; rfl
    by_cases hz:nC (D f) y = 0
    · rw [hz,i7,cond_true] at e
      have es:bt t to y D (f :: rest) s = bt t to y D rest s:=by
        conv=>lhs; unfold bt
        rw [hz,i7,cond_true]
      rw [e,es, ← lp]
      exact ih (pre++[f]) s hpre (by rw [List.length_append]; simp only [List.length_cons,List.length_nil]; omega)
    · obtain ⟨c1,c2,c3,c4⟩:=Rb (c:=f.Currency) ht (Lm f (nC (D f) y)) hto hm
      rw [fI.2 hz,cond_false,(Eh f _).2,Option.bind_some,c2,Option.bind_some] at e
      have es:bt t to y D (f :: rest) s = bif aJ (qh t to (12*y+11) (iC f (nC (D f) y)) f.Currency).2 0 then (0,(qh t to (12*y+11) (iC f (nC (D f) y)) f.Currency).2) else
          bt t to y D rest (s+(qh t to (12*y+11) (iC f (nC (D f) y)) f.Currency).1):=by
        conv=>lhs; unfold bt
        rw [fI.2 hz,cond_false]
      rw [e,es]
      generalize qh t to (12*y+11) (iC f (nC (D f) y)) f.Currency = r at c3 ⊢
      by_cases hr:r.2 = 0
      · rw [hr,mo.2 rfl,cond_false,cond_false]
        have hw:ab (s+r.1) = s+r.1:=ai (by omega) (by
          have:(pre.length:Int)*27000000000≤1000*27000000000:=Int.mul_le_mul_of_nonneg_right (by omega) (by omega)
          omega)
        rw [hw, ← lp]
        exact ih (pre++[f]) (s+r.1) hpre (by
          rw [List.length_append]
          simp only [List.length_cons,List.length_nil]
          rw [show ((pre.length+(0+1):Nat):Int) = (pre.length:Int)+1 by omega,Int.add_mul]
          omega)
      · rw [mB.2 hr,cond_true,cond_true]
        exact .inl ⟨hr,rfl⟩
end
noncomputable def jW (all:List GSpan):Int→Nat→List Int
  | _,0=>[]
  | y,n+1=>bif af ((bi all (oC y)).length:Int) 0 then jW all (y+1) n else y :: jW all (y+1) n
theorem qx (all:List GSpan) (z:Int):∀ (n:Nat) (y:Int),z∈jW all y n↔(y≤z∧z < y+n)∧(bi all (oC z)).length≠0
  | 0,y=>by simp [jW]; omega
  | n+1,y=>by
    unfold jW
    have ih:=qx all z n (y+1)
    cases h:af ((bi all (oC y)).length:Int) 0 with
    | true =>
      have h0:=cY.1 h
      rw [cond_true,ih]
      constructor
      · rintro ⟨h1,h2⟩; exact ⟨by omega,h2⟩
      · rintro ⟨h1,h2⟩
        refine ⟨?_,h2⟩
        by_cases e:z = y
        · subst e; omega
        · omega
    | false =>
      have h0:=fI.1 h
      rw [cond_false,List.mem_cons,ih]
      constructor
      · rintro (rfl | ⟨h1,h2⟩)
        · exact ⟨by omega,by omega⟩
        · exact ⟨by omega,h2⟩
      · rintro ⟨h1,h2⟩
        by_cases e:z = y
        · exact .inl e
        · exact .inr ⟨by omega,h2⟩
theorem uR (all:List GSpan):∀ (n:Nat) (y:Int),(jW all y n).Pairwise (fun a b=>a < b)
  | 0,y=>by simp [jW]
  | n+1,y=>by
    unfold jW
    cases af ((bi all (oC y)).length:Int) 0 with
    | true=>exact uR all n (y+1)
    | false=>exact List.pairwise_cons.2 ⟨fun z hz=>by have:=(qx all z n (y+1)).1 hz; omega,uR all n (y+1)⟩
theorem Lh (all:List GSpan):∀ (n:Nat) (y:Int),(jW all y n).length≤n
  | 0,y=>by simp [jW]
  | n+1,y=>by
    have:=Lh all n (y+1)
    unfold jW
    cases af ((bi all (oC y)).length:Int) 0 <;> simp <;> omega
section
variable {t:List GRate} (ht:lH t) {to:Int} (hto:1≤to∧to≤999) {l:List GFact} (hl:l.length≤1000) {D:GFact→List GSpan} (hD:∀ f,(D f).length≤100000)
include ht hto hl hD
theorem RG (hi:Int) (hh:hi≤199) (all:List GSpan) (ha:all.length≤100000000) (hcl:∀ s,gz all s = some (bi all s)):∀ (n:Nat) (y:Int) (out:List GEarning),y+n = hi+1∨(n = 0∧hi < y)→0≤y→y≤1000→(out.length:Int)≤y →
    dD to t (1900+hi) (1900+y) l (l.map D) all out ⟨1,1⟩ = some ((iX t to D l (jW all y n) out).1,(iX t to D l (jW all y n) out).2,l):=by
  intro n
  induction n with
  | zero =>
    intro y out hn h0 h1 ho
    rw [pJ,aB (by omega),cond_false]
    rfl
  | succ n ih =>
    intro y out hn h0 h1 ho
    have hy:y≤hi:=by omega
    have step:dD to t (1900+hi) (1900+y) l (l.map D) all out ⟨1,1⟩ = hZ to t (1900+hi) (1900+y) (yS y) (yS (y+1)) l (l.map D) all out ⟨1,1⟩:=by
      rw [pJ,ay (by omega),cond_true,show 1900+y - 1900 = y by omega,ai (n:=y) (by omega) (by omega),ai (n:=12*y) (by omega) (by omega),RR h0 (by omega),Option.bind_some,show 1900+y - 1899 = y+1 by omega,ai (n:=y+1) (by omega) (by omega),ai (n:=12*(y+1)) (by omega) (by omega)]
      by_cases e:y = 199
      · subst e
        rw [show (199:Int)+1 = 200 from rfl,QM,Option.bind_some]
        rfl
      · rw [RR (n:=y+1) (by omega) (by omega),Option.bind_some]
        rfl
    rw [step,wU,hcl,Option.bind_some,show 1900+y+1 = 1900+(y+1) by omega,ai (n:=1900+(y+1)) (by omega) (by omega)]
    unfold jW
    show (bif af ((bi all (oC y)).length:Int) 0 then _ else _) = _
    cases af ((bi all (oC y)).length:Int) 0 with
    | true=>rw [cond_true,cond_true]; exact ih (y+1) out (by omega) (by omega) (by omega) (by omega)
    | false =>
      rw [cond_false,cond_false]
      have er:iX t to D l (y :: jW all (y+1) n) out = bif aJ (bt t to y D l 0).2 0 then ([],(bt t to y D l 0).2) else bif aa (1000000000000 < (bt t to y D l 0).1) then ([],2) else iX t to D l (jW all (y+1) n) (out++[⟨1900+y,(bt t to y D l 0).1⟩]):=by
        conv=>lhs; unfold iX
      rw [er]
      rcases RP ht hto hl hD (y:=y) ⟨h0,by omega⟩ (1900+hi) all out l [] 0 rfl (by simp) with ⟨h2,h3⟩ | ⟨h2,h3⟩
      · rw [mB.2 h2,cond_true]; exact h3
      · rw [h2,mo.2 rfl,cond_false]
        refine h3.trans ?_
        rw [l4,bg,cond_false]
        by_cases hb:1000000000000 < (bt t to y D l 0).1
        · rw [ay hb,cond_true,cond_true]
        · rw [aB hb,cond_false,cond_false,jx (by omega) (by omega),show 1900+y+1 = 1900+(y+1) by omega,ai (n:=1900+(y+1)) (by omega) (by omega)]
          exact ih (y+1) (out++[⟨1900+y,(bt t to y D l 0).1⟩]) (by omega) (by omega) (by omega) (by rw [List.length_append]; simp; omega)
end
def ny (p:Int × Int) (s:GSpan):Int × Int:=(bif aa (1900+yr s.From < p.1) then 1900+yr s.From else p.1,bif aa (p.2 < 1900+yr (s.To - 1)) then 1900+yr (s.To - 1) else p.2)
theorem VX (p:Int × Int) (s:GSpan):((ny p s).1≤p.1∧(ny p s).1≤1900+yr s.From∧((ny p s).1 = p.1∨(ny p s).1 = 1900+yr s.From))∧(p.2≤(ny p s).2∧1900+yr (s.To - 1)≤(ny p s).2∧((ny p s).2 = p.2∨(ny p s).2 = 1900+yr (s.To - 1))):=by
  unfold ny
  refine ⟨?_, ?_⟩
  · by_cases h:1900+yr s.From < p.1
    · rw [ay h]; exact ⟨by show 1900+yr s.From≤p.1; omega,Int.le_refl _, .inr rfl⟩
    · rw [aB h]; exact ⟨Int.le_refl _,by show p.1≤1900+yr s.From; omega, .inl rfl⟩
  · by_cases h:p.2 < 1900+yr (s.To - 1)
    · rw [ay h]; exact ⟨by show p.2≤1900+yr (s.To - 1); omega,Int.le_refl _, .inr rfl⟩
    · rw [aB h]; exact ⟨Int.le_refl _,by show 1900+yr (s.To - 1)≤p.2; omega, .inl rfl⟩
theorem Pb:∀ (all:List GSpan) (p:Int × Int),EN all→1900≤p.1→p.2≤2099→(all.foldl ny p).1≤p.1∧p.2≤(all.foldl ny p).2∧1900≤(all.foldl ny p).1∧(all.foldl ny p).2≤2099∧∀ s∈all,(all.foldl ny p).1≤1900+yr s.From∧1900+yr (s.To - 1)≤(all.foldl ny p).2
  | [],p,_,h1,h2=>⟨Int.le_refl _,Int.le_refl _,h1,h2,fun s hs=>by simp at hs⟩
  | s :: r,p,h,h1,h2=>by
    have hs:=h s (by simp)
    obtain ⟨⟨a1,a2,a3⟩,b1,b2,b3⟩:=VX p s
    have y1:=uU (d:=s.From) (by omega) (by omega)
    have y2:=uU (d:=s.To - 1) (by omega) (by omega)
    obtain ⟨c1,c2,c3,c4,c5⟩:=Pb r (ny p s) (fun x hx=>h x (by simp [hx])) (by omega) (by omega)
    rw [List.foldl_cons]
    refine ⟨by omega,by omega,c3,c4,fun x hx=>?_⟩
    rcases List.mem_cons.1 hx with rfl | hx
    · exact ⟨by omega,by omega⟩
    · exact c5 x hx
theorem Ot (all:List GSpan) (h:EN all) (hl:all.length≤100000000):nX all = some (all.foldl ny (2100,1899)):=by
  rw [D2]
  have:=(vX all (fun i p=>cm all p.1 p.2 i) ny (fun _ _=>True) (fun i p hi _=>⟨?_,trivial⟩) (2100,1899) trivial).1
  · refine Eq.trans this ?_
    show cm all _ _ (all.length:Int) = _
    rw [pl,bg,cond_false]
  · have hr:=h _ (List.getElem_mem hi)
    obtain ⟨a,ha,ha1,ha2⟩:=MA (d:=all[i].From) (by omega) (by omega)
    obtain ⟨b,hb,hb1,hb2⟩:=MA (d:=all[i].To - 1) (by omega) (by omega)
    show cm all p.1 p.2 (i:Int) = cm all (ny p all[i]).1 (ny p all[i]).2 _
    rw [pl]
    simp only [aT hi,br,cond_true,aC,Bool.or_true,be hi,bf hi (by omega)]
    rw [aB (show ¬ all[i].To≤all[i].From by omega),cond_false,aB (show ¬ all[i].From < 0 by omega),cond_false,ha,Option.bind_some,ai (n:=all[i].To - 1) (by omega) (by omega),aB (show ¬ 73048 < all[i].To - 1 by omega),cond_false,hb,Option.bind_some,ha2,hb2,cond_true,cond_true,ha1,hb1]
    rfl
end Go.Ax
set_option linter.all false
/- The earnings of years: the two ways agree. -/
set_option maxRecDepth 100000
namespace Go.Ax
theorem UY {l:List GSpan} {lo:Int} (h:bV lo l):l.length≠0↔∃ d,cW l d:=by
  cases l with
  | nil=>exact ⟨fun h=>absurd rfl h,fun ⟨d,h⟩=>(dA h).elim⟩
  | cons s r=>exact ⟨fun _=>⟨s.From,s,by simp,Int.le_refl _,h.2.1⟩,fun _=>by simp⟩
theorem ID {A:List GSpan} (hA:EN A) {y:Int} (hy:0≤y∧y≤199):(bi A (oC y)).length≠0↔∃ s∈A,tJ s (1900+y):=by
  rw [UY (ew A (oC y)).1]
  have ys:=Lf hy.1 (show y≤200 by omega)
  constructor
  · rintro ⟨d,hd⟩
    obtain ⟨⟨⟨s,hs,h1,h2⟩,h3,h4⟩,h5,h6⟩:=((ew A (oC y)).2 d).1 hd
    have hr:=hA s hs
    have e:y = yr d:=IT hy.1 h3 h4
    have m1:=Pt (a:=s.From) (b:=d) h1 (by omega)
    have m2:=Pt (a:=d) (b:=s.To - 1) (by omega) (by omega)
    exact ⟨s,hs,by unfold tJ; omega⟩
  · rintro ⟨s,hs,h⟩
    have hr:=hA s hs
    unfold tJ at h
    by_cases e:y = yr s.From
    · obtain ⟨_,o1,o2⟩:=Qk (d:=s.From) (by omega)
      refine ⟨s.From,((ew A (oC y)).2 _).2 ⟨⟨⟨s,hs,Int.le_refl _,hr.2.1⟩, ?_, ?_⟩,by omega,by omega⟩⟩
      · show yS y≤s.From; rw [e]; exact o1
      · show s.From < yS (y+1); rw [e]; exact o2
    · obtain ⟨_,o1,o2⟩:=Qk (d:=s.From) (by omega)
      obtain ⟨p0,p1,p2⟩:=Qk (d:=s.To - 1) (by omega)
      have m1:=OX (a:=yr s.From+1) (b:=y) (by omega) (by have:=uU (d:=s.From) (by omega) (by omega); omega)
      have m2:=OX (a:=y) (b:=yr (s.To - 1)) (by omega) hy.1
      have m3:=xi y hy.1
      have m4:=Mz y
      refine ⟨yS y,((ew A (oC y)).2 _).2 ⟨⟨⟨s,hs,by omega,by omega⟩,Int.le_refl _, ?_⟩,by omega,by omega⟩⟩
      show yS y < yS (y+1); omega
theorem Uj {a b:List Int} (ha:a.Pairwise (· < ·)) (hb:b.Pairwise (· < ·)) (h:∀ x,x∈a↔x∈b):a = b :=
  CX ((List.perm_ext_iff_of_nodup (ha.imp fun h=>Int.ne_of_lt h) (hb.imp fun h=>Int.ne_of_lt h)).2 h) (ha.imp fun h=>Int.le_of_lt h) (hb.imp fun h=>Int.le_of_lt h)
theorem RQ {k:List Int} (h:k.Nodup):(fZ k).Pairwise (· < ·):=by
  have h1:=sw k
  have h2:(fZ k).Nodup:=(no k).nodup_iff.2 h
  exact (h1.and h2).imp fun ⟨a,b⟩=>by omega
noncomputable def mQ (l:List GFact) (c:List GCounted) (st:Int):List GSpan:=l.flatMap (gp l c st)
theorem Ug (l:List GFact) (c:List GCounted) (st:Int):EN (mQ l c st):=by
  intro s hs
  obtain ⟨f,_,h⟩:=List.mem_flatMap.1 hs
  exact uY (Je l c st f) (Int.le_refl _) s h
theorem Tc (l:List GFact) (c:List GCounted) (st:Int):(mQ l c st).length≤l.length*73050:=rT _ 73050 l fun f _=>tA l c st f
theorem UH (l:List GFact) (c:List GCounted) (st:Int) (P:GSpan→Prop):(∃ s∈mQ l c st,P s)↔∃ f∈mX l c st, ∃ s∈gV l c st f,P s:=by
  constructor
  · rintro ⟨s,hs,hP⟩
    obtain ⟨f,hf,h⟩:=List.mem_flatMap.1 hs
    cases hb:(bC f&&wH l c st f) with
    | false=>rw [Nd hb] at h; simp at h
    | true =>
      have hb2:=Bool.and_eq_true _ _ ▸ hb
      exact ⟨f,zQ.2 ⟨hf,hb2.1,hb2.2⟩,s,by rw [D1 hb2.1 hb2.2]; exact h,hP⟩
  · rintro ⟨f,hf,s,hs,hP⟩
    obtain ⟨h1,h2,h3⟩:=zQ.1 hf
    exact ⟨s,List.mem_flatMap.2 ⟨f,h1,by rw [← D1 h2 h3]; exact hs⟩,hP⟩
theorem K8 {T A:Type} (E:T→List A):∀ (l:List T) (p:List (List A) × List A),l.foldl (fun p f=>(p.1++[E f],p.2++E f)) p = (p.1++l.map E,p.2++l.flatMap E)
  | [],p=>by simp
  | f :: r,p=>by rw [List.foldl_cons,K8 E r]; simp
section
variable {t:List GRate} (ht:lH t) {to:Int} (hto:1≤to∧to≤999) {st:Int} (hst:0≤st∧st < 6) {l:List GFact} (hl:l.length≤50) {c:List GCounted} (hc:c.length≤100000)
include ht hto hst hl hc
theorem Rl:dl c st to t 0 l [] [] = (nX (mQ l c st)).bind fun r1=>dD to t r1.2 r1.1 l (l.map (gp l c st)) (mQ l c st) [] (⟨1,1⟩:GRounding):=by
  have:=(vX l (fun i (p:List (List GSpan) × List GSpan)=>dl c st to t i l p.1 p.2) (fun p f=>(p.1++[gp l c st f],p.2++gp l c st f)) (fun i p=>p.1.length = i∧p.2.length≤i*73050) (fun i p hi hp=>⟨?_, ?_⟩) ([],[]) (by simp)).1
  · refine Eq.trans this ?_
    rw [K8,List.nil_append,List.nil_append]
    show dl c st to t (l.length:Int) l (l.map (gp l c st)) (mQ l c st) = _
    rw [pU,bg,cond_false]
  · have hs:=tA l c st l[i]
    have hb:i*73050≤50*73050:=Nat.mul_le_mul_right _ (by omega)
    show dl _ _ _ _ _ _ _ _ = dl _ _ _ _ _ _ _ _
    rw [pU]
    simp only [aT hi,br,cond_true,aC,Bool.or_true,be hi,bf hi (by omega)]
    rw [OS l c st _ (by omega) hc,Option.bind_some,jx (by omega) (by omega),aP (by omega),aP (by omega)]
  · have hs:=tA l c st l[i]
    refine ⟨by simp [hp.1], ?_⟩
    show (p.2++gp l c st l[i]).length≤(i+1)*73050
    rw [List.length_append,Nat.add_mul]
    omega
theorem RJ:∃ ys:List Int,ys.Pairwise (· < ·)∧(∀ y∈ys,0≤y∧y≤199) ∧
    mn c st to t l = some ((iX t to (gV l c st) (mX l c st) ys []).1,(iX t to (gV l c st) (mX l c st) ys []).2,l) ∧
    qZ c st to t l = some ((iX t to (gV l c st) (mX l c st) ys []).1,(iX t to (gV l c st) (mX l c st) ys []).2,l):=by
  have hA:=Ug l c st
  have hAl:=Tc l c st
  have hAl2:(mQ l c st).length≤4000000:=by
    have:l.length*73050≤50*73050:=Nat.mul_le_mul_right _ hl
    omega
  have hi:=Tp l c st
  have hyo:=Ot (mQ l c st) hA (by omega)
  obtain ⟨y1,y2,y3,y4,y5⟩:=Pb (mQ l c st) (2100,1899) hA (by decide) (by decide)
  generalize hP:(mQ l c st).foldl ny (2100,1899) = P at hyo y1 y2 y3 y4 y5
  obtain ⟨lo,hiY⟩:=P
  simp only at y1 y2 y3 y4 y5
  refine ⟨jW (mQ l c st) (lo - 1900) (hiY - lo+1).toNat,uR _ _ _,fun y hy=>?_, ?_, ?_⟩
  · have:=(qx _ _ _ _).1 hy
    omega
  ·
    rw [fY,aB (by omega),cond_false,aB (by omega),cond_false,aB (by omega),cond_false,aB (by omega),cond_false,ht.m,Option.bind_some,mo.2 rfl,cond_false,Oo l c st (by omega) hc,Option.bind_some]
    have hI:(fun f=>(⟨f,gV l c st f⟩:GEarnings_income)) = ME l c st:=rfl
    have hdays:∀ x∈(mX l c st).map (ME l c st),EN x.days∧x.days.length≤1000000:=by
      intro x hx
      obtain ⟨f,_,rfl⟩:=List.mem_map.1 hx
      have:=Fk l c st f
      exact ⟨uY (vT l c st f) (Int.le_refl _),by show (gV l c st f).length≤_; omega⟩
    obtain ⟨k,v,hz,he⟩:=V7 to t ((mX l c st).map (ME l c st)) l hdays (by rw [List.length_map]; omega) _ 0 [] [] (fun _=>False) (Nat.zero_add _) ⟨rfl,fun x hx=>by simp at hx,List.nodup_nil,fun z=>by simp⟩
    rw [show ((0:Nat):Int) = 0 from rfl] at he
    refine Eq.trans he ?_
    have hmem:∀ z,z∈k↔∃ s∈mQ l c st,tJ s z:=by
      intro z
      rw [hz.mem,List.drop_zero,UH]
      simp only [false_or,List.mem_map]
      constructor
      · rintro ⟨x,⟨f,hf,rfl⟩,s,hs,h⟩; exact ⟨f,hf,s,hs,h⟩
      · rintro ⟨f,hf,s,hs,h⟩; exact ⟨_,⟨f,hf,rfl⟩,s,hs,h⟩
    have hrng:∀ z∈k,1900≤z∧z≤2099:=by
      intro z hzk
      obtain ⟨s,hs,h⟩:=(hmem z).1 hzk
      have hr:=hA s hs
      have r1:=uU (d:=s.From) (by omega) (by omega)
      have r2:=uU (d:=s.To - 1) (by omega) (by omega)
      unfold tJ at h
      omega
    have hK:fZ k = (jW (mQ l c st) (lo - 1900) (hiY - lo+1).toNat).map fun y=>1900+y:=by
      refine Uj (RQ hz.nd) (List.pairwise_map.2 ((uR _ _ _).imp fun h=>by omega)) fun z=>?_
      rw [(no k).mem_iff,List.mem_map]
      constructor
      · intro hzk
        have hr:=hrng z hzk
        obtain ⟨s,hs,h⟩:=(hmem z).1 hzk
        have hb:=y5 s hs
        refine ⟨z - 1900,(qx _ _ _ _).2 ⟨by unfold tJ at h; omega,(ID hA (by omega)).2 ⟨s,hs,by rw [show 1900+(z - 1900) = z by omega]; exact h⟩⟩,by omega⟩
      · rintro ⟨y,hy,rfl⟩
        obtain ⟨h1,h2⟩:=(qx _ _ _ _).1 hy
        exact (hmem _).2 ((ID hA (by omega)).1 h2)
    have hKl:=Lh (mQ l c st) (hiY - lo+1).toNat (lo - 1900)
    have hkl:k.length≤1000:=by
      have:=(no k).length_eq
      rw [hK,List.length_map] at this
      omega
    have hwf:Se k = true:=List.all_eq_true.2 fun z hzk=>by
      have:=hrng z hzk
      rw [ay (by omega),ay (by omega)]; rfl
    rw [nE,bg,cond_false,aP hwf,aP (by omega),hK]
    have:=Q2 ht hto (l:=l) (D:=gV l c st) (fun f=>by have:=Fk l c st f; omega) (mX l c st) (by omega) k (jW (mQ l c st) (lo - 1900) (hiY - lo+1).toNat) (fun y hy=>by
      obtain ⟨h1,h2⟩:=(qx _ _ _ _).1 hy
      exact ⟨by omega,(hmem _).2 ((ID hA (by omega)).1 h2)⟩) ((uR _ _ _).imp fun h=>Int.ne_of_lt h) (by omega) _ [] v [] rfl hz.len (fun y _=>hz.get _) (by simp)
    rw [hI] at this
    exact this
  · rw [jG,aB (by omega),cond_false,aB (by omega),cond_false,aB (by omega),cond_false,aB (by omega),cond_false,ht.r,Option.bind_some,mo.2 rfl,cond_false,Rl ht hto hst hl hc,hyo,Option.bind_some]
    rw [JC fun y=>TN t to y l c st]
    have:=RG ht hto (by omega:l.length≤1000) (D:=gp l c st) (fun f=>by have:=tA l c st f; omega) (hiY - 1900) (by omega) (mQ l c st) (by omega) (fun s=>fU _ s hAl2) (hiY - lo+1).toNat (lo - 1900) [] (by omega) (by omega) (by omega) (by simp; omega)
    rw [show 1900+(hiY - 1900) = hiY by omega,show 1900+(lo - 1900) = lo by omega] at this
    exact this
end
end Go.Ax
