import Derived.Test.YtokecajedkojlaaGreatZP22
set_option linter.all false
/- The earnings of years: both ways of computing them. -/
set_option maxRecDepth 100000
namespace Go.Ax
theorem Us (s:GSpan):aU [] s = []:=oM (bL [] s).1 (show bP (-1) [] from trivial) fun d=>by
  rw [(bL _ _).2]; simp [cP]
theorem Pr (y:Int):en [] y = 0:=by unfold en; rw [Us]; rfl
theorem DC {l:List GFact} {c:List GCounted} {st:Int} {f:GFact} (h:bp f = true) (h2:xt l c st f = true):gG l c st f = aY l c st f:=by
  unfold aY
  have:(!(af (jR f st) 0)) = true:=by unfold xt at h2; exact (Bool.and_eq_true _ _ ▸ h2).1
  rw [h,this]; rfl
theorem Mr {l:List GFact} {c:List GCounted} {st:Int} {f:GFact} (h:(bp f&&xt l c st f) = false):aY l c st f = []:=by
  unfold aY
  cases h1:(bp f&&!(af (jR f st) 0)) with
  | false=>rfl
  | true =>
    rw [Bool.and_eq_true] at h1
    rw [h1.1,Bool.true_and] at h
    unfold xt at h
    rw [h1.2,Bool.true_and] at h
    have:=mK h
    exact List.eq_nil_of_length_eq_zero (l:=gG l c st f) (by omega)
theorem PC (l:List GFact) (c:List GCounted) (st:Int):mZ l c st = l.filter fun f=>bp f&&xt l c st f:=Pl _ _ _
theorem zg {l:List GFact} {c:List GCounted} {st:Int} {f:GFact}:f∈mZ l c st↔f∈l∧bp f = true∧xt l c st f = true:=by
  rw [PC,List.mem_filter,Bool.and_eq_true]
theorem LV (t:List GRate) (to y:Int) (l:List GFact) (c:List GCounted) (st:Int):bt t to y (gG l c st) (mZ l c st) 0 = bt t to y (aY l c st) l 0:=by
  rw [KA t to y (gG l c st) (aY l c st) (mZ l c st) 0 fun f hf=>DC (zg.1 hf).2.1 (zg.1 hf).2.2,PC]
  exact JY t to y (aY l c st) _ l 0 fun f _ hp=>by rw [Mr hp,Pr]
theorem JZ (l:List GFact) (c:List GCounted) (st:Int) (f:GFact):bP (-1) (aY l c st f):=by
  unfold aY
  cases (bp f&&!(af (jR f st) 0))
  · trivial
  · exact vT l c st f
theorem tU (l:List GFact) (c:List GCounted) (st:Int) (f:GFact):(aY l c st f).length≤73050:=pm (JZ l c st f)
section
variable {t:List GRate} (ht:pn t) {to:Int} (hto:1≤to∧to≤999) {l:List GFact} (hl:l.length≤1000) {D:GFact→List GSpan} (hD:∀ f,(D f).length≤100000)
include ht hto hl hD
theorem R8 {y:Int} (hy:0≤y∧y≤199) (hi:Int) (all:List GSpan) (out:List GEarning):∀ (rest pre:List GFact) (s:Int),l = pre++rest→(0≤s∧s≤(pre.length:Int)*27000000000) →
    (((bt t to y D rest s).2≠0∧cm to t hi (1900+y) s (pre.length:Int) l (l.map D) all out ⟨1,1⟩ (jh y) = some ([],(bt t to y D rest s).2,l)) ∨
     ((bt t to y D rest s).2 = 0∧cm to t hi (1900+y) s (pre.length:Int) l (l.map D) all out ⟨1,1⟩ (jh y) = cm to t hi (1900+y) (bt t to y D rest s).1 (l.length:Int) l (l.map D) all out ⟨1,1⟩ (jh y))):=by
  intro rest
  induction rest with
  | nil =>
    intro pre s hF' hs
    rw [List.append_nil] at hF'
    subst hF'
    exact .inr ⟨rfl,rfl⟩
  | cons f rest ih =>
    intro pre s hF' hs
    have hlen:pre.length < l.length:=by rw [hF']; simp
    have hlt:pre.length < (l.map D).length:=by rw [List.length_map]; exact hlen
    have hf:l[pre.length] = f:=by subst hF'; simp
    have hget:(l.map D)[pre.length] = D f:=by rw [List.getElem_map,hf]
    have hpre:l = (pre++[f])++rest:=by rw [hF']; simp
    have hn:wm (aU (D f) (jh y)) = some (en (D f) y):=(Ml (bL _ _).1).2
    have hm:0≤12*y+11∧12*y+11≤2399:=by omega
    have e:=ma to t hi (1900+y) s (pre.length:Int) l (l.map D) all out ⟨1,1⟩ (jh y)
    simp only [aP hlen,aP hlt,bj,cond_true,ay,bd hlt,bd hlen,hget,hf] at e
    rw [gc _ _ (by have:=hD f; omega),Option.bind_some,hn,Option.bind_some,aW hlen (by omega),show 1900+y - 1900 = y by omega,ah (n:=y) (by omega) (by omega),ah (n:=12*y) (by omega) (by omega),ah (n:=12*y+11) (by omega) (by omega)] at e
    have lp:(((pre++[f]).length:Nat):Int) = ((pre.length+1:Nat):Int):=by rw [List.length_append]; rfl
    by_cases hz:en (D f) y = 0
    · rw [hz,j9,cond_true] at e
      have es:bt t to y D (f :: rest) s = bt t to y D rest s:=by
        conv=>lhs; unfold bt
        rw [hz,j9,cond_true]
      rw [e,es, ← lp]
      exact ih (pre++[f]) s hpre (by rw [List.length_append]; simp only [List.length_cons,List.length_nil]; omega)
    · obtain ⟨c1,c2,c3,c4⟩:=LM (c:=f.Currency) ht (uO f (en (D f) y)) hto hm
      rw [fx.2 hz,cond_false,(D7 f _).2,Option.bind_some,c2,Option.bind_some] at e
      have es:bt t to y D (f :: rest) s = bif aK (qk t to (12*y+11) (cY f (en (D f) y)) f.Currency).2 0 then (0,(qk t to (12*y+11) (cY f (en (D f) y)) f.Currency).2) else
          bt t to y D rest (s+(qk t to (12*y+11) (cY f (en (D f) y)) f.Currency).1):=by
        conv=>lhs; unfold bt
        rw [fx.2 hz,cond_false]
      rw [e,es]
      generalize qk t to (12*y+11) (cY f (en (D f) y)) f.Currency = r at c3 ⊢
      by_cases hr:r.2 = 0
      · rw [hr,lE.2 rfl,cond_false,cond_false]
        have hw:ab (s+r.1) = s+r.1:=ah (by omega) (by
          have:(pre.length:Int)*27000000000≤1000*27000000000:=Int.mul_le_mul_of_nonneg_right (by omega) (by omega)
          omega)
        rw [hw, ← lp]
        exact ih (pre++[f]) (s+r.1) hpre (by
          rw [List.length_append]
          simp only [List.length_cons,List.length_nil]
          rw [show ((pre.length+(0+1):Nat):Int) = (pre.length:Int)+1 by omega,Int.add_mul]
          omega)
      · rw [mE.2 hr,cond_true,cond_true]
        exact .inl ⟨hr,rfl⟩
end
noncomputable def kh (all:List GSpan):Int→Nat→List Int
  | _,0=>[]
  | y,n+1=>bif af ((aU all (jh y)).length:Int) 0 then kh all (y+1) n else y :: kh all (y+1) n
theorem qT (all:List GSpan) (z:Int):∀ (n:Nat) (y:Int),z∈kh all y n↔(y≤z∧z < y+n)∧(aU all (jh z)).length≠0
  | 0,y=>by simp [kh]; omega
  | n+1,y=>by
    unfold kh
    have ih:=qT all z n (y+1)
    cases h:af ((aU all (jh y)).length:Int) 0 with
    | true =>
      have h0:=cA.1 h
      rw [cond_true,ih]
      constructor
      · rintro ⟨h1,h2⟩; exact ⟨by omega,h2⟩
      · rintro ⟨h1,h2⟩
        refine ⟨?_,h2⟩
        by_cases e:z = y
        · subst e; omega
        · omega
    | false =>
      have h0:=fx.1 h
      rw [cond_false,List.mem_cons,ih]
      constructor
      · rintro (rfl | ⟨h1,h2⟩)
        · exact ⟨by omega,by omega⟩
        · exact ⟨by omega,h2⟩
      · rintro ⟨h1,h2⟩
        by_cases e:z = y
        · exact .inl e
        · exact .inr ⟨by omega,h2⟩
theorem vh (all:List GSpan):∀ (n:Nat) (y:Int),(kh all y n).Pairwise (fun a b=>a < b)
  | 0,y=>by simp [kh]
  | n+1,y=>by
    unfold kh
    cases af ((aU all (jh y)).length:Int) 0 with
    | true=>exact vh all n (y+1)
    | false=>exact List.pairwise_cons.2 ⟨fun z hz=>by have:=(qT all z n (y+1)).1 hz; omega,vh all n (y+1)⟩
theorem LD (all:List GSpan):∀ (n:Nat) (y:Int),(kh all y n).length≤n
  | 0,y=>by simp [kh]
  | n+1,y=>by
    have:=LD all n (y+1)
    unfold kh
    cases af ((aU all (jh y)).length:Int) 0 <;> simp <;> omega
section
variable {t:List GRate} (ht:pn t) {to:Int} (hto:1≤to∧to≤999) {l:List GFact} (hl:l.length≤1000) {D:GFact→List GSpan} (hD:∀ f,(D f).length≤100000)
include ht hto hl hD
theorem R9 (hi:Int) (hh:hi≤199) (all:List GSpan) (ha:all.length≤100000000) (hcl:∀ s,gK all s = some (aU all s)):∀ (n:Nat) (y:Int) (out:List GEarning),y+n = hi+1∨(n = 0∧hi < y)→0≤y→y≤1000→(out.length:Int)≤y →
    dF to t (1900+hi) (1900+y) l (l.map D) all out ⟨1,1⟩ = some ((jf t to D l (kh all y n) out).1,(jf t to D l (kh all y n) out).2,l):=by
  intro n
  induction n with
  | zero =>
    intro y out hn h0 h1 ho
    rw [pI,aE (by omega),cond_false]
    rfl
  | succ n ih =>
    intro y out hn h0 h1 ho
    have hy:y≤hi:=by omega
    have step:dF to t (1900+hi) (1900+y) l (l.map D) all out ⟨1,1⟩ = ic to t (1900+hi) (1900+y) (yS y) (yS (y+1)) l (l.map D) all out ⟨1,1⟩:=by
      rw [pI,aB (by omega),cond_true,show 1900+y - 1900 = y by omega,ah (n:=y) (by omega) (by omega),ah (n:=12*y) (by omega) (by omega),Ti h0 (by omega),Option.bind_some,show 1900+y - 1899 = y+1 by omega,ah (n:=y+1) (by omega) (by omega),ah (n:=12*(y+1)) (by omega) (by omega)]
      by_cases e:y = 199
      · subst e
        rw [show (199:Int)+1 = 200 from rfl,Rx,Option.bind_some]
        rfl
      · rw [Ti (n:=y+1) (by omega) (by omega),Option.bind_some]
        rfl
    rw [step,xk,hcl,Option.bind_some,show 1900+y+1 = 1900+(y+1) by omega,ah (n:=1900+(y+1)) (by omega) (by omega)]
    unfold kh
    show (bif af ((aU all (jh y)).length:Int) 0 then _ else _) = _
    cases af ((aU all (jh y)).length:Int) 0 with
    | true=>rw [cond_true,cond_true]; exact ih (y+1) out (by omega) (by omega) (by omega) (by omega)
    | false =>
      rw [cond_false,cond_false]
      have er:jf t to D l (y :: kh all (y+1) n) out = bif aK (bt t to y D l 0).2 0 then ([],(bt t to y D l 0).2) else bif aa (1000000000000 < (bt t to y D l 0).1) then ([],2) else jf t to D l (kh all (y+1) n) (out++[⟨1900+y,(bt t to y D l 0).1⟩]):=by
        conv=>lhs; unfold jf
      rw [er]
      rcases R8 ht hto hl hD (y:=y) ⟨h0,by omega⟩ (1900+hi) all out l [] 0 rfl (by simp) with ⟨h2,h3⟩ | ⟨h2,h3⟩
      · rw [mE.2 h2,cond_true]; exact h3
      · rw [h2,lE.2 rfl,cond_false]
        refine h3.trans ?_
        rw [ma,aX,cond_false]
        by_cases hb:1000000000000 < (bt t to y D l 0).1
        · rw [aB hb,cond_true,cond_true]
        · rw [aE hb,cond_false,cond_false,jO (by omega) (by omega),show 1900+y+1 = 1900+(y+1) by omega,ah (n:=1900+(y+1)) (by omega) (by omega)]
          exact ih (y+1) (out++[⟨1900+y,(bt t to y D l 0).1⟩]) (by omega) (by omega) (by omega) (by rw [List.length_append]; simp; omega)
end
def nB (p:Int × Int) (s:GSpan):Int × Int:=(bif aa (1900+yr s.From < p.1) then 1900+yr s.From else p.1,bif aa (p.2 < 1900+yr (s.To - 1)) then 1900+yr (s.To - 1) else p.2)
theorem Wa (p:Int × Int) (s:GSpan):((nB p s).1≤p.1∧(nB p s).1≤1900+yr s.From∧((nB p s).1 = p.1∨(nB p s).1 = 1900+yr s.From))∧(p.2≤(nB p s).2∧1900+yr (s.To - 1)≤(nB p s).2∧((nB p s).2 = p.2∨(nB p s).2 = 1900+yr (s.To - 1))):=by
  unfold nB
  refine ⟨?_, ?_⟩
  · by_cases h:1900+yr s.From < p.1
    · rw [aB h]; exact ⟨by show 1900+yr s.From≤p.1; omega,Int.le_refl _, .inr rfl⟩
    · rw [aE h]; exact ⟨Int.le_refl _,by show p.1≤1900+yr s.From; omega, .inl rfl⟩
  · by_cases h:p.2 < 1900+yr (s.To - 1)
    · rw [aB h]; exact ⟨by show p.2≤1900+yr (s.To - 1); omega,Int.le_refl _, .inr rfl⟩
    · rw [aE h]; exact ⟨Int.le_refl _,by show 1900+yr (s.To - 1)≤p.2; omega, .inl rfl⟩
theorem PH:∀ (all:List GSpan) (p:Int × Int),Fj all→1900≤p.1→p.2≤2099→(all.foldl nB p).1≤p.1∧p.2≤(all.foldl nB p).2∧1900≤(all.foldl nB p).1∧(all.foldl nB p).2≤2099∧∀ s∈all,(all.foldl nB p).1≤1900+yr s.From∧1900+yr (s.To - 1)≤(all.foldl nB p).2
  | [],p,_,h1,h2=>⟨Int.le_refl _,Int.le_refl _,h1,h2,fun s hs=>by simp at hs⟩
  | s :: r,p,h,h1,h2=>by
    have hs:=h s (by simp)
    obtain ⟨⟨a1,a2,a3⟩,b1,b2,b3⟩:=Wa p s
    have y1:=ug (d:=s.From) (by omega) (by omega)
    have y2:=ug (d:=s.To - 1) (by omega) (by omega)
    obtain ⟨c1,c2,c3,c4,c5⟩:=PH r (nB p s) (fun x hx=>h x (by simp [hx])) (by omega) (by omega)
    rw [List.foldl_cons]
    refine ⟨by omega,by omega,c3,c4,fun x hx=>?_⟩
    rcases List.mem_cons.1 hx with rfl | hx
    · exact ⟨by omega,by omega⟩
    · exact c5 x hx
theorem OW (all:List GSpan) (h:Fj all) (hl:all.length≤100000000):nP all = some (all.foldl nB (2100,1899)):=by
  rw [DW]
  have:=(qX all (fun i p=>ck all p.1 p.2 i) nB (fun _ _=>True) (fun i p hi _=>⟨?_,trivial⟩) (2100,1899) trivial).1
  · refine Eq.trans this ?_
    show ck all _ _ (all.length:Int) = _
    rw [pb,aX,cond_false]
  · have hr:=h _ (List.getElem_mem hi)
    obtain ⟨a,ha,ha1,ha2⟩:=Mp (d:=all[i].From) (by omega) (by omega)
    obtain ⟨b,hb,hb1,hb2⟩:=Mp (d:=all[i].To - 1) (by omega) (by omega)
    show ck all p.1 p.2 (i:Int) = ck all (nB p all[i]).1 (nB p all[i]).2 _
    rw [pb]
    simp only [aP hi,bj,cond_true,ay,Bool.or_true,bd hi,aW hi (by omega)]
    rw [aE (show ¬ all[i].To≤all[i].From by omega),cond_false,aE (show ¬ all[i].From < 0 by omega),cond_false,ha,Option.bind_some,ah (n:=all[i].To - 1) (by omega) (by omega),aE (show ¬ 73048 < all[i].To - 1 by omega),cond_false,hb,Option.bind_some,ha2,hb2,cond_true,cond_true,ha1,hb1]
    rfl
end Go.Ax
set_option linter.all false
/- The earnings of years: the two ways agree. -/
set_option maxRecDepth 100000
namespace Go.Ax
theorem VN {l:List GSpan} {lo:Int} (h:bP lo l):l.length≠0↔∃ d,cP l d:=by
  cases l with
  | nil=>exact ⟨fun h=>absurd rfl h,fun ⟨d,h⟩=>(da h).elim⟩
  | cons s r=>exact ⟨fun _=>⟨s.From,s,by simp,Int.le_refl _,h.2.1⟩,fun _=>by simp⟩
theorem HY {A:List GSpan} (hA:Fj A) {y:Int} (hy:0≤y∧y≤199):(aU A (jh y)).length≠0↔∃ s∈A,tW s (1900+y):=by
  rw [VN (bL A (jh y)).1]
  have ys:=NA hy.1 (show y≤200 by omega)
  constructor
  · rintro ⟨d,hd⟩
    obtain ⟨⟨⟨s,hs,h1,h2⟩,h3,h4⟩,h5,h6⟩:=((bL A (jh y)).2 d).1 hd
    have hr:=hA s hs
    have e:y = yr d:=xA hy.1 h3 h4
    have m1:=P7 (a:=s.From) (b:=d) h1 (by omega)
    have m2:=P7 (a:=d) (b:=s.To - 1) (by omega) (by omega)
    exact ⟨s,hs,by unfold tW; omega⟩
  · rintro ⟨s,hs,h⟩
    have hr:=hA s hs
    unfold tW at h
    by_cases e:y = yr s.From
    · obtain ⟨_,o1,o2⟩:=QJ (d:=s.From) (by omega)
      refine ⟨s.From,((bL A (jh y)).2 _).2 ⟨⟨⟨s,hs,Int.le_refl _,hr.2.1⟩, ?_, ?_⟩,by omega,by omega⟩⟩
      · show yS y≤s.From; rw [e]; exact o1
      · show s.From < yS (y+1); rw [e]; exact o2
    · obtain ⟨_,o1,o2⟩:=QJ (d:=s.From) (by omega)
      obtain ⟨p0,p1,p2⟩:=QJ (d:=s.To - 1) (by omega)
      have m1:=P6 (a:=yr s.From+1) (b:=y) (by omega) (by have:=ug (d:=s.From) (by omega) (by omega); omega)
      have m2:=P6 (a:=y) (b:=yr (s.To - 1)) (by omega) hy.1
      have m3:=xH y hy.1
      have m4:=Nj y
      refine ⟨yS y,((bL A (jh y)).2 _).2 ⟨⟨⟨s,hs,by omega,by omega⟩,Int.le_refl _, ?_⟩,by omega,by omega⟩⟩
      show yS y < yS (y+1); omega
theorem Ul {a b:List Int} (ha:a.Pairwise (· < ·)) (hb:b.Pairwise (· < ·)) (h:∀ x,x∈a↔x∈b):a = b :=
  Dy ((List.perm_ext_iff_of_nodup (ha.imp fun h=>Int.ne_of_lt h) (hb.imp fun h=>Int.ne_of_lt h)).2 h) (ha.imp fun h=>Int.le_of_lt h) (hb.imp fun h=>Int.le_of_lt h)
theorem Tp {k:List Int} (h:k.Nodup):(gj k).Pairwise (· < ·):=by
  have h1:=sV k
  have h2:(gj k).Nodup:=(nI k).nodup_iff.2 h
  exact (h1.and h2).imp fun ⟨a,b⟩=>by omega
noncomputable def m9 (l:List GFact) (c:List GCounted) (st:Int):List GSpan:=l.flatMap (aY l c st)
theorem Um (l:List GFact) (c:List GCounted) (st:Int):Fj (m9 l c st):=by
  intro s hs
  obtain ⟨f,_,h⟩:=List.mem_flatMap.1 hs
  exact ot (JZ l c st f) (Int.le_refl _) s h
theorem UD (l:List GFact) (c:List GCounted) (st:Int):(m9 l c st).length≤l.length*73050:=rW _ 73050 l fun f _=>tU l c st f
theorem VV (l:List GFact) (c:List GCounted) (st:Int) (P:GSpan→Prop):(∃ s∈m9 l c st,P s)↔∃ f∈mZ l c st, ∃ s∈gG l c st f,P s:=by
  constructor
  · rintro ⟨s,hs,hP⟩
    obtain ⟨f,hf,h⟩:=List.mem_flatMap.1 hs
    cases hb:(bp f&&xt l c st f) with
    | false=>rw [Mr hb] at h; simp at h
    | true =>
      have hb2:=Bool.and_eq_true _ _ ▸ hb
      exact ⟨f,zg.2 ⟨hf,hb2.1,hb2.2⟩,s,by rw [DC hb2.1 hb2.2]; exact h,hP⟩
  · rintro ⟨f,hf,s,hs,hP⟩
    obtain ⟨h1,h2,h3⟩:=zg.1 hf
    exact ⟨s,List.mem_flatMap.2 ⟨f,h1,by rw [← DC h2 h3]; exact hs⟩,hP⟩
theorem NZ {T A:Type} (E:T→List A):∀ (l:List T) (p:List (List A) × List A),l.foldl (fun p f=>(p.1++[E f],p.2++E f)) p = (p.1++l.map E,p.2++l.flatMap E)
  | [],p=>by simp
  | f :: r,p=>by rw [List.foldl_cons,NZ E r]; simp
section
variable {t:List GRate} (ht:pn t) {to:Int} (hto:1≤to∧to≤999) {st:Int} (hst:0≤st∧st < 6) {l:List GFact} (hl:l.length≤50) {c:List GCounted} (hc:c.length≤100000)
include ht hto hst hl hc
theorem Ss:dl c st to t 0 l [] [] = (nP (m9 l c st)).bind fun r1=>dF to t r1.2 r1.1 l (l.map (aY l c st)) (m9 l c st) [] (⟨1,1⟩:GRounding):=by
  have:=(qX l (fun i (p:List (List GSpan) × List GSpan)=>dl c st to t i l p.1 p.2) (fun p f=>(p.1++[aY l c st f],p.2++aY l c st f)) (fun i p=>p.1.length = i∧p.2.length≤i*73050) (fun i p hi hp=>⟨?_, ?_⟩) ([],[]) (by simp)).1
  · refine Eq.trans this ?_
    rw [NZ,List.nil_append,List.nil_append]
    show dl c st to t (l.length:Int) l (l.map (aY l c st)) (m9 l c st) = _
    rw [qq,aX,cond_false]
  · have hs:=tU l c st l[i]
    have hb:i*73050≤50*73050:=Nat.mul_le_mul_right _ (by omega)
    show dl _ _ _ _ _ _ _ _ = dl _ _ _ _ _ _ _ _
    rw [qq]
    simp only [aP hi,bj,cond_true,ay,Bool.or_true,bd hi,aW hi (by omega)]
    rw [OL l c st _ (by omega) hc,Option.bind_some,jO (by omega) (by omega),aT (by omega),aT (by omega)]
  · have hs:=tU l c st l[i]
    refine ⟨by simp [hp.1], ?_⟩
    show (p.2++aY l c st l[i]).length≤(i+1)*73050
    rw [List.length_append,Nat.add_mul]
    omega
theorem RQ:∃ ys:List Int,ys.Pairwise (· < ·)∧(∀ y∈ys,0≤y∧y≤199) ∧
    jQ c st to t l = some ((jf t to (gG l c st) (mZ l c st) ys []).1,(jf t to (gG l c st) (mZ l c st) ys []).2,l) ∧
    Du c st to t l = some ((jf t to (gG l c st) (mZ l c st) ys []).1,(jf t to (gG l c st) (mZ l c st) ys []).2,l):=by
  have hA:=Um l c st
  have hAl:=UD l c st
  have hAl2:(m9 l c st).length≤4000000:=by
    have:l.length*73050≤50*73050:=Nat.mul_le_mul_right _ hl
    omega
  have hi:=TJ l c st
  have hyo:=OW (m9 l c st) hA (by omega)
  obtain ⟨y1,y2,y3,y4,y5⟩:=PH (m9 l c st) (2100,1899) hA (by decide) (by decide)
  generalize hP:(m9 l c st).foldl nB (2100,1899) = P at hyo y1 y2 y3 y4 y5
  obtain ⟨lo,hiY⟩:=P
  simp only at y1 y2 y3 y4 y5
  refine ⟨kh (m9 l c st) (lo - 1900) (hiY - lo+1).toNat,vh _ _ _,fun y hy=>?_, ?_, ?_⟩
  · have:=(qT _ _ _ _).1 hy
    omega
  ·
    rw [CT,aE (by omega),cond_false,aE (by omega),cond_false,aE (by omega),cond_false,aE (by omega),cond_false,ht.m,Option.bind_some,lE.2 rfl,cond_false,OE l c st (by omega) hc,Option.bind_some]
    have hI:(fun f=>(⟨f,gG l c st f⟩:GEarnings_income)) = Mh l c st:=rfl
    have hdays:∀ x∈(mZ l c st).map (Mh l c st),Fj x.days∧x.days.length≤1000000:=by
      intro x hx
      obtain ⟨f,_,rfl⟩:=List.mem_map.1 hx
      have:=Ft l c st f
      exact ⟨ot (vT l c st f) (Int.le_refl _),by show (gG l c st f).length≤_; omega⟩
    obtain ⟨k,v,hz,he⟩:=WL to t ((mZ l c st).map (Mh l c st)) l hdays (by rw [List.length_map]; omega) _ 0 [] [] (fun _=>False) (Nat.zero_add _) ⟨rfl,fun x hx=>by simp at hx,List.nodup_nil,fun z=>by simp⟩
    rw [show ((0:Nat):Int) = 0 from rfl] at he
    refine Eq.trans he ?_
    have hmem:∀ z,z∈k↔∃ s∈m9 l c st,tW s z:=by
      intro z
      rw [hz.mem,List.drop_zero,VV]
      simp only [false_or,List.mem_map]
      constructor
      · rintro ⟨x,⟨f,hf,rfl⟩,s,hs,h⟩; exact ⟨f,hf,s,hs,h⟩
      · rintro ⟨f,hf,s,hs,h⟩; exact ⟨_,⟨f,hf,rfl⟩,s,hs,h⟩
    have hrng:∀ z∈k,1900≤z∧z≤2099:=by
      intro z hzk
      obtain ⟨s,hs,h⟩:=(hmem z).1 hzk
      have hr:=hA s hs
      have r1:=ug (d:=s.From) (by omega) (by omega)
      have r2:=ug (d:=s.To - 1) (by omega) (by omega)
      unfold tW at h
      omega
    have hK:gj k = (kh (m9 l c st) (lo - 1900) (hiY - lo+1).toNat).map fun y=>1900+y:=by
      refine Ul (Tp hz.nd) (List.pairwise_map.2 ((vh _ _ _).imp fun h=>by omega)) fun z=>?_
      rw [(nI k).mem_iff,List.mem_map]
      constructor
      · intro hzk
        have hr:=hrng z hzk
        obtain ⟨s,hs,h⟩:=(hmem z).1 hzk
        have hb:=y5 s hs
        refine ⟨z - 1900,(qT _ _ _ _).2 ⟨by unfold tW at h; omega,(HY hA (by omega)).2 ⟨s,hs,by rw [show 1900+(z - 1900) = z by omega]; exact h⟩⟩,by omega⟩
      · rintro ⟨y,hy,rfl⟩
        obtain ⟨h1,h2⟩:=(qT _ _ _ _).1 hy
        exact (hmem _).2 ((HY hA (by omega)).1 h2)
    have hKl:=LD (m9 l c st) (hiY - lo+1).toNat (lo - 1900)
    have hkl:k.length≤1000:=by
      have:=(nI k).length_eq
      rw [hK,List.length_map] at this
      omega
    have hwf:SP k = true:=List.all_eq_true.2 fun z hzk=>by
      have:=hrng z hzk
      rw [aB (by omega),aB (by omega)]; rfl
    rw [nM,aX,cond_false,aT hwf,aT (by omega),hK]
    have:=QB ht hto (l:=l) (D:=gG l c st) (fun f=>by have:=Ft l c st f; omega) (mZ l c st) (by omega) k (kh (m9 l c st) (lo - 1900) (hiY - lo+1).toNat) (fun y hy=>by
      obtain ⟨h1,h2⟩:=(qT _ _ _ _).1 hy
      exact ⟨by omega,(hmem _).2 ((HY hA (by omega)).1 h2)⟩) ((vh _ _ _).imp fun h=>Int.ne_of_lt h) (by omega) _ [] v [] rfl hz.len (fun y _=>hz.get _) (by simp)
    rw [hI] at this
    exact this
  · rw [G9,aE (by omega),cond_false,aE (by omega),cond_false,aE (by omega),cond_false,aE (by omega),cond_false,ht.r,Option.bind_some,lE.2 rfl,cond_false,Ss ht hto hst hl hc,hyo,Option.bind_some]
    rw [Kr fun y=>LV t to y l c st]
    have:=R9 ht hto (by omega:l.length≤1000) (D:=aY l c st) (fun f=>by have:=tU l c st f; omega) (hiY - 1900) (by omega) (m9 l c st) (by omega) (fun s=>gc _ s hAl2) (hiY - lo+1).toNat (lo - 1900) [] (by omega) (by omega) (by omega) (by simp; omega)
    rw [show 1900+(hiY - 1900) = hiY by omega,show 1900+(lo - 1900) = lo by omega] at this
    exact this
end
end Go.Ax
