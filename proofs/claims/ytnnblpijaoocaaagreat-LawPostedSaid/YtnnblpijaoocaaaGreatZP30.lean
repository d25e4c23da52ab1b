import Derived.Test.YtnnblpijaoocaaaGreatZP13
import Derived.Test.YtnnblpijaoocaaaGreatZP15
import Derived.Test.YtnnblpijaoocaaaGreatZP12
import Derived.Test.YtnnblpijaoocaaaGreatZP5
set_option linter.all false
/- Made versions and the document's law end. -/
set_option maxRecDepth 100000
namespace Go.Ax
theorem fc (n k:Int) (h:0 < k) (h':k≤1000000000):En (fun y=>0≤y∧y < k) (cW n k):=by
 rw [HV n k (by omega),if_neg (by omega)]
 exact .some ⟨Int.emod_nonneg _ (by omega),Int.emod_lt_of_pos _ h⟩
end Go.Ax
set_option linter.all false
/- Postings: the map by routes;whatever the order of the walk, the sorted list is the same. -/
set_option maxRecDepth 100000
namespace Go.Ax
abbrev Rt:=GCompetence_route
theorem RA (x k:Rt):tV kR x k = true↔x = k:=by
 have e:tV kR x k = (ae x.seat k.seat&&ae x.state k.state):=(wD (s:=.GCompetence_route) rfl x k).trans rfl
 rw [e,Bool.and_eq_true]
 obtain ⟨a,b⟩:=x
 obtain ⟨c,d⟩:=k
 simp [ae]
theorem CM:∀ (ks:List Rt) (k:Rt),(aI kR ks k = ks.length∧k ∉ ks)∨(aI kR ks k < ks.length∧ks[aI kR ks k]? = some k)
 | [],k=>.inl ⟨rfl,by simp⟩
 | x :: r,k=>by
  have e:aI kR (x :: r) k = bif tV kR x k then 0 else aI kR r k+1:=rfl
  cases h:tV kR x k with
  | true =>
   rw [h,cond_true] at e
   have:=(RA x k).1 h
   subst this
   exact .inr ⟨by rw [e];simp,by rw [e];rfl⟩
  | false =>
   rw [h,cond_false] at e
   have hne:x≠k:=fun h'=>by rw [(RA x k).2 h'] at h;cases h
   rw [e]
   rcases CM r k with ⟨h1,h2⟩ | ⟨h1,h2⟩
   ·exact .inl ⟨by rw [h1];rfl,fun hm=>by rcases List.mem_cons.1 hm with h' | h'; exact hne h'.symm;exact h2 h'⟩
   ·exact .inr ⟨by simp;omega,by rw [List.getElem?_cons_succ];exact h2⟩
theorem MU (ks:List Rt) (r:Rt):dZ kR ks r = true↔r∈ks:=by
 unfold dZ
 rw [Nat.blt_eq]
 rcases CM ks r with ⟨h,hn⟩ | ⟨h1,h2⟩
 ·exact ⟨fun h'=>by have h'':aI kR ks r < ks.length:=h'; have h3:aI kR ks r = ks.length:=h;omega,fun h'=>absurd h' hn⟩
 ·exact ⟨fun _=>List.mem_of_getElem? h2,fun _=>h1⟩
def zr (r:Rt) (f:GFact):Bool:=ae f.Kind 4&&(ae f.Seat r.seat&&ae f.State r.state)
def aX (c:List GFact) (r:Rt):List GSpan:=(c.filter (zr r)).map GFact.Span
theorem oJ (r:Rt) (f:GFact):zr r f = true↔f.Kind = 4∧xL f = r:=by
 unfold zr xL
 obtain ⟨a,b⟩:=r
 simp [ae]
theorem no (c:List GFact) (f:GFact) (r:Rt):aX (c++[f]) r = aX c r++if zr r f = true then [f.Span] else []:=by
 unfold aX
 rw [List.filter_append,List.map_append]
 congr 1
 by_cases h:zr r f = true
 ·rw [if_pos h,List.filter_cons,if_pos h];rfl
 ·rw [if_neg h,List.filter_cons,if_neg h];rfl
theorem yj (c:List GFact) (r:Rt):(aX c r).length≤c.length:=by
 unfold aX
 rw [List.length_map]
 exact List.length_filter_le _ _
structure yY (c:List GFact) (s:List Rt × List (List GSpan)):Prop where
 len:s.1.length = s.2.length
 nd:s.1.Nodup
 val:∀ (p:Nat) (h:p < s.1.length),gD s.2 p [] = aX c s.1[p]
 mem:∀ r,r∈s.1↔aX c r≠[]
 le:s.1.length≤c.length
theorem OJ {c:List GFact} {s:List Rt × List (List GSpan)} (h:yY c s) (f:GFact):yY (c++[f]) (iH s f):=by
 obtain ⟨ks,vs⟩:=s
 obtain ⟨hlen,hnd,hval,hmem,hle⟩:=h
 simp only at hlen hnd hval hmem hle
 unfold iH
 cases hk:ae f.Kind 4 with
 | false =>
  have e:∀ r,aX (c++[f]) r = aX c r:=by
   intro r
   have:zr r f = false:=by unfold zr;rw [hk];rfl
   rw [no,this];simp
  rw [cond_false]
  exact ⟨hlen,hnd,fun p hp=>by rw [e];exact hval p hp,fun r=>by rw [e];exact hmem r,by simp;omega⟩
 | true =>
  rw [cond_true]
  have hk4:f.Kind = 4:=by simpa [ae] using hk
  generalize hr:xL f = r0
  have eT:aX (c++[f]) r0 = aX c r0++[f.Span]:=by rw [no,if_pos ((oJ _ _).2 ⟨hk4,hr⟩)]
  have eF:∀ r,r≠r0→aX (c++[f]) r = aX c r:=by
   intro r hne
   rw [no,if_neg (fun h=>hne (((oJ _ _).1 h).2.symm.trans hr)),List.append_nil]
  rcases CM ks r0 with ⟨h1,h2⟩ | ⟨h1,h2⟩
  ·have hno:dZ kR ks r0 = false:=by
    cases hb:dZ kR ks r0 with
    | false=>rfl
    | true=>exact absurd ((MU ks r0).1 hb) h2
   have hg:cw kR ks vs r0 ([]:List GSpan) = []:=by
    unfold cw
    rw [h1,List.getD_eq_getElem?_getD,List.getElem?_eq_none (by omega)];rfl
   have e0:aX c r0 = []:=by
    cases hd:aX c r0 with
    | nil=>rfl
    | cons a b=>exact absurd ((hmem r0).2 (by rw [hd];simp)) h2
   have e1:df kR ks r0 = ks++[r0]:=by unfold df;rw [hno];rfl
   have e2:di kR ks vs r0 (cw kR ks vs r0 []++[f.Span]) = vs++[[f.Span]]:=by unfold di;rw [hno,hg];rfl
   rw [e1,e2]
   refine ⟨by simp;omega, ?_, ?_, ?_,by simp;omega⟩
   ·show (ks++[r0]).Nodup
    rw [List.nodup_append]
    exact ⟨hnd,by simp,fun a ha b hb=>by simp at hb;subst hb;exact fun h=>h2 (h ▸ ha)⟩
   ·intro p hp
    simp only [List.length_append,List.length_cons,List.length_nil] at hp
    by_cases hpn:p < ks.length
    ·have g:gD (vs++[[f.Span]]) p [] = gD vs p []:=by
      unfold gD
      rw [List.getD_eq_getElem?_getD,List.getD_eq_getElem?_getD,List.getElem?_append_left (by omega)]
     show gD (vs++[[f.Span]]) p [] = aX (c++[f]) (ks++[r0])[p]
     rw [g,hval p hpn,List.getElem_append_left hpn,eF]
     intro he
     exact h2 (he ▸ List.getElem_mem hpn)
    ·have:p = ks.length:=by omega
     subst this
     show gD (vs++[[f.Span]]) ks.length [] = aX (c++[f]) (ks++[r0])[ks.length]
     have g:gD (vs++[[f.Span]]) ks.length [] = [f.Span]:=by
      unfold gD
      rw [List.getD_eq_getElem?_getD,hlen,List.getElem?_concat_length];rfl
     rw [g,List.getElem_concat_length rfl,eT,e0];rfl
   ·intro r
    show r∈ks++[r0]↔_
    rw [List.mem_append,List.mem_singleton]
    by_cases hrr:r = r0
    ·subst hrr
     exact ⟨fun _=>by rw [eT];simp,fun _=>.inr rfl⟩
    ·rw [eF r hrr, ← hmem r]
     exact ⟨fun h=>h.resolve_right hrr, .inl⟩
  ·have hyes:dZ kR ks r0 = true:=(MU ks r0).2 (List.mem_of_getElem? h2)
   have e1:df kR ks r0 = ks:=by unfold df;rw [hyes];rfl
   generalize hj:aI kR ks r0 = j at h1 h2
   have h3:ks[j] = r0:=by rw [List.getElem?_eq_getElem h1] at h2;exact Option.some.inj h2
   have hg:cw kR ks vs r0 ([]:List GSpan) = aX c r0:=by
    rw [← h3, ← hval j h1]
    unfold cw gD
    rw [h3,hj]
   have e2:di kR ks vs r0 (cw kR ks vs r0 []++[f.Span]) = vs.set j (aX c r0++[f.Span]):=by unfold di;rw [hyes,hg,hj];rfl
   rw [e1,e2]
   refine ⟨by simp;omega,hnd, ?_, ?_,by simp;omega⟩
   ·intro p hp
    show gD (vs.set j (aX c r0++[f.Span])) p [] = aX (c++[f]) ks[p]
    have hp:p < ks.length:=hp
    by_cases hpj:p = j
    ·subst hpj
     rw [h3,eT]
     unfold gD
     rw [List.getD_eq_getElem?_getD,List.getElem?_set,if_pos rfl,if_pos (by omega)];rfl
    ·have g:gD (vs.set j (aX c r0++[f.Span])) p [] = gD vs p []:=by
      unfold gD
      rw [List.getD_eq_getElem?_getD,List.getD_eq_getElem?_getD,List.getElem?_set,if_neg (fun h=>hpj h.symm)]
     rw [g,hval p hp,eF]
     intro he
     exact hpj ((List.getElem_inj hnd).1 (he.trans h3.symm))
   ·intro r
    show r∈ks↔_
    by_cases hrr:r = r0
    ·subst hrr
     exact ⟨fun _=>by rw [eT];simp,fun _=>List.mem_of_getElem? h2⟩
    ·rw [eF r hrr, ← hmem r]
theorem RW (c:List GFact):yY c (dj c):=by
 have key:∀ (rest pre:List GFact) (s:List Rt × List (List GSpan)),yY pre s→yY (pre++rest) (rest.foldl iH s):=by
  intro rest
  induction rest with
  | nil=>intro pre s h;rw [List.append_nil];exact h
  | cons f r ih =>
   intro pre s h
   rw [List.foldl_cons,show pre++f :: r = (pre++[f])++r by simp]
   exact ih _ _ (OJ h f)
 exact key c [] ([],[]) ⟨rfl,by simp,fun p h=>absurd h (by simp),fun r=>by simp [aX],by simp⟩
theorem GZ:Go.Sort.SWO dv:=by
 refine ⟨fun x=>by simp [dv,aa],fun x y z h1 h2=>?_,fun x y z h1 h2=>?_⟩
 ·simp only [dv,aa,ae,Bool.or_eq_true,Bool.and_eq_true,decide_eq_true_eq,beq_iff_eq] at *
  omega
 ·simp only [dv,aa,ae,Bool.or_eq_false_iff,Bool.and_eq_false_iff,decide_eq_false_iff_not,beq_eq_false_iff_ne,ne_eq] at *
  omega
theorem nA (a b:GPosting):dv b a = false↔a.Span.From < b.Span.From∨(a.Span.From = b.Span.From∧(a.Seat < b.Seat∨(a.Seat = b.Seat∧a.State≤b.State))):=by
 simp only [dv,aa,ae,Bool.or_eq_false_iff,Bool.and_eq_false_iff,decide_eq_false_iff_not,beq_eq_false_iff_ne,ne_eq]
 omega
theorem Hk:∀ {l:List GSpan} {lo:Int},dc lo l→∀ s∈l, ∀ t∈l,s.From = t.From→s = t
 | [],_,_,s,hs,_,_,_=>by cases hs
 | x :: r,lo,h,s,hs,t,ht,e=>by
  obtain ⟨h1,h2,h3,h4⟩:=h
  have low:∀ y∈r,x.From < y.From:=fun y hy=>by
   have hy':y.From < y.To:=(norm_inR' h4 y hy)
   have:=gP h4 (d:=y.From) ⟨y,hy,Int.le_refl _,hy'⟩
   omega
  rcases List.mem_cons.1 hs with hs | hs <;> rcases List.mem_cons.1 ht with ht | ht
  ·rw [hs,ht]
  ·have:=low t ht;rw [hs] at e;omega
  ·have:=low s hs;rw [ht] at e;omega
  ·exact Hk h4 s hs t ht e
where norm_inR':∀ {l:List GSpan} {lo:Int},dc lo l→∀ y∈l,y.From < y.To
 | [],_,_,y,hy=>by cases hy
 | x :: r,lo,h,y,hy=>by
  rcases List.mem_cons.1 hy with rfl | hy
  ·exact h.2.1
  ·exact norm_inR' h.2.2.2 y hy
noncomputable def fe (c:List GFact) (life:GSpan) (r:Rt):List GPosting:=(iM (aX c r) life).map fun s=>⟨r.seat,r.state,s⟩
theorem B9 {c:List GFact} {life:GSpan} {r:Rt} (h:aX c r = []):fe c life r = []:=by
 unfold fe
 have h1:=(mK (aX c r) life)
 cases e:iM (aX c r) life with
 | nil=>rfl
 | cons s t =>
  rw [e] at h1
  have:=(h1.2 s.From).1 ⟨s,by simp,Int.le_refl _,h1.1.2.1⟩
  rw [h] at this
  exact absurd this.1.1 dh
def PS (c:List GFact) (life:GSpan) (a:GPosting):Prop:=a.Span∈iM (aX c ⟨a.Seat,a.State⟩) life
theorem Gx {c:List GFact} {life:GSpan} {r:Rt}:∀ a∈fe c life r,PS c life a:=by
 intro a ha
 obtain ⟨s,hs,rfl⟩:=List.mem_map.1 ha
 exact hs
theorem Qc {c:List GFact} {life:GSpan} {a b:GPosting} (ha:PS c life a) (hb:PS c life b) (h1:dv b a = false) (h2:dv a b = false):a = b:=by
 rw [nA] at h1 h2
 obtain ⟨s1,s2,x⟩:=a
 obtain ⟨t1,t2,y⟩:=b
 simp only at h1 h2
 obtain rfl:s1 = t1:=by omega
 obtain rfl:s2 = t2:=by omega
 have:=Hk (mK _ _).1 x ha y hb (by omega)
 rw [this]
theorem G4 {c:List GFact} {life:GSpan} {l l':List GPosting} (hp:l.Perm l') (hin:∀ a∈l,PS c life a) (hs:l'.Pairwise fun a b=>dv b a = false):fm l = l':=by
 have h:=@wo _ ⟨zS .GPosting⟩ _ GZ l
 refine List.Perm.eq_of_pairwise (le:=fun a b=>dv b a = false) (fun a b ha hb h1 h2=>?_) h.2 hs (h.1.trans hp)
 exact Qc (hin a (h.1.mem_iff.1 ha)) (hin b (hp.mem_iff.2 hb)) h1 h2
theorem OW {c:List GFact} {life:GSpan} {l l':List GPosting} (hp:l.Perm l') (hin:∀ a∈l',PS c life a):fm l = fm l':=by
 have h:=@wo _ ⟨zS .GPosting⟩ _ GZ l'
 exact G4 (l':=fm l') (hp.trans h.1.symm) (fun a ha=>hin a (hp.mem_iff.1 ha)) h.2
def sy (seat state:Int):Nat→List Rt
 | 0=>[]
 | k+1=>⟨seat,state⟩ :: sy seat (state+1) k
def lc (seat:Int):Nat→List Rt
 | 0=>[]
 | k+1=>sy seat 0 6++lc (seat+1) k
theorem xu (seat:Int) (r:Rt):∀ (k:Nat) (state:Int),r∈sy seat state k↔r.seat = seat∧state≤r.state∧r.state < state+k
 | 0,state=>by simp only [sy,List.not_mem_nil,false_iff];omega
 | k+1,state=>by
  rw [sy,List.mem_cons,xu seat r k]
  obtain ⟨a,b⟩:=r
  simp only [GCompetence_route.mk.injEq]
  omega
theorem wh (r:Rt):∀ (k:Nat) (seat:Int),r∈lc seat k↔(seat≤r.seat∧r.seat < seat+k)∧0≤r.state∧r.state < 6
 | 0,seat=>by simp only [lc,List.not_mem_nil,false_iff];omega
 | k+1,seat=>by
  rw [lc,List.mem_append,xu,wh r k]
  omega
theorem MG (seat:Int):∀ (k:Nat) (state:Int),(sy seat state k).Nodup
 | 0,_=>by simp [sy]
 | k+1,state=>by
  rw [sy,List.nodup_cons]
  exact ⟨fun h=>by have:=(xu _ _ _ _).1 h;have e:(⟨seat,state⟩:Rt).state = state:=rfl;omega,MG seat k _⟩
theorem MW:∀ (k:Nat) (seat:Int),(lc seat k).Nodup
 | 0,_=>by simp [lc]
 | k+1,seat=>by
  rw [lc,List.nodup_append]
  refine ⟨MG _ _ _,MW k _,fun a ha b hb e=>?_⟩
  subst e
  rw [xu] at ha
  rw [wh] at hb
  omega
theorem LC {c:List GFact} {life:GSpan} {ks:List Rt} (hnd:ks.Nodup) (hmem:∀ r,r∈ks↔aX c r≠[]) (hc:∀ f∈c,f.Kind = 4→(0≤f.Seat∧f.Seat < 6)∧0≤f.State∧f.State < 6) :
  (ks.flatMap (fe c life)).Perm ((lc 0 6).flatMap (fe c life)):=by
 have hk:ks.Perm ((lc 0 6).filter fun r=>decide (aX c r≠[])):=by
  rw [List.perm_ext_iff_of_nodup hnd ((List.filter_sublist).nodup (MW 6 0))]
  intro r
  rw [List.mem_filter,decide_eq_true_eq,hmem r]
  refine ⟨fun h=>⟨?_,h⟩,fun h=>h.2⟩
  rw [wh]
  cases hd:c.filter (zr r) with
  | nil=>exact absurd (by unfold aX;rw [hd];rfl) h
  | cons f t =>
   have hf:f∈c.filter (zr r):=by rw [hd];simp
   obtain ⟨f1,f2⟩:=List.mem_filter.1 hf
   obtain ⟨f3,f4⟩:=(oJ _ _).1 f2
   have:=hc f f1 f3
   subst f4
   exact ⟨by simp [xL];omega,by simp [xL];omega⟩
 refine (List.Perm.flatMap_right _ hk).trans ?_
 have:∀ l:List Rt,(l.filter fun r=>decide (aX c r≠[])).flatMap (fe c life) = l.flatMap (fe c life):=by
  intro l
  induction l with
  | nil=>rfl
  | cons r t ih =>
   rw [List.filter_cons,List.flatMap_cons]
   by_cases h:aX c r = []
   ·rw [if_neg (by simp [h]),ih,B9 h];rfl
   ·rw [if_pos (by simp [h]),List.flatMap_cons,ih]
 rw [this]
end Go.Ax
set_option linter.all false
/- Both lists of postings are the same. -/
set_option maxRecDepth 100000
namespace Go.Ax
abbrev Dj (l:List GPosting):Prop:=l.Pairwise fun a b=>dv b a = false
theorem NB (l:List GPosting) (p:GPosting) (hl:l.length≤1000000) :
  ∃ a b,l = a++b∧nW l p = some (a++[p]++b)∧(∀ y∈b,p.Span.From < y.Span.From)∧(∀ q y,a = q++[y]→y.Span.From≤p.Span.From):=by
 rw [Dc]
 have fin:∀ (k:Nat),k≤l.length→(gb (aa (0≤(k:Int)))<|gb (aa ((k:Int)≤(l.length:Int)))<|gb (aa (((ao l 0 ((k:Int) - 0).toNat).length*32)≤140737488355328)) <|
    gb (aa ((ao l 0 ((k:Int) - 0).toNat).length≤140737488355328))<|gb (aa ((((ao l 0 ((k:Int) - 0).toNat).length+1)*32)≤140737488355328))<|gb (aa (((ao l 0 ((k:Int) - 0).toNat).length+1)≤140737488355328))<|gb (aa (0≤(k:Int))) <|
    gb (aa ((k:Int)≤(l.length:Int)))<|gb (aa ((l.length:Int)≤(l.length:Int)))<|gb (aa (((((ao l 0 ((k:Int) - 0).toNat)++[p]).length+(ao l (k:Int).toNat ((l.length:Int) - (k:Int)).toNat).length)*32)≤140737488355328)) <|
    gb (aa ((((ao l 0 ((k:Int) - 0).toNat)++[p]).length+(ao l (k:Int).toNat ((l.length:Int) - (k:Int)).toNat).length)≤140737488355328)) <|
    some (((ao l 0 ((k:Int) - 0).toNat)++[p])++(ao l (k:Int).toNat ((l.length:Int) - (k:Int)).toNat))) = some (l.take k++[p]++l.drop k):=by
  intro k hk
  have e1:ao l 0 ((k:Int) - 0).toNat = l.take k:=by
   unfold ao
   rw [List.drop_zero];congr 1
  have e2:ao l (k:Int).toNat ((l.length:Int) - (k:Int)).toNat = l.drop k:=by
   unfold ao
   rw [show (k:Int).toNat = k by omega,List.take_of_length_le]
   rw [List.length_drop];omega
  have l1:(l.take k).length = k:=by rw [List.length_take];omega
  have l2:(l.drop k).length = l.length - k:=List.length_drop
  rw [e1,e2]
  simp only [List.length_append,List.length_singleton,l1,l2]
  rw [ax (by omega),ax (by omega),ax (by omega),ax (by omega),ax (by omega),ax (by omega),ax (by omega),ax (by omega),ax (by omega),ax (by omega),ax (by omega)]
 have key:∀ (k:Nat),k≤l.length→(∀ y∈l.drop k,p.Span.From < y.Span.From)→∃ a b,l = a++b∧jS l (k:Int) p = some (a++[p]++b)∧(∀ y∈b,p.Span.From < y.Span.From)∧(∀ q y,a = q++[y]→y.Span.From≤p.Span.From):=by
  intro k
  induction k with
  | zero =>
   intro hk hd
   refine ⟨[],l,rfl, ?_,by simpa using hd,fun q y h=>by simp at h⟩
   rw [km,aL (p:=(0:Int) < ((0:Nat):Int)) (by omega)]
   simp only [Bool.false_and,Bool.not_false,Bool.true_or,av,cond_false]
   exact fin 0 (by omega)
  | succ k ih =>
   intro hk hd
   have hk':k < l.length:=by omega
   have e1:ac (((k+1:Nat):Int) - 1) = (k:Int):=by rw [al (by omega) (by omega)];omega
   have h0:aa ((0:Int) < ((k+1:Nat):Int)) = true:=au (by omega)
   by_cases hc:p.Span.From < l[k].Span.From
   ·obtain ⟨a,b,h1,h2,h3,h4⟩:=ih (by omega) (fun y hy=>by
     rw [List.drop_eq_getElem_cons hk'] at hy
     rcases List.mem_cons.1 hy with rfl | hy
     ·exact hc
     ·exact hd y hy)
    refine ⟨a,b,h1, ?_,h3,h4⟩
    rw [km,e1]
    simp only [h0,be hk',bp,Bool.or_true,av,cond_true,aR hk',au hc]
    exact h2
   ·refine ⟨l.take (k+1),l.drop (k+1),(List.take_append_drop _ _).symm, ?_,hd,fun q y h=>?_⟩
    ·rw [km,e1]
     simp only [h0,be hk',bp,Bool.or_true,av,cond_true,aR hk',aL hc,cond_false]
     exact fin (k+1) hk
    ·have h6:l.take (k+1) = l.take k++[l[k]]:=by rw [List.take_succ,List.getElem?_eq_getElem hk'];rfl
     rw [h6] at h
     have:=List.append_inj_right' h rfl
     simp at this
     rw [← this];omega
 exact key l.length (by omega) (by rw [List.drop_length];simp)
theorem H2 {out:List GPosting} {p:GPosting} (hs:Dj out) (hx:∀ x∈out,x.Seat < p.Seat∨(x.Seat = p.Seat∧x.State≤p.State)) (hl:out.length≤1000000) :
  ∃ r,nW out p = some r∧r.Perm (out++[p])∧Dj r:=by
 obtain ⟨a,b,rfl,h2,h3,h4⟩:=NB out p hl
 refine ⟨_,h2, ?_, ?_⟩
 ·rw [List.append_assoc,List.append_assoc]
  exact List.Perm.append_left _ List.perm_append_comm
 ·have hp:=List.pairwise_append.1 hs
  have ha:∀ x∈a,x.Span.From≤p.Span.From:=by
   intro x hx
   rcases iG a with rfl | ⟨q,y,rfl⟩
   ·cases hx
   ·have hy:=h4 q y rfl
    rcases List.mem_append.1 hx with hq | hq
    ·have:=(List.pairwise_append.1 hp.1).2.2 x hq y (by simp)
     rw [nA] at this;omega
    ·simp at hq;subst hq;exact hy
  have hap:∀ x∈a,dv p x = false:=by
   intro x hxa
   rw [nA]
   have h5:=ha x hxa
   have h6:=hx x (List.mem_append_left _ hxa)
   omega
  have hpb:∀ y∈b,dv y p = false:=by
   intro y hy
   rw [nA]
   have:=h3 y hy
   omega
  refine List.pairwise_append.2 ⟨List.pairwise_append.2 ⟨hp.1,by simp,fun x hx y hy=>?_⟩,hp.2.1,fun x hx y hy=>?_⟩
  ·simp at hy;rw [hy];exact hap x hx
  ·rcases List.mem_append.1 hx with hx | hx
   ·exact hp.2.2 x hx y hy
   ·simp at hx;subst hx;exact hpb y hy
structure my (out D:List GPosting) (seat state:Int):Prop where
 perm:out.Perm D
 srt:Dj out
 lex:∀ x∈out,x.Seat < seat∨(x.Seat = seat∧x.State≤state)
theorem my.mono {out D:List GPosting} {s t s' t':Int} (h:my out D s t) (e:s < s'∨(s = s'∧t≤t')):my out D s' t' :=
 ⟨h.perm,h.srt,fun x hx=>by have:=h.lex x hx;omega⟩
section
variable (l c:List GFact) (hl:l.length≤40) (hc:c.length≤40)
theorem Ql (seat state:Int) (s:List GSpan) (hs:s.length≤1000):∀ (n i:Nat) (out D:List GPosting),i+n = s.length→my out D seat state→out.length+n≤1000000 →
  ∃ out',eP l seat state (i:Int) c out s = cO l seat (ac (state+1)) c out'∧my out' (D++(s.drop i).map fun x=>⟨seat,state,x⟩) seat state:=by
 intro n
 induction n with
 | zero =>
  intro i out D hn hg ho
  have:i = s.length:=by omega
  subst this
  refine ⟨out,by rw [jY,bi,cond_false], ?_⟩
  rw [List.drop_length,List.map_nil,List.append_nil]
  exact hg
 | succ n ih =>
  intro i out D hn hg ho
  have hi:i < s.length:=by omega
  obtain ⟨r,h1,h2,h3⟩:=H2 (p:=⟨seat,state,s[i]⟩) hg.srt hg.lex (by omega)
  have hg':my r (D++[⟨seat,state,s[i]⟩]) seat state:=⟨h2.trans (hg.perm.append_right _),h3,fun x hx=>by
   rcases List.mem_append.1 (h2.mem_iff.1 hx) with hx | hx
   ·exact hg.lex x hx
   ·simp at hx;subst hx;right;exact ⟨rfl,Int.le_refl _⟩⟩
  have hlen:r.length = out.length+1:=by rw [h2.length_eq];simp
  obtain ⟨o,e1,e2⟩:=ih (i+1) r _ (by omega) hg' (by omega)
  refine ⟨o, ?_, ?_⟩
  ·rw [jY]
   simp only [be hi,bp,cond_true,av,Bool.or_true,aR hi,bd hi (by omega)]
   rw [h1,Option.bind_some]
   exact e1
  ·rw [List.drop_eq_getElem_cons hi,List.map_cons]
   rw [List.append_assoc] at e2
   exact e2
include hl hc
theorem Oz (seat state:Int) (h0:0≤state) (h6:state < 6) (out D:List GPosting) (hg:my out D seat state) (ho:out.length≤100000) :
  ∃ out',cO l seat state c out = cO l seat (state+1) c out'∧my out' (D++fe c (aT l) ⟨seat,state⟩) seat state:=by
 rw [lQ,au h6,cond_true]
 have hd:(aX c ⟨seat,state⟩).length≤40:=Nat.le_trans (yj _ _) hc
 have e:bq l seat state 0 c out [] = bq l seat state (c.length:Int) c out (aX c ⟨seat,state⟩):=by
  refine OH c (fun i s=>bq l seat state i c out s) (zr ⟨seat,state⟩) GFact.Span fun i s hi hs=>?_
  show bq _ _ _ _ _ _ _ = bq _ _ _ _ _ _ _
  rw [j5]
  simp only [be hi,bp,cond_true,av,Bool.or_true,aR hi,bd hi (by omega)]
  rw [oV]
  unfold zr
  cases ae c[i].Kind 4 <;> cases ae c[i].Seat seat <;> cases ae c[i].State state <;> rfl
 rw [e,j5,bi,cond_false,lv l (by omega),Option.bind_some,Ii _ _ (by omega),Option.bind_some]
 have hcl:=xf (aX c ⟨seat,state⟩) (aT l)
 obtain ⟨o,e1,e2⟩:=Ql l c seat state (iM (aX c ⟨seat,state⟩) (aT l)) (by omega) _ 0 out D (Nat.zero_add _) hg (by omega)
 rw [al (n:=state+1) (by omega) (by omega)] at e1
 exact ⟨o,e1,by rw [List.drop_zero] at e2;exact e2⟩
theorem ST (r:Rt):(fe c (aT l) r).length≤41:=by
 unfold fe
 rw [List.length_map]
 have:=xf (aX c r) (aT l)
 have:=yj c r
 omega
theorem Su (seat:Int) (hs0:0≤seat) (hs6:seat < 6):∀ (k:Nat) (state:Int) (out D:List GPosting),state+k = 6→0≤state→my out D seat state→out.length+41*k≤100000 →
  ∃ out',cO l seat state c out = eV l (seat+1) c out'∧my out' (D++(sy seat state k).flatMap (fe c (aT l))) (seat+1) 0∧out'.length≤out.length+41*k:=by
 intro k
 induction k with
 | zero =>
  intro state out D hk h0 hg ho
  refine ⟨out, ?_, ?_,by omega⟩
  ·rw [lQ,aL (by omega),cond_false,al (n:=seat+1) (by omega) (by omega)]
  ·rw [sy,List.flatMap_nil,List.append_nil]
   exact hg.mono (by omega)
 | succ k ih =>
  intro state out D hk h0 hg ho
  obtain ⟨o,e1,e2⟩:=Oz l c hl hc seat state h0 (by omega) out D hg (by omega)
  have hlen:o.length≤out.length+41:=by
   rw [e2.perm.length_eq,List.length_append, ← hg.perm.length_eq]
   have:=ST l c hl hc ⟨seat,state⟩
   omega
  obtain ⟨o2,f1,f2,f3⟩:=ih (state+1) o _ (by omega) (by omega) (e2.mono (by omega)) (by omega)
  refine ⟨o2,e1.trans f1, ?_,by omega⟩
  rw [sy,List.flatMap_cons, ← List.append_assoc]
  exact f2
theorem So:∀ (k:Nat) (seat:Int) (out D:List GPosting),seat+k = 6→0≤seat→my out D seat 0→out.length+246*k≤100000 →
  ∃ out',eV l seat c out = some out'∧my out' (D++(lc seat k).flatMap (fe c (aT l))) 6 0∧out'.length≤out.length+246*k:=by
 intro k
 induction k with
 | zero =>
  intro seat out D hk h0 hg ho
  refine ⟨out, ?_, ?_,by omega⟩
  ·rw [mh,aL (by omega),cond_false]
  ·rw [lc,List.flatMap_nil,List.append_nil]
   exact hg.mono (by omega)
 | succ k ih =>
  intro seat out D hk h0 hg ho
  obtain ⟨o,e1,e2,e3⟩:=Su l c hl hc seat h0 (by omega) 6 0 out D (by omega) (by omega) hg (by omega)
  obtain ⟨o2,f1,f2,f3⟩:=ih (seat+1) o _ (by omega) (by omega) e2 (by omega)
  refine ⟨o2, ?_, ?_,by omega⟩
  ·rw [mh,au (by omega),cond_true,e1]
   exact f1
  ·rw [lc,List.flatMap_append, ← List.append_assoc]
   exact f2
end
theorem yI (l:List GFact) (hl:l.length≤40):∃ out,jg l = some out∧out.Perm ((lc 0 6).flatMap (fe (l.filter aB) (aT l)))∧Dj out∧out.length≤1476:=by
 rw [AV,iQ l (by omega),Option.bind_some]
 have:=List.length_filter_le aB l
 obtain ⟨o,e1,e2,e3⟩:=So l (l.filter aB) hl (by omega) 6 0 [] [] (by omega) (by omega) ⟨.refl _,by simp,by simp⟩ (by simp)
 exact ⟨o,e1,e2.perm,e2.srt,by simpa using e3⟩
theorem Hb {A B:Type} (f:A→B):∀ (l:List A) (o:List B),l.foldl (fun o x=>o++[f x]) o = o++l.map f
 | [],o=>by simp
 | x :: r,o=>by rw [List.foldl_cons,Hb f r];simp
theorem R1 {n:Nat} {wl:List Int} (hnd:wl.Nodup) (hr:∀ x∈wl,0≤x∧x < (n:Int)) (hlen:wl.length = n):wl.Perm ((List.range n).map fun p:Nat=>(p:Int)):=by
 have hnd2:((List.range n).map fun p:Nat=>(p:Int)).Nodup:=by
  rw [List.nodup_iff_pairwise_ne,List.pairwise_map]
  exact List.Pairwise.imp (fun h e=>h (by omega)) (List.nodup_iff_pairwise_ne.1 List.nodup_range)
 have sub:wl ⊆ (List.range n).map fun p:Nat=>(p:Int):=by
  intro x hx
  have:=hr x hx
  exact List.mem_map.2 ⟨x.toNat,List.mem_range.2 (by omega),by omega⟩
 rw [List.perm_ext_iff_of_nodup hnd hnd2]
 intro a
 refine ⟨fun h=>sub h,fun h=>?_⟩
 by_cases ha:a∈wl
 ·exact ha
 ·exfalso
  have h1:(a :: wl).Nodup:=List.nodup_cons.2 ⟨ha,hnd⟩
  have h2:(a :: wl) ⊆ (List.range n).map fun p:Nat=>(p:Int):=fun x hx=>by
   rcases List.mem_cons.1 hx with rfl | hx
   ·exact h
   ·exact sub hx
  have:=h1.length_le_of_subset h2
  simp at this
  omega
theorem QC {n:Nat} {wl:List Int} (hlen:wl.length < n):iY n wl≠[]:=by
 intro h
 have hnd2:((List.range n).map fun p:Nat=>(p:Int)).Nodup:=by
  rw [List.nodup_iff_pairwise_ne,List.pairwise_map]
  exact List.Pairwise.imp (fun h e=>h (by omega)) (List.nodup_iff_pairwise_ne.1 List.nodup_range)
 have sub:((List.range n).map fun p:Nat=>(p:Int)) ⊆ wl:=by
  intro x hx
  obtain ⟨p,hp,rfl⟩:=List.mem_map.1 hx
  rw [List.mem_range] at hp
  by_cases hm:(p:Int)∈wl
  ·exact hm
  ·have:=pO.2 ⟨hp,hm⟩
   rw [h] at this
   cases this
 have:=hnd2.length_le_of_subset sub
 simp at this
 omega
theorem Q9 (l c:List GFact) (hl:l.length≤40) (hc:c.length≤40) (ks:List Rt) (vs:List (List GSpan)) (hk:ks.length≤40) (hv:∀ (p:Nat) (h:p < ks.length),gD vs p [] = aX c ks[p]):∀ (n:Nat) (out:List GPosting) (wl:List Int),
  wl.Nodup→(∀ x∈wl,0≤x∧x < (ks.length:Int))→wl.length+n = ks.length→out.Perm (wl.flatMap fun x=>fe c (aT l) (gD ks x.toNat (zS .GCompetence_route)))→out.length≤41*wl.length →
  eC l out (ks.length:Int) wl ks vs = some (fm (ks.flatMap (fe c (aT l)))):=by
 intro n
 induction n with
 | zero =>
  intro out wl hnd hr hlen hp ho
  have hw:=R1 hnd hr (by omega)
  have he:iY ks.length wl = []:=by
   cases h:iY ks.length wl with
   | nil=>rfl
   | cons p r =>
    have hm:p∈iY ks.length wl:=by rw [h];simp
    obtain ⟨h1,h2⟩:=pO.1 hm
    exact absurd (hw.mem_iff.2 (List.mem_map.2 ⟨p,List.mem_range.2 h1,rfl⟩)) h2
  rw [ju,jF,av,he]
  show (gb (aa (out.length≤4611686018427387903))<|some (fm out)) = _
  rw [ax (by omega)]
  congr 1
  have hp2:out.Perm (ks.flatMap (fe c (aT l))):=by
   refine hp.trans ((List.Perm.flatMap_right _ hw).trans ?_)
   rw [List.flatMap_map]
   have:(List.range ks.length).flatMap (fun p=>fe c (aT l) (gD ks ((p:Nat):Int).toNat (zS .GCompetence_route))) = ks.flatMap (fe c (aT l)):=by
    have e:ks = (List.range ks.length).map fun p=>gD ks ((p:Nat):Int).toNat (zS .GCompetence_route):=by
     apply List.ext_getElem (by simp)
     intro i h1 h2
     rw [List.getElem_map,List.getElem_range,aR h1]
    conv=>rhs;rw [e,List.flatMap_map]
   rw [this]
  refine OW (c:=c) (life:=aT l) hp2 fun a ha=>?_
  obtain ⟨r,_,h⟩:=List.mem_flatMap.1 ha
  exact Gx a h
 | succ n ih =>
  intro out wl hnd hr hlen hp ho
  have hne:=QC (n:=ks.length) (wl:=wl) (by omega)
  rw [ju,jF,av]
  have:List.isEmpty (iY ks.length wl) = false:=by
   cases h:iY ks.length wl with
   | nil=>exact absurd h hne
   | cons p r=>rfl
  rw [this,cond_false]
  refine vZ hne fun p hpm=>?_
  obtain ⟨h1,h2⟩:=pO.1 hpm
  rw [ax rfl,ax (by omega),ax (by omega),kr l (by omega),Option.bind_some]
  have ev:gD vs ((p:Nat):Int).toNat [] = aX c ks[p]:=by
   rw [show ((p:Nat):Int).toNat = p by omega];exact hv p h1
  rw [ev,aR h1]
  have hd:(aX c ks[p]).length≤40:=Nat.le_trans (yj _ _) hc
  rw [Ga _ _ (by omega),Option.bind_some]
  have hcl:=xf (aX c ks[p]) (aT l)
  generalize hr2:iM (aX c ks[p]) (aT l) = r2 at hcl
  have loop:=(mx r2 (fun i o=>bH l (r2.length:Int) i o ks[p] (ks.length:Int) ((p:Int) :: wl) r2 ks vs) (fun (o:List GPosting) s=>o++[(⟨ks[p].seat,ks[p].state,s⟩:GPosting)]) (fun i o=>o.length≤out.length+i) (fun i o hi ho=>⟨by
    show bH _ _ _ _ _ _ _ _ _ _ = bH _ _ _ _ _ _ _ _ _ _
    rw [iL]
    simp only [be hi,bp,cond_true,av,Bool.or_true,aR hi,bd hi (by omega)]
    rw [oV],by simp;omega⟩) out (by omega)).1
  refine Eq.trans loop ?_
  show bH _ _ _ _ _ _ _ _ _ _ = _
  rw [iL,bi,cond_false,Hb]
  have ep:r2.map (fun s=>(⟨ks[p].seat,ks[p].state,s⟩:GPosting)) = fe c (aT l) ks[p]:=by unfold fe;rw [hr2]
  rw [ep]
  have hpl:(fe c (aT l) ks[p]).length≤41:=by rw [← ep,List.length_map];omega
  refine ih _ _ (List.nodup_cons.2 ⟨h2,hnd⟩) (fun x hx=>?_) (by simp;omega) ?_ (by simp;omega)
  ·rcases List.mem_cons.1 hx with rfl | hx
   ·omega
   ·exact hr x hx
  ·rw [List.flatMap_cons,aR h1]
   exact (List.perm_append_comm).trans (List.Perm.append_left _ hp)
theorem NH {f:GFact} (h:aB f = true) (hk:f.Kind = 4):(0≤f.Seat∧f.Seat < 6)∧0≤f.State∧f.State < 6:=by
 have hv:cH f = true:=by
  unfold aB at h
  cases hv:cH f with
  | true=>rfl
  | false=>rw [hv] at h;cases h
 have hs:=((lr f).1 hv).2.2.2.2.2
 rw [hk] at hs
 have b1:cI 4 83 = true:=by decide
 have b2:cI 4 84 = true:=by decide
 have hs1:=hs.1
 have hs2:=hs.2.1
 rw [b1] at hs1
 rw [b2] at hs2
 unfold bj at hs1 hs2
 rw [if_pos rfl,l6] at hs1 hs2
 omega
theorem rH (l:List GFact) (hl:l.length≤40):∃ p,jg l = some p∧dL l = some p∧p.Perm ((lc 0 6).flatMap (fe (l.filter aB) (aT l)))∧Dj p∧p.length≤1476:=by
 obtain ⟨p,h1,h2,h3,h4⟩:=yI l hl
 refine ⟨p,h1, ?_,h2,h3,h4⟩
 rw [uw,ln l (by omega),Option.bind_some]
 have hcl:=List.length_filter_le aB l
 have hcr:∀ f∈l.filter aB,f.Kind = 4→(0≤f.Seat∧f.Seat < 6)∧0≤f.State∧f.State < 6:=fun f hf hk=>NH (List.mem_filter.1 hf).2 hk
 generalize l.filter aB = c at hcl hcr h2
 have es:tF (l,c,(c.length:Int),0,[],[]) = some (l,(dj c).1,(dj c).2):=by
  unfold tF
  simp only [jF]
  rw [au (by omega)];rfl
 rw [es,Option.bind_some]
 have hk:=RW c
 have:=Q9 l c hl (by omega) (dj c).1 (dj c).2 (by have:=hk.le;omega) hk.val (dj c).1.length [] [] (by simp) (by simp) (by simp) (.refl _) (by simp)
 refine Eq.trans this ?_
 congr 1
 exact G4 ((LC hk.nd hk.mem hcr).trans h2.symm) (fun a ha=>by
  obtain ⟨r,_,h⟩:=List.mem_flatMap.1 ha
  exact Gx a h) h3
end Go.Ax
set_option linter.all false
/- The law of a day, function by function;the example of chapter 15; LawUnder. -/
set_option maxRecDepth 100000
namespace Go.Ax
def bK (s:GSpan) (day:Int):Bool:=bif aa (s.From≤day) then aa (day < s.To) else false
theorem qT (s:GSpan) (d:Int):gj s d = some (bK s d):=v8 s d
theorem mP (s:GSpan) (d:Int):ga s d = some (bK s d):=Mb s d
theorem zn (ks:List Int) (v:Int) (hl:ks.length≤1000000):ko ks v = some (ks.any fun k=>ae v k):=by
 rw [Am,DR]
 refine (mV ks (fun i=>(dR ks v (ks.length:Int) i).bind fun r0=>some (aa (0≤r0))) (fun k=>ae v k) (some true) (some false) ?_ fun i hi=>?_).trans (by cases ks.any _ <;> rfl)
 ·show (dR ks v (ks.length:Int) (ks.length:Int)).bind _ = _
  rw [ov,bi];rfl
 ·show (dR ks v (ks.length:Int) (i:Int)).bind _ = if ae v ks[i] = true then _ else (dR ks v (ks.length:Int) _).bind _
  rw [ov]
  simp only [be hi,bp,cond_true,av,Bool.or_true,aR hi,bd hi (by omega)]
  cases ae v ks[i] with
  | true=>rw [cond_true,Option.bind_some,au (by omega)];rfl
  | false=>rfl
theorem AR (l:List GSpan) (day:Int) (hl:l.length≤1000000):oU l day = some (!(aa (day < 0))&&(!(aa (73049≤day))&&l.any fun s=>bK s day)):=by
 rw [A7,ux,ya]
 have:(ck l day (l.length:Int) 0).bind (fun r0=>some (aa (0≤r0))) = some (l.any fun s=>bK s day):=by
  refine (mV l (fun i=>(ck l day (l.length:Int) i).bind fun r0=>some (aa (0≤r0))) (fun s=>bK s day) (some true) (some false) ?_ fun i hi=>?_).trans (by cases l.any _ <;> rfl)
  ·show (ck l day (l.length:Int) (l.length:Int)).bind _ = _
   rw [lP,bi];rfl
  ·show (ck l day (l.length:Int) (i:Int)).bind _ = if bK l[i] day = true then _ else (ck l day (l.length:Int) _).bind _
   rw [lP]
   simp only [be hi,bp,cond_true,av,Bool.or_true,aR hi,bd hi (by omega)]
   rw [xT,Option.bind_some]
   show Option.bind (bif bK l[i] day then (some (i:Int)) else _) _ = _
   cases bK l[i] day with
   | true=>rw [cond_true,Option.bind_some,au (by omega)];rfl
   | false=>rfl
 rw [this]
 cases aa (day < 0) <;> cases aa (73049≤day) <;> rfl
def cd (day:Int) (ks:List Int) (f:GFact):Bool:=(ks.any fun k=>ae f.Kind k)&&bK f.Span day
theorem sM (x:GCompetence_life) (day:Int) (ks:List Int) (hl:x.facts.length≤1000000) (hk:ks.length≤1000):ce x day ks = some (x.facts.filter (cd day ks)):=by
 rw [uP]
 refine (IE x.facts (fun i out=>bB day ks x.facts (x.facts.length:Int) i out) (cd day ks) fun i out hi ho=>?_).trans ?_
 ·show bB _ _ _ _ _ _ = bB _ _ _ _ _ _
  rw [kG]
  simp only [be hi,bp,cond_true,av,Bool.or_true,aR hi,bd hi (by omega)]
  rw [zn _ _ (by omega),Option.bind_some,qT,Option.bind_some,oV]
  unfold cd
  cases (ks.any fun k=>ae x.facts[i].Kind k) <;> cases bK x.facts[i].Span day <;> rfl
 ·show bB _ _ _ _ _ _ = _
  rw [kG,bi];rfl
theorem xK (l:List GFact) (hl:l.length≤40) (h:∀ f∈l.filter aB,f.Kind≠4):dL l = some []:=by
 obtain ⟨p,_,h2,h3,_,_⟩:=rH l hl
 have:(lc 0 6).flatMap (fe (l.filter aB) (aT l)) = []:=by
  rw [List.flatMap_eq_nil_iff]
  intro r _
  refine B9 ?_
  unfold aX
  rw [List.map_eq_nil_iff,List.filter_eq_nil_iff]
  intro f hf hr
  exact h f hf ((oJ _ _).1 hr).1
 rw [this] at h3
 rw [h2,h3.eq_nil]
theorem GQ (d:Int):lB d = some (bif aa (0≤d) then aa (d≤73048) else false):=A0 d
theorem De (x h:Int):io x h = some (bif aa (0≤x) then aa (x≤h) else false):=CK x h
def qu (r:GRules):Prop:=0≤r.From∧r.From≤73048∧0≤r.MinDays∧r.MinDays≤73049∧0≤r.PostingLimit∧r.PostingLimit≤73049∧0≤r.Substantial∧r.Substantial≤100
def Nm (ms:List Int):Prop:=ms.length≤100∧∀ (i:Nat) (hi:i < ms.length),0≤ms[i]∧ms[i]≤5∧∀ h:0 < i,ms[i - 1] < ms[i]
theorem NC (r:GRules) (h:qu r) (hm:Nm r.Members):sT r = some true:=by
 obtain ⟨a1,a2,a3,a4,a5,a6,a7,a8⟩:=h
 obtain ⟨b1,b2⟩:=hm
 rw [Ee]
 simp only [GQ,De,Option.bind_some,au a1,au a2,au a3,au a4,au a5,au a6,au a7,au a8,cond_true,Bool.not_true,cond_false]
 refine (mV r.Members (fun i=>dS r.Members (r.Members.length:Int) i r) (fun _=>false) none (some true) ?_ fun i hi=>?_).trans (by simp)
 ·show dS _ _ _ _ = _
  rw [oF,bi];rfl
 ·show dS _ _ _ _ = if (false:Bool) = true then none else dS r.Members (r.Members.length:Int) ((i+1:Nat):Int) r
  rw [if_neg (by simp)]
  obtain ⟨c1,c2,c3⟩:=b2 i hi
  rw [oF]
  simp only [be hi,bp,cond_true,av,Bool.or_true,aR hi,bd hi (by omega)]
  rw [De,au c1,au c2,cond_true,Option.bind_some]
  by_cases h0:0 < i
  ·have e:ac ((i:Int) - 1) = ((i - 1:Nat):Int):=by rw [al (by omega) (by omega)];omega
   rw [e,li (by simp),li (by simp;omega),aR (l:=r.Members) (i:=i - 1) (by omega),aL (p:=r.Members[i]≤r.Members[i - 1]) (by have:=c3 h0;omega)]
   cases aa (0 < (i:Int)) <;> simp
  ·have:i = 0:=by omega
   subst this
   simp
   rfl
theorem IS (t:List GRules) (ht:t.length≤8) (h0:0 < t.length) (hf:(gD t 0 (zS .GRules)).From = 0) (h:∀ (i:Nat) (hi:i < t.length),qu t[i]∧Nm t[i].Members∧∀ h:0 < i,t[i - 1].From < t[i].From):ny t = some 0:=by
 rw [Eg,aL (p:=8 < (t.length:Int)) (by omega),cond_false]
 have e:ae (t.length:Int) 0 = false:=gZ.2 (by omega)
 rw [e,au (p:=0 < (t.length:Int)) (by omega),hf,pc.2 rfl]
 show da _ _ _ _ = _
 refine (mV t (fun i=>da t t (t.length:Int) i) (fun _=>false) none (some 0) ?_ fun i hi=>?_).trans (by simp)
 ·show da _ _ _ _ = _
  rw [nF,bi];rfl
 ·show da _ _ _ _ = if (false:Bool) = true then none else da t t (t.length:Int) ((i+1:Nat):Int)
  rw [if_neg (by simp)]
  obtain ⟨c1,c2,c3⟩:=h i hi
  rw [nF]
  simp only [be hi,bp,cond_true,av,Bool.or_true,aR hi,bd hi (by omega)]
  rw [NC _ c1 c2,Option.bind_some]
  by_cases h0:0 < i
  ·have e:ac ((i:Int) - 1) = ((i - 1:Nat):Int):=by rw [al (by omega) (by omega)];omega
   rw [e,li (by simp),li (by simp;omega),aR (l:=t) (i:=i - 1) (by omega),aL (p:=t[i].From≤t[i - 1].From) (by have:=c3 h0;omega)]
   cases aa (0 < (i:Int)) <;> simp
  ·have:i = 0:=by omega
   subst this
   simp
   rfl
def Nl (day:Int) (f:GFact):Bool:=aB f&&(ae f.Kind 5&&bK f.Span day)
def EV (ok:Bool) (best f:GFact):Bool:=!ok||(aa (best.Span.From < f.Span.From)||(ae f.Span.From best.Span.From&&aa (f.State < best.State)))
def m5 (day:Int) (s:Bool × GFact) (f:GFact):Bool × GFact:=bif Nl day f then (bif EV s.1 s.2 f then (true,f) else s) else s
theorem nG (l:List GFact) (day:Int) (hl:l.length≤1000000):dy l day =
  some (bif (bif aa (0≤day) then aa (day≤73048) else false)&&bK (aT l) day then ((l.foldl (m5 day) (false,zS .GFact)).2.State,(l.foldl (m5 day) (false,zS .GFact)).1) else (0,false)):=by
 rw [xV,GQ,Option.bind_some,kr l hl,Option.bind_some,AR _ _ (by simp),Option.bind_some]
 have e:(!(aa (day < 0))&&(!(aa (73049≤day))&&[aT l].any fun s=>bK s day)) = ((bif aa (0≤day) then aa (day≤73048) else false)&&bK (aT l) day):=by
  rw [eY,List.any_cons,List.any_nil,Bool.or_false]
  have e1:aa (0≤day) = !(aa (day < 0)):=by
   by_cases h:0≤day
   ·rw [au h,aL (p:=day < 0) (by omega)];rfl
   ·rw [aL h,au (p:=day < 0) (by omega)];rfl
  have e2:aa (day≤73048) = !(aa (73049≤day)):=by
   by_cases h:73049≤day
   ·rw [au h,aL (p:=day≤73048) (by omega)];rfl
   ·rw [aL h,au (p:=day≤73048) (by omega)];rfl
  rw [e1,e2,Bool.and_assoc]
 rw [e]
 have loop:aZ day false l (l.length:Int) 0 (⟨0,0,0,false,0,0,0,(⟨0,0⟩:GSpan),0,0,0,0,0⟩:GFact) = some ((l.foldl (m5 day) (false,zS .GFact)).2.State,(l.foldl (m5 day) (false,zS .GFact)).1):=by
  refine (mx l (fun i (s:Bool × GFact)=>aZ day s.1 l (l.length:Int) i s.2) (m5 day) (fun _ _=>True) (fun i s hi _=>⟨?_,trivial⟩) (false,zS .GFact) trivial).1.trans ?_
  ·show aZ _ _ _ _ _ _ = aZ _ _ _ _ _ _
   rw [kQ]
   simp only [be hi,bp,cond_true,av,Bool.or_true,aR hi,bd hi (by omega)]
   rw [k9,Option.bind_some]
   generalize l[i] = f
   obtain ⟨ok,best⟩:=s
   unfold m5 Nl EV bK
   have e1:aa (day < f.Span.From) = !(aa (f.Span.From≤day)):=by
    by_cases h:f.Span.From≤day
    ·rw [au h,aL (p:=day < f.Span.From) (by omega)];rfl
    ·rw [aL h,au (p:=day < f.Span.From) (by omega)];rfl
   have e2:aa (f.Span.To≤day) = !(aa (day < f.Span.To)):=by
    by_cases h:day < f.Span.To
    ·rw [au h,aL (p:=f.Span.To≤day) (by omega)];rfl
    ·rw [aL h,au (p:=f.Span.To≤day) (by omega)];rfl
   have e3:bI f.Kind 5 = !(ae f.Kind 5):=rfl
   rw [e1,e2,e3]
   show _ = aZ day _ l (l.length:Int) _ _
   cases aB f <;> cases ae f.Kind 5 <;> cases aa (f.Span.From≤day) <;> cases aa (day < f.Span.To) <;> cases ok <;> cases aa (best.Span.From < f.Span.From) <;> cases ae f.Span.From best.Span.From <;> cases aa (f.State < best.State) <;> rfl
  ·show aZ _ _ _ _ _ _ = _
   rw [kQ,bi,cond_false]
 rw [loop]
 cases (bif aa (0≤day) then aa (day≤73048) else false) <;> cases bK (aT l) day <;> rfl
def DA:GFact:=⟨0,1,1,false,1,5,1,⟨100,200⟩,0,0,0,0,0⟩
def pI:GFact:=⟨0,2,1,false,1,1,1,⟨100,200⟩,2,20,1,0,0⟩
def pW:GFact:=⟨0,3,1,false,1,1,2,⟨100,200⟩,2,80,1,0,0⟩
def Dp:GCompetence_life:=⟨[DA,pI,pW],aT [DA,pI,pW],[],[⟨0,0,0,25,[]⟩]⟩
theorem Ru:[DA,pI,pW].filter aB = [DA,pI,pW]:=by kernel_rfl
theorem Uh:ce Dp 150 [1,2] = some [pI,pW]:=by
 rw [sM _ _ _ (by decide) (by decide)];kernel_rfl
theorem TO:ce Dp 150 [1] = some [pI,pW]:=by
 rw [sM _ _ _ (by decide) (by decide)];kernel_rfl
theorem T4:ce Dp 150 [3] = some []:=by
 rw [sM _ _ _ (by decide) (by decide)];kernel_rfl
theorem TU:dy [DA,pI,pW] 150 = some (1,true):=by
 rw [nG _ _ (by decide)];kernel_rfl
theorem Sf:gI [pI,pW] = some [2]:=by
 rw [oA]
 refine Eq.trans (b:=bM [pI,pW] 2 1 [2]) (by rw [dD];kernel_rfl) ?_
 refine Eq.trans (b:=bM [pI,pW] 2 2 [2,2]) (by rw [dD];kernel_rfl) ?_
 rw [dD];kernel_rfl
theorem Ua:cG Dp 150 25 = some (2,true):=by
 rw [jr,Uh,Option.bind_some]
 refine Eq.trans (b:=aQ 150 25 20 2 1 Dp [1] [20] [pI,pW]) (by rw [ca];kernel_rfl) ?_
 refine Eq.trans (b:=aQ 150 25 100 2 2 Dp [1,2] [20,80] [pI,pW]) (by rw [ca];kernel_rfl) ?_
 rw [ca,TO]
 show Option.bind (dy [DA,pI,pW] 150) _ = _
 rw [TU]
 show Option.bind (gI [pI,pW]) _ = _
 rw [Sf]
 kernel_rfl
theorem Un:tK [⟨0,0,0,25,[]⟩] 150 = some (⟨0,0,0,25,[]⟩,true):=by
 show mS [⟨0,0,0,25,[]⟩] 150 = _
 kernel_rfl
theorem TC:eR Dp 150 0 = some (0,false):=by
 rw [jZ,eD];kernel_rfl
theorem Sz:fU Dp 150 = some (0,false):=by
 rw [lh,T4,Option.bind_some,fj];kernel_rfl
theorem MB:me = some true:=by
 rw [Gr]
 have e:cB [DA,pI,pW] [⟨0,0,0,25,[]⟩] 150 = some (2,3):=by
  have hP:kP [DA,pI,pW] [⟨0,0,0,25,[]⟩] = some (Dp,true):=by
   rw [nc,ln _ (by decide),Option.bind_some,Ru,kr _ (by decide),Option.bind_some,xK _ (by decide) (by rw [Ru];decide),Option.bind_some,
    IS _ (by decide) (by decide) rfl (fun i hi=>by
     have:i = 0:=by simp at hi;omega
     subst this
     exact ⟨by simp [qu],⟨by simp,fun i hi=>by simp at hi⟩,fun h=>by omega⟩)]
   rfl
  rw [sH,hP,Option.bind_some,mn]
  show ((tK [⟨0,0,0,25,[]⟩] 150).bind _).bind _ = _
  rw [Un,Option.bind_some,qT,TC,Sz,Ua]
  kernel_rfl
 show (cB [DA,pI,pW] [⟨0,0,0,25,[]⟩] 150).bind _ = _
 rw [e]
 kernel_rfl
theorem Lo (l:List GPensionhand_Fact) (n:List Int) (dense:Bool) (hn:n.length≤9223372036854775807):En (fun a:List GFact=>a.length≤30) (sg l n dense):=by
 rw [Dv]
 have fin:∀ out:List GFact,out.length≤12→En (fun a:List GFact=>a.length≤30) (bif aa ((0:Int) < (n.length:Int)) then (qV n).bind fun r1=>(wN r1 1).bind fun r2=>gb (aa (((out.length+r2.length)*112)≤140737488355328))<|gb (aa ((out.length+r2.length)≤140737488355328))<|(gB (out++r2) []).bind fun r3=>some r3
   else (gB out []).bind fun r4=>some r4):=by
  intro out ho
  refine En.bif (fun _=>.bind (QS n hn) fun r1 h1=>?_) fun _=>.bind (Km out [] (by simp;omega)) fun r h=>.some (by simp at h;omega)
  rw [Kj r1 1 (by omega),Option.bind_some]
  have hf:=List.length_filter_le (RF 1) r1
  exact En.gd (by omega) (En.gd (by omega) (.bind (Km _ [] (by simp;omega)) fun r h=>.some (by simp at h;omega)))
 have key:∀ (k:Nat) (i:Int) (out:List GFact),12 - i≤k→0≤i→i≤12→(out.length:Int)≤i→En (fun a:List GFact=>a.length≤30) (jN l n dense i out):=by
  intro k
  induction k with
  | zero=>intro i out hk h0 hi ho;rw [og];exact En.and (fun _ e=>by have:=fQ e;omega) fun _=>fin out (by omega)
  | succ k ih =>
   intro i out hk h0 hi ho
   rw [og]
   refine En.and (fun a b=>?_) fun _=>fin out (by omega)
   have a:=fQ a
   have b:=fQ b
   have nx:∀ r,En (fun a:List GFact=>a.length≤30) (fG l n dense i out r):=by
    intro r
    rw [uI,al (n:=i+1) (by omega) (by omega)]
    exact .bind (M3 r) fun f _=>En.gd (by omega) (En.gd (by omega) (ih _ _ (by omega) (by omega) (by omega) (by simp;omega)))
   exact En.gd h0 (En.gd a (En.bif (fun _=>.bind (fc _ 60 (by decide) (by decide)) fun _ _=>.bind (fc _ 40 (by decide) (by decide)) fun _ _=>.bind (fc _ 14 (by decide) (by decide)) fun _ _=>En.bif (fun _=>nx _) fun _=>nx _) fun _=>nx _))
 exact key 12 0 [] (by omega) (by omega) (by omega) (by simp)
end Go.Ax
set_option linter.all false
/- The law of a day: rules, postings, civil service, benefits, residence, on both sides. -/
set_option maxRecDepth 100000
namespace Go.Ax
def cJ {T:Type} (p:T→Bool) (bt:T→T→Bool) (s:Bool × T) (f:T):Bool × T:=bif p f&&(!s.1||bt s.2 f) then (true,f) else s
theorem s8 {T:Type} (p:T→Bool) (bt:T→T→Bool):∀ (l:List T) (s:Bool × T),(l.filter p).foldl (cJ (fun _=>true) bt) s = l.foldl (cJ p bt) s
 | [],_=>rfl
 | f :: l,s=>by
  rw [List.filter_cons,List.foldl_cons]
  cases h:p f with
  | true =>
   rw [if_pos rfl,List.foldl_cons,s8 p bt l]
   unfold cJ
   rw [h]
  | false =>
   rw [if_neg (by simp),s8 p bt l]
   have:cJ p bt s f = s:=by unfold cJ;rw [h];rfl
   rw [this]
def Rq {T:Type} (l:List T) (z:T) (p:T→Bool) (i:Nat) (b:Int) (s:Bool × T):Prop:=(b = -1∧s = (false,z))∨(0≤b∧b < (i:Int)∧s = (true,gD l b.toNat z)∧p (gD l b.toNat z) = true)
theorem BV {T R:Type} (l:List T) (z:T) (F:Int→Int→Option R) (p:T→Bool) (bt:T→T→Bool)
  (h:∀ (i:Nat) (hi:i < l.length) (b:Int),(b = -1∨(0≤b∧b < (i:Int)))→F (i:Int) b = if (p l[i]&&(aa (b < 0)||bt (gD l b.toNat z) l[i])) = true then F ((i+1:Nat):Int) (i:Int) else F ((i+1:Nat):Int) b) :
  ∃ b:Int,F 0 (-1) = F (l.length:Int) b∧Rq l z p l.length b (l.foldl (cJ p bt) (false,z)):=by
 have key:∀ (n i:Nat) (b:Int) (s:Bool × T),l.length = i+n→Rq l z p i b s→∃ b':Int,F (i:Int) b = F (l.length:Int) b'∧Rq l z p l.length b' ((l.drop i).foldl (cJ p bt) s):=by
  intro n
  induction n with
  | zero =>
   intro i b s hn hr
   have:i = l.length:=by omega
   subst this
   refine ⟨b,rfl, ?_⟩
   rw [List.drop_length,List.foldl_nil]
   exact hr
  | succ n ih =>
   intro i b s hn hr
   have hi:i < l.length:=by omega
   have e:=h i hi b (by rcases hr with ⟨h1,_⟩ | ⟨h1,h2,_⟩;exact .inl h1;exact .inr ⟨h1,h2⟩)
   rw [List.drop_eq_getElem_cons hi,List.foldl_cons]
   have es:cJ p bt s l[i] = if (p l[i]&&(aa (b < 0)||bt (gD l b.toNat z) l[i])) = true then (true,l[i]) else s:=by
    unfold cJ
    rcases hr with ⟨h1,h2⟩ | ⟨h1,h2,h3,h4⟩
    ·rw [h1,h2,au (p:=(-1:Int) < 0) (by omega)]
     cases p l[i] <;> simp
    ·rw [h3,aL (p:=b < 0) (by omega)]
     cases p l[i] <;> cases bt (gD l b.toNat z) l[i] <;> simp
   rw [es,e]
   by_cases hc:(p l[i]&&(aa (b < 0)||bt (gD l b.toNat z) l[i])) = true
   ·rw [if_pos hc,if_pos hc]
    refine ih (i+1) (i:Int) _ (by omega) (.inr ⟨by omega,by omega,by rw [aR hi], ?_⟩)
    rw [aR hi]
    exact (Bool.and_eq_true _ _ ▸ hc).1
   ·rw [if_neg hc,if_neg hc]
    refine ih (i+1) b _ (by omega) ?_
    rcases hr with h1 | ⟨h1,h2,h3⟩
    ·exact .inl h1
    ·exact .inr ⟨h1,by omega,h3⟩
 exact key l.length 0 (-1) (false,z) (by omega) (.inl ⟨rfl,rfl⟩)
def cF (t:List GRules) (day:Int):GRules × Bool :=
 bif aa (day < 0)||aa (73049≤day) then (zS .GRules,false) else match t.reverse.find? (fun r=>aa (r.From≤day)) with | some r=>(r,true) | none=>(zS .GRules,false)
def Ez (t:List GRules):Prop:=t.length≤1000∧∀ r∈t,r.Members.length≤1000
theorem Il (t:List GRules) (day:Int) (h:Ez t):tK t day = some (cF t day):=by
 show mS t day = _
 unfold mS cF
 have:t.all (fun r=>aa (r.Members.length≤1000)) = true:=List.all_eq_true.2 fun r hr=>au (h.2 r hr)
 rw [this,au h.1]
 show (bif _ then _ else _) = _
 cases (aa (day < 0)||aa (73049≤day)) with
 | true=>rfl
 | false =>
  rw [cond_false,cond_false]
  cases t.reverse.find? (fun r=>aa (r.From≤day)) <;> rfl
theorem LG (t:List GRules) (day:Int) (h:Ez t):qw t day = some (cF t day):=by
 rw [CO,al (n:=(t.length:Int) - 1) (by omega) (by have:=h.1;omega)]
 have key:∀ (k:Nat),k≤t.length→iZ t day ((k:Int) - 1) (⟨0,0,0,0,[]⟩:GRules) = some (bif aa (day < 0)||aa (73049≤day) then (zS .GRules,false) else match (t.take k).reverse.find? (fun r=>aa (r.From≤day)) with | some r=>(r,true) | none=>(zS .GRules,false)):=by
  intro k
  induction k with
  | zero =>
   intro _
   rw [nR,aL (by omega),cond_false,List.take_zero]
   cases (aa (day < 0)||aa (73049≤day)) <;> rfl
  | succ k ih =>
   intro hk
   have hk':k < t.length:=by omega
   rw [nR,show (((k+1:Nat):Int) - 1) = (k:Int) by omega,bp,cond_true,rE,Option.bind_some]
   by_cases hd:0≤day∧day < 73049
   ·have e1:(aa (day < 0)||aa (73049≤day)) = false:=by rw [aL (by omega),aL (by omega)];rfl
    rw [e1]
    have:=h.2 _ (List.getElem_mem hk')
    have hv:(decide (0≤day)&&decide (day≤73048)) = true:=by simp;omega
    have ht:(t.take (k+1)).reverse = t[k] :: (t.take k).reverse:=by
     rw [List.take_succ,List.getElem?_eq_getElem hk'];simp
    rw [ht,List.find?_cons]
    simp only [e1,cond_false] at ih
    have ih:=ih (by omega)
    rw [al (n:=(k:Int) - 1) (by omega) (by have:=h.1;omega),ih]
    simp only [be hk',av,aR hk',cond_false]
    first
     | rw [hv]
     | skip
    by_cases hf:t[k].From≤day
    ·rw [au hf,ax (by omega),ax (by omega)]
     simp [hd.1,show day≤73048 by omega,aa]
    ·rw [aL hf]
     simp [hd.1,show day≤73048 by omega,aa]
   ·have e1:(aa (day < 0)||aa (73049≤day)) = true:=by
     by_cases h1:day < 0
     ·rw [au h1];rfl
     ·rw [au (p:=73049≤day) (by omega),Bool.or_true]
    rw [e1]
    have hv:(decide (0≤day)&&decide (day≤73048)) = false:=by
     rw [Bool.and_eq_false_iff,decide_eq_false_iff_not,decide_eq_false_iff_not];omega
    by_cases h1:0≤day
    ·simp [h1,show ¬ day≤73048 by omega,aa];rfl
    ·simp [h1,aa];rfl
 have:=key t.length (Nat.le_refl _)
 rw [List.take_length] at this
 exact this
def pB (day lim:Int) (p:GPosting):Bool:=bK p.Span day&&aa (day < p.Span.From+lim)
def qq (l:List GPosting) (day lim:Int):Int × Bool:=match l.find? (pB day lim) with | some p=>(p.Seat,true) | none=>(0,false)
def As (l:List GPosting):Prop:=l.length≤1000000∧∀ p∈l,0≤p.Span.From∧p.Span.From≤73049
theorem L5 (x:GCompetence_life) (day lim:Int) (h:As x.postings) (hl:0≤lim∧lim≤73049):eR x day lim = some (qq x.postings day lim):=by
 rw [jZ]
 unfold qq
 generalize x.postings = l at h
 have hle:=h.1
 have key:∀ (n i:Nat),l.length = i+n→dI day lim l (l.length:Int) (i:Int) = some (match (l.drop i).find? (pB day lim) with | some p=>(p.Seat,true) | none=>(0,false)):=by
  intro n
  induction n with
  | zero =>
   intro i hn
   have:i = l.length:=by omega
   subst this
   rw [eD,bi,cond_false,List.drop_length];rfl
  | succ n ih =>
   intro i hn
   have hi:i < l.length:=by omega
   have hr:=h.2 _ (List.getElem_mem hi)
   rw [eD,List.drop_eq_getElem_cons hi,List.find?_cons]
   simp only [be hi,bp,cond_true,av,Bool.or_true,aR hi,bd hi (by omega)]
   rw [ih (i+1) (by omega),qT,Option.bind_some,al (n:=l[i].Span.From+lim) (by omega) (by omega)]
   unfold pB
   cases bK l[i].Span day <;> cases aa (day < l[i].Span.From+lim) <;> rfl
 exact key l.length 0 (by omega)
def Dk (b f:GPosting):Bool:=ae f.Span.From b.Span.From&&aa (f.Seat < b.Seat)
theorem NM (day lim:Int):∀ (l:List GPosting),Dj l→l.foldl (cJ (pB day lim) Dk) (false,zS .GPosting) = match l.find? (pB day lim) with | some p=>(true,p) | none=>(false,zS .GPosting):=by
 have keep:∀ (l:List GPosting) (b:GPosting),(∀ x∈l,dv x b = false)→l.foldl (cJ (pB day lim) Dk) (true,b) = (true,b):=by
  intro l
  induction l with
  | nil=>intro b _;rfl
  | cons x r ih =>
   intro b hb
   rw [List.foldl_cons]
   have:cJ (pB day lim) Dk (true,b) x = (true,b):=by
    have h:=(nA b x).1 (hb x (by simp))
    have:Dk b x = false:=by
     unfold Dk ae
     rw [Bool.and_eq_false_iff]
     simp only [aa,decide_eq_false_iff_not,beq_eq_false_iff_ne]
     omega
    unfold cJ
    rw [this]
    cases pB day lim x <;> rfl
   rw [this]
   exact ih b fun y hy=>hb y (by simp [hy])
 intro l
 induction l with
 | nil=>intro _;rfl
 | cons x r ih =>
  intro hl
  have hp:=List.pairwise_cons.1 hl
  rw [List.foldl_cons,List.find?_cons]
  cases h:pB day lim x with
  | true =>
   have:cJ (pB day lim) Dk (false,zS .GPosting) x = (true,x):=by unfold cJ;rw [h];rfl
   rw [this]
   exact keep r x hp.1
  | false =>
   have:cJ (pB day lim) Dk (false,zS .GPosting) x = (false,zS .GPosting):=by unfold cJ;rw [h];rfl
   rw [this]
   exact ih hp.2
def Pe (b f:GFact):Bool:=aa (b.Share < f.Share)||(ae f.Share b.Share&&aa (f.State < b.State))
def qt (c:List GFact) (day:Int):Bool × GFact:=c.foldl (cJ (cd day [3]) Pe) (false,zS .GFact)
theorem Pw (x:GCompetence_life) (day:Int) (hl:x.facts.length≤1000000):fU x day = some ((qt x.facts day).2.State,(qt x.facts day).1):=by
 rw [lh,sM _ _ _ hl (by decide),Option.bind_some]
 unfold qt
 rw [← s8]
 have hle:=List.length_filter_le (cd day [3]) x.facts
 generalize x.facts.filter (cd day [3]) = l at hle
 refine ((mx l (fun i (s:Bool × GFact)=>bu s.1 (l.length:Int) i s.2 l) (cJ (fun _=>true) Pe) (fun _ _=>True) (fun i s hi _=>⟨?_,trivial⟩) (false,zS .GFact) trivial).1).trans ?_
 ·show bu _ _ _ _ _ = bu _ _ _ _ _
  rw [fj]
  simp only [be hi,bp,cond_true,av,Bool.or_true,aR hi,bd hi (by omega)]
  obtain ⟨ok,best⟩:=s
  unfold cJ Pe
  cases ok <;> cases aa (best.Share < l[i].Share) <;> cases ae l[i].Share best.Share <;> cases aa (l[i].State < best.State) <;> rfl
 ·show bu _ _ _ _ _ = _
  rw [fj,bi,cond_false]
def yo (day:Int) (b:Int) (f:GFact):Int:=bif cd day [7,8] f&&(aa (b < 0)||aa (f.State < b)) then f.State else b
def k5 (c:List GFact) (day:Int):Int:=c.foldl (yo day) (-1)
theorem Sv (a b:GFact):gu a b = some (if a.State < b.State then -1 else if b.State < a.State then 1 else 0):=by
 rw [oZ,Fy,yT,yT]
 simp only [Option.bind_some,pc.2 rfl,cond_false]
 by_cases h1:a.State < b.State
 ·rw [au h1,if_pos h1];rfl
 ·by_cases h2:b.State < a.State
  ·rw [aL h1,au h2,if_neg h1,if_pos h2];rfl
  ·rw [aL h1,aL h2,if_neg h1,if_neg h2];rfl
theorem wJ (day:Int):∀ (l:List GFact) (b:Int),(l.filter (cd day [7,8])).foldl (fun b f=>bif aa (b < 0)||aa (f.State < b) then f.State else b) b = l.foldl (yo day) b
 | [],_=>rfl
 | f :: l,b=>by
  rw [List.filter_cons,List.foldl_cons]
  cases h:cd day [7,8] f with
  | true =>
   rw [if_pos rfl,List.foldl_cons,wJ day l]
   unfold yo
   rw [h,Bool.true_and]
  | false =>
   rw [if_neg (by simp),wJ day l]
   have:yo day b f = b:=by unfold yo;rw [h];rfl
   rw [this]
theorem Mf (x:GCompetence_life) (day:Int) (hl:x.facts.length≤1000000) (hs:∀ f∈x.facts,cd day [7,8] f = true→0≤f.State) :
  ii x day = some (if k5 x.facts day < 0 then (0,false) else (k5 x.facts day,true)):=by
 rw [qp,sM _ _ _ hl (by decide),Option.bind_some]
 unfold k5
 rw [← wJ]
 have hle:=List.length_filter_le (cd day [7,8]) x.facts
 have hs':∀ f∈x.facts.filter (cd day [7,8]),0≤f.State:=fun f hf=>hs f (List.mem_filter.1 hf).1 (List.mem_filter.1 hf).2
 generalize x.facts.filter (cd day [7,8]) = l at hle hs'
 cases l with
 | nil=>rfl
 | cons f r =>
  rw [show ae ((f :: r).length:Int) 0 = false from gZ.2 (by simp only [List.length_cons];omega),cond_false,AX,aL (p:=((f :: r).length:Int) < 1) (by simp only [List.length_cons];omega),cond_false,ax (by simp only [List.length_cons];omega)]
  have key:∀ (n i:Nat) (m z:GFact),(f :: r).length = i+n→eU (f :: r) (i:Int) z m = some (((f :: r).drop i).foldl (fun m x=>if x.State < m.State then x else m) m):=by
   intro n
   induction n with
   | zero =>
    intro i m z hn
    have:i = (f :: r).length:=by omega
    subst this
    rw [lZ,bi,cond_false,List.drop_length];rfl
   | succ n ih =>
    intro i m z hn
    have hi:i < (f :: r).length:=by omega
    rw [lZ,List.drop_eq_getElem_cons hi,List.foldl_cons]
    simp only [be hi,bp,cond_true,av,Bool.or_true,aR hi,bd hi (by omega)]
    rw [Sv,Option.bind_some]
    by_cases h1:(f :: r)[i].State < m.State
    ·rw [if_pos h1,if_pos h1,au (by omega),cond_true]
     exact ih (i+1) _ _ (by omega)
    ·rw [if_neg h1,if_neg h1,aL (by split <;> omega),cond_false]
     exact ih (i+1) _ _ (by omega)
  have hk:=key r.length 1 f (⟨0,0,0,false,0,0,0,(⟨0,0⟩:GSpan),0,0,0,0,0⟩:GFact) (by simp;omega)
  rw [show gD (f :: r) 0 (zS .GFact) = f from rfl,show ((1:Nat):Int) = 1 from rfl] at *
  rw [hk,Option.bind_some]
  have red:∀ (l:List GFact) (m:GFact),0≤m.State→(∀ x∈l,0≤x.State)→(l.foldl (fun m x=>if x.State < m.State then x else m) m).State = l.foldl (fun (b:Int) f=>bif aa (b < 0)||aa (f.State < b) then f.State else b) m.State∧0≤l.foldl (fun (b:Int) f=>bif aa (b < 0)||aa (f.State < b) then f.State else b) m.State:=by
   intro l
   induction l with
   | nil=>intro m hm _;exact ⟨rfl,hm⟩
   | cons y t ih =>
    intro m hm hx
    rw [List.foldl_cons,List.foldl_cons,aL (p:=m.State < 0) (by omega),Bool.false_or]
    by_cases h1:y.State < m.State
    ·rw [if_pos h1,au h1,cond_true]
     exact ih y (hx y (by simp)) fun x h=>hx x (by simp [h])
    ·rw [if_neg h1,aL h1,cond_false]
     exact ih m hm fun x h=>hx x (by simp [h])
  obtain ⟨r1,r2⟩:=red r f (hs' f (by simp)) fun x hx=>hs' x (by simp [hx])
  rw [List.foldl_cons,au (p:=(-1:Int) < 0) (by omega),Bool.true_or,cond_true,if_neg (by omega),show (f :: r).drop 1 = r from rfl,r1]
def yW (day:Int) (f:GFact):Bool:=ae f.Kind 5&&bK f.Span day
def Mn (b f:GFact):Bool:=aa (b.Span.From < f.Span.From)||(ae f.Span.From b.Span.From&&aa (f.State < b.State))
def fk (c:List GFact) (day:Int):Bool × GFact:=c.foldl (cJ (yW day) Mn) (false,zS .GFact)
theorem R3 (l:List GFact):(l.filter aB).filter aB = l.filter aB:=by
 rw [List.filter_filter];congr 1;funext x;cases aB x <;> rfl
theorem Pl (l:List GFact):aT (l.filter aB) = aT l:=by
 unfold aT gk
 rw [R3]
theorem Bi (day:Int):∀ (c:List GFact),(∀ f∈c,aB f = true)→∀ s,c.foldl (m5 day) s = c.foldl (cJ (yW day) Mn) s
 | [],_,_=>rfl
 | f :: c,h,s=>by
  rw [List.foldl_cons,List.foldl_cons,Bi day c (fun g hg=>h g (by simp [hg]))]
  congr 1
  unfold m5 Nl cJ yW EV Mn
  rw [h f (by simp)]
  obtain ⟨ok,best⟩:=s
  cases ae f.Kind 5 <;> cases bK f.Span day <;> cases ok <;> cases aa (best.Span.From < f.Span.From) <;> cases ae f.Span.From best.Span.From <;> cases aa (f.State < best.State) <;> rfl
theorem qo (l:List GFact) (day:Int) (hl:l.length≤1000000) (hd:0≤day∧day≤73048) (hd2:bK (aT l) day = true) :
  dy (l.filter aB) day = some ((fk (l.filter aB) day).2.State,(fk (l.filter aB) day).1):=by
 rw [nG _ _ (Nat.le_trans (List.length_filter_le _ _) hl),Pl,hd2,au hd.1,au hd.2,Bi day _ fun f hf=>(List.mem_filter.1 hf).2]
 rfl
theorem oG (l:List GFact) (day:Int) (hl:l.length≤1000000):fM l day = some (bif bK (aT l) day then ((fk (l.filter aB) day).2.State,(fk (l.filter aB) day).1) else (0,false)):=by
 rw [yP,iQ l hl,Option.bind_some]
 have hle:=Nat.le_trans (List.length_filter_le aB l) hl
 generalize l.filter aB = c at hle
 cases hd:bK (aT l) day with
 | false =>
  rw [ig,lv l hl,Option.bind_some,mP,hd]
  simp only [Option.bind_some,cond_false,au (p:=(-1:Int) < 0) (by omega),cond_true]
  cases aa ((0:Int) < (c.length:Int)) <;> rfl
 | true =>
  rw [cond_true]
  unfold fk
  obtain ⟨b,h1,h2⟩:=BV c (zS .GFact) (fun i b=>bg l day b i c) (yW day) Mn fun i hi b hb=>by
   show bg _ _ _ _ _ = if _ then bg _ _ _ _ _ else bg _ _ _ _ _
   rw [ig,lv l hl]
   simp only [be hi,bp,cond_true,av,Bool.or_true,aR hi,bd hi (by omega)]
   simp only [Option.bind_some,mP,hd,cond_true]
   unfold yW Mn
   have e3:bI c[i].Kind 5 = !(ae c[i].Kind 5):=rfl
   rw [e3]
   rcases hb with hb | ⟨hb1,hb2⟩
   ·subst hb
    rw [au (p:=(-1:Int) < 0) (by omega)]
    cases ae c[i].Kind 5 <;> cases bK c[i].Span day <;> cases ae c[i].Span.From (gD c (-1:Int).toNat (zS .GFact)).Span.From <;> rfl
   ·rw [aL (p:=b < 0) (by omega),au (p:=0≤b) (by omega),au (p:=b < (c.length:Int)) (by omega)]
    cases ae c[i].Kind 5 <;> cases bK c[i].Span day <;> cases aa ((gD c b.toNat (zS .GFact)).Span.From < c[i].Span.From) <;> cases ae c[i].Span.From (gD c b.toNat (zS .GFact)).Span.From <;> cases aa (c[i].State < (gD c b.toNat (zS .GFact)).State) <;> rfl
  refine h1.trans ?_
  show bg _ _ _ _ _ = _
  rw [ig,bi,cond_false]
  rcases h2 with ⟨rfl,e⟩ | ⟨a1,a2,e,_⟩
  ·rw [e,au (p:=(-1:Int) < 0) (by omega),cond_true];rfl
  ·rw [e,aL (p:=b < 0) (by omega),cond_false,ax a1,ax a2]
end Go.Ax
set_option linter.all false
/- The law of a day on both sides, for a given law by activity;rules that are made. -/
set_option maxRecDepth 100000
namespace Go.Ax
noncomputable def vT (c:List GFact) (post:List GPosting) (lim:Int) (act:Int × Bool) (day:Int):Int × Int :=
 bif (qq post day lim).2 then ((qq post day lim).1,1) else bif (qt c day).1 then ((qt c day).2.State,2) else bif act.2 then (act.1,3) else bif aa (0≤k5 c day) then (k5 c day,4) else bif (fk c day).1 then ((fk c day).2.State,5) else (-1,0)
theorem nk {t:List GRules} {day:Int} (h:(cF t day).2 = true):(0≤day∧day≤73048)∧(cF t day).1∈t:=by
 unfold cF at h ⊢
 cases hc:(aa (day < 0)||aa (73049≤day)) with
 | true=>rw [hc] at h;cases h
 | false =>
  rw [hc,cond_false] at h
  rw [Bool.or_eq_false_iff] at hc
  have h1:=oI hc.1
  have h2:=oI hc.2
  rw [cond_false]
  cases hf:t.reverse.find? (fun r=>aa (r.From≤day)) with
  | none=>rw [hf] at h;cases h
  | some r=>exact ⟨by omega,List.mem_reverse.1 (List.mem_of_find?_eq_some hf)⟩
theorem yV {f:GFact} (h:cH f = true) (hb:cI f.Kind 83 = true):0≤f.State∧f.State < 6:=by
 have hs:=((lr f).1 h).2.2.2.2.2.1
 rw [hb] at hs
 unfold bj at hs
 rw [if_pos rfl,l6] at hs
 omega
theorem jp {l:List GFact}:∀ f∈l.filter aB,cH f = true:=by
 intro f hf
 have h:=(List.mem_filter.1 hf).2
 unfold aB at h
 cases hv:cH f with
 | true=>rfl
 | false=>rw [hv] at h;cases h
theorem AF {day:Int} {ks:List Int} {f:GFact} (h:cd day ks f = true):f.Kind∈ks:=by
 unfold cd at h
 rw [Bool.and_eq_true,List.any_eq_true] at h
 obtain ⟨⟨k,hk,he⟩,_⟩:=h
 rw [dN.1 he];exact hk
theorem NF {c:List GFact} (hc:∀ f∈c,cH f = true) (day:Int):∀ f∈c,cd day [7,8] f = true→0≤f.State:=by
 intro f hf ho
 have hk:=AF ho
 refine (yV (hc f hf) ?_).1
 simp at hk
 rcases hk with e | e <;> rw [e] <;> decide
structure ou (t:List GRules):Prop where
 le:t.length≤8
 ne:0 < t.length
 zero:(gD t 0 (zS .GRules)).From = 0
 ok:∀ (i:Nat) (hi:i < t.length),qu t[i]∧Nm t[i].Members∧∀ h:0 < i,t[i - 1].From < t[i].From
theorem ou.mem {t:List GRules} (h:ou t) {r:GRules} (hr:r∈t):qu r∧Nm r.Members:=by
 obtain ⟨i,hi,rfl⟩:=List.getElem_of_mem hr
 exact ⟨(h.ok i hi).1,(h.ok i hi).2.1⟩
theorem ou.small {t:List GRules} (h:ou t):Ez t:=⟨by have:=h.le;omega,fun r hr=>by have:=(h.mem hr).2.1;omega⟩
theorem ou.check {t:List GRules} (h:ou t):ny t = some 0:=IS t h.le h.ne h.zero h.ok
theorem ou.rcheck {t:List GRules} (h:ou t):uh t = some 0:=by
 have ht:=h.le
 rw [Fx,aL (p:=8 < (t.length:Int)) (by omega),cond_false]
 have e:ae (t.length:Int) 0 = false:=gZ.2 (by have:=h.ne;omega)
 rw [e,au (p:=0 < (t.length:Int)) (by have:=h.ne;omega),h.zero,pc.2 rfl]
 show cq _ _ = _
 refine (mV t (fun i=>cq t i) (fun _=>false) none (some 0) ?_ fun i hi=>?_).trans (by simp)
 ·show cq _ _ = _
  rw [oH,bi];rfl
 ·show cq _ _ = if (false:Bool) = true then none else cq t ((i+1:Nat):Int)
  rw [if_neg (by simp)]
  obtain ⟨⟨a1,a2,a3,a4,a5,a6,a7,a8⟩,⟨b1,b2⟩,c3⟩:=h.ok i hi
  have inner:cL t (i:Int) 0 t[i] = cq t ((i+1:Nat):Int):=by
   refine (mV t[i].Members (fun k=>cL t (i:Int) k t[i]) (fun _=>false) none (cq t ((i+1:Nat):Int)) ?_ fun k hk=>?_).trans (by simp)
   ·show cL _ _ _ _ = _
    rw [mU,bi,cond_false,bd hi (by omega)]
   ·show cL _ _ _ _ = if (false:Bool) = true then none else cL t (i:Int) ((k+1:Nat):Int) t[i]
    rw [if_neg (by simp)]
    obtain ⟨d1,d2,d3⟩:=b2 k hk
    rw [mU]
    simp only [be hk,bp,cond_true,av,Bool.or_true,aR hk,bd hk (by omega)]
    rw [aL (p:=t[i].Members[k] < 0) (by omega),aL (p:=6≤t[i].Members[k]) (by omega)]
    by_cases h0:0 < k
    ·have e:ac ((k:Int) - 1) = ((k - 1:Nat):Int):=by rw [al (by omega) (by omega)];omega
     rw [e,li (by simp),li (by simp;omega),aR (l:=t[i].Members) (i:=k - 1) (by omega),aL (p:=t[i].Members[k]≤t[i].Members[k - 1]) (by have:=d3 h0;omega)]
     cases aa (0 < (k:Int)) <;> rfl
    ·have:k = 0:=by omega
     subst this
     simp
     rfl
  rw [oH]
  simp only [be hi,bp,cond_true,av,Bool.or_true,aR hi,bd hi (by omega)]
  rw [rE,Option.bind_some,inner]
  have hv:(decide (0≤t[i].From)&&decide (t[i].From≤73048)) = true:=by simp;omega
  have e1:aa (t[i].MinDays < 0) = false:=aL (by omega)
  have e2:aa (73049 < t[i].MinDays) = false:=aL (by omega)
  have e3:aa (t[i].PostingLimit < 0) = false:=aL (by omega)
  have e4:aa (73049 < t[i].PostingLimit) = false:=aL (by omega)
  have e5:aa (t[i].Substantial < 0) = false:=aL (by omega)
  have e6:aa (100 < t[i].Substantial) = false:=aL (by omega)
  rw [e1,e2,e3,e4,e5,e6]
  by_cases h0:0 < i
  ·have e:ac ((i:Int) - 1) = ((i - 1:Nat):Int):=by rw [al (by omega) (by omega)];omega
   rw [e,li (by simp),li (by simp;omega),aR (l:=t) (i:=i - 1) (by omega),aL (p:=t[i].From≤t[i - 1].From) (by have:=c3 h0;omega)]
   simp [a1,a2]
  ·have:i = 0:=by omega
   subst this
   simp [a1,a2]
   rfl
theorem Kk (l:List GFact) (hl:l.length≤40) (t:List GRules) (ht:ou t) (p:List GPosting) (hp:As p) (day:Int) (act:Int × Bool)
  (ha:(cF t day).2 = true→bK (aT l) day = true→cG ⟨l.filter aB,aT l,p,t⟩ day (cF t day).1.Substantial = some act) :
  hU ⟨l.filter aB,aT l,p,t⟩ day = some (bif (cF t day).2&&bK (aT l) day then vT (l.filter aB) p (cF t day).1.PostingLimit act day else (-1,0)):=by
 have hcl:=List.length_filter_le aB l
 rw [mn,Il t day ht.small,Option.bind_some]
 cases h1:(cF t day).2 with
 | false=>rfl
 | true =>
  rw [qT,Bool.not_true,cond_false,Option.bind_some]
  show (bif !(bK (aT l) day) then _ else _) = _
  cases h2:bK (aT l) day with
  | false=>rfl
  | true =>
   obtain ⟨hd,hm⟩:=nk h1
   obtain ⟨hr,_⟩:=ht.mem hm
   have ha:=ha h1 h2
   generalize cF t day = rr at hr ha
   obtain ⟨r,b⟩:=rr
   simp only at hr ha ⊢
   rw [L5 _ day r.PostingLimit hp ⟨hr.2.2.2.2.1,hr.2.2.2.2.2.1⟩,Pw _ day (by show (l.filter aB).length≤1000000;omega),ha,Mf _ day (by show (l.filter aB).length≤1000000;omega) (NF jp day),qo l day (by omega) hd h2]
   simp only [Option.bind_some,Bool.not_true,cond_false,Bool.and_self,cond_true]
   unfold vT
   by_cases hb:k5 (l.filter aB) day < 0
   ·rw [if_pos hb,aL (p:=0≤k5 (l.filter aB) day) (by omega)]
    cases (qq p day r.PostingLimit).2 <;> cases (qt (l.filter aB) day).1 <;> cases act.2 <;> cases (fk (l.filter aB) day).1 <;> rfl
   ·rw [if_neg hb,au (p:=0≤k5 (l.filter aB) day) (by omega)]
    cases (qq p day r.PostingLimit).2 <;> cases (qt (l.filter aB) day).1 <;> cases act.2 <;> cases (fk (l.filter aB) day).1 <;> rfl
theorem JI {c:List GFact} {life:GSpan} {p:List GPosting} (hp:p.Perm ((lc 0 6).flatMap (fe c life))) (hl:p.length≤1476):As p:=by
 refine ⟨by omega,fun a ha=>?_⟩
 obtain ⟨r,_,h⟩:=List.mem_flatMap.1 (hp.mem_iff.1 ha)
 have h2:=Gx a h
 have:=Kz (mK (aX c ⟨a.Seat,a.State⟩) life).1 (by omega) _ h2
 omega
theorem Bp (l:List GFact) (hl:l.length≤40) (t:List GRules) (ht:ou t) (p:List GPosting) (hp:dL l = some p) (hr:As p) (day:Int) (act:Int × Bool)
  (ha:(cF t day).2 = true→bK (aT l) day = true→cG ⟨l.filter aB,aT l,p,t⟩ day (cF t day).1.Substantial = some act) :
  cB l t day = some (bif (cF t day).2&&bK (aT l) day then vT (l.filter aB) p (cF t day).1.PostingLimit act day else (-1,0)):=by
 rw [sH,nc,ln l (by omega),Option.bind_some,kr l (by omega),Option.bind_some,hp,Option.bind_some,ht.check,Option.bind_some,Option.bind_some,jF]
 show (hU ⟨l.filter aB,aT l,p,t⟩ day).bind _ = _
 rw [Kk l hl t ht p hr day act ha,Option.bind_some]
theorem L8 (l c:List GFact) (hc:c.length≤40) (hv:∀ f∈c,cH f = true) (p:List GPosting) (hs:Dj p) (hr:As p) (r:GRules) (hru:qu r) (day:Int) (hd:0≤day∧day≤73048) (act:Int × Bool)
  (ha:jc l c r day = some act) (hres:fM l day = some ((fk c day).2.State,(fk c day).1)):zy l c p r day = some (vT c p r.PostingLimit act day):=by
 have hpl:=hr.1
 have hlim:0≤r.PostingLimit∧r.PostingLimit≤73049:=⟨hru.2.2.2.2.1,hru.2.2.2.2.2.1⟩
 rw [Ji]
 have e3:aW l c day (-1) 0 = some (bif aa (0≤k5 c day) then (k5 c day,4) else bif (fk c day).1 then ((fk c day).2.State,5) else (-1,0)):=by
  have lp:=(mx c (fun i b=>aW l c day b i) (yo day) (fun _ _=>True) (fun i b hi _=>⟨by
   show aW _ _ _ _ _ = aW _ _ _ _ _
   rw [qa]
   simp only [be hi,bp,cond_true,av,Bool.or_true,aR hi,bd hi (by omega)]
   rw [mP]
   unfold yo cd
   simp only [Option.bind_some,List.any_cons,List.any_nil,Bool.or_false]
   cases ae c[i].Kind 7 <;> cases ae c[i].Kind 8 <;> cases bK c[i].Span day <;> cases aa (b < 0) <;> cases aa (c[i].State < b) <;> rfl,trivial⟩) (-1) trivial).1
  refine lp.trans ?_
  show aW _ _ _ (k5 c day) _ = _
  rw [qa,bi,cond_false,hres,Option.bind_some]
  cases aa (0≤k5 c day) <;> cases (fk c day).1 <;> rfl
 have e2:cC l c day (-1) 0 r = some (bif (qt c day).1 then ((qt c day).2.State,2) else bif act.2 then (act.1,3) else bif aa (0≤k5 c day) then (k5 c day,4) else bif (fk c day).1 then ((fk c day).2.State,5) else (-1,0)):=by
  obtain ⟨b,h1,h2⟩:=BV c (zS .GFact) (fun i b=>cC l c day b i r) (cd day [3]) Pe fun i hi b hb=>by
   show cC _ _ _ _ _ _ = if _ then cC _ _ _ _ _ _ else cC _ _ _ _ _ _
   rw [qC]
   simp only [be hi,bp,cond_true,av,Bool.or_true,aR hi,bd hi (by omega)]
   simp only [Option.bind_some,mP]
   unfold cd Pe
   simp only [List.any_cons,List.any_nil,Bool.or_false]
   rcases hb with hb | ⟨hb1,hb2⟩
   ·subst hb
    rw [au (p:=(-1:Int) < 0) (by omega)]
    cases ae c[i].Kind 3 <;> cases bK c[i].Span day <;> cases ae c[i].Share (gD c (-1:Int).toNat (zS .GFact)).Share <;> rfl
   ·rw [aL (p:=b < 0) (by omega),au (p:=0≤b) (by omega),au (p:=b < (c.length:Int)) (by omega)]
    cases ae c[i].Kind 3 <;> cases bK c[i].Span day <;> cases aa ((gD c b.toNat (zS .GFact)).Share < c[i].Share) <;> cases ae c[i].Share (gD c b.toNat (zS .GFact)).Share <;> cases aa (c[i].State < (gD c b.toNat (zS .GFact)).State) <;> rfl
  refine h1.trans ?_
  show cC _ _ _ _ _ _ = _
  rw [qC,bi,cond_false]
  unfold qt
  rcases h2 with ⟨rfl,e⟩ | ⟨a1,a2,e,_⟩
  ·rw [e,aL (p:=(0:Int)≤-1) (by omega),cond_false,ha,Option.bind_some,e3]
   cases act.2 <;> rfl
  ·rw [e,au a1,cond_true,av,ax a2];rfl
 obtain ⟨b,h1,h2⟩:=BV p (zS .GPosting) (fun i b=>dA l c p day b i r) (pB day r.PostingLimit) Dk fun i hi b hb=>by
  show dA _ _ _ _ _ _ _ = if _ then dA _ _ _ _ _ _ _ else dA _ _ _ _ _ _ _
  have hf:=hr.2 _ (List.getElem_mem hi)
  rw [sP]
  simp only [be hi,bp,cond_true,av,Bool.or_true,aR hi,bd hi (by omega)]
  simp only [Option.bind_some,mP]
  rw [al (n:=day - p[i].Span.From) (by omega) (by omega)]
  have ed:aa (r.PostingLimit≤day - p[i].Span.From) = !(aa (day < p[i].Span.From+r.PostingLimit)):=by
   by_cases h:day < p[i].Span.From+r.PostingLimit
   ·rw [au h,aL (p:=r.PostingLimit≤day - p[i].Span.From) (by omega)];rfl
   ·rw [aL h,au (p:=r.PostingLimit≤day - p[i].Span.From) (by omega)];rfl
  rw [ed]
  unfold pB Dk
  rcases hb with hb | ⟨hb1,hb2⟩
  ·subst hb
   rw [au (p:=(-1:Int) < 0) (by omega)]
   cases bK p[i].Span day <;> cases aa (day < p[i].Span.From+r.PostingLimit) <;> cases ae p[i].Span.From (gD p (-1:Int).toNat (zS .GPosting)).Span.From <;> rfl
  ·rw [aL (p:=b < 0) (by omega),au (p:=0≤b) (by omega),au (p:=b < (p.length:Int)) (by omega)]
   cases bK p[i].Span day <;> cases aa (day < p[i].Span.From+r.PostingLimit) <;> cases ae p[i].Span.From (gD p b.toNat (zS .GPosting)).Span.From <;> cases aa (p[i].Seat < (gD p b.toNat (zS .GPosting)).Seat) <;> rfl
 refine h1.trans ?_
 show dA _ _ _ _ _ _ _ = _
 rw [sP,bi,cond_false]
 rw [NM day r.PostingLimit p hs] at h2
 unfold vT qq
 rcases h2 with ⟨rfl,e⟩ | ⟨a1,a2,e,_⟩
 ·rw [aL (p:=(0:Int)≤-1) (by omega),cond_false,e2]
  cases hf:p.find? (pB day r.PostingLimit) with
  | none=>rfl
  | some q=>rw [hf] at e;cases e
 ·rw [au a1,cond_true,av,ax a2]
  cases hf:p.find? (pB day r.PostingLimit) with
  | none=>rw [hf] at e;cases e
  | some q =>
   rw [hf] at e
   have:=congrArg Prod.snd e
   simp only at this
   rw [← this];rfl
theorem Oj (l:List GFact) (hl:l.length≤40) (t:List GRules) (ht:ou t) (p:List GPosting) (hp:jg l = some p) (hs:Dj p) (hr:As p) (day:Int) (act:Int × Bool)
  (ha:(cF t day).2 = true→bK (aT l) day = true→jc l (l.filter aB) (cF t day).1 day = some act) :
  ph l t day = some (bif (cF t day).2&&bK (aT l) day then vT (l.filter aB) p (cF t day).1.PostingLimit act day else (-1,0)):=by
 have hcl:=List.length_filter_le aB l
 rw [ED,LG t day ht.small,Option.bind_some]
 cases h1:(cF t day).2 with
 | false=>rfl
 | true =>
  rw [Bool.not_true,cond_false,ht.rcheck,Option.bind_some,pc.2 rfl,cond_false,lv l (by omega),Option.bind_some,mP,Option.bind_some]
  cases h2:bK (aT l) day with
  | false=>rfl
  | true =>
   obtain ⟨hd,hm⟩:=nk h1
   have hres:=oG l day (by omega)
   rw [h2,cond_true] at hres
   rw [Bool.not_true,cond_false,iQ l (by omega),Option.bind_some,hp,Option.bind_some,L8 l _ (by omega) jp p hs hr _ (ht.mem hm).1 day hd act (ha h1 h2) hres]
   rfl
theorem Sb {t:List GRules} (h:JP t):ou t:=by
 obtain ⟨p,h1,h2,rfl | rfl | rfl⟩:=h
 ·refine ⟨by simp [Hl],by simp [Hl],rfl,fun i hi=>?_⟩
  have:i = 0:=by simp [Hl] at hi;omega
  subst this
  exact ⟨by simp [Hl,qu];omega,⟨by simp [Hl],fun k hk=>by
   have:k = 0∨k = 1∨k = 2:=by simp [Hl] at hk;omega
   rcases this with rfl | rfl | rfl <;> simp [Hl]⟩,fun h=>by omega⟩
 ·refine ⟨by simp [ve],by simp [ve],rfl,fun i hi=>?_⟩
  have:i = 0∨i = 1:=by simp [ve] at hi;omega
  rcases this with rfl | rfl
  ·exact ⟨by simp [ve,qu];omega,⟨by simp [ve],fun k hk=>by
    have:k = 0∨k = 1:=by simp [ve] at hk;omega
    rcases this with rfl | rfl <;> simp [ve]⟩,fun h=>by omega⟩
  ·exact ⟨by simp [ve,qu];omega,⟨by simp [ve],fun k hk=>by
    have:k = 0∨k = 1∨k = 2:=by simp [ve] at hk;omega
    rcases this with rfl | rfl | rfl <;> simp [ve]⟩,fun h=>by simp [ve]⟩
 ·refine ⟨by simp [vB],by simp [vB],rfl,fun i hi=>?_⟩
  have:i = 0∨i = 1:=by simp [vB] at hi;omega
  rcases this with rfl | rfl
  ·exact ⟨by simp [vB,qu];omega,⟨by simp [vB],fun k hk=>by
    have:k = 0∨k = 1∨k = 2:=by simp [vB] at hk;omega
    rcases this with rfl | rfl | rfl <;> simp [vB]⟩,fun h=>by omega⟩
  ·exact ⟨by simp [vB,qu];omega,⟨by simp [vB],fun k hk=>by
    have:k = 0∨k = 1:=by simp [vB] at hk;omega
    rcases this with rfl | rfl <;> simp [vB]⟩,fun h=>by simp [vB]⟩
theorem OL (day:Int) (dense:Bool):En (fun _=>True) (sE day dense):=by
 rw [Eu]
 exact En.bif (fun _=>.some trivial) fun _=>En.bif (fun _=>.bind (fc _ 110 (by decide) (by decide)) fun _ _=>.some trivial) fun _=>.bind (fc _ 30000 (by decide) (by decide)) fun _ _=>.some trivial
end Go.Ax
set_option linter.all false
/- LawResidence. -/
set_option maxRecDepth 100000
namespace Go.Ax
theorem Qn {day:Int} {ks:List Int} {f:GFact} (h:f.Kind ∉ ks):cd day ks f = false:=by
 cases hb:cd day ks f with
 | false=>rfl
 | true=>exact absurd (AF hb) h
end Go.Ax
set_option linter.all false
/- The law by activity, on both sides. -/
set_option maxRecDepth 100000
namespace Go.Ax
theorem CU {a b:List Int} (ha:a.Pairwise (· < ·)) (hb:b.Pairwise (· < ·)) (h:∀ x,x∈a↔x∈b):a = b :=
 List.Perm.eq_of_pairwise (le:=fun x y=>x < y) (fun x y _ _ h1 h2=>by omega) ha hb ((List.perm_ext_iff_of_nodup (ha.imp fun h=>Int.ne_of_lt h) (hb.imp fun h=>Int.ne_of_lt h)).2 h)
theorem P2 {k:List Int} (h:k.Nodup):(br k).Pairwise (· < ·):=by
 have h1:=mu k
 have h2:(br k).Nodup:=(j7 k).nodup_iff.2 h
 exact (h1.and h2).imp fun ⟨a,b⟩=>by omega
theorem HK:∀ (l:List Int),l.Pairwise (·≤·)→(cb l).Pairwise (· < ·)∧∀ x,x∈cb l↔x∈l
 | [],_=>⟨by simp [cb],by simp [cb]⟩
 | [x],_=>⟨by simp [cb],by simp [cb]⟩
 | x :: y :: r,h=>by
  have h2:=List.pairwise_cons.1 h
  obtain ⟨i1,i2⟩:=HK (y :: r) h2.2
  have e:cb (x :: y :: r) = bif ae x y then cb (y :: r) else x :: cb (y :: r):=rfl
  rw [e]
  cases hc:ae x y with
  | true =>
   have hxy:=dN.1 hc
   rw [cond_true]
   exact ⟨i1,fun z=>by rw [i2 z,hxy];simp⟩
  | false =>
   have hxy:=gZ.1 hc
   rw [cond_false]
   refine ⟨List.pairwise_cons.2 ⟨fun z hz=>?_,i1⟩,fun z=>by rw [List.mem_cons,List.mem_cons,i2 z]⟩
   have h3:=h2.1 z ((i2 z).1 hz)
   have h4:=h2.1 y (by simp)
   rcases List.mem_cons.1 ((i2 z).1 hz) with rfl | hz'
   ·omega
   ·have:=(List.pairwise_cons.1 h2.2).1 z hz'
    omega
def aP (s:Int):List GFact→Int
 | []=>0
 | f :: r=>(if f.State = s then f.Share else 0)+aP s r
def dO:List GFact→Int
 | []=>0
 | f :: r=>f.Share+dO r
theorem yD (s:Int) (f:GFact):∀ l,aP s (l++[f]) = aP s l+if f.State = s then f.Share else 0
 | []=>by simp [aP]
 | g :: r=>by rw [List.cons_append,aP,aP,yD s f r];omega
theorem GO (f:GFact):∀ l,dO (l++[f]) = dO l+f.Share
 | []=>by simp [dO]
 | g :: r=>by rw [List.cons_append,dO,dO,GO f r];omega
def C1 (w:List GFact):Prop:=∀ f∈w,(0≤f.State∧f.State < 6)∧1≤f.Share∧f.Share≤100
theorem mI (s:Int):∀ (w:List GFact),C1 w→0≤aP s w∧aP s w≤100*(w.length:Int)
 | [],_=>by simp [aP]
 | f :: r,h=>by
  have:=mI s r fun g hg=>h g (by simp [hg])
  have hf:=h f (by simp)
  rw [aP,List.length_cons]
  split <;> omega
theorem wX:∀ (w:List GFact),C1 w→0≤dO w∧dO w≤100*(w.length:Int)
 | [],_=>by simp [dO]
 | f :: r,h=>by
  have:=wX r fun g hg=>h g (by simp [hg])
  have hf:=h f (by simp)
  rw [dO,List.length_cons]
  omega
theorem BZ (s:Int):∀ (w:List GFact),C1 w→(0 < aP s w↔∃ f∈w,f.State = s)
 | [],_=>by simp [aP]
 | f :: r,h=>by
  have hr:C1 r:=fun g hg=>h g (by simp [hg])
  have i:=BZ s r hr
  have n:=(mI s r hr).1
  have hf:=h f (by simp)
  rw [aP]
  by_cases e:f.State = s
  ·rw [if_pos e]
   exact ⟨fun _=>⟨f,by simp,e⟩,fun _=>by omega⟩
  ·rw [if_neg e,show (0:Int)+aP s r = aP s r by omega,i]
   exact ⟨fun ⟨g,hg,e2⟩=>⟨g,by simp [hg],e2⟩,fun ⟨g,hg,e2⟩=>by
    rcases List.mem_cons.1 hg with rfl | hg
    ·exact absurd e2 e
    ·exact ⟨g,hg,e2⟩⟩
def L6:List Int:=[0,1,2,3,4,5]
def sh (w:List GFact):List Int:=L6.map fun s=>aP s w
theorem DZ (w:List GFact) {b:Int} (h0:0≤b) (h6:b < 6):gD (sh w) b.toNat 0 = aP b w:=by
 have:b = 0∨b = 1∨b = 2∨b = 3∨b = 4∨b = 5:=by omega
 rcases this with rfl | rfl | rfl | rfl | rfl | rfl <;> rfl
theorem RQ (w:List GFact) (f:GFact) (hw:C1 (w++[f])) (hl:w.length≤40):List.set (sh w) f.State.toNat (ac ((gD (sh w) f.State.toNat 0)+f.Share)) = sh (w++[f]):=by
 have hf:=hw f (by simp)
 have hs:=mI f.State w fun g hg=>hw g (by simp [hg])
 rw [DZ w hf.1.1 hf.1.2,al (by omega) (by omega)]
 obtain ⟨_,_,_,_,_,_,st,_,_,sr,_,_,_⟩:=f
 simp only at hf hs ⊢
 have:st = 0∨st = 1∨st = 2∨st = 3∨st = 4∨st = 5:=by omega
 rcases this with rfl | rfl | rfl | rfl | rfl | rfl <;> simp [sh,L6,yD]
theorem PP:∀ (w:List GFact),C1 w→(L6.map fun s=>aP s w).foldl (fun a x=>a+x) 0 = dO w
 | [],_=>by simp [L6,aP,dO]
 | f :: r,h=>by
  have i:=PP r fun g hg=>h g (by simp [hg])
  have hf:=h f (by simp)
  simp only [L6,List.map_cons,List.map_nil,List.foldl_cons,List.foldl_nil] at i ⊢
  rw [dO, ← i]
  simp only [aP]
  have:f.State = 0∨f.State = 1∨f.State = 2∨f.State = 3∨f.State = 4∨f.State = 5:=by omega
  rcases this with e | e | e | e | e | e <;> rw [e] <;> simp <;> omega
def gm (w:List GFact):List Int:=L6.filter fun s=>aa (0 < aP s w)
theorem MP (w:List GFact) (s:Int):s∈gm w↔(0≤s∧s < 6)∧0 < aP s w:=by
 unfold gm
 rw [List.mem_filter]
 have:s∈L6↔0≤s∧s < 6:=by simp [L6];omega
 rw [this]
 simp [aa]
theorem R5 (w:List GFact):(gm w).Pairwise (· < ·):=List.Pairwise.sublist List.filter_sublist (by decide)
def rF (sm:Int→Int) (b s:Int):Int:=bif aa (b < 0)||aa (sm b < sm s) then s else b
def qb (w:List GFact):Int:=(gm w).foldl (rF fun s=>aP s w) (-1)
def EI (w:List GFact) (e:List Int) (home:Int) (bS:Bool) (sub:Int):Int × Bool :=
 bif ae ((gm w).length:Int) 0 then (0,false) else bif ae ((gm w).length:Int) 1 then (qb w,true) else
 bif bS&&(aa (0 < aP home w)&&aa (sub*dO w≤100*aP home w)) then (home,true) else
 bif ae (e.length:Int) 1 then (gD e 0 0,true) else
 bif bS&&(ae (e.length:Int) 2&&ae (gD e 0 0) home) then (gD e 1 0,true) else
 bif bS&&(ae (e.length:Int) 2&&ae (gD e 1 0) home) then (gD e 0 0,true) else
 bif bS then (home,true) else (qb w,true)
def vw (w1:List GFact) (e:List Int):Prop:=kj e∧(∀ x,x∈e↔∃ f∈w1,f.Seat = x)∧e.length≤w1.length
theorem xM (c:List GFact) (day:Int) (hc:c.length≤40):∃ e,pq c day = some e∧vw (c.filter (cd day [1])) e:=by
 rw [Fj]
 have key:∀ (n i:Nat) (out:List Int),c.length = i+n→kj out→out.length≤i→∃ r,d7 c day out (i:Int) = some r∧kj r∧(∀ x,x∈r↔x∈out∨∃ f∈(c.drop i).filter (cd day [1]),f.Seat = x)∧r.length≤out.length+((c.drop i).filter (cd day [1])).length:=by
  intro n
  induction n with
  | zero =>
   intro i out hn ha ho
   have:i = c.length:=by omega
   subst this
   refine ⟨out,by rw [pX,bi,cond_false],ha,fun x=>?_,by omega⟩
   rw [List.drop_length];simp
  | succ n ih =>
   intro i out hn ha ho
   have hi:i < c.length:=by omega
   have eo:cd day [1] c[i] = (ae c[i].Kind 1&&bK c[i].Span day):=by unfold cd;simp
   rw [List.drop_eq_getElem_cons hi,List.filter_cons,eo]
   rw [pX]
   simp only [be hi,bp,cond_true,av,Bool.or_true,aR hi,bd hi (by omega)]
   rw [mP,Option.bind_some]
   have skip:(ae c[i].Kind 1&&bK c[i].Span day) = false→∃ r,d7 c day out ((i+1:Nat):Int) = some r∧kj r∧(∀ x,x∈r↔x∈out∨∃ f∈(c.drop (i+1)).filter (cd day [1]),f.Seat = x)∧r.length≤out.length+((c.drop (i+1)).filter (cd day [1])).length :=
    fun _=>ih (i+1) out (by omega) ha (by omega)
   cases h1:ae c[i].Kind 1 with
   | false=>rw [Bool.false_and,if_neg (by simp),cond_false];exact skip (by rw [h1];rfl)
   | true =>
    cases h2:bK c[i].Span day with
    | false=>rw [Bool.and_false,if_neg (by simp),cond_true,cond_false];exact skip (by rw [h2];simp)
    | true =>
     rw [Bool.and_self,if_pos rfl,cond_true,cond_true]
     obtain ⟨o,e1,e2,e3,e4⟩:=sQ out c[i].Seat (by omega) ha
     rw [e1,Option.bind_some]
     obtain ⟨r,r1,r2,r3,r4⟩:=ih (i+1) o (by omega) e2 (by omega)
     refine ⟨r,r1,r2,fun x=>?_,by rw [List.length_cons];omega⟩
     rw [r3 x,e3 x]
     constructor
     ·rintro ((h | h) | ⟨f,hf,h⟩)
      ·exact .inl h
      ·exact .inr ⟨c[i],by simp,h.symm⟩
      ·exact .inr ⟨f,by simp [hf],h⟩
     ·rintro (h | ⟨f,hf,h⟩)
      ·exact .inl (.inl h)
      ·rcases List.mem_cons.1 hf with rfl | hf
       ·exact .inl (.inr h.symm)
       ·exact .inr ⟨f,hf,h⟩
 obtain ⟨r,h1,h2,h3,h4⟩:=key c.length 0 [] (by omega) (by simp [kj]) (by simp)
 exact ⟨r,h1,h2,fun x=>by rw [h3 x];simp,by simpa using h4⟩
theorem Fu (w1:List GFact) (hl:w1.length≤1000000) (e:List Int) (he:vw w1 e):gI w1 = some e:=by
 rw [oA]
 have lp:=OH w1 (fun i out=>bM w1 (w1.length:Int) i out) (fun _=>true) GFact.Seat fun i out hi ho=>by
  show bM _ _ _ _ = bM _ _ _ _
  rw [dD]
  simp only [be hi,bp,cond_true,av,Bool.or_true,aR hi,bd hi (by omega)]
  rw [oV];rfl
 refine lp.trans ?_
 show bM _ _ _ _ = _
 rw [List.filter_eq_self.2 fun _ _=>rfl,dD,bi,cond_false,ax (by simpa using hl),ax (by rw [(j7 _).length_eq];simpa using hl)]
 congr 1
 obtain ⟨c1,c2⟩:=HK _ (mu (w1.map GFact.Seat))
 refine CU c1 he.1 fun x=>?_
 rw [c2 x,(j7 _).mem_iff,he.2.1 x,List.mem_map]
abbrev tI:Ty:=.i .i64
theorem DL (ks:List Int) (k:Int):(aI tI ks k = ks.length∧k ∉ ks)∨(aI tI ks k < ks.length∧ks[aI tI ks k]? = some k):=qM (q:=.i64) ks k
theorem IF (k:List Int) (y:Int):dZ tI k y = true↔y∈k:=by
 unfold dZ
 rw [Nat.blt_eq]
 rcases DL k y with ⟨h,hn⟩ | ⟨h1,h2⟩
 ·exact ⟨fun h'=>by have h'':aI tI k y < k.length:=h'; have h3:aI tI k y = k.length:=h;omega,fun h'=>absurd h' hn⟩
 ·exact ⟨fun _=>List.mem_of_getElem? h2,fun _=>h1⟩
theorem sX {k v:List Int} {z:Int} (hl:k.length = v.length) (h:z ∉ k):cw tI k v z 0 = 0:=by
 unfold cw
 rcases DL k z with ⟨h1,_⟩ | ⟨_,h2⟩
 ·have h1':aI tI k z = k.length:=h1
  rw [h1',List.getD_eq_getElem?_getD,List.getElem?_eq_none (by omega)];rfl
 ·exact absurd (List.mem_of_getElem? h2) h
theorem Ak {k v:List Int} (hnd:k.Nodup) {p:Nat} (hp:p < k.length):cw tI k v k[p] 0 = v.getD p 0:=by
 unfold cw
 rcases DL k k[p] with ⟨_,h1⟩ | ⟨h1,h2⟩
 ·exact absurd (List.getElem_mem hp) h1
 ·have h1':aI tI k k[p] < k.length:=h1
  have h2':k[aI tI k k[p]]? = some k[p]:=h2
  rw [List.getElem?_eq_getElem h1'] at h2'
  have:=(List.getElem_inj hnd).1 (Option.some.inj h2')
  rw [this]
structure Jw (k v:List Int) (w:List GFact):Prop where
 nd:k.Nodup
 len:k.length = v.length
 mem:∀ z,z∈k↔∃ f∈w,f.State = z
 val:∀ z,cw tI k v z 0 = aP z w
 le:k.length≤w.length
theorem Jw.put {k v:List Int} {w:List GFact} (h:Jw k v w) (f:GFact):Jw (df tI k f.State) (di tI k v f.State (cw tI k v f.State 0+f.Share)) (w++[f]):=by
 have hmem:∀ z,(∃ g∈w++[f],g.State = z)↔(∃ g∈w,g.State = z)∨z = f.State:=by
  intro z
  constructor
  ·rintro ⟨g,hg,e⟩
   rcases List.mem_append.1 hg with hg | hg
   ·exact .inl ⟨g,hg,e⟩
   ·simp at hg;subst hg;exact .inr e.symm
  ·rintro (⟨g,hg,e⟩ | e)
   ·exact ⟨g,by simp [hg],e⟩
   ·exact ⟨f,by simp,e.symm⟩
 generalize hy:f.State = y at hmem
 have hval:∀ z,aP z (w++[f]) = aP z w+if y = z then f.Share else 0:=fun z=>by rw [yD,hy]
 by_cases hin:y∈k
 ·have e1:df tI k y = k:=by unfold df;rw [(IF k y).2 hin];rfl
  obtain ⟨p,hp,hpy⟩:=List.getElem_of_mem hin
  have ef:aI tI k y = p:=by
   rcases DL k y with ⟨_,h1⟩ | ⟨h1,h2⟩
   ·exact absurd hin h1
   ·have h1':aI tI k y < k.length:=h1
    have h2':k[aI tI k y]? = some y:=h2
    rw [List.getElem?_eq_getElem h1'] at h2'
    exact (List.getElem_inj h.nd).1 ((Option.some.inj h2').trans hpy.symm)
  have e2:∀ a,di tI k v y a = v.set p a:=fun a=>by unfold di;rw [(IF k y).2 hin,ef];rfl
  rw [e1,e2]
  refine ⟨h.nd,by rw [List.length_set];exact h.len,fun z=>?_,fun z=>?_,by simp;have:=h.le;omega⟩
  ·rw [hmem z,h.mem z]
   exact ⟨.inl,fun h'=>h'.elim id fun e=>by subst e;exact (h.mem z).1 hin⟩
  ·rw [hval z]
   by_cases hz:z∈k
   ·obtain ⟨q,hq,rfl⟩:=List.getElem_of_mem hz
    rw [Ak h.nd hq, ← h.val,Ak h.nd hq,List.getD_eq_getElem?_getD,List.getD_eq_getElem?_getD,List.getElem?_set]
    by_cases hpq:p = q
    ·subst hpq
     rw [if_pos rfl,if_pos (by have:=h.len;omega),if_pos hpy.symm, ← hpy,Ak h.nd hp,List.getD_eq_getElem?_getD];rfl
    ·rw [if_neg hpq,if_neg (fun e=>hpq ((List.getElem_inj h.nd).1 (hpy.trans e)))]
     omega
   ·rw [sX (by rw [List.length_set];exact h.len) hz, ← h.val,sX h.len hz,if_neg (fun (e:y = z)=>hz (e ▸ hin))];rfl
 ·have hno:dZ tI k y = false:=by
   cases hb:dZ tI k y with
   | false=>rfl
   | true=>exact absurd ((IF k y).1 hb) hin
  have e1:df tI k y = k++[y]:=by unfold df;rw [hno];rfl
  have e2:∀ a,di tI k v y a = v++[a]:=fun a=>by unfold di;rw [hno];rfl
  have hnd:(k++[y]).Nodup:=by
   rw [List.nodup_append]
   exact ⟨h.nd,by simp,fun a ha b hb=>by simp at hb;subst hb;exact fun e=>hin (e ▸ ha)⟩
  rw [e1,e2,sX h.len hin]
  refine ⟨hnd,by simp [h.len],fun z=>?_,fun z=>?_,by simp;exact h.le⟩
  ·rw [hmem z,List.mem_append,h.mem z];simp
  ·rw [hval z, ← h.val]
   by_cases hz:z∈k++[y]
   ·obtain ⟨q,hq,rfl⟩:=List.getElem_of_mem hz
    rw [Ak hnd hq]
    simp only [List.length_append,List.length_singleton] at hq
    have hlen:=h.len
    by_cases hqk:q < k.length
    ·rw [List.getElem_append_left hqk,Ak h.nd hqk,if_neg (fun (e:y = k[q])=>hin (e ▸ List.getElem_mem hqk)),List.getD_eq_getElem?_getD,List.getD_eq_getElem?_getD,List.getElem?_append_left (by omega)]
     omega
    ·have:q = k.length:=by omega
     subst this
     rw [List.getElem_concat_length rfl,if_pos rfl,sX h.len hin,List.getD_eq_getElem?_getD,hlen,List.getElem?_concat_length];rfl
   ·rw [sX (by simp [h.len]) hz]
    have h1:z ∉ k:=fun h'=>hz (by simp [h'])
    have h2:y≠z:=fun h'=>hz (by simp [h'])
    rw [sX h.len h1,if_neg h2];rfl
theorem EM {c:List GFact} (hc:∀ f∈c,cH f = true) (day:Int):C1 (c.filter (cd day [1,2])):=by
 intro f hf
 obtain ⟨h1,h2⟩:=List.mem_filter.1 hf
 have hk:=AF h2
 simp at hk
 have hv:=hc f h1
 refine ⟨yV hv (by rcases hk with e | e <;> rw [e] <;> decide), ?_⟩
 have hs:=((lr f).1 hv).2.2.2.2.2.2.2.2.1
 have hb:cI f.Kind 72 = true:=by rcases hk with e | e <;> rw [e] <;> decide
 rw [hb] at hs
 unfold bj at hs
 rw [if_pos rfl,l6] at hs
 omega
theorem yy {T:Type} {l:List T} {i:Nat} (hi:i < l.length):l.take (i+1) = l.take i++[l[i]]:=by rw [List.take_succ,List.getElem?_eq_getElem hi];rfl
theorem Hw (sm:Int→Int):∀ (l:List Int) (b:Int),0≤b→(∀ x∈l,0≤x)→l.foldl (fun b s=>bif aa (sm b < sm s) then s else b) b = l.foldl (rF sm) b
 | [],_,_,_=>rfl
 | x :: r,b,hb,h=>by
  rw [List.foldl_cons,List.foldl_cons]
  have e:rF sm b x = bif aa (sm b < sm x) then x else b:=by unfold rF;rw [aL (p:=b < 0) (by omega),Bool.false_or]
  rw [e]
  refine Hw sm r _ ?_ fun y hy=>h y (by simp [hy])
  cases aa (sm b < sm x) with
  | true=>exact h x (by simp)
  | false=>exact hb
theorem yS (x:GCompetence_life) (day sub:Int) (hl:x.facts.length≤40) (hv:∀ f∈x.facts,cH f = true) (hsub:0≤sub∧sub≤100) (e:List Int) (he:vw (x.facts.filter (cd day [1])) e) (home:Int) (bS:Bool)
  (hres:dy x.facts day = some (home,bS)) (hh:bS = true→0≤home∧home < 6) :
  cG x day sub = some (EI (x.facts.filter (cd day [1,2])) e home bS sub):=by
 rw [jr,sM _ _ _ (by omega) (by decide),Option.bind_some]
 have hw:=EM hv day
 have hwl:=Nat.le_trans (List.length_filter_le (cd day [1,2]) x.facts) hl
 have hw1:=Nat.le_trans (List.length_filter_le (cd day [1]) x.facts) hl
 have seats_rng:∀ y∈e,0≤y∧y < 6:=by
  intro y hy
  obtain ⟨f,hf,rfl⟩:=(he.2.1 y).1 hy
  obtain ⟨h1,h2⟩:=List.mem_filter.1 hf
  have hk:=AF h2
  simp at hk
  have hs:=((lr f).1 (hv f h1)).2.2.2.2.2.2.1
  have hb:cI f.Kind 84 = true:=by rw [hk];decide
  rw [hb] at hs
  unfold bj at hs
  rw [if_pos rfl,l6] at hs
  omega
 have hseats:=Fu _ (by omega) e he
 have hon1:=sM x day [1] (by omega) (by decide)
 generalize x.facts.filter (cd day [1,2]) = w at hw hwl
 obtain ⟨h1,h2,h3⟩:=mx w (fun i (s:Int × List Int × List Int)=>aQ day sub s.1 (w.length:Int) i x s.2.1 s.2.2 w)
  (fun s f=>(ac (s.1+f.Share),df tI s.2.1 f.State,di tI s.2.1 s.2.2 f.State (ac (cw tI s.2.1 s.2.2 f.State 0+f.Share))))
  (fun i s=>Jw s.2.1 s.2.2 (w.take i)∧s.1 = dO (w.take i)) (fun i s hi hs=>by
   obtain ⟨m,ht⟩:=hs
   have hp:C1 (w.take i):=fun g hg=>hw g (List.mem_of_mem_take hg)
   have r1:=wX _ hp
   have r2:=mI w[i].State _ hp
   have hlt:(w.take i).length≤40:=by rw [List.length_take];omega
   have hf:=hw _ (List.getElem_mem hi)
   refine ⟨?_, ?_, ?_⟩
   ·show aQ _ _ _ _ _ _ _ _ _ = aQ _ _ _ _ _ _ _ _ _
    rw [ca]
    simp only [be hi,bp,cond_true,av,Bool.or_true,aR hi,bd hi (by omega)]
   ·rw [yy hi]
    have:=m.put w[i]
    show Jw _ (di tI s.2.1 s.2.2 w[i].State (ac _)) _
    rw [al (n:=cw tI s.2.1 s.2.2 w[i].State 0+w[i].Share) (by rw [m.val];omega) (by rw [m.val];omega)]
    exact this
   ·rw [yy hi,GO,ht]
    show ac _ = _
    rw [al (by omega) (by omega)]) (0,[],[]) ⟨⟨by simp,rfl,by simp,fun z=>by rw [List.take_zero];exact sX rfl (by simp),by simp⟩,by simp [dO]⟩
 refine Eq.trans h1 ?_
 generalize w.foldl _ _ = s at h2 h3
 obtain ⟨tot,k,v⟩:=s
 rw [List.take_length] at h2 h3
 simp only at h2 h3
 subst h3
 show aQ _ _ _ _ _ _ k v _ = _
 have hkin:∀ z∈k,0≤z∧z < 6:=fun z hz=>by
  obtain ⟨f,hf,rfl⟩:=(h2.mem z).1 hz
  exact (hw f hf).1
 have hkl:k.length≤40:=by have:=h2.le;omega
 have hwf:MI k = true:=by
  unfold MI
  rw [List.all_eq_true]
  intro z hz
  have:=hkin z hz
  rw [au (by omega),au (by omega)];rfl
 have hst:br k = gm w:=by
  refine CU (P2 h2.nd) (R5 w) fun z=>?_
  rw [(j7 k).mem_iff,h2.mem z,MP,BZ z w hw]
  exact ⟨fun ⟨f,hf,e⟩=>⟨e ▸ (hw f hf).1,f,hf,e⟩,fun h=>h.2⟩
 have hhas:dZ tI k home = true↔0 < aP home w:=by rw [IF,h2.mem,BZ _ w hw]
 rw [ca,bi,cond_false,ax hwf,ax (by omega),hst,hres,hon1,Option.bind_some,Option.bind_some,hseats,Option.bind_some]
 have hge:∀ z∈gm w,0≤z:=fun z hz=>((MP w z).1 hz).1.1
 have hsl:(gm w).length≤6:=by
  unfold gm
  exact Nat.le_trans (List.length_filter_le _ _) (by simp [L6])
 have r1:=wX w hw
 have r2:=mI home w hw
 have hg:cw (.i .i64) k v home 0 = aP home w:=h2.val home
 have hmul:0≤sub*dO w∧sub*dO w≤400000:=by
  refine ⟨Int.mul_nonneg hsub.1 r1.1, ?_⟩
  have h5:sub*dO w≤100*dO w:=Int.mul_le_mul_of_nonneg_right hsub.2 r1.1
  omega
 simp only [hg]
 rw [al (n:=sub*dO w) (by omega) (by omega),al (n:=100*aP home w) (by omega) (by omega)]
 have hh':(bif (bif bS then dZ (.i .i64) k home else false) then aa (sub*dO w≤100*aP home w) else false) = (bS&&(aa (0 < aP home w)&&aa (sub*dO w≤100*aP home w))):=by
  have:dZ (.i .i64) k home = aa (0 < aP home w):=by
   by_cases h:0 < aP home w
   ·rw [au h];exact hhas.2 h
   ·rw [aL h]
    cases hb:dZ (.i .i64) k home with
    | false=>rfl
    | true=>exact absurd (hhas.1 hb) h
  rw [this]
  cases bS <;> cases aa (0 < aP home w) <;> rfl
 rw [hh']
 have hloop:0 < (gm w).length→aF (gD (gm w) 0 0) ((gm w).length:Int) 0 k v (gm w) = some (qb w,true):=by
  intro h0
  have lp:=(mx (gm w) (fun i b=>aF b ((gm w).length:Int) i k v (gm w)) (fun b s=>bif aa (aP b w < aP s w) then s else b) (fun _ _=>True) (fun i b hi _=>⟨by
   show aF _ _ _ _ _ _ = aF _ _ _ _ _ _
   rw [gn]
   simp only [be hi,bp,cond_true,av,Bool.or_true,aR hi,bd hi (by omega)]
   have g1:cw (.i .i64) k v b 0 = aP b w:=h2.val b
   have g2:cw (.i .i64) k v (gm w)[i] 0 = aP (gm w)[i] w:=h2.val _
   rw [g1,g2]
   cases aa (aP b w < aP (gm w)[i] w) <;> rfl,trivial⟩) (gD (gm w) 0 0) trivial).1
  refine lp.trans ?_
  show aF _ _ _ _ _ _ = _
  rw [gn,bi,cond_false]
  unfold qb
  cases hs:gm w with
  | nil=>rw [hs] at h0;simp at h0
  | cons a r =>
   rw [hs] at hge
   have ha:=hge a (by simp)
   show some (List.foldl _ a (a :: r),true) = _
   rw [List.foldl_cons,List.foldl_cons,aL (p:=aP a w < aP a w) (by omega),cond_false,Hw _ r a ha fun x hx=>hge x (by simp [hx])]
   have:rF (fun s=>aP s w) (-1) a = a:=by unfold rF;rw [au (p:=(-1:Int) < 0) (by omega)];rfl
   rw [this]
 have hone:(gm w).length = 1→gD (gm w) 0 0 = qb w:=by
  intro h
  unfold qb
  match hs:gm w,h with
  | [a],_ =>
   have:rF (fun s=>aP s w) (-1) a = a:=by unfold rF;rw [au (p:=(-1:Int) < 0) (by omega)];rfl
   rw [List.foldl_cons,List.foldl_nil,this];rfl
 unfold EI
 cases h0:ae ((gm w).length:Int) 0 with
 | true=>rfl
 | false =>
  have h0':=gZ.1 h0
  rw [cond_false,cond_false]
  cases h1':ae ((gm w).length:Int) 1 with
  | true =>
   rw [cond_true,cond_true,ax (by omega),hone (by have:=dN.1 h1'; omega)]
  | false =>
   rw [cond_false,cond_false]
   cases hc:(bS&&(aa (0 < aP home w)&&aa (sub*dO w≤100*aP home w))) with
   | true=>rfl
   | false =>
    rw [cond_false,cond_false]
    cases he1:ae (e.length:Int) 1 with
    | true =>
     rw [cond_true,cond_true,ax (by have:=dN.1 he1;omega)]
    | false =>
     rw [cond_false,cond_false,hloop (by omega)]
     have g0:∀ o:Option (Int × Bool),(gb (aa (0 < ((gm w).length:Int))) o) = o:=fun o=>ax (by omega)
     simp only [g0]
     cases bS with
     | false=>rfl
     | true =>
      cases he2:ae (e.length:Int) 2 with
      | false=>rfl
      | true =>
       have hel:e.length = 2:=by have:=dN.1 he2;omega
       rw [cond_true,cond_true,zn _ _ (by omega),Option.bind_some]
       match e,hel with
       | [a,b],_ =>
        have hab:=seats_rng a (by simp)
        have hbb:=seats_rng b (by simp)
        have hho:=hh rfl
        have es:[a,b].any (fun k=>ae home k) = (ae home a||ae home b):=by simp
        rw [es]
        show (bif _ then (gb _<|gb _<|some (ac (ac (a+b) - home),true)) else some (home,true)) = some (bif (true&&(true&&ae a home)) then (b,true) else bif (true&&(true&&ae b home)) then (a,true) else (home,true))
        rw [ax (by simp),ax (by simp),al (n:=a+b) (by omega) (by omega),al (n:=a+b - home) (by omega) (by omega)]
        by_cases ea:home = a
        ·rw [dN.2 ea,dN.2 ea.symm]
         simp;omega
        ·by_cases eb:home = b
         ·rw [gZ.2 ea,gZ.2 (Ne.symm ea),dN.2 eb,dN.2 eb.symm]
          simp;omega
         ·rw [gZ.2 ea,gZ.2 (Ne.symm ea),gZ.2 eb,gZ.2 (Ne.symm eb)]
          rfl
end Go.Ax
set_option linter.all false
/- The document's law by activity; LawDays. -/
set_option maxRecDepth 100000
namespace Go.Ax
theorem EW (c:List GFact) (hc:c.length≤40) (hv:∀ f∈c,cH f = true) (day:Int):rU c day = some (sh (c.filter (cd day [1,2]))):=by
 rw [DY]
 have hw:=EM hv day
 obtain ⟨h1,h2⟩:=mx c (fun i (out:List Int)=>bV c day i [0,0,0,0,0,0] out) (fun out f=>bif cd day [1,2] f then List.set out f.State.toNat (ac ((gD out f.State.toNat 0)+f.Share)) else out)
  (fun i out=>out = sh ((c.take i).filter (cd day [1,2]))) (fun i out hi ho=>by
   have hsub:(c.take (i+1)).filter (cd day [1,2]) = (c.take i).filter (cd day [1,2])++(if cd day [1,2] c[i] = true then [c[i]] else []):=by
    rw [yy hi,List.filter_append]
    congr 1
    by_cases h:cd day [1,2] c[i] = true
    ·rw [List.filter_cons,if_pos h,if_pos h];rfl
    ·rw [List.filter_cons,if_neg h,if_neg h];rfl
   have hap:C1 ((c.take (i+1)).filter (cd day [1,2])):=fun g hg=>hw g (List.mem_filter.2 ⟨List.mem_of_mem_take (List.mem_filter.1 hg).1,(List.mem_filter.1 hg).2⟩)
   have hlp:((c.take i).filter (cd day [1,2])).length≤40:=Nat.le_trans (List.length_filter_le _ _) (by rw [List.length_take];omega)
   have hol:out.length = 6:=by rw [ho];rfl
   have eo:cd day [1,2] c[i] = ((ae c[i].Kind 1||ae c[i].Kind 2)&&bK c[i].Span day):=by unfold cd;simp
   refine ⟨?_, ?_⟩
   ·show bV _ _ _ _ _ = bV _ _ _ _ (bif cd day [1,2] c[i] then _ else _)
    rw [oq]
    simp only [be hi,bp,cond_true,av,Bool.or_true,aR hi,bd hi (by omega)]
    simp only [mP,Option.bind_some,au hol,av]
    rw [eo]
    cases hb:cd day [1,2] c[i] with
    | false =>
     rw [eo] at hb
     cases h1:ae c[i].Kind 1 <;> cases h2:ae c[i].Kind 2 <;> cases h3:bK c[i].Span day <;> rw [h1,h2,h3] at hb <;> first | rfl | cases hb
    | true =>
     have hst:=(hw c[i] (List.mem_filter.2 ⟨List.getElem_mem hi,hb⟩)).1
     rw [eo] at hb
     rw [au hst.1,au hst.2]
     cases h1:ae c[i].Kind 1 <;> cases h2:ae c[i].Kind 2 <;> cases h3:bK c[i].Span day <;> rw [h1,h2,h3] at hb <;> first | rfl | cases hb
   ·cases hb:cd day [1,2] c[i] with
    | false =>
     rw [cond_false,hsub,if_neg (by rw [hb];simp),List.append_nil]
     exact ho
    | true =>
     rw [hsub,if_pos hb] at hap
     rw [cond_true,hsub,if_pos hb,ho]
     exact RQ _ _ hap hlp) [0,0,0,0,0,0] rfl
 refine Eq.trans h1 ?_
 rw [List.take_length] at h2
 rw [h2]
 show bV _ _ _ _ _ = _
 rw [oq,bi,cond_false]
 rfl
theorem Ry (sm:Int→Int):∀ (l:List Int) (a n b:Int),l.foldl (fun (s:Int × Int × Int) x=>(s.1+sm x,(bif aa (0 < sm x) then s.2.1+1 else s.2.1),(bif aa (0 < sm x) then rF sm s.2.2 x else s.2.2))) (a,n,b) =
  ((l.map sm).foldl (fun a x=>a+x) a,n+((l.filter fun x=>aa (0 < sm x)).length:Int),(l.filter fun x=>aa (0 < sm x)).foldl (rF sm) b)
 | [],a,n,b=>by simp
 | x :: r,a,n,b=>by
  rw [List.foldl_cons,Ry sm r,List.map_cons,List.foldl_cons,List.filter_cons]
  cases aa (0 < sm x) with
  | true=>rw [if_pos rfl,cond_true,cond_true,List.foldl_cons,List.length_cons];simp;omega
  | false=>rw [if_neg (by simp),cond_false,cond_false]
theorem TX {i:Nat} (hi:i < L6.length):L6[i] = (i:Int):=by
 have:i = 0∨i = 1∨i = 2∨i = 3∨i = 4∨i = 5:=by simp [L6] at hi;omega
 rcases this with rfl | rfl | rfl | rfl | rfl | rfl <;> rfl
theorem Ly (l c:List GFact) (hc:c.length≤40) (hv:∀ f∈c,cH f = true) (r:GRules) (hsub:0≤r.Substantial∧r.Substantial≤100) (day:Int) (e:List Int) (he:vw (c.filter (cd day [1])) e) (hes:pq c day = some e)
  (home:Int) (bS:Bool) (hres:fM l day = some (home,bS)) (hh:bS = true→0≤home∧home < 6) :
  jc l c r day = some (EI (c.filter (cd day [1,2])) e home bS r.Substantial):=by
 rw [AY,EW c hc hv,Option.bind_some]
 have hw:=EM hv day
 have hwl:=Nat.le_trans (List.length_filter_le (cd day [1,2]) c) hc
 have hw1:=Nat.le_trans (List.length_filter_le (cd day [1]) c) hc
 generalize c.filter (cd day [1,2]) = w at hw hwl
 show bF l c day 0 0 (-1) 0 r (sh w) = _
 have h6:(sh w).length = 6:=rfl
 obtain ⟨h1,h2⟩:=mx L6 (fun i (s:Int × Int × Int)=>bF l c day s.1 s.2.1 s.2.2 i r (sh w))
  (fun s x=>(s.1+aP x w,(bif aa (0 < aP x w) then s.2.1+1 else s.2.1),(bif aa (0 < aP x w) then rF (fun s=>aP s w) s.2.2 x else s.2.2)))
  (fun i s=>(0≤s.1∧s.1≤4000*(i:Int))∧(0≤s.2.1∧s.2.1≤(i:Int))∧(s.2.2 = -1∨(0≤s.2.2∧s.2.2 < 6))) (fun i s hi hs=>by
   obtain ⟨⟨a1,a2⟩,⟨b1,b2⟩,c1⟩:=hs
   have hi6:i < 6:=hi
   rw [TX hi]
   have hr:=mI (i:Int) w hw
   refine ⟨?_, ?_⟩
   ·show bF _ _ _ _ _ _ _ _ _ = bF _ _ _ _ (bif _ then _ else _) (bif _ then _ else _) _ _ _
    rw [mm,au (p:=(i:Int) < 6) (by omega),bp,au h6]
    simp only [cond_true,av,Bool.or_true]
    rw [DZ w (b:=(i:Int)) (by omega) (by omega),al (n:=s.1+aP (i:Int) w) (by omega) (by omega),al (n:=s.2.1+1) (by omega) (by omega),bd hi6 (by omega)]
    unfold rF
    rcases c1 with c1 | ⟨c1,c2⟩
    ·rw [c1,au (p:=(-1:Int) < 0) (by omega)]
     cases aa (0 < aP (i:Int) w) <;> rfl
    ·rw [aL (p:=s.2.2 < 0) (by omega),au c1,au c2,DZ w c1 c2]
     cases aa (0 < aP (i:Int) w) <;> cases aa (aP s.2.2 w < aP (i:Int) w) <;> rfl
   ·refine ⟨⟨by show 0≤s.1+_;omega,by show s.1+_≤_;omega⟩, ?_, ?_⟩
    ·show 0≤(bif _ then _ else _)∧(bif _ then _ else _)≤_
     cases aa (0 < aP (i:Int) w)
     ·rw [cond_false];omega
     ·rw [cond_true];omega
    ·show (bif _ then _ else _) = -1∨_
     cases aa (0 < aP (i:Int) w)
     ·exact c1
     ·have hb:∀ x:Int,x = (rF (fun s=>aP s w) s.2.2 (i:Int))→x = -1∨(0≤x∧x < 6):=by
       intro x hx
       rw [hx]
       unfold rF
       cases (aa (s.2.2 < 0)||aa (aP s.2.2 w < aP (i:Int) w))
       ·exact c1
       ·right
        show 0≤(i:Int)∧(i:Int) < 6
        omega
      exact hb _ rfl) (0,0, -1) ⟨by simp,by simp, .inl rfl⟩
 refine Eq.trans h1 ?_
 rw [Ry (fun s=>aP s w)] at h2 ⊢
 have e1:(L6.map fun s=>aP s w).foldl (fun a x=>a+x) 0 = dO w:=PP w hw
 have e2:L6.filter (fun x=>aa (0 < aP x w)) = gm w:=rfl
 have e3:(gm w).foldl (rF fun s=>aP s w) (-1) = qb w:=rfl
 rw [e1,e2,e3] at h2 ⊢
 show bF l c day (dO w) (0+((gm w).length:Int)) (qb w) 6 r (sh w) = _
 rw [Int.zero_add]
 have r1:=wX w hw
 have r2:=mI home w hw
 have hmul:0≤r.Substantial*dO w∧r.Substantial*dO w≤400000:=by
  refine ⟨Int.mul_nonneg hsub.1 r1.1, ?_⟩
  have h5:r.Substantial*dO w≤100*dO w:=Int.mul_le_mul_of_nonneg_right hsub.2 r1.1
  omega
 rw [mm,aL (p:=(6:Int) < 6) (by omega),cond_false,hres,Option.bind_some,hes,Option.bind_some,al (n:=r.Substantial*dO w) (by omega) (by omega)]
 unfold EI
 cases h0:ae ((gm w).length:Int) 0 with
 | true=>rfl
 | false =>
  rw [cond_false,cond_false]
  cases h1':ae ((gm w).length:Int) 1 with
  | true=>rfl
  | false =>
   rw [cond_false,cond_false,au h6]
   cases bS with
   | false =>
    simp only [Bool.false_and,cond_false,Bool.not_false,Bool.true_or,av]
    cases he1:ae (e.length:Int) 1 with
    | true=>rw [cond_true,cond_true,ax (by have:=dN.1 he1;omega)]
    | false=>rfl
   | true =>
    have hho:=hh rfl
    simp only []
    rw [au hho.1,au hho.2,DZ w hho.1 hho.2,al (n:=100*aP home w) (by omega) (by omega)]
    simp only [Bool.or_true,av,cond_true,Bool.true_and]
    cases hc1:aa (0 < aP home w) <;> cases hc2:aa (r.Substantial*dO w≤100*aP home w) <;> first | rfl | skip
    all_goals
     simp only [cond_true,cond_false,Bool.false_and,Bool.and_false]
     cases he1:ae (e.length:Int) 1 with
     | true=>rw [cond_true,cond_true,ax (by have:=dN.1 he1;omega)]
     | false =>
      rw [cond_false,cond_false]
      cases he2:ae (e.length:Int) 2 with
      | false=>rfl
      | true =>
       have hel:e.length = 2:=by have:=dN.1 he2;omega
       rw [au (p:=0 < (e.length:Int)) (by omega),au (p:=1 < (e.length:Int)) (by omega)]
       cases ae (gD e 0 0) home <;> cases ae (gD e 1 0) home <;> rfl
theorem HH {T:Type} (p:T→Bool) (bt:T→T→Bool):∀ (l:List T) (s:Bool × T),(l.foldl (cJ p bt) s).1 = true→(s.1 = true∧l.foldl (cJ p bt) s = s)∨((l.foldl (cJ p bt) s).2∈l∧p (l.foldl (cJ p bt) s).2 = true)
 | [],s,h=>.inl ⟨h,rfl⟩
 | f :: l,s,h=>by
  rw [List.foldl_cons] at h ⊢
  rcases HH p bt l _ h with ⟨h1,h2⟩ | ⟨h1,h2⟩
  ·rw [h2]
   unfold cJ at h1 ⊢
   cases hc:(p f&&(!s.1||bt s.2 f)) with
   | true=>rw [cond_true];exact .inr ⟨by simp,(Bool.and_eq_true _ _ ▸ hc).1⟩
   | false=>rw [hc,cond_false] at h1;rw [cond_false];exact .inl ⟨h1,rfl⟩
  ·exact .inr ⟨by simp [h1],h2⟩
theorem EZ {c:List GFact} (hv:∀ f∈c,cH f = true) (day:Int):(fk c day).1 = true→0≤(fk c day).2.State∧(fk c day).2.State < 6:=by
 intro h
 unfold fk at h ⊢
 rcases HH _ _ _ _ h with ⟨h1,_⟩ | ⟨h1,h2⟩
 ·cases h1
 ·refine yV (hv _ h1) ?_
  generalize (c.foldl (cJ (yW day) Mn) (false,zS .GFact)).2 = g at h2 ⊢
  unfold yW at h2
  have:=dN.1 (Bool.and_eq_true _ _ ▸ h2).1
  rw [this];decide
theorem SL (l:List GFact) (hl:l.length≤40) (t:List GRules) (ht:ou t) (day:Int):∃ y,cB l t day = some y∧ph l t day = some y:=by
 obtain ⟨p,p1,p2,p3,p4,p5⟩:=rH l hl
 have hr:=JI p3 p5
 have hcl:=List.length_filter_le aB l
 obtain ⟨e,e1,e2⟩:=xM (l.filter aB) day (by omega)
 refine ⟨_,Bp l hl t ht p p2 hr day (EI ((l.filter aB).filter (cd day [1,2])) e (fk (l.filter aB) day).2.State (fk (l.filter aB) day).1 (cF t day).1.Substantial) fun h1 h2=>?_,Oj l hl t ht p p1 p4 hr day _ fun h1 h2=>?_⟩
 ·obtain ⟨hd,hm⟩:=nk h1
  have hru:=(ht.mem hm).1
  exact yS ⟨l.filter aB,aT l,p,t⟩ day _ (by show (l.filter aB).length≤40;omega) jp ⟨hru.2.2.2.2.2.2.1,hru.2.2.2.2.2.2.2⟩ e e2 _ _ (qo l day (by omega) hd h2) (EZ jp day)
 ·obtain ⟨hd,hm⟩:=nk h1
  have hru:=(ht.mem hm).1
  have hres:=oG l day (by omega)
  rw [h2,cond_true] at hres
  exact Ly l (l.filter aB) (by omega) jp _ ⟨hru.2.2.2.2.2.2.1,hru.2.2.2.2.2.2.2⟩ day e e2 e1 _ _ hres (EZ jp day)
theorem Qd (n:List Int) (hn:n.length≤9223372036854775807) (limit:Int):En ou (uE n limit):=by
 rw [GE]
 refine .bind (R6 n hn) fun y hy=>?_
 have hck:=Sb hy
 refine En.bif (fun _=>?_) fun _=>.some hck
 generalize y.2.1 = t at hck
 have key:∀ (k i:Nat) (t:List GRules),t.length = i+k→ou t→En ou (jA limit (i:Int) t):=by
  intro k
  induction k with
  | zero =>
   intro i t hk ht
   have:i = t.length:=by omega
   subst this
   rw [oE,bi,cond_false]
   exact .some ht
  | succ k ih =>
   intro i t hk ht
   have hi:i < t.length:=by omega
   have hle:=ht.le
   rw [oE,be hi,cond_true]
   refine .bind (fc _ 50 (by decide) (by decide)) fun q hq=>.bind (fc _ 101 (by decide) (by decide)) fun s hs=>?_
   rw [bp,av,av,av]
   generalize hA:(⟨(gD t ((i:Nat):Int).toNat (zS .GRules)).From,(gD t ((i:Nat):Int).toNat (zS .GRules)).MinDays,q,(gD t ((i:Nat):Int).toNat (zS .GRules)).Substantial,(gD t ((i:Nat):Int).toNat (zS .GRules)).Members⟩:GRules) = A
   have hin:((i:Nat):Int).toNat = i:=by omega
   have eA:A = ⟨t[i].From,t[i].MinDays,q,t[i].Substantial,t[i].Members⟩:=by rw [← hA,aR hi]
   rw [hin]
   have gA:gD (List.set t i A) i (zS .GRules) = A:=by
    unfold gD
    rw [List.getD_eq_getElem?_getD,List.getElem?_set,if_pos rfl,if_pos hi];rfl
   rw [gA,List.length_set,List.set_set,bd hi (by omega),ax (by omega)]
   refine ih (i+1) _ (by rw [List.length_set];omega) ?_
   have eB:(⟨A.From,A.MinDays,A.PostingLimit,s,A.Members⟩:GRules) = ⟨t[i].From,t[i].MinDays,q,s,t[i].Members⟩:=by rw [eA]
   rw [eB]
   have hF:∀ (j:Nat) (hj:j < t.length),((t.set i ⟨t[i].From,t[i].MinDays,q,s,t[i].Members⟩)[j]'(by rw [List.length_set];exact hj)).From = t[j].From:=by
    intro j hj
    rw [List.getElem_set]
    split
    ·next h=>subst h;rfl
    ·rfl
   refine ⟨by rw [List.length_set];exact ht.le,by rw [List.length_set];exact ht.ne, ?_,fun j hj=>?_⟩
   ·have h0:=ht.ne
    have e0:gD t 0 (zS .GRules) = t[0]:=aR (i:=0) h0
    have e1:gD (t.set i ⟨t[i].From,t[i].MinDays,q,s,t[i].Members⟩) 0 (zS .GRules) = (t.set i ⟨t[i].From,t[i].MinDays,q,s,t[i].Members⟩)[0]'(by rw [List.length_set];exact h0):=aR (i:=0) (by rw [List.length_set];exact h0)
    rw [e1,hF 0 h0, ← e0,ht.zero]
   ·have hj':j < t.length:=by rw [List.length_set] at hj;exact hj
    obtain ⟨o1,o2,o3⟩:=ht.ok j hj'
    refine ⟨?_, ?_,fun h=>?_⟩
    ·rw [List.getElem_set]
     split
     ·next h =>
      subst h
      exact ⟨o1.1,o1.2.1,o1.2.2.1,o1.2.2.2.1,hq.1,by show q≤73049;omega,hs.1,by show s≤100;omega⟩
     ·exact o1
    ·rw [List.getElem_set]
     split
     ·next h=>subst h;exact o2
     ·exact o2
    ·rw [hF j hj',hF (j - 1) (by omega)]
     exact o3 h
 exact key t.length 0 t (by omega) hck
theorem Lx (l:List GPensionhand_Fact) (n:List Int) (dense:Bool) (limit day:Int):xH l n dense limit day = some true:=by
 rw [B2]
 by_cases hn:60 < (n.length:Int)
 ·rw [au hn];rfl
 ·rw [aL hn,cond_false]
  obtain ⟨a,ha,hal⟩:=Lo l n dense (by omega)
  obtain ⟨t,h2,h3⟩:=Qd n (by omega) limit
  obtain ⟨d,h4,_⟩:=OL day dense
  obtain ⟨y,y1,y2⟩:=SL a (by omega) t h3 d
  rw [ha,Option.bind_some,h2,Option.bind_some,h4,Option.bind_some,y1,Option.bind_some,y2,Option.bind_some,MB,Option.bind_some,jF,jF]
  rfl
end Go.Ax
set_option linter.all false
/- LawPosted. -/
set_option maxRecDepth 100000
namespace Go.Ax
theorem PL (l:List GFact) (hl:l.length≤40) (t:List GRules) (ht:ou t) (day:Int):∃ p e,dL l = some p∧p.Perm ((lc 0 6).flatMap (fe (l.filter aB) (aT l)))∧Dj p∧vw ((l.filter aB).filter (cd day [1])) e ∧
  cB l t day = some (bif (cF t day).2&&bK (aT l) day then vT (l.filter aB) p (cF t day).1.PostingLimit (EI ((l.filter aB).filter (cd day [1,2])) e (fk (l.filter aB) day).2.State (fk (l.filter aB) day).1 (cF t day).1.Substantial) day else (-1,0)):=by
 obtain ⟨p,p1,p2,p3,p4,p5⟩:=rH l hl
 have hr:=JI p3 p5
 have hcl:=List.length_filter_le aB l
 obtain ⟨e,e1,e2⟩:=xM (l.filter aB) day (by omega)
 refine ⟨p,e,p2,p3,p4,e2,Bp l hl t ht p p2 hr day _ fun h1 h2=>?_⟩
 obtain ⟨hd,hm⟩:=nk h1
 have hru:=(ht.mem hm).1
 exact yS ⟨l.filter aB,aT l,p,t⟩ day _ (by show (l.filter aB).length≤40;omega) jp ⟨hru.2.2.2.2.2.2.1,hru.2.2.2.2.2.2.2⟩ e e2 _ _ (qo l day (by omega) hd h2) (EZ jp day)
theorem zq {T:Type} (p:T→Bool) (bt:T→T→Bool) (l:List T) (f:T) (s:Bool × T) (h:p f = false):(l++[f]).foldl (cJ p bt) s = l.foldl (cJ p bt) s:=by
 rw [List.foldl_append,List.foldl_cons,List.foldl_nil]
 unfold cJ
 rw [h];rfl
def Plain (f:GFact):Prop:=f.Kind≠4∧f.Kind≠11∧f.Kind≠12
theorem On (a:List GFact) (ha:a.length≤30) (hp:∀ f∈a,Plain f) (from' len limit day:Int) (hf:22000≤from'∧from'≤22050) (hlen:0≤len∧len < 90) (hlim:0≤limit∧limit < 60) (hday:21990≤day∧day < 22200) :
  ((cB (a++[(⟨4,5,1,false,1,4,1,(⟨from',from'+1+len⟩:GSpan),3,0,0,0,0⟩:GFact)]) [(⟨0,0,limit,25,[]⟩:GRules)] day).bind fun r6=>(cB a [(⟨0,0,limit,25,[]⟩:GRules)] day).bind fun r7=>(me).bind fun r8=>bif (!r8) then some false else bif (bif (bif aa (from'≤day) then aa (day < from'+1+len) else false) then aa (day < from'+limit) else false) then some (bif (ae r6.1 3) then (ae r6.2 1) else false) else some (bif (ae r6.1 r7.1) then (ae r6.2 r7.2) else false)) = some true:=by
 generalize hP:(⟨4,5,1,false,1,4,1,(⟨from',from'+1+len⟩:GSpan),3,0,0,0,0⟩:GFact) = P
 generalize hT:[(⟨0,0,limit,25,[]⟩:GRules)] = t
 have hck:ou t:=by
  subst hT
  refine ⟨by simp,by simp,rfl,fun i hi=>?_⟩
  have:i = 0:=by simp at hi;omega
  subst this
  exact ⟨by simp [qu];omega,⟨by simp,fun k hk=>by simp at hk⟩,fun h=>by omega⟩
 have hrule:cF t day = (⟨0,0,limit,25,[]⟩,true):=by
  subst hT
  unfold cF
  rw [aL (p:=day < 0) (by omega),aL (p:=73049≤day) (by omega)]
  show (match List.find? (fun r:GRules=>aa (r.From≤day)) [(⟨0,0,limit,25,[]⟩:GRules)] with | some r=>(r,true) | none=>(zS .GRules,false)) = _
  rw [List.find?_cons,au (p:=(⟨0,0,limit,25,[]⟩:GRules).From≤day) (by show (0:Int)≤day;omega)]
 have hPk:P.Kind = 4:=by rw [← hP]
 have hPs:P.Span = ⟨from',from'+1+len⟩:=by rw [← hP]
 have hPr:xL P = ⟨3,1⟩:=by rw [← hP];rfl
 have hcur:aB P = true:=by
  have:cH P = true:=by
   rw [lr, ← hP]
   refine ⟨by show (dJ 4).isEmpty = false;decide,by show (0:Int)≤4∧(4:Int)≤5;decide,by show (1:Int)≤5∧(5:Int)≤999;decide,by show (1:Int)≤1∧(1:Int)≤99;decide,by show (1:Int)≤1∧(1:Int)≤99;decide,by show bj (cI 4 83) 1 0 5 = true;decide,by show bj (cI 4 84) 3 0 5 = true;decide,⟨by show 0≤from'; omega,by show from' < from'+1+len;omega,by show from'+1+len≤73049;omega⟩,by show bj (cI 4 72) 0 1 100 = true;decide,by show bj (cI 4 67) 0 1 999 = true;decide,by show bj (cI 4 65) 0 0 1000000000 = true;decide,by show bj (cI 4 82) 0 1 99 = true;decide,by unfold tw;rfl⟩
  unfold aB
  rw [this, ← hP];rfl
 have hfil:(a++[P]).filter aB = a.filter aB++[P]:=by
  rw [List.filter_append,List.filter_cons,if_pos hcur];rfl
 have hplain:∀ f∈a.filter aB,Plain f:=fun f hf=>hp f (List.mem_filter.1 hf).1
 have fz:∀ k,(k = 11∨k = 12)→gk (a++[P]) k = (0,false)∧gk a k = (0,false):=by
  intro k hk
  have none:∀ (c:List GFact),(∀ f∈c,f.Kind≠k)→∀ s,c.foldl (fun a f=>yl k f a) s = s:=by
   intro c
   induction c with
   | nil=>intro _ s;rfl
   | cons f r ih =>
    intro h s
    have:yl k f s = s:=by unfold yl;rw [if_neg];rw [gZ.2 (h f (by simp))];simp
    rw [List.foldl_cons,this]
    exact ih (fun g hg=>h g (by simp [hg])) s
  have ha':∀ f∈a.filter aB,f.Kind≠k:=fun f hf=>by
   have:=hplain f hf
   rcases hk with rfl | rfl
   ·exact this.2.1
   ·exact this.2.2
  constructor
  ·unfold gk
   rw [hfil]
   refine none _ (fun f hf=>?_) _
   rcases List.mem_append.1 hf with h | h
   ·exact ha' f h
   ·simp at h;subst h;rw [hPk];omega
  ·exact none _ ha' _
 have hlife:aT a = ⟨0,73049⟩∧aT (a++[P]) = ⟨0,73049⟩:=by
  unfold aT
  rw [(fz 11 (.inl rfl)).1,(fz 11 (.inl rfl)).2,(fz 12 (.inr rfl)).1,(fz 12 (.inr rfl)).2]
  exact ⟨by simp;exact al (by decide) (by decide),by simp;exact al (by decide) (by decide)⟩
 have hin:bK ⟨0,73049⟩ day = true:=by
  unfold bK
  rw [au (p:=(0:Int)≤day) (by omega),au (p:=day < (73049:Int)) (by omega)];rfl
 obtain ⟨p,e,p1,p2,p3,e1,y1⟩:=PL a (by omega) t hck day
 obtain ⟨q,e',q1,q2,q3,e1',y2⟩:=PL (a++[P]) (by simp;omega) t hck day
 have hpn:=xK a (by omega) fun f hf=>(hplain f hf).1
 rw [hpn] at p1
 cases p1
 rw [hlife.1,hrule,hin] at y1
 rw [hlife.2,hrule,hin,hfil] at y2
 rw [hfil] at e1' q2
 have honP:∀ ks:List Int,4 ∉ ks→cd day ks P = false:=fun ks h=>Qn (by rw [hPk];exact h)
 have ef:∀ ks:List Int,4 ∉ ks→(a.filter aB++[P]).filter (cd day ks) = (a.filter aB).filter (cd day ks):=by
  intro ks h
  rw [List.filter_append,List.filter_cons,if_neg (by rw [honP ks h];simp)];simp
 rw [ef [1] (by decide)] at e1'
 have ee:e' = e:=CU e1'.1 e1.1 fun x=>by rw [e1'.2.1,e1.2.1]
 have er:fk (a.filter aB++[P]) day = fk (a.filter aB) day:=by
  unfold fk
  refine zq _ _ _ _ _ ?_
  unfold yW
  rw [gZ.2 (by rw [hPk];decide)];rfl
 have ec:qt (a.filter aB++[P]) day = qt (a.filter aB) day:=zq _ _ _ _ _ (honP [3] (by decide))
 have eb:k5 (a.filter aB++[P]) day = k5 (a.filter aB) day:=by
  unfold k5
  rw [List.foldl_append,List.foldl_cons,List.foldl_nil]
  unfold yo
  rw [honP [7,8] (by decide)];rfl
 rw [ef [1,2] (by decide),ee,er] at y2
 have h0d:∀ r,aX (a.filter aB) r = []:=by
  intro r
  unfold aX
  rw [List.map_eq_nil_iff,List.filter_eq_nil_iff]
  intro f hf h
  exact (hplain f hf).1 ((oJ _ _).1 h).1
 have hd1:aX (a.filter aB++[P]) ⟨3,1⟩ = [P.Span]:=by
  rw [no,h0d,List.nil_append,if_pos ((oJ _ _).2 ⟨hPk,hPr⟩)]
 have hd2:∀ r,r≠(⟨3,1⟩:Rt)→aX (a.filter aB++[P]) r = []:=by
  intro r hr
  rw [no,h0d,List.nil_append,if_neg (fun h=>hr (((oJ _ _).1 h).2.symm.trans hPr))]
 have hq:∀ x∈q,x.Seat = 3∧x.Span = ⟨from',from'+1+len⟩:=by
  intro x hx
  obtain ⟨r,_,h⟩:=List.mem_flatMap.1 (q2.mem_iff.1 hx)
  rw [hlife.2] at h
  obtain ⟨s,hs,rfl⟩:=List.mem_map.1 h
  by_cases hr:r = ⟨3,1⟩
  ·rw [hr,hd1] at hs
   have hcl:=mK [P.Span] ⟨0,73049⟩
   have hsing:iM [P.Span] ⟨0,73049⟩ = [⟨from',from'+1+len⟩]:=by
    refine ze hcl.1 ⟨by show (-1:Int) < from'; omega,by show from' < from'+1+len;omega,by show from'+1+len≤73049;omega,trivial⟩ fun d=>?_
    rw [hcl.2 d,hPs]
    simp only [dG,List.mem_singleton,exists_eq_left]
    omega
   rw [hsing] at hs
   simp at hs
   exact ⟨by rw [hr],hs⟩
  ·rw [hd2 r hr] at hs
   have hcl:=mK [] (⟨0,73049⟩:GSpan)
   have:=B9 (c:=[]) (life:=⟨0,73049⟩) (r:=r) rfl
   unfold fe at this
   rw [List.map_eq_nil_iff] at this
   rw [show aX [] r = [] from rfl] at this
   rw [this] at hs
   cases hs
 have hq0:q≠[]:=by
  intro h0
  rw [h0] at q2
  have:=q2.symm.eq_nil
  rw [List.flatMap_eq_nil_iff] at this
  have h1:=this ⟨3,1⟩ ((wh _ _ _).2 (by decide))
  rw [hlife.2] at h1
  unfold fe at h1
  rw [List.map_eq_nil_iff,hd1] at h1
  have hcl:=(mK [P.Span] ⟨0,73049⟩).2 from'
  rw [h1,hPs] at hcl
  exact dh (hcl.2 ⟨⟨⟨⟨from',from'+1+len⟩,List.mem_singleton.2 rfl,by show from'≤from'; omega,by show from' < from'+1+len;omega⟩,by show (0:Int)≤from'; omega,by show from' < (73049:Int);omega⟩,by omega,by omega⟩)
 rw [y2,y1,MB]
 simp only [Option.bind_some,Bool.not_true,cond_false,Bool.and_self,cond_true]
 have hpb:∀ x∈q,pB day limit x = (bif (bif aa (from'≤day) then aa (day < from'+1+len) else false) then aa (day < from'+limit) else false):=by
  intro x hx
  obtain ⟨_,h2⟩:=hq x hx
  unfold pB bK
  rw [h2]
  simp only [eY]
 cases hc:(bif (bif aa (from'≤day) then aa (day < from'+1+len) else false) then aa (day < from'+limit) else false) with
 | true =>
  have:qq q day limit = (3,true):=by
   unfold qq
   match q,hq0 with
   | x :: r,_ =>
    rw [List.find?_cons,hpb x (by simp),hc]
    show (x.Seat,true) = (3,true)
    rw [(hq x (by simp)).1]
  unfold vT
  rw [this]
  rfl
 | false =>
  have h1:qq q day limit = (0,false):=by
   unfold qq
   have:q.find? (pB day limit) = none:=by
    rw [List.find?_eq_none]
    intro x hx
    rw [hpb x hx,hc];simp
   rw [this]
  have h2:qq [] day limit = (0,false):=rfl
  unfold vT
  rw [h1,h2,ec,eb,er,jF,jF]
  rfl
end Go.Ax
set_option linter.all false
/- Merging keeps what holds of all facts; LawPosted. -/
set_option maxRecDepth 100000
namespace Go.Ax
def MQ (P:GFact→Prop) (a b:List GFact) (o:List GFact):Prop:=o.length≤a.length+b.length∧∀ x∈o,P x
theorem JD {P:GFact→Prop} {out:List GFact} {f:GFact} {n m k:Nat} (hP:∀ x∈out,P x) (hf:P f):∀ y∈(ao out 0 n++[f])++ao out m k,P y:=by
 intro y hy
 have hs:∀ a b,y∈ao out a b→P y:=fun a b h=>hP y (List.mem_of_mem_drop (List.mem_of_mem_take h))
 rcases List.mem_append.1 hy with h | h
 ·rcases List.mem_append.1 h with h | h
  ·exact hs _ _ h
  ·simp at h;rw [h];exact hf
 ·exact hs _ _ h
theorem Qm {P:GFact→Prop} {out:List GFact} {f:GFact} {n:Nat} (hP:∀ x∈out,P x) (hf:P f):∀ y∈List.set out n f,P y:=by
 intro y hy
 rcases List.mem_or_eq_of_mem_set hy with h | h
 ·exact hP y h
 ·rw [h];exact hf
theorem PB (P:GFact→Prop) (a b:List GFact) (ha:a.length+b.length≤900) (pa:∀ x∈a,P x) (pb:∀ x∈b,P x):En (MQ P a b) (gB a b):=by
 have key:∀ (k:Nat) (i:Int) (out:List GFact),(a.length:Int)+b.length - i≤k→0≤i→(out.length:Int)≤i→i≤(a.length:Int)+b.length→(∀ x∈out,P x)→En (MQ P a b) (aK a b i out):=by
  intro k
  induction k with
  | zero =>
   intro i out hk h0 ho hi hP
   rw [ir,al (n:=(a.length:Int)+b.length) (by omega) (by omega)]
   exact En.ifd (fun h=>by omega) fun _=>.some ⟨by omega,hP⟩
  | succ k ih =>
   intro i out hk h0 ho hi hP
   have p3731:i < (a.length:Int)+b.length→∀ f,P f→En (MQ P a b) (gp a b i out f):=by
    intro hlt f hf
    rw [oa,fV,Option.bind_some,al (n:=i+1) (by omega) (by omega)]
    refine En.bif (fun _=>ih _ _ (by omega) (by omega) (by omega) (by omega) hP) fun _=>?_
    have lp:∀ (m:Nat) (x:Int),x≤m→0≤x→x≤(out.length:Int)→En (MQ P a b) (fH a b i x out f):=by
     intro m
     induction m with
     | zero =>
      intro x hx hx0 hxl
      obtain rfl:x = 0:=by omega
      rw [fR]
      refine En.go (fun h=>by simp at h) (En.go (fun h=>by simp at h) (En.ifd (fun h=>by omega) fun _=>En.go (fun h=>by simp at h) (En.go (fun h=>by simp at h) (En.ifd (fun h=>by omega) fun _=>?_))))
      rw [eG (by omega) hxl,js (by omega) hxl,al (n:=i+1) (by omega) (by omega)]
      simp only [List.length_append,List.length_singleton]
      rw [eG (by omega) hxl]
      refine En.gd (by omega) (En.gd (by omega) (En.gd (by omega) (En.gd (by omega) (En.gd (by omega) (En.gd (by omega) (En.gd (by omega) (En.gd (by omega) (En.gd (by omega) (En.gd (by omega) (En.gd (by omega) (ih _ _ (by omega) (by omega) ?_ (by omega) (JD hP hf))))))))))))
      simp only [List.length_append,List.length_singleton]
      rw [eG (by omega) hxl,js (by omega) hxl]
      omega
     | succ m ihm =>
      intro x hx hx0 hxl
      by_cases hz:x≤m
      ·exact ihm x hz hx0 hxl
      have hp:0 < x:=by omega
      rw [fR,al (n:=x - 1) (by omega) (by omega),al (n:=i+1) (by omega) (by omega)]
      have ins:En (MQ P a b) (gb (aa (0≤x))<|gb (aa (x≤(out.length:Int)))<|gb (aa (((ao out 0 (x - 0).toNat).length*112)≤140737488355328))<|gb (aa ((ao out 0 (x - 0).toNat).length≤140737488355328)) <|
        gb (aa ((((ao out 0 (x - 0).toNat).length+1)*112)≤140737488355328))<|gb (aa (((ao out 0 (x - 0).toNat).length+1)≤140737488355328))<|gb (aa (0≤x))<|gb (aa (x≤(out.length:Int)))<|gb (aa ((out.length:Int)≤(out.length:Int))) <|
        gb (aa (((((ao out 0 (x - 0).toNat)++[f]).length+(ao out x.toNat ((out.length:Int) - x).toNat).length)*112)≤140737488355328))<|gb (aa ((((ao out 0 (x - 0).toNat)++[f]).length+(ao out x.toNat ((out.length:Int) - x).toNat).length)≤140737488355328)) <|
        aK a b (i+1) (((ao out 0 (x - 0).toNat)++[f])++(ao out x.toNat ((out.length:Int) - x).toNat))):=by
       rw [eG (by omega) hxl,js (by omega) hxl]
       simp only [List.length_append,List.length_singleton]
       rw [eG (by omega) hxl]
       refine En.gd (by omega) (En.gd (by omega) (En.gd (by omega) (En.gd (by omega) (En.gd (by omega) (En.gd (by omega) (En.gd (by omega) (En.gd (by omega) (En.gd (by omega) (En.gd (by omega) (En.gd (by omega) (ih _ _ (by omega) (by omega) ?_ (by omega) (JD hP hf))))))))))))
       simp only [List.length_append,List.length_singleton]
       rw [eG (by omega) hxl,js (by omega) hxl]
       omega
      have less:∀ g,En (MQ P a b) ((lx g f).bind fun r2=>bif r2 then gb (aa (0≤(x - 1)))<|gb (aa ((x - 1) < (out.length:Int)))<|aK a b (i+1) (List.set out (x - 1).toNat f) else aK a b (i+1) out):=by
       intro g
       refine En.bind (MY _ _) fun y _=>En.bif (fun _=>En.gd (by omega) (En.gd (by omega) (ih _ _ (by omega) (by omega) (by rw [List.length_set];omega) (by omega) (Qm hP hf)))) fun _=>ih _ _ (by omega) (by omega) (by omega) (by omega) hP
      repeat' first
       | exact ins
       | exact ihm _ (by omega) (by omega) (by omega)
       | refine En.gd (by omega) (En.gd (by omega) (less _))
       | refine En.go (fun _=>by omega) ?_
       | refine En.ifd (fun _=>?_) (fun h=>absurd hp h)
       | refine En.bind (NL _ _) fun y _=>?_
       | refine En.bif (fun _=>?_) (fun _=>?_)
    exact lp _ _ (Int.self_le_toNat _) (by omega) (Int.le_refl _)
   rw [ir,al (n:=(a.length:Int)+b.length) (by omega) (by omega)]
   refine En.ifd (fun hlt=>En.ifd (fun h=>En.gd h0 (En.gd h (p3731 hlt _ (pa _ (mf h0 h))))) fun h=>?_) fun _=>.some ⟨by omega,hP⟩
   rw [al (n:=i - (a.length:Int)) (by omega) (by omega)]
   exact En.gd (by omega) (En.gd (by omega) (p3731 hlt _ (pb _ (mf (by omega) (by omega)))))
 rw [u4]
 exact key _ 0 [] (Int.self_le_toNat _) (by omega) (by simp) (by omega) (by simp)
theorem Ib (l:List GPensionhand_Fact) (n:List Int) (xfrom length limit day:Int):tU l n xfrom length limit day = some true:=by
 rw [yq]
 by_cases hn:60 < (n.length:Int)
 ·rw [au hn];rfl
 ·rw [aL hn,cond_false]
  obtain ⟨q,hq,hq1⟩:=fc xfrom 50 (by decide) (by decide)
  obtain ⟨s,hs,hs1⟩:=fc limit 60 (by decide) (by decide)
  obtain ⟨u,hu,hu1⟩:=fc length 90 (by decide) (by decide)
  obtain ⟨v,hv,hv1⟩:=fc day 160 (by decide) (by decide)
  rw [hq,Option.bind_some,hs,Option.bind_some,al (n:=22000+q) (by omega) (by omega)]
  generalize hX:22000+q = X
  have hX1:22000≤X∧X≤22050:=by omega
  have fin:∀ a:List GFact,a.length≤10→(∀ f∈a,Plain f)→cn l X length s day 10 a = some true∧∀ i:Int, ¬ (i < (l.length:Int)∧i < 10)→cn l X length s day i a = some true:=by
   intro a ha hp
   have all:∀ i:Int, ¬ (i < (l.length:Int)∧i < 10)→cn l X length s day i a = some true:=by
    intro i hi
    obtain ⟨m,hm,hm1,hm2⟩:=PB Plain a [] (by simp;omega) hp (by simp)
    simp at hm1
    have hc:(bif aa (i < (l.length:Int)) then aa (i < 10) else false) = false:=by
     rw [eY,Bool.and_eq_false_iff]
     by_cases h:i < (l.length:Int)
     ·exact .inr (aL fun h2=>hi ⟨h,h2⟩)
     ·exact .inl (aL h)
    rw [lO,hc,cond_false,hm,Option.bind_some,hu,Option.bind_some,hv,Option.bind_some,ax (by omega),ax (by omega),ax (by omega),ax (by omega),al (n:=X+1) (by omega) (by omega),al (n:=X+1+u) (by omega) (by omega),al (n:=21990+v) (by omega) (by omega),al (n:=X+s) (by omega) (by omega)]
    exact On m (by omega) hm2 X u s (21990+v) hX1 hu1 hs1 (by omega)
   exact ⟨all 10 (by omega),all⟩
  have key:∀ (k:Nat) (i:Int) (a:List GFact),10 - i≤k→0≤i→i≤10→(a.length:Int)≤i→(∀ f∈a,Plain f)→cn l X length s day i a = some true:=by
   intro k
   induction k with
   | zero=>intro i a hk h0 hi ha hp;exact (fin a (by omega) hp).2 i (by omega)
   | succ k ih =>
    intro i a hk h0 hi ha hp
    by_cases hc:i < (l.length:Int)∧i < 10
    ·rw [lO,au hc.1,au hc.2,cond_true,cond_true,ax h0,av]
     generalize gD l i.toNat (zS .GPensionhand_Fact) = r
     obtain ⟨x1,e1,_⟩:=fc r.From 200 (by decide) (by decide)
     obtain ⟨x2,e2,_⟩:=fc r.Length 200 (by decide) (by decide)
     rw [e1,Option.bind_some,e2,Option.bind_some]
     obtain ⟨g,e3,_⟩:=M3 (⟨r.Issuer,r.Number,r.Version,r.Withdrawn,0,r.Kind,r.State,r.Seat,x1,(ac (4*x2)),r.Share,r.Amount,r.Ref⟩:GPensionhand_Fact)
     rw [e3,Option.bind_some,al (n:=i+1) (by omega) (by omega)]
     have skip:=ih (i+1) a (by omega) (by omega) (by omega) (by omega) hp
     by_cases h4:g.Kind = 4
     ·rw [pc.2 h4];exact skip
     by_cases h11:g.Kind = 11
     ·rw [pc.2 h11];cases bI g.Kind 4 <;> exact skip
     by_cases h12:g.Kind = 12
     ·rw [pc.2 h12];cases bI g.Kind 4 <;> cases bI g.Kind 11 <;> exact skip
     ·have n1:∀ z:Int,g.Kind≠z→bI g.Kind z = true:=fun z h=>by
       cases hh:bI g.Kind z with
       | true=>rfl
       | false=>exact absurd (pc.1 hh) h
      rw [n1 4 h4,n1 11 h11,n1 12 h12,cond_true,cond_true,cond_true,ax (by omega),ax (by omega)]
      exact ih _ _ (by omega) (by omega) (by omega) (by simp;omega) fun f hf=>by
       rcases List.mem_append.1 hf with h | h
       ·exact hp f h
       ·simp at h;rw [h];exact ⟨h4,h11,h12⟩
    ·exact (fin a (by omega) hp).2 i hc
  exact key 10 0 [] (by omega) (by omega) (by omega) (by simp) (by simp)
end Go.Ax
