import Derived.Test.YtnnblpijaoocaaaGreatXP13
import Derived.Test.YtnnblpijaoocaaaGreatXP15
import Derived.Test.YtnnblpijaoocaaaGreatXP12
import Derived.Test.YtnnblpijaoocaaaGreatXP5
set_option linter.all false
/- Made versions and the document's law end. -/
set_option maxRecDepth 100000
namespace Go.Ax
theorem no (n k:Int) (h:0 < k) (h':k≤1000000000):En (fun y=>0≤y∧y < k) (gK n k):=by
 rw [I9 n k (by omega),if_neg (by omega)]
 exact .some ⟨Int.emod_nonneg _ (by omega),Int.emod_lt_of_pos _ h⟩
end Go.Ax
set_option linter.all false
/- Postings: the map by routes;whatever the order of the walk, the sorted list is the same. -/
set_option maxRecDepth 100000
namespace Go.Ax
abbrev Rt:=GCompetence_route
theorem Tg (x k:Rt):ug kR x k = true↔x = k:=by
 have e:ug kR x k = (ae x.seat k.seat&&ae x.state k.state):=(xy (s:=.GCompetence_route) rfl x k).trans rfl
 rw [e,Bool.and_eq_true]
 obtain ⟨a,b⟩:=x
 obtain ⟨c,d⟩:=k
 simp [ae]
theorem DT:∀ (ks:List Rt) (k:Rt),(aP kR ks k = ks.length∧k ∉ ks)∨(aP kR ks k < ks.length∧ks[aP kR ks k]? = some k)
 | [],k=>.inl ⟨rfl,by simp⟩
 | x :: r,k=>by
  have e:aP kR (x :: r) k = bif ug kR x k then 0 else aP kR r k+1:=rfl
  cases h:ug kR x k with
  | true =>
   rw [h,cond_true] at e
   have:=(Tg x k).1 h
   subst this
   exact .inr ⟨by rw [e];simp,by rw [e];rfl⟩
  | false =>
   rw [h,cond_false] at e
   have hne:x≠k:=fun h'=>by rw [(Tg x k).2 h'] at h;cases h
   rw [e]
   rcases DT r k with ⟨h1,h2⟩ | ⟨h1,h2⟩
   ·exact .inl ⟨by rw [h1];rfl,fun hm=>by rcases List.mem_cons.1 hm with h' | h'; exact hne h'.symm;exact h2 h'⟩
   ·exact .inr ⟨by simp;omega,by rw [List.getElem?_cons_succ];exact h2⟩
theorem Oe (ks:List Rt) (r:Rt):eC kR ks r = true↔r∈ks:=by
 unfold eC
 rw [Nat.blt_eq]
 rcases DT ks r with ⟨h,hn⟩ | ⟨h1,h2⟩
 ·exact ⟨fun h'=>by have h'':aP kR ks r < ks.length:=h'; have h3:aP kR ks r = ks.length:=h;omega,fun h'=>absurd h' hn⟩
 ·exact ⟨fun _=>List.mem_of_getElem? h2,fun _=>h1⟩
def AW (r:Rt) (f:GFact):Bool:=ae f.Kind 4&&(ae f.Seat r.seat&&ae f.State r.state)
def bg (c:List GFact) (r:Rt):List GSpan:=(c.filter (AW r)).map GFact.Span
theorem BO (r:Rt) (f:GFact):AW r f = true↔f.Kind = 4∧Ba f = r:=by
 unfold AW Ba
 obtain ⟨a,b⟩:=r
 simp [ae]
theorem wZ (c:List GFact) (f:GFact) (r:Rt):bg (c++[f]) r = bg c r++if AW r f = true then [f.Span] else []:=by
 unfold bg
 rw [List.filter_append,List.map_append]
 congr 1
 by_cases h:AW r f = true
 ·rw [if_pos h,List.filter_cons,if_pos h];rfl
 ·rw [if_neg h,List.filter_cons,if_neg h];rfl
theorem zz (c:List GFact) (r:Rt):(bg c r).length≤c.length:=by
 unfold bg
 rw [List.length_map]
 exact List.length_filter_le _ _
structure Ab (c:List GFact) (s:List Rt × List (List GSpan)):Prop where
  len:s.1.length = s.2.length
  nd:s.1.Nodup
  val:∀ (p:Nat) (h:p < s.1.length),gD s.2 p [] = bg c s.1[p]
  mem:∀ r,r∈s.1↔bg c r≠[]
  le:s.1.length≤c.length
theorem Qt {c:List GFact} {s:List Rt × List (List GSpan)} (h:Ab c s) (f:GFact):Ab (c++[f]) (iZ s f):=by
 obtain ⟨ks,vs⟩:=s
 obtain ⟨hlen,hnd,hval,hmem,hle⟩:=h
 simp only at hlen hnd hval hmem hle
 unfold iZ
 cases hk:ae f.Kind 4 with
 | false =>
  have e:∀ r,bg (c++[f]) r = bg c r:=by
   intro r
   have:AW r f = false:=by unfold AW;rw [hk];rfl
   rw [wZ,this];simp
  rw [cond_false]
  exact ⟨hlen,hnd,fun p hp=>by rw [e];exact hval p hp,fun r=>by rw [e];exact hmem r,by simp;omega⟩
 | true =>
  rw [cond_true]
  have hk4:f.Kind = 4:=by simpa [ae] using hk
  generalize hr:Ba f = r0
  have eT:bg (c++[f]) r0 = bg c r0++[f.Span]:=by rw [wZ,if_pos ((BO _ _).2 ⟨hk4,hr⟩)]
  have eF:∀ r,r≠r0→bg (c++[f]) r = bg c r:=by
   intro r hne
   rw [wZ,if_neg (fun h=>hne (((BO _ _).1 h).2.symm.trans hr)),List.append_nil]
  rcases DT ks r0 with ⟨h1,h2⟩ | ⟨h1,h2⟩
  ·have hno:eC kR ks r0 = false:=by
    cases hb:eC kR ks r0 with
    | false=>rfl
    | true=>exact absurd ((Oe ks r0).1 hb) h2
   have hg:cF kR ks vs r0 ([]:List GSpan) = []:=by
    unfold cF
    rw [h1,List.getD_eq_getElem?_getD,List.getElem?_eq_none (by omega)];rfl
   have e0:bg c r0 = []:=by
    cases hd:bg c r0 with
    | nil=>rfl
    | cons a b=>exact absurd ((hmem r0).2 (by rw [hd];simp)) h2
   have e1:dq kR ks r0 = ks++[r0]:=by unfold dq;rw [hno];rfl
   have e2:du kR ks vs r0 (cF kR ks vs r0 []++[f.Span]) = vs++[[f.Span]]:=by unfold du;rw [hno,hg];rfl
   rw [e1,e2]
   refine ⟨by simp;omega, ?_, ?_, ?_,by simp;omega⟩
   ·show (ks++[r0]).Nodup
    rw [List.nodup_append]
    exact ⟨hnd,by simp,fun a ha b hb=>by simp at hb;subst hb;exact fun h=>h2 (h ▸ ha)⟩
   ·intro p hp
    simp only [List.length_append,List.length_cons,List.length_nil] at hp
    by_cases hpn:p < ks.length
    ·have g:gD (vs++[[f.Span]]) p [] = gD vs p []:=by
      unfold gD
      rw [List.getD_eq_getElem?_getD,List.getD_eq_getElem?_getD,List.getElem?_append_left (by omega)]
     show gD (vs++[[f.Span]]) p [] = bg (c++[f]) (ks++[r0])[p]
     rw [g,hval p hpn,List.getElem_append_left hpn,eF]
     intro he
     exact h2 (he ▸ List.getElem_mem hpn)
    ·have:p = ks.length:=by omega
     subst this
     show gD (vs++[[f.Span]]) ks.length [] = bg (c++[f]) (ks++[r0])[ks.length]
     have g:gD (vs++[[f.Span]]) ks.length [] = [f.Span]:=by
      unfold gD
      rw [List.getD_eq_getElem?_getD,hlen,List.getElem?_concat_length];rfl
     rw [g,List.getElem_concat_length rfl,eT,e0];rfl
   ·intro r
    show r∈ks++[r0]↔_
    rw [List.mem_append,List.mem_singleton]
    by_cases hrr:r = r0
    ·subst hrr
     exact ⟨fun _=>by rw [eT];simp,fun _=>.inr rfl⟩
    ·rw [eF r hrr, ← hmem r]
     exact ⟨fun h=>h.resolve_right hrr, .inl⟩
  ·have hyes:eC kR ks r0 = true:=(Oe ks r0).2 (List.mem_of_getElem? h2)
   have e1:dq kR ks r0 = ks:=by unfold dq;rw [hyes];rfl
   generalize hj:aP kR ks r0 = j at h1 h2
   have h3:ks[j] = r0:=by rw [List.getElem?_eq_getElem h1] at h2;exact Option.some.inj h2
   have hg:cF kR ks vs r0 ([]:List GSpan) = bg c r0:=by
    rw [← h3, ← hval j h1]
    unfold cF gD
    rw [h3,hj]
   have e2:du kR ks vs r0 (cF kR ks vs r0 []++[f.Span]) = vs.set j (bg c r0++[f.Span]):=by unfold du;rw [hyes,hg,hj];rfl
   rw [e1,e2]
   refine ⟨by simp;omega,hnd, ?_, ?_,by simp;omega⟩
   ·intro p hp
    show gD (vs.set j (bg c r0++[f.Span])) p [] = bg (c++[f]) ks[p]
    have hp:p < ks.length:=hp
    by_cases hpj:p = j
    ·subst hpj
     rw [h3,eT]
     unfold gD
     rw [List.getD_eq_getElem?_getD,List.getElem?_set,if_pos rfl,if_pos (by omega)];rfl
    ·have g:gD (vs.set j (bg c r0++[f.Span])) p [] = gD vs p []:=by
      unfold gD
      rw [List.getD_eq_getElem?_getD,List.getD_eq_getElem?_getD,List.getElem?_set,if_neg (fun h=>hpj h.symm)]
     rw [g,hval p hp,eF]
     intro he
     exact hpj ((List.getElem_inj hnd).1 (he.trans h3.symm))
   ·intro r
    show r∈ks↔_
    by_cases hrr:r = r0
    ·subst hrr
     exact ⟨fun _=>by rw [eT];simp,fun _=>List.mem_of_getElem? h2⟩
    ·rw [eF r hrr, ← hmem r]
theorem TA (c:List GFact):Ab c (dv c):=by
 have key:∀ (rest pre:List GFact) (s:List Rt × List (List GSpan)),Ab pre s→Ab (pre++rest) (rest.foldl iZ s):=by
  intro rest
  induction rest with
  | nil=>intro pre s h;rw [List.append_nil];exact h
  | cons f r ih =>
   intro pre s h
   rw [List.foldl_cons,show pre++f :: r = (pre++[f])++r by simp]
   exact ih _ _ (Qt h f)
 exact key c [] ([],[]) ⟨rfl,by simp,fun p h=>absurd h (by simp),fun r=>by simp [bg],by simp⟩
theorem H2:Go.Sort.SWO dx:=by
 refine ⟨fun x=>by simp [dx,aa],fun x y z h1 h2=>?_,fun x y z h1 h2=>?_⟩
 ·simp only [dx,aa,ae,Bool.or_eq_true,Bool.and_eq_true,decide_eq_true_eq,beq_iff_eq] at *
  omega
 ·simp only [dx,aa,ae,Bool.or_eq_false_iff,Bool.and_eq_false_iff,decide_eq_false_iff_not,beq_eq_false_iff_ne,ne_eq] at *
  omega
theorem nV (a b:GPosting):dx b a = false↔a.Span.From < b.Span.From∨(a.Span.From = b.Span.From∧(a.Seat < b.Seat∨(a.Seat = b.Seat∧a.State≤b.State))):=by
 simp only [dx,aa,ae,Bool.or_eq_false_iff,Bool.and_eq_false_iff,decide_eq_false_iff_not,beq_eq_false_iff_ne,ne_eq]
 omega
theorem uE:∀ {l:List GSpan} {lo:Int},cW lo l→∀ s∈l, ∀ t∈l,s.From = t.From→s = t
 | [],_,_,s,hs,_,_,_=>by cases hs
 | x :: r,lo,h,s,hs,t,ht,e=>by
  obtain ⟨h1,h2,h3,h4⟩:=h
  have low:∀ y∈r,x.From < y.From:=fun y hy=>by
   have hy':y.From < y.To:=(norm_inR' h4 y hy)
   have:=gn h4 (d:=y.From) ⟨y,hy,Int.le_refl _,hy'⟩
   omega
  rcases List.mem_cons.1 hs with hs | hs <;> rcases List.mem_cons.1 ht with ht | ht
  ·rw [hs,ht]
  ·have:=low t ht;rw [hs] at e;omega
  ·have:=low s hs;rw [ht] at e;omega
  ·exact uE h4 s hs t ht e
where norm_inR':∀ {l:List GSpan} {lo:Int},cW lo l→∀ y∈l,y.From < y.To
 | [],_,_,y,hy=>by cases hy
 | x :: r,lo,h,y,hy=>by
  rcases List.mem_cons.1 hy with rfl | hy
  ·exact h.2.1
  ·exact norm_inR' h.2.2.2 y hy
noncomputable def fQ (c:List GFact) (life:GSpan) (r:Rt):List GPosting:=(ik (bg c r) life).map fun s=>⟨r.seat,r.state,s⟩
theorem Ks {c:List GFact} {life:GSpan} {r:Rt} (h:bg c r = []):fQ c life r = []:=by
 unfold fQ
 have h1:=(pC (bg c r) life)
 cases e:ik (bg c r) life with
 | nil=>rfl
 | cons s t =>
  rw [e] at h1
  have:=(h1.2 s.From).1 ⟨s,by simp,Int.le_refl _,h1.1.2.1⟩
  rw [h] at this
  exact absurd this.1.1 dK
def IG (c:List GFact) (life:GSpan) (a:GPosting):Prop:=a.Span∈ik (bg c ⟨a.Seat,a.State⟩) life
theorem wq {c:List GFact} {life:GSpan} {r:Rt}:∀ a∈fQ c life r,IG c life a:=by
 intro a ha
 obtain ⟨s,hs,rfl⟩:=List.mem_map.1 ha
 exact hs
theorem ST {c:List GFact} {life:GSpan} {a b:GPosting} (ha:IG c life a) (hb:IG c life b) (h1:dx b a = false) (h2:dx a b = false):a = b:=by
 rw [nV] at h1 h2
 obtain ⟨s1,s2,x⟩:=a
 obtain ⟨t1,t2,y⟩:=b
 simp only at h1 h2
 obtain rfl:s1 = t1:=by omega
 obtain rfl:s2 = t2:=by omega
 have:=uE (pC _ _).1 x ha y hb (by omega)
 rw [this]
theorem IH {c:List GFact} {life:GSpan} {l l':List GPosting} (hp:l.Perm l') (hin:∀ a∈l,IG c life a) (hs:l'.Pairwise fun a b=>dx b a = false):fH l = l':=by
 have h:=@yr _ ⟨zS .GPosting⟩ _ H2 l
 refine List.Perm.eq_of_pairwise (le:=fun a b=>dx b a = false) (fun a b ha hb h1 h2=>?_) h.2 hs (h.1.trans hp)
 exact ST (hin a (h.1.mem_iff.1 ha)) (hin b (hp.mem_iff.2 hb)) h1 h2
theorem Ql {c:List GFact} {life:GSpan} {l l':List GPosting} (hp:l.Perm l') (hin:∀ a∈l',IG c life a):fH l = fH l':=by
 have h:=@yr _ ⟨zS .GPosting⟩ _ H2 l'
 exact IH (l':=fH l') (hp.trans h.1.symm) (fun a ha=>hin a (hp.mem_iff.1 ha)) h.2
def tW (seat state:Int):Nat→List Rt
 | 0=>[]
 | k+1=>⟨seat,state⟩ :: tW seat (state+1) k
def kF (seat:Int):Nat→List Rt
 | 0=>[]
 | k+1=>tW seat 0 6++kF (seat+1) k
theorem xX (seat:Int) (r:Rt):∀ (k:Nat) (state:Int),r∈tW seat state k↔r.seat = seat∧state≤r.state∧r.state < state+k
 | 0,state=>by simp only [tW,List.not_mem_nil,false_iff];omega
 | k+1,state=>by
  rw [tW,List.mem_cons,xX seat r k]
  obtain ⟨a,b⟩:=r
  simp only [GCompetence_route.mk.injEq]
  omega
theorem Di (r:Rt):∀ (k:Nat) (seat:Int),r∈kF seat k↔(seat≤r.seat∧r.seat < seat+k)∧0≤r.state∧r.state < 6
 | 0,seat=>by simp only [kF,List.not_mem_nil,false_iff];omega
 | k+1,seat=>by
  rw [kF,List.mem_append,xX,Di r k]
  omega
theorem N1 (seat:Int):∀ (k:Nat) (state:Int),(tW seat state k).Nodup
 | 0,_=>by simp [tW]
 | k+1,state=>by
  rw [tW,List.nodup_cons]
  exact ⟨fun h=>by have:=(xX _ _ _ _).1 h;have e:(⟨seat,state⟩:Rt).state = state:=rfl;omega,N1 seat k _⟩
theorem Oh:∀ (k:Nat) (seat:Int),(kF seat k).Nodup
 | 0,_=>by simp [kF]
 | k+1,seat=>by
  rw [kF,List.nodup_append]
  refine ⟨N1 _ _ _,Oh k _,fun a ha b hb e=>?_⟩
  subst e
  rw [xX] at ha
  rw [Di] at hb
  omega
theorem Nw {c:List GFact} {life:GSpan} {ks:List Rt} (hnd:ks.Nodup) (hmem:∀ r,r∈ks↔bg c r≠[]) (hc:∀ f∈c,f.Kind = 4→(0≤f.Seat∧f.Seat < 6)∧0≤f.State∧f.State < 6) :
  (ks.flatMap (fQ c life)).Perm ((kF 0 6).flatMap (fQ c life)):=by
 have hk:ks.Perm ((kF 0 6).filter fun r=>decide (bg c r≠[])):=by
  rw [List.perm_ext_iff_of_nodup hnd ((List.filter_sublist).nodup (Oh 6 0))]
  intro r
  rw [List.mem_filter,decide_eq_true_eq,hmem r]
  refine ⟨fun h=>⟨?_,h⟩,fun h=>h.2⟩
  rw [Di]
  cases hd:c.filter (AW r) with
  | nil=>exact absurd (by unfold bg;rw [hd];rfl) h
  | cons f t =>
   have hf:f∈c.filter (AW r):=by rw [hd];simp
   obtain ⟨f1,f2⟩:=List.mem_filter.1 hf
   obtain ⟨f3,f4⟩:=(BO _ _).1 f2
   have:=hc f f1 f3
   subst f4
   exact ⟨by simp [Ba];omega,by simp [Ba];omega⟩
 refine (List.Perm.flatMap_right _ hk).trans ?_
 have:∀ l:List Rt,(l.filter fun r=>decide (bg c r≠[])).flatMap (fQ c life) = l.flatMap (fQ c life):=by
  intro l
  induction l with
  | nil=>rfl
  | cons r t ih =>
   rw [List.filter_cons,List.flatMap_cons]
   by_cases h:bg c r = []
   ·rw [if_neg (by simp [h]),ih,Ks h];rfl
   ·rw [if_pos (by simp [h]),List.flatMap_cons,ih]
 rw [this]
end Go.Ax
set_option linter.all false
/- Both lists of postings are the same. -/
set_option maxRecDepth 100000
namespace Go.Ax
abbrev Bf (l:List GPosting):Prop:=l.Pairwise fun a b=>dx b a = false
theorem OT (l:List GPosting) (p:GPosting) (hl:l.length≤1000000) :
  ∃ a b,l = a++b∧n9 l p = some (a++[p]++b)∧(∀ y∈b,p.Span.From < y.Span.From)∧(∀ q y,a = q++[y]→y.Span.From≤p.Span.From):=by
 rw [Ev]
 have fin:∀ (k:Nat),k≤l.length→(gb (aa (0≤(k:Int)))<|gb (aa ((k:Int)≤(l.length:Int)))<|gb (aa (((aq l 0 ((k:Int) - 0).toNat).length*32)≤140737488355328)) <|
    gb (aa ((aq l 0 ((k:Int) - 0).toNat).length≤140737488355328))<|gb (aa ((((aq l 0 ((k:Int) - 0).toNat).length+1)*32)≤140737488355328))<|gb (aa (((aq l 0 ((k:Int) - 0).toNat).length+1)≤140737488355328))<|gb (aa (0≤(k:Int))) <|
    gb (aa ((k:Int)≤(l.length:Int)))<|gb (aa ((l.length:Int)≤(l.length:Int)))<|gb (aa (((((aq l 0 ((k:Int) - 0).toNat)++[p]).length+(aq l (k:Int).toNat ((l.length:Int) - (k:Int)).toNat).length)*32)≤140737488355328)) <|
    gb (aa ((((aq l 0 ((k:Int) - 0).toNat)++[p]).length+(aq l (k:Int).toNat ((l.length:Int) - (k:Int)).toNat).length)≤140737488355328)) <|
    some (((aq l 0 ((k:Int) - 0).toNat)++[p])++(aq l (k:Int).toNat ((l.length:Int) - (k:Int)).toNat))) = some (l.take k++[p]++l.drop k):=by
  intro k hk
  have e1:aq l 0 ((k:Int) - 0).toNat = l.take k:=by
   unfold aq
   rw [List.drop_zero];congr 1
  have e2:aq l (k:Int).toNat ((l.length:Int) - (k:Int)).toNat = l.drop k:=by
   unfold aq
   rw [show (k:Int).toNat = k by omega,List.take_of_length_le]
   rw [List.length_drop];omega
  have l1:(l.take k).length = k:=by rw [List.length_take];omega
  have l2:(l.drop k).length = l.length - k:=List.length_drop
  rw [e1,e2]
  simp only [List.length_append,List.length_singleton,l1,l2]
  rw [ay (by omega),ay (by omega),ay (by omega),ay (by omega),ay (by omega),ay (by omega),ay (by omega),ay (by omega),ay (by omega),ay (by omega),ay (by omega)]
 have key:∀ (k:Nat),k≤l.length→(∀ y∈l.drop k,p.Span.From < y.Span.From)→∃ a b,l = a++b∧jU l (k:Int) p = some (a++[p]++b)∧(∀ y∈b,p.Span.From < y.Span.From)∧(∀ q y,a = q++[y]→y.Span.From≤p.Span.From):=by
  intro k
  induction k with
  | zero =>
   intro hk hd
   refine ⟨[],l,rfl, ?_,by simpa using hd,fun q y h=>by simp at h⟩
   rw [kK,aJ (p:=(0:Int) < ((0:Nat):Int)) (by omega)]
   simp only [Bool.false_and,Bool.not_false,Bool.true_or,ap,cond_false]
   exact fin 0 (by omega)
  | succ k ih =>
   intro hk hd
   have hk':k < l.length:=by omega
   have e1:ab (((k+1:Nat):Int) - 1) = (k:Int):=by rw [al (by omega) (by omega)];omega
   have h0:aa ((0:Int) < ((k+1:Nat):Int)) = true:=ax (by omega)
   by_cases hc:p.Span.From < l[k].Span.From
   ·obtain ⟨a,b,h1,h2,h3,h4⟩:=ih (by omega) (fun y hy=>by
     rw [List.drop_eq_getElem_cons hk'] at hy
     rcases List.mem_cons.1 hy with rfl | hy
     ·exact hc
     ·exact hd y hy)
    refine ⟨a,b,h1, ?_,h3,h4⟩
    rw [kK,e1]
    simp only [h0,aO hk',aM,Bool.or_true,ap,cond_true,aH hk',ax hc]
    exact h2
   ·refine ⟨l.take (k+1),l.drop (k+1),(List.take_append_drop _ _).symm, ?_,hd,fun q y h=>?_⟩
    ·rw [kK,e1]
     simp only [h0,aO hk',aM,Bool.or_true,ap,cond_true,aH hk',aJ hc,cond_false]
     exact fin (k+1) hk
    ·have h6:l.take (k+1) = l.take k++[l[k]]:=by rw [List.take_succ,List.getElem?_eq_getElem hk'];rfl
     rw [h6] at h
     have:=List.append_inj_right' h rfl
     simp at this
     rw [← this];omega
 exact key l.length (by omega) (by rw [List.drop_length];simp)
theorem Jw {out:List GPosting} {p:GPosting} (hs:Bf out) (hx:∀ x∈out,x.Seat < p.Seat∨(x.Seat = p.Seat∧x.State≤p.State)) (hl:out.length≤1000000) :
  ∃ r,n9 out p = some r∧r.Perm (out++[p])∧Bf r:=by
 obtain ⟨a,b,rfl,h2,h3,h4⟩:=OT out p hl
 refine ⟨_,h2, ?_, ?_⟩
 ·rw [List.append_assoc,List.append_assoc]
  exact List.Perm.append_left _ List.perm_append_comm
 ·have hp:=List.pairwise_append.1 hs
  have ha:∀ x∈a,x.Span.From≤p.Span.From:=by
   intro x hx
   rcases eI a with rfl | ⟨q,y,rfl⟩
   ·cases hx
   ·have hy:=h4 q y rfl
    rcases List.mem_append.1 hx with hq | hq
    ·have:=(List.pairwise_append.1 hp.1).2.2 x hq y (by simp)
     rw [nV] at this;omega
    ·simp at hq;subst hq;exact hy
  have hap:∀ x∈a,dx p x = false:=by
   intro x hxa
   rw [nV]
   have h5:=ha x hxa
   have h6:=hx x (List.mem_append_left _ hxa)
   omega
  have hpb:∀ y∈b,dx y p = false:=by
   intro y hy
   rw [nV]
   have:=h3 y hy
   omega
  refine List.pairwise_append.2 ⟨List.pairwise_append.2 ⟨hp.1,by simp,fun x hx y hy=>?_⟩,hp.2.1,fun x hx y hy=>?_⟩
  ·simp at hy;rw [hy];exact hap x hx
  ·rcases List.mem_append.1 hx with hx | hx
   ·exact hp.2.2 x hx y hy
   ·simp at hx;subst hx;exact hpb y hy
structure m9 (out D:List GPosting) (seat state:Int):Prop where
  perm:out.Perm D
  srt:Bf out
  lex:∀ x∈out,x.Seat < seat∨(x.Seat = seat∧x.State≤state)
theorem m9.mono {out D:List GPosting} {s t s' t':Int} (h:m9 out D s t) (e:s < s'∨(s = s'∧t≤t')):m9 out D s' t' :=
 ⟨h.perm,h.srt,fun x hx=>by have:=h.lex x hx;omega⟩
section
variable (l c:List GFact) (hl:l.length≤40) (hc:c.length≤40)
theorem R7 (seat state:Int) (s:List GSpan) (hs:s.length≤1000):∀ (n i:Nat) (out D:List GPosting),i+n = s.length→m9 out D seat state→out.length+n≤1000000 →
  ∃ out',fg l seat state (i:Int) c out s = cT l seat (ab (state+1)) c out'∧m9 out' (D++(s.drop i).map fun x=>⟨seat,state,x⟩) seat state:=by
 intro n
 induction n with
 | zero =>
  intro i out D hn hg ho
  have:i = s.length:=by omega
  subst this
  refine ⟨out,by rw [kx,aS,cond_false], ?_⟩
  rw [List.drop_length,List.map_nil,List.append_nil]
  exact hg
 | succ n ih =>
  intro i out D hn hg ho
  have hi:i < s.length:=by omega
  obtain ⟨r,h1,h2,h3⟩:=Jw (p:=⟨seat,state,s[i]⟩) hg.srt hg.lex (by omega)
  have hg':m9 r (D++[⟨seat,state,s[i]⟩]) seat state:=⟨h2.trans (hg.perm.append_right _),h3,fun x hx=>by
   rcases List.mem_append.1 (h2.mem_iff.1 hx) with hx | hx
   ·exact hg.lex x hx
   ·simp at hx;subst hx;right;exact ⟨rfl,Int.le_refl _⟩⟩
  have hlen:r.length = out.length+1:=by rw [h2.length_eq];simp
  obtain ⟨o,e1,e2⟩:=ih (i+1) r _ (by omega) hg' (by omega)
  refine ⟨o, ?_, ?_⟩
  ·rw [kx]
   simp only [aO hi,aM,cond_true,ap,Bool.or_true,aH hi,aL hi (by omega)]
   rw [h1,Option.bind_some]
   exact e1
  ·rw [List.drop_eq_getElem_cons hi,List.map_cons]
   rw [List.append_assoc] at e2
   exact e2
include hl hc
theorem P6 (seat state:Int) (h0:0≤state) (h6:state < 6) (out D:List GPosting) (hg:m9 out D seat state) (ho:out.length≤100000) :
  ∃ out',cT l seat state c out = cT l seat (state+1) c out'∧m9 out' (D++fQ c (am l) ⟨seat,state⟩) seat state:=by
 rw [mm,ax h6,cond_true]
 have hd:(bg c ⟨seat,state⟩).length≤40:=Nat.le_trans (zz _ _) hc
 have e:bq l seat state 0 c out [] = bq l seat state (c.length:Int) c out (bg c ⟨seat,state⟩):=by
  refine QV c (fun i s=>bq l seat state i c out s) (AW ⟨seat,state⟩) GFact.Span fun i s hi hs=>?_
  show bq _ _ _ _ _ _ _ = bq _ _ _ _ _ _ _
  rw [kq]
  simp only [aO hi,aM,cond_true,ap,Bool.or_true,aH hi,aL hi (by omega)]
  rw [nc]
  unfold AW
  cases ae c[i].Kind 4 <;> cases ae c[i].Seat seat <;> cases ae c[i].State state <;> rfl
 rw [e,kq,aS,cond_false,l3 l (by omega),Option.bind_some,JO _ _ (by omega),Option.bind_some]
 have hcl:=wJ (bg c ⟨seat,state⟩) (am l)
 obtain ⟨o,e1,e2⟩:=R7 l c seat state (ik (bg c ⟨seat,state⟩) (am l)) (by omega) _ 0 out D (Nat.zero_add _) hg (by omega)
 rw [al (n:=state+1) (by omega) (by omega)] at e1
 exact ⟨o,e1,by rw [List.drop_zero] at e2;exact e2⟩
theorem UJ (r:Rt):(fQ c (am l) r).length≤41:=by
 unfold fQ
 rw [List.length_map]
 have:=wJ (bg c r) (am l)
 have:=zz c r
 omega
theorem Tr (seat:Int) (hs0:0≤seat) (hs6:seat < 6):∀ (k:Nat) (state:Int) (out D:List GPosting),state+k = 6→0≤state→m9 out D seat state→out.length+41*k≤100000 →
  ∃ out',cT l seat state c out = fj l (seat+1) c out'∧m9 out' (D++(tW seat state k).flatMap (fQ c (am l))) (seat+1) 0∧out'.length≤out.length+41*k:=by
 intro k
 induction k with
 | zero =>
  intro state out D hk h0 hg ho
  refine ⟨out, ?_, ?_,by omega⟩
  ·rw [mm,aJ (by omega),cond_false,al (n:=seat+1) (by omega) (by omega)]
  ·rw [tW,List.flatMap_nil,List.append_nil]
   exact hg.mono (by omega)
 | succ k ih =>
  intro state out D hk h0 hg ho
  obtain ⟨o,e1,e2⟩:=P6 l c hl hc seat state h0 (by omega) out D hg (by omega)
  have hlen:o.length≤out.length+41:=by
   rw [e2.perm.length_eq,List.length_append, ← hg.perm.length_eq]
   have:=UJ l c hl hc ⟨seat,state⟩
   omega
  obtain ⟨o2,f1,f2,f3⟩:=ih (state+1) o _ (by omega) (by omega) (e2.mono (by omega)) (by omega)
  refine ⟨o2,e1.trans f1, ?_,by omega⟩
  rw [tW,List.flatMap_cons, ← List.append_assoc]
  exact f2
theorem TY:∀ (k:Nat) (seat:Int) (out D:List GPosting),seat+k = 6→0≤seat→m9 out D seat 0→out.length+246*k≤100000 →
  ∃ out',fj l seat c out = some out'∧m9 out' (D++(kF seat k).flatMap (fQ c (am l))) 6 0∧out'.length≤out.length+246*k:=by
 intro k
 induction k with
 | zero =>
  intro seat out D hk h0 hg ho
  refine ⟨out, ?_, ?_,by omega⟩
  ·rw [mI,aJ (by omega),cond_false]
  ·rw [kF,List.flatMap_nil,List.append_nil]
   exact hg.mono (by omega)
 | succ k ih =>
  intro seat out D hk h0 hg ho
  obtain ⟨o,e1,e2,e3⟩:=Tr l c hl hc seat h0 (by omega) 6 0 out D (by omega) (by omega) hg (by omega)
  obtain ⟨o2,f1,f2,f3⟩:=ih (seat+1) o _ (by omega) (by omega) e2 (by omega)
  refine ⟨o2, ?_, ?_,by omega⟩
  ·rw [mI,ax (by omega),cond_true,e1]
   exact f1
  ·rw [kF,List.flatMap_append, ← List.append_assoc]
   exact f2
end
theorem A4 (l:List GFact) (hl:l.length≤40):∃ out,jt l = some out∧out.Perm ((kF 0 6).flatMap (fQ (l.filter av) (am l)))∧Bf out∧out.length≤1476:=by
 rw [Cc,i8 l (by omega),Option.bind_some]
 have:=List.length_filter_le av l
 obtain ⟨o,e1,e2,e3⟩:=TY l (l.filter av) hl (by omega) 6 0 [] [] (by omega) (by omega) ⟨.refl _,by simp,by simp⟩ (by simp)
 exact ⟨o,e1,e2.perm,e2.srt,by simpa using e3⟩
theorem AC {A B:Type} (f:A→B):∀ (l:List A) (o:List B),l.foldl (fun o x=>o++[f x]) o = o++l.map f
 | [],o=>by simp
 | x :: r,o=>by rw [List.foldl_cons,AC f r];simp
theorem T4 {n:Nat} {wl:List Int} (hnd:wl.Nodup) (hr:∀ x∈wl,0≤x∧x < (n:Int)) (hlen:wl.length = n):wl.Perm ((List.range n).map fun p:Nat=>(p:Int)):=by
 have hnd2:((List.range n).map fun p:Nat=>(p:Int)).Nodup:=by
  rw [List.nodup_iff_pairwise_ne,List.pairwise_map]
  exact List.Pairwise.imp (fun h e=>h (by omega)) (List.nodup_iff_pairwise_ne.1 List.nodup_range)
 have sub:wl ⊆ (List.range n).map fun p:Nat=>(p:Int):=by
  intro x hx
  have:=hr x hx
  exact List.mem_map.2 ⟨x.toNat,List.mem_range.2 (by omega),by omega⟩
 rw [List.perm_ext_iff_of_nodup hnd hnd2]
 intro a
 refine ⟨fun h=>sub h,fun h=>?_⟩
 by_cases ha:a∈wl
 ·exact ha
 ·exfalso
  have h1:(a :: wl).Nodup:=List.nodup_cons.2 ⟨ha,hnd⟩
  have h2:(a :: wl) ⊆ (List.range n).map fun p:Nat=>(p:Int):=fun x hx=>by
   rcases List.mem_cons.1 hx with rfl | hx
   ·exact h
   ·exact sub hx
  have:=h1.length_le_of_subset h2
  simp at this
  omega
theorem SV {n:Nat} {wl:List Int} (hlen:wl.length < n):jk n wl≠[]:=by
 intro h
 have hnd2:((List.range n).map fun p:Nat=>(p:Int)).Nodup:=by
  rw [List.nodup_iff_pairwise_ne,List.pairwise_map]
  exact List.Pairwise.imp (fun h e=>h (by omega)) (List.nodup_iff_pairwise_ne.1 List.nodup_range)
 have sub:((List.range n).map fun p:Nat=>(p:Int)) ⊆ wl:=by
  intro x hx
  obtain ⟨p,hp,rfl⟩:=List.mem_map.1 hx
  rw [List.mem_range] at hp
  by_cases hm:(p:Int)∈wl
  ·exact hm
  ·have:=qJ.2 ⟨hp,hm⟩
   rw [h] at this
   cases this
 have:=hnd2.length_le_of_subset sub
 simp at this
 omega
theorem RB (l c:List GFact) (hl:l.length≤40) (hc:c.length≤40) (ks:List Rt) (vs:List (List GSpan)) (hk:ks.length≤40) (hv:∀ (p:Nat) (h:p < ks.length),gD vs p [] = bg c ks[p]):∀ (n:Nat) (out:List GPosting) (wl:List Int),
  wl.Nodup→(∀ x∈wl,0≤x∧x < (ks.length:Int))→wl.length+n = ks.length→out.Perm (wl.flatMap fun x=>fQ c (am l) (gD ks x.toNat (zS .GCompetence_route)))→out.length≤41*wl.length →
  eD l out (ks.length:Int) wl ks vs = some (fH (ks.flatMap (fQ c (am l)))):=by
 intro n
 induction n with
 | zero =>
  intro out wl hnd hr hlen hp ho
  have hw:=T4 hnd hr (by omega)
  have he:jk ks.length wl = []:=by
   cases h:jk ks.length wl with
   | nil=>rfl
   | cons p r =>
    have hm:p∈jk ks.length wl:=by rw [h];simp
    obtain ⟨h1,h2⟩:=qJ.1 hm
    exact absurd (hw.mem_iff.2 (List.mem_map.2 ⟨p,List.mem_range.2 h1,rfl⟩)) h2
  rw [jN,kh,ap,he]
  show (gb (aa (out.length≤4611686018427387903))<|some (fH out)) = _
  rw [ay (by omega)]
  congr 1
  have hp2:out.Perm (ks.flatMap (fQ c (am l))):=by
   refine hp.trans ((List.Perm.flatMap_right _ hw).trans ?_)
   rw [List.flatMap_map]
   have:(List.range ks.length).flatMap (fun p=>fQ c (am l) (gD ks ((p:Nat):Int).toNat (zS .GCompetence_route))) = ks.flatMap (fQ c (am l)):=by
    have e:ks = (List.range ks.length).map fun p=>gD ks ((p:Nat):Int).toNat (zS .GCompetence_route):=by
     apply List.ext_getElem (by simp)
     intro i h1 h2
     rw [List.getElem_map,List.getElem_range,aH h1]
    conv=>rhs;rw [e,List.flatMap_map]
   rw [this]
  refine Ql (c:=c) (life:=am l) hp2 fun a ha=>?_
  obtain ⟨r,_,h⟩:=List.mem_flatMap.1 ha
  exact wq a h
 | succ n ih =>
  intro out wl hnd hr hlen hp ho
  have hne:=SV (n:=ks.length) (wl:=wl) (by omega)
  rw [jN,kh,ap]
  have:List.isEmpty (jk ks.length wl) = false:=by
   cases h:jk ks.length wl with
   | nil=>exact absurd h hne
   | cons p r=>rfl
  rw [this,cond_false]
  refine xd hne fun p hpm=>?_
  obtain ⟨h1,h2⟩:=qJ.1 hpm
  rw [ay rfl,ay (by omega),ay (by omega),iK l (by omega),Option.bind_some]
  have ev:gD vs ((p:Nat):Int).toNat [] = bg c ks[p]:=by
   rw [show ((p:Nat):Int).toNat = p by omega];exact hv p h1
  rw [ev,aH h1]
  have hd:(bg c ks[p]).length≤40:=Nat.le_trans (zz _ _) hc
  rw [G3 _ _ (by omega),Option.bind_some]
  have hcl:=wJ (bg c ks[p]) (am l)
  generalize hr2:ik (bg c ks[p]) (am l) = r2 at hcl
  have loop:=(kg r2 (fun i o=>bK l (r2.length:Int) i o ks[p] (ks.length:Int) ((p:Int) :: wl) r2 ks vs) (fun (o:List GPosting) s=>o++[(⟨ks[p].seat,ks[p].state,s⟩:GPosting)]) (fun i o=>o.length≤out.length+i) (fun i o hi ho=>⟨by
    show bK _ _ _ _ _ _ _ _ _ _ = bK _ _ _ _ _ _ _ _ _ _
    rw [i7]
    simp only [aO hi,aM,cond_true,ap,Bool.or_true,aH hi,aL hi (by omega)]
    rw [nc],by simp;omega⟩) out (by omega)).1
  refine Eq.trans loop ?_
  show bK _ _ _ _ _ _ _ _ _ _ = _
  rw [i7,aS,cond_false,AC]
  have ep:r2.map (fun s=>(⟨ks[p].seat,ks[p].state,s⟩:GPosting)) = fQ c (am l) ks[p]:=by unfold fQ;rw [hr2]
  rw [ep]
  have hpl:(fQ c (am l) ks[p]).length≤41:=by rw [← ep,List.length_map];omega
  refine ih _ _ (List.nodup_cons.2 ⟨h2,hnd⟩) (fun x hx=>?_) (by simp;omega) ?_ (by simp;omega)
  ·rcases List.mem_cons.1 hx with rfl | hx
   ·omega
   ·exact hr x hx
  ·rw [List.flatMap_cons,aH h1]
   exact (List.perm_append_comm).trans (List.Perm.append_left _ hp)
theorem Pe {f:GFact} (h:av f = true) (hk:f.Kind = 4):(0≤f.Seat∧f.Seat < 6)∧0≤f.State∧f.State < 6:=by
 have hv:cq f = true:=by
  unfold av at h
  cases hv:cq f with
  | true=>rfl
  | false=>rw [hv] at h;cases h
 have hs:=((iA f).1 hv).2.2.2.2.2
 rw [hk] at hs
 have b1:dC 4 83 = true:=by decide
 have b2:dC 4 84 = true:=by decide
 have hs1:=hs.1
 have hs2:=hs.2.1
 rw [b1] at hs1
 rw [b2] at hs2
 unfold bV at hs1 hs2
 rw [if_pos rfl,mJ] at hs1 hs2
 omega
theorem sZ (l:List GFact) (hl:l.length≤40):∃ p,jt l = some p∧di l = some p∧p.Perm ((kF 0 6).flatMap (fQ (l.filter av) (am l)))∧Bf p∧p.length≤1476:=by
 obtain ⟨p,h1,h2,h3,h4⟩:=A4 l hl
 refine ⟨p,h1, ?_,h2,h3,h4⟩
 rw [vn,iU l (by omega),Option.bind_some]
 have hcl:=List.length_filter_le av l
 have hcr:∀ f∈l.filter av,f.Kind = 4→(0≤f.Seat∧f.Seat < 6)∧0≤f.State∧f.State < 6:=fun f hf hk=>Pe (List.mem_filter.1 hf).2 hk
 generalize l.filter av = c at hcl hcr h2
 have es:uy (l,c,(c.length:Int),0,[],[]) = some (l,(dv c).1,(dv c).2):=by
  unfold uy
  simp only [kh]
  rw [ax (by omega)];rfl
 rw [es,Option.bind_some]
 have hk:=TA c
 have:=RB l c hl (by omega) (dv c).1 (dv c).2 (by have:=hk.le;omega) hk.val (dv c).1.length [] [] (by simp) (by simp) (by simp) (.refl _) (by simp)
 refine Eq.trans this ?_
 congr 1
 exact IH ((Nw hk.nd hk.mem hcr).trans h2.symm) (fun a ha=>by
  obtain ⟨r,_,h⟩:=List.mem_flatMap.1 ha
  exact wq a h) h3
end Go.Ax
set_option linter.all false
/- The law of a day, function by function;the example of chapter 15; LawUnder. -/
set_option maxRecDepth 100000
namespace Go.Ax
def bh (s:GSpan) (day:Int):Bool:=bif aa (s.From≤day) then aa (day < s.To) else false
theorem rT (s:GSpan) (d:Int):gC s d = some (bh s d):=xa s d
theorem nB (s:GSpan) (d:Int):gp s d = some (bh s d):=M0 s d
theorem A2 (ks:List Int) (v:Int) (hl:ks.length≤1000000):k5 ks v = some (ks.any fun k=>ae v k):=by
 rw [AH,EL]
 refine (lT ks (fun i=>(ee ks v (ks.length:Int) i).bind fun r0=>some (aa (0≤r0))) (fun k=>ae v k) (some true) (some false) ?_ fun i hi=>?_).trans (by cases ks.any _ <;> rfl)
 ·show (ee ks v (ks.length:Int) (ks.length:Int)).bind _ = _
  rw [oO,aS];rfl
 ·show (ee ks v (ks.length:Int) (i:Int)).bind _ = if ae v ks[i] = true then _ else (ee ks v (ks.length:Int) _).bind _
  rw [oO]
  simp only [aO hi,aM,cond_true,ap,Bool.or_true,aH hi,aL hi (by omega)]
  cases ae v ks[i] with
  | true=>rw [cond_true,Option.bind_some,ax (by omega)];rfl
  | false=>rfl
theorem B8 (l:List GSpan) (day:Int) (hl:l.length≤1000000):pJ l day = some (!(aa (day < 0))&&(!(aa (73049≤day))&&l.any fun s=>bh s day)):=by
 rw [BQ,vr,zc]
 have:(cy l day (l.length:Int) 0).bind (fun r0=>some (aa (0≤r0))) = some (l.any fun s=>bh s day):=by
  refine (lT l (fun i=>(cy l day (l.length:Int) i).bind fun r0=>some (aa (0≤r0))) (fun s=>bh s day) (some true) (some false) ?_ fun i hi=>?_).trans (by cases l.any _ <;> rfl)
  ·show (cy l day (l.length:Int) (l.length:Int)).bind _ = _
   rw [ml,aS];rfl
  ·show (cy l day (l.length:Int) (i:Int)).bind _ = if bh l[i] day = true then _ else (cy l day (l.length:Int) _).bind _
   rw [ml]
   simp only [aO hi,aM,cond_true,ap,Bool.or_true,aH hi,aL hi (by omega)]
   rw [yX,Option.bind_some]
   show Option.bind (bif bh l[i] day then (some (i:Int)) else _) _ = _
   cases bh l[i] day with
   | true=>rw [cond_true,Option.bind_some,ax (by omega)];rfl
   | false=>rfl
 rw [this]
 cases aa (day < 0) <;> cases aa (73049≤day) <;> rfl
def cm (day:Int) (ks:List Int) (f:GFact):Bool:=(ks.any fun k=>ae f.Kind k)&&bh f.Span day
theorem td (x:GCompetence_life) (day:Int) (ks:List Int) (hl:x.facts.length≤1000000) (hk:ks.length≤1000):cw x day ks = some (x.facts.filter (cm day ks)):=by
 rw [vY]
 refine (JY x.facts (fun i out=>bC day ks x.facts (x.facts.length:Int) i out) (cm day ks) fun i out hi ho=>?_).trans ?_
 ·show bC _ _ _ _ _ _ = bC _ _ _ _ _ _
  rw [kW]
  simp only [aO hi,aM,cond_true,ap,Bool.or_true,aH hi,aL hi (by omega)]
  rw [A2 _ _ (by omega),Option.bind_some,rT,Option.bind_some,nc]
  unfold cm
  cases (ks.any fun k=>ae x.facts[i].Kind k) <;> cases bh x.facts[i].Span day <;> rfl
 ·show bC _ _ _ _ _ _ = _
  rw [kW,aS];rfl
theorem Jv (l:List GFact) (hl:l.length≤40) (h:∀ f∈l.filter av,f.Kind≠4):di l = some []:=by
 obtain ⟨p,_,h2,h3,_,_⟩:=sZ l hl
 have:(kF 0 6).flatMap (fQ (l.filter av) (am l)) = []:=by
  rw [List.flatMap_eq_nil_iff]
  intro r _
  refine Ks ?_
  unfold bg
  rw [List.map_eq_nil_iff,List.filter_eq_nil_iff]
  intro f hf hr
  exact h f hf ((BO _ _).1 hr).1
 rw [this] at h3
 rw [h2,h3.eq_nil]
theorem HX (d:Int):lX d = some (bif aa (0≤d) then aa (d≤73048) else false):=BR d
theorem Ed (x h:Int):iu x h = some (bif aa (0≤x) then aa (x≤h) else false):=Ds x h
def sV (r:GRules):Prop:=0≤r.From∧r.From≤73048∧0≤r.MinDays∧r.MinDays≤73049∧0≤r.PostingLimit∧r.PostingLimit≤73049∧0≤r.Substantial∧r.Substantial≤100
def O2 (ms:List Int):Prop:=ms.length≤100∧∀ (i:Nat) (hi:i < ms.length),0≤ms[i]∧ms[i]≤5∧∀ h:0 < i,ms[i - 1] < ms[i]
theorem Pl (r:GRules) (h:sV r) (hm:O2 r.Members):tB r = some true:=by
 obtain ⟨a1,a2,a3,a4,a5,a6,a7,a8⟩:=h
 obtain ⟨b1,b2⟩:=hm
 rw [FD]
 simp only [HX,Ed,Option.bind_some,ax a1,ax a2,ax a3,ax a4,ax a5,ax a6,ax a7,ax a8,cond_true,Bool.not_true,cond_false]
 refine (lT r.Members (fun i=>d9 r.Members (r.Members.length:Int) i r) (fun _=>false) none (some true) ?_ fun i hi=>?_).trans (by simp)
 ·show d9 _ _ _ _ = _
  rw [o8,aS];rfl
 ·show d9 _ _ _ _ = if (false:Bool) = true then none else d9 r.Members (r.Members.length:Int) ((i+1:Nat):Int) r
  rw [if_neg (by simp)]
  obtain ⟨c1,c2,c3⟩:=b2 i hi
  rw [o8]
  simp only [aO hi,aM,cond_true,ap,Bool.or_true,aH hi,aL hi (by omega)]
  rw [Ed,ax c1,ax c2,cond_true,Option.bind_some]
  by_cases h0:0 < i
  ·have e:ab ((i:Int) - 1) = ((i - 1:Nat):Int):=by rw [al (by omega) (by omega)];omega
   rw [e,lz (by simp),lz (by simp;omega),aH (l:=r.Members) (i:=i - 1) (by omega),aJ (p:=r.Members[i]≤r.Members[i - 1]) (by have:=c3 h0;omega)]
   cases aa (0 < (i:Int)) <;> simp
  ·have:i = 0:=by omega
   subst this
   simp
   rfl
theorem MI (t:List GRules) (ht:t.length≤8) (h0:0 < t.length) (hf:(gD t 0 (zS .GRules)).From = 0) (h:∀ (i:Nat) (hi:i < t.length),sV t[i]∧O2 t[i].Members∧∀ h:0 < i,t[i - 1].From < t[i].From):oH t = some 0:=by
 rw [EK,aJ (p:=8 < (t.length:Int)) (by omega),cond_false]
 have e:ae (t.length:Int) 0 = false:=il.2 (by omega)
 rw [e,ax (p:=0 < (t.length:Int)) (by omega),hf,sw.2 rfl]
 show dg _ _ _ _ = _
 refine (lT t (fun i=>dg t t (t.length:Int) i) (fun _=>false) none (some 0) ?_ fun i hi=>?_).trans (by simp)
 ·show dg _ _ _ _ = _
  rw [ox,aS];rfl
 ·show dg _ _ _ _ = if (false:Bool) = true then none else dg t t (t.length:Int) ((i+1:Nat):Int)
  rw [if_neg (by simp)]
  obtain ⟨c1,c2,c3⟩:=h i hi
  rw [ox]
  simp only [aO hi,aM,cond_true,ap,Bool.or_true,aH hi,aL hi (by omega)]
  rw [Pl _ c1 c2,Option.bind_some]
  by_cases h0:0 < i
  ·have e:ab ((i:Int) - 1) = ((i - 1:Nat):Int):=by rw [al (by omega) (by omega)];omega
   rw [e,lz (by simp),lz (by simp;omega),aH (l:=t) (i:=i - 1) (by omega),aJ (p:=t[i].From≤t[i - 1].From) (by have:=c3 h0;omega)]
   cases aa (0 < (i:Int)) <;> simp
  ·have:i = 0:=by omega
   subst this
   simp
   rfl
def OJ (day:Int) (f:GFact):Bool:=av f&&(ae f.Kind 5&&bh f.Span day)
def Gk (ok:Bool) (best f:GFact):Bool:=!ok||(aa (best.Span.From < f.Span.From)||(ae f.Span.From best.Span.From&&aa (f.State < best.State)))
def np (day:Int) (s:Bool × GFact) (f:GFact):Bool × GFact:=bif OJ day f then (bif Gk s.1 s.2 f then (true,f) else s) else s
theorem od (l:List GFact) (day:Int) (hl:l.length≤1000000):dH l day =
  some (bif (bif aa (0≤day) then aa (day≤73048) else false)&&bh (am l) day then ((l.foldl (np day) (false,zS .GFact)).2.State,(l.foldl (np day) (false,zS .GFact)).1) else (0,false)):=by
 rw [zd,HX,Option.bind_some,iK l hl,Option.bind_some,B8 _ _ (by simp),Option.bind_some]
 have e:(!(aa (day < 0))&&(!(aa (73049≤day))&&[am l].any fun s=>bh s day)) = ((bif aa (0≤day) then aa (day≤73048) else false)&&bh (am l) day):=by
  rw [eX,List.any_cons,List.any_nil,Bool.or_false]
  have e1:aa (0≤day) = !(aa (day < 0)):=by
   by_cases h:0≤day
   ·rw [ax h,aJ (p:=day < 0) (by omega)];rfl
   ·rw [aJ h,ax (p:=day < 0) (by omega)];rfl
  have e2:aa (day≤73048) = !(aa (73049≤day)):=by
   by_cases h:73049≤day
   ·rw [ax h,aJ (p:=day≤73048) (by omega)];rfl
   ·rw [aJ h,ax (p:=day≤73048) (by omega)];rfl
  rw [e1,e2,Bool.and_assoc]
 rw [e]
 have loop:bd day false l (l.length:Int) 0 (⟨0,0,0,false,0,0,0,(⟨0,0⟩:GSpan),0,0,0,0,0⟩:GFact) = some ((l.foldl (np day) (false,zS .GFact)).2.State,(l.foldl (np day) (false,zS .GFact)).1):=by
  refine (kg l (fun i (s:Bool × GFact)=>bd day s.1 l (l.length:Int) i s.2) (np day) (fun _ _=>True) (fun i s hi _=>⟨?_,trivial⟩) (false,zS .GFact) trivial).1.trans ?_
  ·show bd _ _ _ _ _ _ = bd _ _ _ _ _ _
   rw [lm]
   simp only [aO hi,aM,cond_true,ap,Bool.or_true,aH hi,aL hi (by omega)]
   rw [lN,Option.bind_some]
   generalize l[i] = f
   obtain ⟨ok,best⟩:=s
   unfold np OJ Gk bh
   have e1:aa (day < f.Span.From) = !(aa (f.Span.From≤day)):=by
    by_cases h:f.Span.From≤day
    ·rw [ax h,aJ (p:=day < f.Span.From) (by omega)];rfl
    ·rw [aJ h,ax (p:=day < f.Span.From) (by omega)];rfl
   have e2:aa (f.Span.To≤day) = !(aa (day < f.Span.To)):=by
    by_cases h:day < f.Span.To
    ·rw [ax h,aJ (p:=f.Span.To≤day) (by omega)];rfl
    ·rw [aJ h,ax (p:=f.Span.To≤day) (by omega)];rfl
   have e3:bW f.Kind 5 = !(ae f.Kind 5):=rfl
   rw [e1,e2,e3]
   show _ = bd day _ l (l.length:Int) _ _
   cases av f <;> cases ae f.Kind 5 <;> cases aa (f.Span.From≤day) <;> cases aa (day < f.Span.To) <;> cases ok <;> cases aa (best.Span.From < f.Span.From) <;> cases ae f.Span.From best.Span.From <;> cases aa (f.State < best.State) <;> rfl
  ·show bd _ _ _ _ _ _ = _
   rw [lm,aS,cond_false]
 rw [loop]
 cases (bif aa (0≤day) then aa (day≤73048) else false) <;> cases bh (am l) day <;> rfl
def FC:GFact:=⟨0,1,1,false,1,5,1,⟨100,200⟩,0,0,0,0,0⟩
def qO:GFact:=⟨0,2,1,false,1,1,1,⟨100,200⟩,2,20,1,0,0⟩
def qn:GFact:=⟨0,3,1,false,1,1,2,⟨100,200⟩,2,80,1,0,0⟩
def D6:GCompetence_life:=⟨[FC,qO,qn],am [FC,qO,qn],[],[⟨0,0,0,25,[]⟩]⟩
theorem S0:[FC,qO,qn].filter av = [FC,qO,qn]:=by kernel_rfl
theorem VO:cw D6 150 [1,2] = some [qO,qn]:=by
 rw [td _ _ _ (by decide) (by decide)];kernel_rfl
theorem Vq:cw D6 150 [1] = some [qO,qn]:=by
 rw [td _ _ _ (by decide) (by decide)];kernel_rfl
theorem Vi:cw D6 150 [3] = some []:=by
 rw [td _ _ _ (by decide) (by decide)];kernel_rfl
theorem Vm:dH [FC,qO,qn] 150 = some (1,true):=by
 rw [od _ _ (by decide)];kernel_rfl
theorem Tp:gV [qO,qn] = some [2]:=by
 rw [oP]
 refine Eq.trans (b:=bM [qO,qn] 2 1 [2]) (by rw [dN];kernel_rfl) ?_
 refine Eq.trans (b:=bM [qO,qn] 2 2 [2,2]) (by rw [dN];kernel_rfl) ?_
 rw [dN];kernel_rfl
theorem Vd:cK D6 150 25 = some (2,true):=by
 rw [jI,VO,Option.bind_some]
 refine Eq.trans (b:=aV 150 25 20 2 1 D6 [1] [20] [qO,qn]) (by rw [co];kernel_rfl) ?_
 refine Eq.trans (b:=aV 150 25 100 2 2 D6 [1,2] [20,80] [qO,qn]) (by rw [co];kernel_rfl) ?_
 rw [co,Vq]
 show Option.bind (dH [FC,qO,qn] 150) _ = _
 rw [Vm]
 show Option.bind (gV [qO,qn]) _ = _
 rw [Tp]
 kernel_rfl
theorem VH:uk [⟨0,0,0,25,[]⟩] 150 = some (⟨0,0,0,25,[]⟩,true):=by
 show nz [⟨0,0,0,25,[]⟩] 150 = _
 kernel_rfl
theorem UO:ff D6 150 0 = some (0,false):=by
 rw [kn,eE];kernel_rfl
theorem TM:fV D6 150 = some (0,false):=by
 rw [lL,Vi,Option.bind_some,fq];kernel_rfl
theorem NI:pT = some true:=by
 rw [Hy]
 have e:gm [FC,qO,qn] [⟨0,0,0,25,[]⟩] 150 = some (2,3):=by
  have hP:iM [FC,qO,qn] [⟨0,0,0,25,[]⟩] = some (D6,true):=by
   rw [jF,iU _ (by decide),Option.bind_some,S0,iK _ (by decide),Option.bind_some,Jv _ (by decide) (by rw [S0];decide),Option.bind_some,
    MI _ (by decide) (by decide) rfl (fun i hi=>by
     have:i = 0:=by simp at hi;omega
     subst this
     exact ⟨by simp [sV],⟨by simp,fun i hi=>by simp at hi⟩,fun h=>by omega⟩)]
   rfl
  rw [tU,hP,Option.bind_some,mF]
  show ((uk [⟨0,0,0,25,[]⟩] 150).bind _).bind _ = _
  rw [VH,Option.bind_some,rT,UO,TM,Vd]
  kernel_rfl
 show (gm [FC,qO,qn] [⟨0,0,0,25,[]⟩] 150).bind _ = _
 rw [e]
 kernel_rfl
theorem Cq (l:List GPensionhand_Fact) (n:List Int) (dense:Bool) (hn:n.length≤9223372036854775807):En (fun a:List GFact=>a.length≤30) (ol l n dense):=by
 rw [EA]
 have fin:∀ out:List GFact,out.length≤12→En (fun a:List GFact=>a.length≤30) (bif aa ((0:Int) < (n.length:Int)) then (so n).bind fun r1=>(yh r1 1).bind fun r2=>gb (aa (((out.length+r2.length)*112)≤140737488355328))<|gb (aa ((out.length+r2.length)≤140737488355328))<|(kD (out++r2) []).bind fun r3=>some r3
   else (kD out []).bind fun r4=>some r4):=by
  intro out ho
  refine En.bif (fun _=>.bind (R3 n hn) fun r1 h1=>?_) fun _=>.bind (KT out [] (by simp;omega)) fun r h=>.some (by simp at h;omega)
  rw [LM r1 1 (by omega),Option.bind_some]
  have hf:=List.length_filter_le (S2 1) r1
  exact En.gd (by omega) (En.gd (by omega) (.bind (KT _ [] (by simp;omega)) fun r h=>.some (by simp at h;omega)))
 have key:∀ (k:Nat) (i:Int) (out:List GFact),12 - i≤k→0≤i→i≤12→(out.length:Int)≤i→En (fun a:List GFact=>a.length≤30) (kd l n dense i out):=by
  intro k
  induction k with
  | zero=>intro i out hk h0 hi ho;rw [oY];exact En.and (fun _ e=>by have:=dJ e;omega) fun _=>fin out (by omega)
  | succ k ih =>
   intro i out hk h0 hi ho
   rw [oY]
   refine En.and (fun a b=>?_) fun _=>fin out (by omega)
   have a:=dJ a
   have b:=dJ b
   have nx:∀ r,En (fun a:List GFact=>a.length≤30) (fM l n dense i out r):=by
    intro r
    rw [vO,al (n:=i+1) (by omega) (by omega)]
    exact .bind (T1 r) fun f _=>En.gd (by omega) (En.gd (by omega) (ih _ _ (by omega) (by omega) (by omega) (by simp;omega)))
   exact En.gd h0 (En.gd a (En.bif (fun _=>.bind (no _ 60 (by decide) (by decide)) fun _ _=>.bind (no _ 40 (by decide) (by decide)) fun _ _=>.bind (no _ 14 (by decide) (by decide)) fun _ _=>En.bif (fun _=>nx _) fun _=>nx _) fun _=>nx _))
 exact key 12 0 [] (by omega) (by omega) (by omega) (by simp)
end Go.Ax
set_option linter.all false
/- The law of a day: rules, postings, civil service, benefits, residence, on both sides. -/
set_option maxRecDepth 100000
namespace Go.Ax
def cD {T:Type} (p:T→Bool) (bt:T→T→Bool) (s:Bool × T) (f:T):Bool × T:=bif p f&&(!s.1||bt s.2 f) then (true,f) else s
theorem tV {T:Type} (p:T→Bool) (bt:T→T→Bool):∀ (l:List T) (s:Bool × T),(l.filter p).foldl (cD (fun _=>true) bt) s = l.foldl (cD p bt) s
 | [],_=>rfl
 | f :: l,s=>by
  rw [List.filter_cons,List.foldl_cons]
  cases h:p f with
  | true =>
   rw [if_pos rfl,List.foldl_cons,tV p bt l]
   unfold cD
   rw [h]
  | false =>
   rw [if_neg (by simp),tV p bt l]
   have:cD p bt s f = s:=by unfold cD;rw [h];rfl
   rw [this]
def RQ {T:Type} (l:List T) (z:T) (p:T→Bool) (i:Nat) (b:Int) (s:Bool × T):Prop:=(b = -1∧s = (false,z))∨(0≤b∧b < (i:Int)∧s = (true,gD l b.toNat z)∧p (gD l b.toNat z) = true)
theorem Dx {T R:Type} (l:List T) (z:T) (F:Int→Int→Option R) (p:T→Bool) (bt:T→T→Bool)
  (h:∀ (i:Nat) (hi:i < l.length) (b:Int),(b = -1∨(0≤b∧b < (i:Int)))→F (i:Int) b = if (p l[i]&&(aa (b < 0)||bt (gD l b.toNat z) l[i])) = true then F ((i+1:Nat):Int) (i:Int) else F ((i+1:Nat):Int) b) :
  ∃ b:Int,F 0 (-1) = F (l.length:Int) b∧RQ l z p l.length b (l.foldl (cD p bt) (false,z)):=by
 have key:∀ (n i:Nat) (b:Int) (s:Bool × T),l.length = i+n→RQ l z p i b s→∃ b':Int,F (i:Int) b = F (l.length:Int) b'∧RQ l z p l.length b' ((l.drop i).foldl (cD p bt) s):=by
  intro n
  induction n with
  | zero =>
   intro i b s hn hr
   have:i = l.length:=by omega
   subst this
   refine ⟨b,rfl, ?_⟩
   rw [List.drop_length,List.foldl_nil]
   exact hr
  | succ n ih =>
   intro i b s hn hr
   have hi:i < l.length:=by omega
   have e:=h i hi b (by rcases hr with ⟨h1,_⟩ | ⟨h1,h2,_⟩;exact .inl h1;exact .inr ⟨h1,h2⟩)
   rw [List.drop_eq_getElem_cons hi,List.foldl_cons]
   have es:cD p bt s l[i] = if (p l[i]&&(aa (b < 0)||bt (gD l b.toNat z) l[i])) = true then (true,l[i]) else s:=by
    unfold cD
    rcases hr with ⟨h1,h2⟩ | ⟨h1,h2,h3,h4⟩
    ·rw [h1,h2,ax (p:=(-1:Int) < 0) (by omega)]
     cases p l[i] <;> simp
    ·rw [h3,aJ (p:=b < 0) (by omega)]
     cases p l[i] <;> cases bt (gD l b.toNat z) l[i] <;> simp
   rw [es,e]
   by_cases hc:(p l[i]&&(aa (b < 0)||bt (gD l b.toNat z) l[i])) = true
   ·rw [if_pos hc,if_pos hc]
    refine ih (i+1) (i:Int) _ (by omega) (.inr ⟨by omega,by omega,by rw [aH hi], ?_⟩)
    rw [aH hi]
    exact (Bool.and_eq_true _ _ ▸ hc).1
   ·rw [if_neg hc,if_neg hc]
    refine ih (i+1) b _ (by omega) ?_
    rcases hr with h1 | ⟨h1,h2,h3⟩
    ·exact .inl h1
    ·exact .inr ⟨h1,by omega,h3⟩
 exact key l.length 0 (-1) (false,z) (by omega) (.inl ⟨rfl,rfl⟩)
def bL (t:List GRules) (day:Int):GRules × Bool :=
 bif aa (day < 0)||aa (73049≤day) then (zS .GRules,false) else match t.reverse.find? (fun r=>aa (r.From≤day)) with | some r=>(r,true) | none=>(zS .GRules,false)
def Hq (t:List GRules):Prop:=t.length≤1000∧∀ r∈t,r.Members.length≤1000
theorem JJ (t:List GRules) (day:Int) (h:Hq t):uk t day = some (bL t day):=by
 show nz t day = _
 unfold nz bL
 have:t.all (fun r=>aa (r.Members.length≤1000)) = true:=List.all_eq_true.2 fun r hr=>ax (h.2 r hr)
 rw [this,ax h.1]
 show (bif _ then _ else _) = _
 cases (aa (day < 0)||aa (73049≤day)) with
 | true=>rfl
 | false =>
  rw [cond_false,cond_false]
  cases t.reverse.find? (fun r=>aa (r.From≤day)) <;> rfl
theorem M1 (t:List GRules) (day:Int) (h:Hq t):qW t day = some (bL t day):=by
 rw [C3,al (n:=(t.length:Int) - 1) (by omega) (by have:=h.1;omega)]
 have key:∀ (k:Nat),k≤t.length→jh t day ((k:Int) - 1) (⟨0,0,0,0,[]⟩:GRules) = some (bif aa (day < 0)||aa (73049≤day) then (zS .GRules,false) else match (t.take k).reverse.find? (fun r=>aa (r.From≤day)) with | some r=>(r,true) | none=>(zS .GRules,false)):=by
  intro k
  induction k with
  | zero =>
   intro _
   rw [ou,aJ (by omega),cond_false,List.take_zero]
   cases (aa (day < 0)||aa (73049≤day)) <;> rfl
  | succ k ih =>
   intro hk
   have hk':k < t.length:=by omega
   rw [ou,show (((k+1:Nat):Int) - 1) = (k:Int) by omega,aM,cond_true,tD,Option.bind_some]
   by_cases hd:0≤day∧day < 73049
   ·have e1:(aa (day < 0)||aa (73049≤day)) = false:=by rw [aJ (by omega),aJ (by omega)];rfl
    rw [e1]
    have:=h.2 _ (List.getElem_mem hk')
    have hv:(decide (0≤day)&&decide (day≤73048)) = true:=by simp;omega
    have ht:(t.take (k+1)).reverse = t[k] :: (t.take k).reverse:=by
     rw [List.take_succ,List.getElem?_eq_getElem hk'];simp
    rw [ht,List.find?_cons]
    simp only [e1,cond_false] at ih
    have ih:=ih (by omega)
    rw [al (n:=(k:Int) - 1) (by omega) (by have:=h.1;omega),ih]
    simp only [aO hk',ap,aH hk',cond_false]
    first
     | rw [hv]
     | skip
    by_cases hf:t[k].From≤day
    ·rw [ax hf,ay (by omega),ay (by omega)]
     simp [hd.1,show day≤73048 by omega,aa]
    ·rw [aJ hf]
     simp [hd.1,show day≤73048 by omega,aa]
   ·have e1:(aa (day < 0)||aa (73049≤day)) = true:=by
     by_cases h1:day < 0
     ·rw [ax h1];rfl
     ·rw [ax (p:=73049≤day) (by omega),Bool.or_true]
    rw [e1]
    have hv:(decide (0≤day)&&decide (day≤73048)) = false:=by
     rw [Bool.and_eq_false_iff,decide_eq_false_iff_not,decide_eq_false_iff_not];omega
    by_cases h1:0≤day
    ·simp [h1,show ¬ day≤73048 by omega,aa];rfl
    ·simp [h1,aa];rfl
 have:=key t.length (Nat.le_refl _)
 rw [List.take_length] at this
 exact this
def pB (day lim:Int) (p:GPosting):Bool:=bh p.Span day&&aa (day < p.Span.From+lim)
def sY (l:List GPosting) (day lim:Int):Int × Bool:=match l.find? (pB day lim) with | some p=>(p.Seat,true) | none=>(0,false)
def rR (l:List GPosting):Prop:=l.length≤1000000∧∀ p∈l,0≤p.Span.From∧p.Span.From≤73049
theorem M2 (x:GCompetence_life) (day lim:Int) (h:rR x.postings) (hl:0≤lim∧lim≤73049):ff x day lim = some (sY x.postings day lim):=by
 rw [kn]
 unfold sY
 generalize x.postings = l at h
 have hle:=h.1
 have key:∀ (n i:Nat),l.length = i+n→dR day lim l (l.length:Int) (i:Int) = some (match (l.drop i).find? (pB day lim) with | some p=>(p.Seat,true) | none=>(0,false)):=by
  intro n
  induction n with
  | zero =>
   intro i hn
   have:i = l.length:=by omega
   subst this
   rw [eE,aS,cond_false,List.drop_length];rfl
  | succ n ih =>
   intro i hn
   have hi:i < l.length:=by omega
   have hr:=h.2 _ (List.getElem_mem hi)
   rw [eE,List.drop_eq_getElem_cons hi,List.find?_cons]
   simp only [aO hi,aM,cond_true,ap,Bool.or_true,aH hi,aL hi (by omega)]
   rw [ih (i+1) (by omega),rT,Option.bind_some,al (n:=l[i].Span.From+lim) (by omega) (by omega)]
   unfold pB
   cases bh l[i].Span day <;> cases aa (day < l[i].Span.From+lim) <;> rfl
 exact key l.length 0 (by omega)
def Fp (b f:GPosting):Bool:=ae f.Span.From b.Span.From&&aa (f.Seat < b.Seat)
theorem PB (day lim:Int):∀ (l:List GPosting),Bf l→l.foldl (cD (pB day lim) Fp) (false,zS .GPosting) = match l.find? (pB day lim) with | some p=>(true,p) | none=>(false,zS .GPosting):=by
 have keep:∀ (l:List GPosting) (b:GPosting),(∀ x∈l,dx x b = false)→l.foldl (cD (pB day lim) Fp) (true,b) = (true,b):=by
  intro l
  induction l with
  | nil=>intro b _;rfl
  | cons x r ih =>
   intro b hb
   rw [List.foldl_cons]
   have:cD (pB day lim) Fp (true,b) x = (true,b):=by
    have h:=(nV b x).1 (hb x (by simp))
    have:Fp b x = false:=by
     unfold Fp ae
     rw [Bool.and_eq_false_iff]
     simp only [aa,decide_eq_false_iff_not,beq_eq_false_iff_ne]
     omega
    unfold cD
    rw [this]
    cases pB day lim x <;> rfl
   rw [this]
   exact ih b fun y hy=>hb y (by simp [hy])
 intro l
 induction l with
 | nil=>intro _;rfl
 | cons x r ih =>
  intro hl
  have hp:=List.pairwise_cons.1 hl
  rw [List.foldl_cons,List.find?_cons]
  cases h:pB day lim x with
  | true =>
   have:cD (pB day lim) Fp (false,zS .GPosting) x = (true,x):=by unfold cD;rw [h];rfl
   rw [this]
   exact keep r x hp.1
  | false =>
   have:cD (pB day lim) Fp (false,zS .GPosting) x = (false,zS .GPosting):=by unfold cD;rw [h];rfl
   rw [this]
   exact ih hp.2
def P2 (b f:GFact):Bool:=aa (b.Share < f.Share)||(ae f.Share b.Share&&aa (f.State < b.State))
def pH (c:List GFact) (day:Int):Bool × GFact:=c.foldl (cD (cm day [3]) P2) (false,zS .GFact)
theorem Qm (x:GCompetence_life) (day:Int) (hl:x.facts.length≤1000000):fV x day = some ((pH x.facts day).2.State,(pH x.facts day).1):=by
 rw [lL,td _ _ _ hl (by decide),Option.bind_some]
 unfold pH
 rw [← tV]
 have hle:=List.length_filter_le (cm day [3]) x.facts
 generalize x.facts.filter (cm day [3]) = l at hle
 refine ((kg l (fun i (s:Bool × GFact)=>bz s.1 (l.length:Int) i s.2 l) (cD (fun _=>true) P2) (fun _ _=>True) (fun i s hi _=>⟨?_,trivial⟩) (false,zS .GFact) trivial).1).trans ?_
 ·show bz _ _ _ _ _ = bz _ _ _ _ _
  rw [fq]
  simp only [aO hi,aM,cond_true,ap,Bool.or_true,aH hi,aL hi (by omega)]
  obtain ⟨ok,best⟩:=s
  unfold cD P2
  cases ok <;> cases aa (best.Share < l[i].Share) <;> cases ae l[i].Share best.Share <;> cases aa (l[i].State < best.State) <;> rfl
 ·show bz _ _ _ _ _ = _
  rw [fq,aS,cond_false]
def rm (day:Int) (b:Int) (f:GFact):Int:=bif cm day [7,8] f&&(aa (b < 0)||aa (f.State < b)) then f.State else b
def lh (c:List GFact) (day:Int):Int:=c.foldl (rm day) (-1)
theorem TS (a b:GFact):gF a b = some (if a.State < b.State then -1 else if b.State < a.State then 1 else 0):=by
 rw [pm,G2,AB,AB]
 simp only [Option.bind_some,sw.2 rfl,cond_false]
 by_cases h1:a.State < b.State
 ·rw [ax h1,if_pos h1];rfl
 ·by_cases h2:b.State < a.State
  ·rw [aJ h1,ax h2,if_neg h1,if_pos h2];rfl
  ·rw [aJ h1,aJ h2,if_neg h1,if_neg h2];rfl
theorem yc (day:Int):∀ (l:List GFact) (b:Int),(l.filter (cm day [7,8])).foldl (fun b f=>bif aa (b < 0)||aa (f.State < b) then f.State else b) b = l.foldl (rm day) b
 | [],_=>rfl
 | f :: l,b=>by
  rw [List.filter_cons,List.foldl_cons]
  cases h:cm day [7,8] f with
  | true =>
   rw [if_pos rfl,List.foldl_cons,yc day l]
   unfold rm
   rw [h,Bool.true_and]
  | false =>
   rw [if_neg (by simp),yc day l]
   have:rm day b f = b:=by unfold rm;rw [h];rfl
   rw [this]
theorem MT (x:GCompetence_life) (day:Int) (hl:x.facts.length≤1000000) (hs:∀ f∈x.facts,cm day [7,8] f = true→0≤f.State) :
  ir x day = some (if lh x.facts day < 0 then (0,false) else (lh x.facts day,true)):=by
 rw [qR,td _ _ _ hl (by decide),Option.bind_some]
 unfold lh
 rw [← yc]
 have hle:=List.length_filter_le (cm day [7,8]) x.facts
 have hs':∀ f∈x.facts.filter (cm day [7,8]),0≤f.State:=fun f hf=>hs f (List.mem_filter.1 hf).1 (List.mem_filter.1 hf).2
 generalize x.facts.filter (cm day [7,8]) = l at hle hs'
 cases l with
 | nil=>rfl
 | cons f r =>
  rw [show ae ((f :: r).length:Int) 0 = false from il.2 (by simp only [List.length_cons];omega),cond_false,BU,aJ (p:=((f :: r).length:Int) < 1) (by simp only [List.length_cons];omega),cond_false,ay (by simp only [List.length_cons];omega)]
  have key:∀ (n i:Nat) (m z:GFact),(f :: r).length = i+n→fh (f :: r) (i:Int) z m = some (((f :: r).drop i).foldl (fun m x=>if x.State < m.State then x else m) m):=by
   intro n
   induction n with
   | zero =>
    intro i m z hn
    have:i = (f :: r).length:=by omega
    subst this
    rw [mD,aS,cond_false,List.drop_length];rfl
   | succ n ih =>
    intro i m z hn
    have hi:i < (f :: r).length:=by omega
    rw [mD,List.drop_eq_getElem_cons hi,List.foldl_cons]
    simp only [aO hi,aM,cond_true,ap,Bool.or_true,aH hi,aL hi (by omega)]
    rw [TS,Option.bind_some]
    by_cases h1:(f :: r)[i].State < m.State
    ·rw [if_pos h1,if_pos h1,ax (by omega),cond_true]
     exact ih (i+1) _ _ (by omega)
    ·rw [if_neg h1,if_neg h1,aJ (by split <;> omega),cond_false]
     exact ih (i+1) _ _ (by omega)
  have hk:=key r.length 1 f (⟨0,0,0,false,0,0,0,(⟨0,0⟩:GSpan),0,0,0,0,0⟩:GFact) (by simp;omega)
  rw [show gD (f :: r) 0 (zS .GFact) = f from rfl,show ((1:Nat):Int) = 1 from rfl] at *
  rw [hk,Option.bind_some]
  have red:∀ (l:List GFact) (m:GFact),0≤m.State→(∀ x∈l,0≤x.State)→(l.foldl (fun m x=>if x.State < m.State then x else m) m).State = l.foldl (fun (b:Int) f=>bif aa (b < 0)||aa (f.State < b) then f.State else b) m.State∧0≤l.foldl (fun (b:Int) f=>bif aa (b < 0)||aa (f.State < b) then f.State else b) m.State:=by
   intro l
   induction l with
   | nil=>intro m hm _;exact ⟨rfl,hm⟩
   | cons y t ih =>
    intro m hm hx
    rw [List.foldl_cons,List.foldl_cons,aJ (p:=m.State < 0) (by omega),Bool.false_or]
    by_cases h1:y.State < m.State
    ·rw [if_pos h1,ax h1,cond_true]
     exact ih y (hx y (by simp)) fun x h=>hx x (by simp [h])
    ·rw [if_neg h1,aJ h1,cond_false]
     exact ih m hm fun x h=>hx x (by simp [h])
  obtain ⟨r1,r2⟩:=red r f (hs' f (by simp)) fun x hx=>hs' x (by simp [hx])
  rw [List.foldl_cons,ax (p:=(-1:Int) < 0) (by omega),Bool.true_or,cond_true,if_neg (by omega),show (f :: r).drop 1 = r from rfl,r1]
def AS (day:Int) (f:GFact):Bool:=ae f.Kind 5&&bh f.Span day
def N2 (b f:GFact):Bool:=aa (b.Span.From < f.Span.From)||(ae f.Span.From b.Span.From&&aa (f.State < b.State))
def gv (c:List GFact) (day:Int):Bool × GFact:=c.foldl (cD (AS day) N2) (false,zS .GFact)
theorem T9 (l:List GFact):(l.filter av).filter av = l.filter av:=by
 rw [List.filter_filter];congr 1;funext x;cases av x <;> rfl
theorem QB (l:List GFact):am (l.filter av) = am l:=by
 unfold am cz
 rw [T9]
theorem Cu (day:Int):∀ (c:List GFact),(∀ f∈c,av f = true)→∀ s,c.foldl (np day) s = c.foldl (cD (AS day) N2) s
 | [],_,_=>rfl
 | f :: c,h,s=>by
  rw [List.foldl_cons,List.foldl_cons,Cu day c (fun g hg=>h g (by simp [hg]))]
  congr 1
  unfold np OJ cD AS Gk N2
  rw [h f (by simp)]
  obtain ⟨ok,best⟩:=s
  cases ae f.Kind 5 <;> cases bh f.Span day <;> cases ok <;> cases aa (best.Span.From < f.Span.From) <;> cases ae f.Span.From best.Span.From <;> cases aa (f.State < best.State) <;> rfl
theorem rt (l:List GFact) (day:Int) (hl:l.length≤1000000) (hd:0≤day∧day≤73048) (hd2:bh (am l) day = true) :
  dH (l.filter av) day = some ((gv (l.filter av) day).2.State,(gv (l.filter av) day).1):=by
 rw [od _ _ (Nat.le_trans (List.length_filter_le _ _) hl),QB,hd2,ax hd.1,ax hd.2,Cu day _ fun f hf=>(List.mem_filter.1 hf).2]
 rfl
theorem zf (l:List GFact) (day:Int) (hl:l.length≤1000000):fZ l day = some (bif bh (am l) day then ((gv (l.filter av) day).2.State,(gv (l.filter av) day).1) else (0,false)):=by
 rw [zA,i8 l hl,Option.bind_some]
 have hle:=Nat.le_trans (List.length_filter_le av l) hl
 generalize l.filter av = c at hle
 cases hd:bh (am l) day with
 | false =>
  rw [ip,l3 l hl,Option.bind_some,nB,hd]
  simp only [Option.bind_some,cond_false,ax (p:=(-1:Int) < 0) (by omega),cond_true]
  cases aa ((0:Int) < (c.length:Int)) <;> rfl
 | true =>
  rw [cond_true]
  unfold gv
  obtain ⟨b,h1,h2⟩:=Dx c (zS .GFact) (fun i b=>bn l day b i c) (AS day) N2 fun i hi b hb=>by
   show bn _ _ _ _ _ = if _ then bn _ _ _ _ _ else bn _ _ _ _ _
   rw [ip,l3 l hl]
   simp only [aO hi,aM,cond_true,ap,Bool.or_true,aH hi,aL hi (by omega)]
   simp only [Option.bind_some,nB,hd,cond_true]
   unfold AS N2
   have e3:bW c[i].Kind 5 = !(ae c[i].Kind 5):=rfl
   rw [e3]
   rcases hb with hb | ⟨hb1,hb2⟩
   ·subst hb
    rw [ax (p:=(-1:Int) < 0) (by omega)]
    cases ae c[i].Kind 5 <;> cases bh c[i].Span day <;> cases ae c[i].Span.From (gD c (-1:Int).toNat (zS .GFact)).Span.From <;> rfl
   ·rw [aJ (p:=b < 0) (by omega),ax (p:=0≤b) (by omega),ax (p:=b < (c.length:Int)) (by omega)]
    cases ae c[i].Kind 5 <;> cases bh c[i].Span day <;> cases aa ((gD c b.toNat (zS .GFact)).Span.From < c[i].Span.From) <;> cases ae c[i].Span.From (gD c b.toNat (zS .GFact)).Span.From <;> cases aa (c[i].State < (gD c b.toNat (zS .GFact)).State) <;> rfl
  refine h1.trans ?_
  show bn _ _ _ _ _ = _
  rw [ip,aS,cond_false]
  rcases h2 with ⟨rfl,e⟩ | ⟨a1,a2,e,_⟩
  ·rw [e,ax (p:=(-1:Int) < 0) (by omega),cond_true];rfl
  ·rw [e,aJ (p:=b < 0) (by omega),cond_false,ay a1,ay a2]
end Go.Ax
set_option linter.all false
/- The law of a day on both sides, for a given law by activity;rules that are made. -/
set_option maxRecDepth 100000
namespace Go.Ax
noncomputable def tO (c:List GFact) (post:List GPosting) (lim:Int) (act:Int × Bool) (day:Int):Int × Int :=
 bif (sY post day lim).2 then ((sY post day lim).1,1) else bif (pH c day).1 then ((pH c day).2.State,2) else bif act.2 then (act.1,3) else bif aa (0≤lh c day) then (lh c day,4) else bif (gv c day).1 then ((gv c day).2.State,5) else (-1,0)
theorem oh {t:List GRules} {day:Int} (h:(bL t day).2 = true):(0≤day∧day≤73048)∧(bL t day).1∈t:=by
 unfold bL at h ⊢
 cases hc:(aa (day < 0)||aa (73049≤day)) with
 | true=>rw [hc] at h;cases h
 | false =>
  rw [hc,cond_false] at h
  rw [Bool.or_eq_false_iff] at hc
  have h1:=pn hc.1
  have h2:=pn hc.2
  rw [cond_false]
  cases hf:t.reverse.find? (fun r=>aa (r.From≤day)) with
  | none=>rw [hf] at h;cases h
  | some r=>exact ⟨by omega,List.mem_reverse.1 (List.mem_of_find?_eq_some hf)⟩
theorem AZ {f:GFact} (h:cq f = true) (hb:dC f.Kind 83 = true):0≤f.State∧f.State < 6:=by
 have hs:=((iA f).1 h).2.2.2.2.2.1
 rw [hb] at hs
 unfold bV at hs
 rw [if_pos rfl,mJ] at hs
 omega
theorem et {l:List GFact}:∀ f∈l.filter av,cq f = true:=by
 intro f hf
 have h:=(List.mem_filter.1 hf).2
 unfold av at h
 cases hv:cq f with
 | true=>rfl
 | false=>rw [hv] at h;cases h
theorem FX {day:Int} {ks:List Int} {f:GFact} (h:cm day ks f = true):f.Kind∈ks:=by
 unfold cm at h
 rw [Bool.and_eq_true,List.any_eq_true] at h
 obtain ⟨⟨k,hk,he⟩,_⟩:=h
 rw [ct.1 he];exact hk
theorem O4 {c:List GFact} (hc:∀ f∈c,cq f = true) (day:Int):∀ f∈c,cm day [7,8] f = true→0≤f.State:=by
 intro f hf ho
 have hk:=FX ho
 refine (AZ (hc f hf) ?_).1
 simp at hk
 rcases hk with e | e <;> rw [e] <;> decide
structure mL (t:List GRules):Prop where
  le:t.length≤8
  ne:0 < t.length
  zero:(gD t 0 (zS .GRules)).From = 0
  ok:∀ (i:Nat) (hi:i < t.length),sV t[i]∧O2 t[i].Members∧∀ h:0 < i,t[i - 1].From < t[i].From
theorem mL.mem {t:List GRules} (h:mL t) {r:GRules} (hr:r∈t):sV r∧O2 r.Members:=by
 obtain ⟨i,hi,rfl⟩:=List.getElem_of_mem hr
 exact ⟨(h.ok i hi).1,(h.ok i hi).2.1⟩
theorem mL.small {t:List GRules} (h:mL t):Hq t:=⟨by have:=h.le;omega,fun r hr=>by have:=(h.mem hr).2.1;omega⟩
theorem mL.check {t:List GRules} (h:mL t):oH t = some 0:=MI t h.le h.ne h.zero h.ok
theorem mL.rcheck {t:List GRules} (h:mL t):vD t = some 0:=by
 have ht:=h.le
 rw [F9,aJ (p:=8 < (t.length:Int)) (by omega),cond_false]
 have e:ae (t.length:Int) 0 = false:=il.2 (by have:=h.ne;omega)
 rw [e,ax (p:=0 < (t.length:Int)) (by have:=h.ne;omega),h.zero,sw.2 rfl]
 show cB _ _ = _
 refine (lT t (fun i=>cB t i) (fun _=>false) none (some 0) ?_ fun i hi=>?_).trans (by simp)
 ·show cB _ _ = _
  rw [o7,aS];rfl
 ·show cB _ _ = if (false:Bool) = true then none else cB t ((i+1:Nat):Int)
  rw [if_neg (by simp)]
  obtain ⟨⟨a1,a2,a3,a4,a5,a6,a7,a8⟩,⟨b1,b2⟩,c3⟩:=h.ok i hi
  have inner:cR t (i:Int) 0 t[i] = cB t ((i+1:Nat):Int):=by
   refine (lT t[i].Members (fun k=>cR t (i:Int) k t[i]) (fun _=>false) none (cB t ((i+1:Nat):Int)) ?_ fun k hk=>?_).trans (by simp)
   ·show cR _ _ _ _ = _
    rw [nN,aS,cond_false,aL hi (by omega)]
   ·show cR _ _ _ _ = if (false:Bool) = true then none else cR t (i:Int) ((k+1:Nat):Int) t[i]
    rw [if_neg (by simp)]
    obtain ⟨d1,d2,d3⟩:=b2 k hk
    rw [nN]
    simp only [aO hk,aM,cond_true,ap,Bool.or_true,aH hk,aL hk (by omega)]
    rw [aJ (p:=t[i].Members[k] < 0) (by omega),aJ (p:=6≤t[i].Members[k]) (by omega)]
    by_cases h0:0 < k
    ·have e:ab ((k:Int) - 1) = ((k - 1:Nat):Int):=by rw [al (by omega) (by omega)];omega
     rw [e,lz (by simp),lz (by simp;omega),aH (l:=t[i].Members) (i:=k - 1) (by omega),aJ (p:=t[i].Members[k]≤t[i].Members[k - 1]) (by have:=d3 h0;omega)]
     cases aa (0 < (k:Int)) <;> rfl
    ·have:k = 0:=by omega
     subst this
     simp
     rfl
  rw [o7]
  simp only [aO hi,aM,cond_true,ap,Bool.or_true,aH hi,aL hi (by omega)]
  rw [tD,Option.bind_some,inner]
  have hv:(decide (0≤t[i].From)&&decide (t[i].From≤73048)) = true:=by simp;omega
  have e1:aa (t[i].MinDays < 0) = false:=aJ (by omega)
  have e2:aa (73049 < t[i].MinDays) = false:=aJ (by omega)
  have e3:aa (t[i].PostingLimit < 0) = false:=aJ (by omega)
  have e4:aa (73049 < t[i].PostingLimit) = false:=aJ (by omega)
  have e5:aa (t[i].Substantial < 0) = false:=aJ (by omega)
  have e6:aa (100 < t[i].Substantial) = false:=aJ (by omega)
  rw [e1,e2,e3,e4,e5,e6]
  by_cases h0:0 < i
  ·have e:ab ((i:Int) - 1) = ((i - 1:Nat):Int):=by rw [al (by omega) (by omega)];omega
   rw [e,lz (by simp),lz (by simp;omega),aH (l:=t) (i:=i - 1) (by omega),aJ (p:=t[i].From≤t[i - 1].From) (by have:=c3 h0;omega)]
   simp [a1,a2]
  ·have:i = 0:=by omega
   subst this
   simp [a1,a2]
   rfl
theorem AF (l:List GFact) (hl:l.length≤40) (t:List GRules) (ht:mL t) (p:List GPosting) (hp:rR p) (day:Int) (act:Int × Bool)
  (ha:(bL t day).2 = true→bh (am l) day = true→cK ⟨l.filter av,am l,p,t⟩ day (bL t day).1.Substantial = some act) :
  dV ⟨l.filter av,am l,p,t⟩ day = some (bif (bL t day).2&&bh (am l) day then tO (l.filter av) p (bL t day).1.PostingLimit act day else (-1,0)):=by
 have hcl:=List.length_filter_le av l
 rw [mF,JJ t day ht.small,Option.bind_some]
 cases h1:(bL t day).2 with
 | false=>rfl
 | true =>
  rw [rT,Bool.not_true,cond_false,Option.bind_some]
  show (bif !(bh (am l) day) then _ else _) = _
  cases h2:bh (am l) day with
  | false=>rfl
  | true =>
   obtain ⟨hd,hm⟩:=oh h1
   obtain ⟨hr,_⟩:=ht.mem hm
   have ha:=ha h1 h2
   generalize bL t day = rr at hr ha
   obtain ⟨r,b⟩:=rr
   simp only at hr ha ⊢
   rw [M2 _ day r.PostingLimit hp ⟨hr.2.2.2.2.1,hr.2.2.2.2.2.1⟩,Qm _ day (by show (l.filter av).length≤1000000;omega),ha,MT _ day (by show (l.filter av).length≤1000000;omega) (O4 et day),rt l day (by omega) hd h2]
   simp only [Option.bind_some,Bool.not_true,cond_false,Bool.and_self,cond_true]
   unfold tO
   by_cases hb:lh (l.filter av) day < 0
   ·rw [if_pos hb,aJ (p:=0≤lh (l.filter av) day) (by omega)]
    cases (sY p day r.PostingLimit).2 <;> cases (pH (l.filter av) day).1 <;> cases act.2 <;> cases (gv (l.filter av) day).1 <;> rfl
   ·rw [if_neg hb,ax (p:=0≤lh (l.filter av) day) (by omega)]
    cases (sY p day r.PostingLimit).2 <;> cases (pH (l.filter av) day).1 <;> cases act.2 <;> cases (gv (l.filter av) day).1 <;> rfl
theorem CM {c:List GFact} {life:GSpan} {p:List GPosting} (hp:p.Perm ((kF 0 6).flatMap (fQ c life))) (hl:p.length≤1476):rR p:=by
 refine ⟨by omega,fun a ha=>?_⟩
 obtain ⟨r,_,h⟩:=List.mem_flatMap.1 (hp.mem_iff.1 ha)
 have h2:=wq a h
 have:=CF (pC (bg c ⟨a.Seat,a.State⟩) life).1 (by omega) _ h2
 omega
theorem Nc (l:List GFact) (hl:l.length≤40) (t:List GRules) (ht:mL t) (p:List GPosting) (hp:di l = some p) (hr:rR p) (day:Int) (act:Int × Bool)
  (ha:(bL t day).2 = true→bh (am l) day = true→cK ⟨l.filter av,am l,p,t⟩ day (bL t day).1.Substantial = some act) :
  gm l t day = some (bif (bL t day).2&&bh (am l) day then tO (l.filter av) p (bL t day).1.PostingLimit act day else (-1,0)):=by
 rw [tU,jF,iU l (by omega),Option.bind_some,iK l (by omega),Option.bind_some,hp,Option.bind_some,ht.check,Option.bind_some,Option.bind_some,kh]
 show (dV ⟨l.filter av,am l,p,t⟩ day).bind _ = _
 rw [AF l hl t ht p hr day act ha,Option.bind_some]
theorem MY (l c:List GFact) (hc:c.length≤40) (hv:∀ f∈c,cq f = true) (p:List GPosting) (hs:Bf p) (hr:rR p) (r:GRules) (hru:sV r) (day:Int) (hd:0≤day∧day≤73048) (act:Int × Bool)
  (ha:l5 l c r day = some act) (hres:fZ l day = some ((gv c day).2.State,(gv c day).1)):uo l c p r day = some (tO c p r.PostingLimit act day):=by
 have hpl:=hr.1
 have hlim:0≤r.PostingLimit∧r.PostingLimit≤73049:=⟨hru.2.2.2.2.1,hru.2.2.2.2.2.1⟩
 rw [Lm]
 have e3:aY l c day (-1) 0 = some (bif aa (0≤lh c day) then (lh c day,4) else bif (gv c day).1 then ((gv c day).2.State,5) else (-1,0)):=by
  have lp:=(kg c (fun i b=>aY l c day b i) (rm day) (fun _ _=>True) (fun i b hi _=>⟨by
   show aY _ _ _ _ _ = aY _ _ _ _ _
   rw [qN]
   simp only [aO hi,aM,cond_true,ap,Bool.or_true,aH hi,aL hi (by omega)]
   rw [nB]
   unfold rm cm
   simp only [Option.bind_some,List.any_cons,List.any_nil,Bool.or_false]
   cases ae c[i].Kind 7 <;> cases ae c[i].Kind 8 <;> cases bh c[i].Span day <;> cases aa (b < 0) <;> cases aa (c[i].State < b) <;> rfl,trivial⟩) (-1) trivial).1
  refine lp.trans ?_
  show aY _ _ _ (lh c day) _ = _
  rw [qN,aS,cond_false,hres,Option.bind_some]
  cases aa (0≤lh c day) <;> cases (gv c day).1 <;> rfl
 have e2:cN l c day (-1) 0 r = some (bif (pH c day).1 then ((pH c day).2.State,2) else bif act.2 then (act.1,3) else bif aa (0≤lh c day) then (lh c day,4) else bif (gv c day).1 then ((gv c day).2.State,5) else (-1,0)):=by
  obtain ⟨b,h1,h2⟩:=Dx c (zS .GFact) (fun i b=>cN l c day b i r) (cm day [3]) P2 fun i hi b hb=>by
   show cN _ _ _ _ _ _ = if _ then cN _ _ _ _ _ _ else cN _ _ _ _ _ _
   rw [rJ]
   simp only [aO hi,aM,cond_true,ap,Bool.or_true,aH hi,aL hi (by omega)]
   simp only [Option.bind_some,nB]
   unfold cm P2
   simp only [List.any_cons,List.any_nil,Bool.or_false]
   rcases hb with hb | ⟨hb1,hb2⟩
   ·subst hb
    rw [ax (p:=(-1:Int) < 0) (by omega)]
    cases ae c[i].Kind 3 <;> cases bh c[i].Span day <;> cases ae c[i].Share (gD c (-1:Int).toNat (zS .GFact)).Share <;> rfl
   ·rw [aJ (p:=b < 0) (by omega),ax (p:=0≤b) (by omega),ax (p:=b < (c.length:Int)) (by omega)]
    cases ae c[i].Kind 3 <;> cases bh c[i].Span day <;> cases aa ((gD c b.toNat (zS .GFact)).Share < c[i].Share) <;> cases ae c[i].Share (gD c b.toNat (zS .GFact)).Share <;> cases aa (c[i].State < (gD c b.toNat (zS .GFact)).State) <;> rfl
  refine h1.trans ?_
  show cN _ _ _ _ _ _ = _
  rw [rJ,aS,cond_false]
  unfold pH
  rcases h2 with ⟨rfl,e⟩ | ⟨a1,a2,e,_⟩
  ·rw [e,aJ (p:=(0:Int)≤-1) (by omega),cond_false,ha,Option.bind_some,e3]
   cases act.2 <;> rfl
  ·rw [e,ax a1,cond_true,ap,ay a2];rfl
 obtain ⟨b,h1,h2⟩:=Dx p (zS .GPosting) (fun i b=>dI l c p day b i r) (pB day r.PostingLimit) Fp fun i hi b hb=>by
  show dI _ _ _ _ _ _ _ = if _ then dI _ _ _ _ _ _ _ else dI _ _ _ _ _ _ _
  have hf:=hr.2 _ (List.getElem_mem hi)
  rw [tg]
  simp only [aO hi,aM,cond_true,ap,Bool.or_true,aH hi,aL hi (by omega)]
  simp only [Option.bind_some,nB]
  rw [al (n:=day - p[i].Span.From) (by omega) (by omega)]
  have ed:aa (r.PostingLimit≤day - p[i].Span.From) = !(aa (day < p[i].Span.From+r.PostingLimit)):=by
   by_cases h:day < p[i].Span.From+r.PostingLimit
   ·rw [ax h,aJ (p:=r.PostingLimit≤day - p[i].Span.From) (by omega)];rfl
   ·rw [aJ h,ax (p:=r.PostingLimit≤day - p[i].Span.From) (by omega)];rfl
  rw [ed]
  unfold pB Fp
  rcases hb with hb | ⟨hb1,hb2⟩
  ·subst hb
   rw [ax (p:=(-1:Int) < 0) (by omega)]
   cases bh p[i].Span day <;> cases aa (day < p[i].Span.From+r.PostingLimit) <;> cases ae p[i].Span.From (gD p (-1:Int).toNat (zS .GPosting)).Span.From <;> rfl
  ·rw [aJ (p:=b < 0) (by omega),ax (p:=0≤b) (by omega),ax (p:=b < (p.length:Int)) (by omega)]
   cases bh p[i].Span day <;> cases aa (day < p[i].Span.From+r.PostingLimit) <;> cases ae p[i].Span.From (gD p b.toNat (zS .GPosting)).Span.From <;> cases aa (p[i].Seat < (gD p b.toNat (zS .GPosting)).Seat) <;> rfl
 refine h1.trans ?_
 show dI _ _ _ _ _ _ _ = _
 rw [tg,aS,cond_false]
 rw [PB day r.PostingLimit p hs] at h2
 unfold tO sY
 rcases h2 with ⟨rfl,e⟩ | ⟨a1,a2,e,_⟩
 ·rw [aJ (p:=(0:Int)≤-1) (by omega),cond_false,e2]
  cases hf:p.find? (pB day r.PostingLimit) with
  | none=>rfl
  | some q=>rw [hf] at e;cases e
 ·rw [ax a1,cond_true,ap,ay a2]
  cases hf:p.find? (pB day r.PostingLimit) with
  | none=>rw [hf] at e;cases e
  | some q =>
   rw [hf] at e
   have:=congrArg Prod.snd e
   simp only at this
   rw [← this];rfl
theorem Uk {t:List GRules} (h:Kv t):mL t:=by
 obtain ⟨p,h1,h2,rfl | rfl | rfl⟩:=h
 ·refine ⟨by simp [Iv],by simp [Iv],rfl,fun i hi=>?_⟩
  have:i = 0:=by simp [Iv] at hi;omega
  subst this
  exact ⟨by simp [Iv,sV];omega,⟨by simp [Iv],fun k hk=>by
   have:k = 0∨k = 1∨k = 2:=by simp [Iv] at hk;omega
   rcases this with rfl | rfl | rfl <;> simp [Iv]⟩,fun h=>by omega⟩
 ·refine ⟨by simp [wg],by simp [wg],rfl,fun i hi=>?_⟩
  have:i = 0∨i = 1:=by simp [wg] at hi;omega
  rcases this with rfl | rfl
  ·exact ⟨by simp [wg,sV];omega,⟨by simp [wg],fun k hk=>by
    have:k = 0∨k = 1:=by simp [wg] at hk;omega
    rcases this with rfl | rfl <;> simp [wg]⟩,fun h=>by omega⟩
  ·exact ⟨by simp [wg,sV];omega,⟨by simp [wg],fun k hk=>by
    have:k = 0∨k = 1∨k = 2:=by simp [wg] at hk;omega
    rcases this with rfl | rfl | rfl <;> simp [wg]⟩,fun h=>by simp [wg]⟩
 ·refine ⟨by simp [wz],by simp [wz],rfl,fun i hi=>?_⟩
  have:i = 0∨i = 1:=by simp [wz] at hi;omega
  rcases this with rfl | rfl
  ·exact ⟨by simp [wz,sV];omega,⟨by simp [wz],fun k hk=>by
    have:k = 0∨k = 1∨k = 2:=by simp [wz] at hk;omega
    rcases this with rfl | rfl | rfl <;> simp [wz]⟩,fun h=>by omega⟩
  ·exact ⟨by simp [wz,sV];omega,⟨by simp [wz],fun k hk=>by
    have:k = 0∨k = 1:=by simp [wz] at hk;omega
    rcases this with rfl | rfl <;> simp [wz]⟩,fun h=>by simp [wz]⟩
theorem PV (day:Int) (dense:Bool):En (fun _=>True) (tZ day dense):=by
 rw [D5]
 exact En.bif (fun _=>.some trivial) fun _=>En.bif (fun _=>.bind (no _ 110 (by decide) (by decide)) fun _ _=>.some trivial) fun _=>.bind (no _ 30000 (by decide) (by decide)) fun _ _=>.some trivial
end Go.Ax
set_option linter.all false
/- LawResidence. -/
set_option maxRecDepth 100000
namespace Go.Ax
theorem uS (l:List GFact) (k:Int):0≤(cz l k).1∧(cz l k).1≤73048:=by
 unfold cz
 have hv:∀ f∈l.filter av,cq f = true:=et
 generalize l.filter av = c at hv
 have key:∀ (c:List GFact) (a:Int × Bool),(∀ f∈c,cq f = true)→0≤a.1∧a.1≤73048→0≤(c.foldl (fun a f=>Aj k f a) a).1∧(c.foldl (fun a f=>Aj k f a) a).1≤73048:=by
  intro c
  induction c with
  | nil=>intro a _ h;exact h
  | cons f r ih =>
   intro a hv h
   rw [List.foldl_cons]
   refine ih _ (fun g hg=>hv g (by simp [hg])) ?_
   have hs:=((iA f).1 (hv f (by simp))).2.2.2.2.2.2.2.1
   unfold Aj
   split
   ·show 0≤f.Span.From∧f.Span.From≤73048
    omega
   ·exact h
 exact key c (0,false) hv ⟨by simp,by simp⟩
theorem LN {l:List GFact} {day:Int} (h:bh (am l) day = true):0≤day∧day≤73048:=by
 have h1:=uS l 11
 have h2:=uS l 12
 unfold bh at h
 rw [eX,Bool.and_eq_true] at h
 have a:=dJ h.1
 have b:=dJ h.2
 unfold am at a b
 simp only at a b
 have hd:0≤(if (cz l 12).2 = true then (cz l 12).1 else 73048)∧(if (cz l 12).2 = true then (cz l 12).1 else 73048)≤73048:=by split <;> omega
 generalize (if (cz l 12).2 = true then (cz l 12).1 else 73048) = d at a b hd
 split at a
 ·next hc=>rw [if_pos hc] at b;simp only at a b;omega
 ·next hc=>rw [if_neg hc] at b;simp only at a b;rw [al (by omega) (by omega)] at b;omega
end Go.Ax
set_option linter.all false
/- The law by activity, on both sides. -/
set_option maxRecDepth 100000
namespace Go.Ax
theorem DV {a b:List Int} (ha:a.Pairwise (· < ·)) (hb:b.Pairwise (· < ·)) (h:∀ x,x∈a↔x∈b):a = b :=
 List.Perm.eq_of_pairwise (le:=fun x y=>x < y) (fun x y _ _ h1 h2=>by omega) ha hb ((List.perm_ext_iff_of_nodup (ha.imp fun h=>Int.ne_of_lt h) (hb.imp fun h=>Int.ne_of_lt h)).2 h)
theorem Qf {k:List Int} (h:k.Nodup):(bf k).Pairwise (· < ·):=by
 have h1:=iz k
 have h2:(bf k).Nodup:=(dY k).nodup_iff.2 h
 exact (h1.and h2).imp fun ⟨a,b⟩=>by omega
theorem uj:∀ (l:List Int),l.Pairwise (·≤·)→(bP l).Pairwise (· < ·)∧∀ x,x∈bP l↔x∈l
 | [],_=>⟨by simp [bP],by simp [bP]⟩
 | [x],_=>⟨by simp [bP],by simp [bP]⟩
 | x :: y :: r,h=>by
  have h2:=List.pairwise_cons.1 h
  obtain ⟨i1,i2⟩:=uj (y :: r) h2.2
  have e:bP (x :: y :: r) = bif ae x y then bP (y :: r) else x :: bP (y :: r):=rfl
  rw [e]
  cases hc:ae x y with
  | true =>
   have hxy:=ct.1 hc
   rw [cond_true]
   exact ⟨i1,fun z=>by rw [i2 z,hxy];simp⟩
  | false =>
   have hxy:=il.1 hc
   rw [cond_false]
   refine ⟨List.pairwise_cons.2 ⟨fun z hz=>?_,i1⟩,fun z=>by rw [List.mem_cons,List.mem_cons,i2 z]⟩
   have h3:=h2.1 z ((i2 z).1 hz)
   have h4:=h2.1 y (by simp)
   rcases List.mem_cons.1 ((i2 z).1 hz) with rfl | hz'
   ·omega
   ·have:=(List.pairwise_cons.1 h2.2).1 z hz'
    omega
def aU (s:Int):List GFact→Int
 | []=>0
 | f :: r=>(if f.State = s then f.Share else 0)+aU s r
def dW:List GFact→Int
 | []=>0
 | f :: r=>f.Share+dW r
theorem AM (s:Int) (f:GFact):∀ l,aU s (l++[f]) = aU s l+if f.State = s then f.Share else 0
 | []=>by simp [aU]
 | g :: r=>by rw [List.cons_append,aU,aU,AM s f r];omega
theorem Ib (f:GFact):∀ l,dW (l++[f]) = dW l+f.Share
 | []=>by simp [dW]
 | g :: r=>by rw [List.cons_append,dW,dW,Ib f r];omega
def Eu (w:List GFact):Prop:=∀ f∈w,(0≤f.State∧f.State < 6)∧1≤f.Share∧f.Share≤100
theorem ng (s:Int):∀ (w:List GFact),Eu w→0≤aU s w∧aU s w≤100*(w.length:Int)
 | [],_=>by simp [aU]
 | f :: r,h=>by
  have:=ng s r fun g hg=>h g (by simp [hg])
  have hf:=h f (by simp)
  rw [aU,List.length_cons]
  split <;> omega
theorem yg:∀ (w:List GFact),Eu w→0≤dW w∧dW w≤100*(w.length:Int)
 | [],_=>by simp [dW]
 | f :: r,h=>by
  have:=yg r fun g hg=>h g (by simp [hg])
  have hf:=h f (by simp)
  rw [dW,List.length_cons]
  omega
theorem DR (s:Int):∀ (w:List GFact),Eu w→(0 < aU s w↔∃ f∈w,f.State = s)
 | [],_=>by simp [aU]
 | f :: r,h=>by
  have hr:Eu r:=fun g hg=>h g (by simp [hg])
  have i:=DR s r hr
  have n:=(ng s r hr).1
  have hf:=h f (by simp)
  rw [aU]
  by_cases e:f.State = s
  ·rw [if_pos e]
   exact ⟨fun _=>⟨f,by simp,e⟩,fun _=>by omega⟩
  ·rw [if_neg e,show (0:Int)+aU s r = aU s r by omega,i]
   exact ⟨fun ⟨g,hg,e2⟩=>⟨g,by simp [hg],e2⟩,fun ⟨g,hg,e2⟩=>by
    rcases List.mem_cons.1 hg with rfl | hg
    ·exact absurd e2 e
    ·exact ⟨g,hg,e2⟩⟩
def L6:List Int:=[0,1,2,3,4,5]
def sh (w:List GFact):List Int:=L6.map fun s=>aU s w
theorem Eb (w:List GFact) {b:Int} (h0:0≤b) (h6:b < 6):gD (sh w) b.toNat 0 = aU b w:=by
 have:b = 0∨b = 1∨b = 2∨b = 3∨b = 4∨b = 5:=by omega
 rcases this with rfl | rfl | rfl | rfl | rfl | rfl <;> rfl
theorem TF (w:List GFact) (f:GFact) (hw:Eu (w++[f])) (hl:w.length≤40):List.set (sh w) f.State.toNat (ab ((gD (sh w) f.State.toNat 0)+f.Share)) = sh (w++[f]):=by
 have hf:=hw f (by simp)
 have hs:=ng f.State w fun g hg=>hw g (by simp [hg])
 rw [Eb w hf.1.1 hf.1.2,al (by omega) (by omega)]
 obtain ⟨_,_,_,_,_,_,st,_,_,sr,_,_,_⟩:=f
 simp only at hf hs ⊢
 have:st = 0∨st = 1∨st = 2∨st = 3∨st = 4∨st = 5:=by omega
 rcases this with rfl | rfl | rfl | rfl | rfl | rfl <;> simp [sh,L6,AM]
theorem QL:∀ (w:List GFact),Eu w→(L6.map fun s=>aU s w).foldl (fun a x=>a+x) 0 = dW w
 | [],_=>by simp [L6,aU,dW]
 | f :: r,h=>by
  have i:=QL r fun g hg=>h g (by simp [hg])
  have hf:=h f (by simp)
  simp only [L6,List.map_cons,List.map_nil,List.foldl_cons,List.foldl_nil] at i ⊢
  rw [dW, ← i]
  simp only [aU]
  have:f.State = 0∨f.State = 1∨f.State = 2∨f.State = 3∨f.State = 4∨f.State = 5:=by omega
  rcases this with e | e | e | e | e | e <;> rw [e] <;> simp <;> omega
def gB (w:List GFact):List Int:=L6.filter fun s=>aa (0 < aU s w)
theorem NO (w:List GFact) (s:Int):s∈gB w↔(0≤s∧s < 6)∧0 < aU s w:=by
 unfold gB
 rw [List.mem_filter]
 have:s∈L6↔0≤s∧s < 6:=by simp [L6];omega
 rw [this]
 simp [aa]
theorem Ul (w:List GFact):(gB w).Pairwise (· < ·):=List.Pairwise.sublist List.filter_sublist (by decide)
def tN (sm:Int→Int) (b s:Int):Int:=bif aa (b < 0)||aa (sm b < sm s) then s else b
def qF (w:List GFact):Int:=(gB w).foldl (tN fun s=>aU s w) (-1)
def Md (w:List GFact) (e:List Int) (home:Int) (bY:Bool) (sub:Int):Int × Bool :=
 bif ae ((gB w).length:Int) 0 then (0,false) else bif ae ((gB w).length:Int) 1 then (qF w,true) else
 bif bY&&(aa (0 < aU home w)&&aa (sub*dW w≤100*aU home w)) then (home,true) else
 bif ae (e.length:Int) 1 then (gD e 0 0,true) else
 bif bY&&(ae (e.length:Int) 2&&ae (gD e 0 0) home) then (gD e 1 0,true) else
 bif bY&&(ae (e.length:Int) 2&&ae (gD e 1 0) home) then (gD e 0 0,true) else
 bif bY then (home,true) else (qF w,true)
def wu (w1:List GFact) (e:List Int):Prop:=gG e∧(∀ x,x∈e↔∃ f∈w1,f.Seat = x)∧e.length≤w1.length
theorem JD (c:List GFact) (day:Int) (hc:c.length≤40):∃ e,qi c day = some e∧wu (c.filter (cm day [1])) e:=by
 rw [G9]
 have key:∀ (n i:Nat) (out:List Int),c.length = i+n→gG out→out.length≤i→∃ r,eU c day out (i:Int) = some r∧gG r∧(∀ x,x∈r↔x∈out∨∃ f∈(c.drop i).filter (cm day [1]),f.Seat = x)∧r.length≤out.length+((c.drop i).filter (cm day [1])).length:=by
  intro n
  induction n with
  | zero =>
   intro i out hn ha ho
   have:i = c.length:=by omega
   subst this
   refine ⟨out,by rw [qm,aS,cond_false],ha,fun x=>?_,by omega⟩
   rw [List.drop_length];simp
  | succ n ih =>
   intro i out hn ha ho
   have hi:i < c.length:=by omega
   have eo:cm day [1] c[i] = (ae c[i].Kind 1&&bh c[i].Span day):=by unfold cm;simp
   rw [List.drop_eq_getElem_cons hi,List.filter_cons,eo]
   rw [qm]
   simp only [aO hi,aM,cond_true,ap,Bool.or_true,aH hi,aL hi (by omega)]
   rw [nB,Option.bind_some]
   have skip:(ae c[i].Kind 1&&bh c[i].Span day) = false→∃ r,eU c day out ((i+1:Nat):Int) = some r∧gG r∧(∀ x,x∈r↔x∈out∨∃ f∈(c.drop (i+1)).filter (cm day [1]),f.Seat = x)∧r.length≤out.length+((c.drop (i+1)).filter (cm day [1])).length :=
    fun _=>ih (i+1) out (by omega) ha (by omega)
   cases h1:ae c[i].Kind 1 with
   | false=>rw [Bool.false_and,if_neg (by simp),cond_false];exact skip (by rw [h1];rfl)
   | true =>
    cases h2:bh c[i].Span day with
    | false=>rw [Bool.and_false,if_neg (by simp),cond_true,cond_false];exact skip (by rw [h2];simp)
    | true =>
     rw [Bool.and_self,if_pos rfl,cond_true,cond_true]
     obtain ⟨o,e1,e2,e3,e4⟩:=oq out c[i].Seat (by omega) ha
     rw [e1,Option.bind_some]
     obtain ⟨r,r1,r2,r3,r4⟩:=ih (i+1) o (by omega) e2 (by omega)
     refine ⟨r,r1,r2,fun x=>?_,by rw [List.length_cons];omega⟩
     rw [r3 x,e3 x]
     constructor
     ·rintro ((h | h) | ⟨f,hf,h⟩)
      ·exact .inl h
      ·exact .inr ⟨c[i],by simp,h.symm⟩
      ·exact .inr ⟨f,by simp [hf],h⟩
     ·rintro (h | ⟨f,hf,h⟩)
      ·exact .inl (.inl h)
      ·rcases List.mem_cons.1 hf with rfl | hf
       ·exact .inl (.inr h.symm)
       ·exact .inr ⟨f,hf,h⟩
 obtain ⟨r,h1,h2,h3,h4⟩:=key c.length 0 [] (by omega) (by simp [gG]) (by simp)
 exact ⟨r,h1,h2,fun x=>by rw [h3 x];simp,by simpa using h4⟩
theorem Gi (w1:List GFact) (hl:w1.length≤1000000) (e:List Int) (he:wu w1 e):gV w1 = some e:=by
 rw [oP]
 have lp:=QV w1 (fun i out=>bM w1 (w1.length:Int) i out) (fun _=>true) GFact.Seat fun i out hi ho=>by
  show bM _ _ _ _ = bM _ _ _ _
  rw [dN]
  simp only [aO hi,aM,cond_true,ap,Bool.or_true,aH hi,aL hi (by omega)]
  rw [nc];rfl
 refine lp.trans ?_
 show bM _ _ _ _ = _
 rw [List.filter_eq_self.2 fun _ _=>rfl,dN,aS,cond_false,ay (by simpa using hl),ay (by rw [(dY _).length_eq];simpa using hl)]
 congr 1
 obtain ⟨c1,c2⟩:=uj _ (iz (w1.map GFact.Seat))
 refine DV c1 he.1 fun x=>?_
 rw [c2 x,(dY _).mem_iff,he.2.1 x,List.mem_map]
abbrev tI:Ty:=.i .i64
theorem Ft (ks:List Int) (k:Int):(aP tI ks k = ks.length∧k ∉ ks)∨(aP tI ks k < ks.length∧ks[aP tI ks k]? = some k):=rO (q:=.i64) ks k
theorem J1 (k:List Int) (y:Int):eC tI k y = true↔y∈k:=by
 unfold eC
 rw [Nat.blt_eq]
 rcases Ft k y with ⟨h,hn⟩ | ⟨h1,h2⟩
 ·exact ⟨fun h'=>by have h'':aP tI k y < k.length:=h'; have h3:aP tI k y = k.length:=h;omega,fun h'=>absurd h' hn⟩
 ·exact ⟨fun _=>List.mem_of_getElem? h2,fun _=>h1⟩
theorem tx {k v:List Int} {z:Int} (hl:k.length = v.length) (h:z ∉ k):cF tI k v z 0 = 0:=by
 unfold cF
 rcases Ft k z with ⟨h1,_⟩ | ⟨_,h2⟩
 ·have h1':aP tI k z = k.length:=h1
  rw [h1',List.getD_eq_getElem?_getD,List.getElem?_eq_none (by omega)];rfl
 ·exact absurd (List.mem_of_getElem? h2) h
theorem AJ {k v:List Int} (hnd:k.Nodup) {p:Nat} (hp:p < k.length):cF tI k v k[p] 0 = v.getD p 0:=by
 unfold cF
 rcases Ft k k[p] with ⟨_,h1⟩ | ⟨h1,h2⟩
 ·exact absurd (List.getElem_mem hp) h1
 ·have h1':aP tI k k[p] < k.length:=h1
  have h2':k[aP tI k k[p]]? = some k[p]:=h2
  rw [List.getElem?_eq_getElem h1'] at h2'
  have:=(List.getElem_inj hnd).1 (Option.some.inj h2')
  rw [this]
structure Ku (k v:List Int) (w:List GFact):Prop where
  nd:k.Nodup
  len:k.length = v.length
  mem:∀ z,z∈k↔∃ f∈w,f.State = z
  val:∀ z,cF tI k v z 0 = aU z w
  le:k.length≤w.length
theorem Ku.put {k v:List Int} {w:List GFact} (h:Ku k v w) (f:GFact):Ku (dq tI k f.State) (du tI k v f.State (cF tI k v f.State 0+f.Share)) (w++[f]):=by
 have hmem:∀ z,(∃ g∈w++[f],g.State = z)↔(∃ g∈w,g.State = z)∨z = f.State:=by
  intro z
  constructor
  ·rintro ⟨g,hg,e⟩
   rcases List.mem_append.1 hg with hg | hg
   ·exact .inl ⟨g,hg,e⟩
   ·simp at hg;subst hg;exact .inr e.symm
  ·rintro (⟨g,hg,e⟩ | e)
   ·exact ⟨g,by simp [hg],e⟩
   ·exact ⟨f,by simp,e.symm⟩
 generalize hy:f.State = y at hmem
 have hval:∀ z,aU z (w++[f]) = aU z w+if y = z then f.Share else 0:=fun z=>by rw [AM,hy]
 by_cases hin:y∈k
 ·have e1:dq tI k y = k:=by unfold dq;rw [(J1 k y).2 hin];rfl
  obtain ⟨p,hp,hpy⟩:=List.getElem_of_mem hin
  have ef:aP tI k y = p:=by
   rcases Ft k y with ⟨_,h1⟩ | ⟨h1,h2⟩
   ·exact absurd hin h1
   ·have h1':aP tI k y < k.length:=h1
    have h2':k[aP tI k y]? = some y:=h2
    rw [List.getElem?_eq_getElem h1'] at h2'
    exact (List.getElem_inj h.nd).1 ((Option.some.inj h2').trans hpy.symm)
  have e2:∀ a,du tI k v y a = v.set p a:=fun a=>by unfold du;rw [(J1 k y).2 hin,ef];rfl
  rw [e1,e2]
  refine ⟨h.nd,by rw [List.length_set];exact h.len,fun z=>?_,fun z=>?_,by simp;have:=h.le;omega⟩
  ·rw [hmem z,h.mem z]
   exact ⟨.inl,fun h'=>h'.elim id fun e=>by subst e;exact (h.mem z).1 hin⟩
  ·rw [hval z]
   by_cases hz:z∈k
   ·obtain ⟨q,hq,rfl⟩:=List.getElem_of_mem hz
    rw [AJ h.nd hq, ← h.val,AJ h.nd hq,List.getD_eq_getElem?_getD,List.getD_eq_getElem?_getD,List.getElem?_set]
    by_cases hpq:p = q
    ·subst hpq
     rw [if_pos rfl,if_pos (by have:=h.len;omega),if_pos hpy.symm, ← hpy,AJ h.nd hp,List.getD_eq_getElem?_getD];rfl
    ·rw [if_neg hpq,if_neg (fun e=>hpq ((List.getElem_inj h.nd).1 (hpy.trans e)))]
     omega
   ·rw [tx (by rw [List.length_set];exact h.len) hz, ← h.val,tx h.len hz,if_neg (fun (e:y = z)=>hz (e ▸ hin))];rfl
 ·have hno:eC tI k y = false:=by
   cases hb:eC tI k y with
   | false=>rfl
   | true=>exact absurd ((J1 k y).1 hb) hin
  have e1:dq tI k y = k++[y]:=by unfold dq;rw [hno];rfl
  have e2:∀ a,du tI k v y a = v++[a]:=fun a=>by unfold du;rw [hno];rfl
  have hnd:(k++[y]).Nodup:=by
   rw [List.nodup_append]
   exact ⟨h.nd,by simp,fun a ha b hb=>by simp at hb;subst hb;exact fun e=>hin (e ▸ ha)⟩
  rw [e1,e2,tx h.len hin]
  refine ⟨hnd,by simp [h.len],fun z=>?_,fun z=>?_,by simp;exact h.le⟩
  ·rw [hmem z,List.mem_append,h.mem z];simp
  ·rw [hval z, ← h.val]
   by_cases hz:z∈k++[y]
   ·obtain ⟨q,hq,rfl⟩:=List.getElem_of_mem hz
    rw [AJ hnd hq]
    simp only [List.length_append,List.length_singleton] at hq
    have hlen:=h.len
    by_cases hqk:q < k.length
    ·rw [List.getElem_append_left hqk,AJ h.nd hqk,if_neg (fun (e:y = k[q])=>hin (e ▸ List.getElem_mem hqk)),List.getD_eq_getElem?_getD,List.getD_eq_getElem?_getD,List.getElem?_append_left (by omega)]
     omega
    ·have:q = k.length:=by omega
     subst this
     rw [List.getElem_concat_length rfl,if_pos rfl,tx h.len hin,List.getD_eq_getElem?_getD,hlen,List.getElem?_concat_length];rfl
   ·rw [tx (by simp [h.len]) hz]
    have h1:z ∉ k:=fun h'=>hz (by simp [h'])
    have h2:y≠z:=fun h'=>hz (by simp [h'])
    rw [tx h.len h1,if_neg h2];rfl
theorem GL {c:List GFact} (hc:∀ f∈c,cq f = true) (day:Int):Eu (c.filter (cm day [1,2])):=by
 intro f hf
 obtain ⟨h1,h2⟩:=List.mem_filter.1 hf
 have hk:=FX h2
 simp at hk
 have hv:=hc f h1
 refine ⟨AZ hv (by rcases hk with e | e <;> rw [e] <;> decide), ?_⟩
 have hs:=((iA f).1 hv).2.2.2.2.2.2.2.2.1
 have hb:dC f.Kind 72 = true:=by rcases hk with e | e <;> rw [e] <;> decide
 rw [hb] at hs
 unfold bV at hs
 rw [if_pos rfl,mJ] at hs
 omega
theorem zO {T:Type} {l:List T} {i:Nat} (hi:i < l.length):l.take (i+1) = l.take i++[l[i]]:=by rw [List.take_succ,List.getElem?_eq_getElem hi];rfl
theorem Ic (sm:Int→Int):∀ (l:List Int) (b:Int),0≤b→(∀ x∈l,0≤x)→l.foldl (fun b s=>bif aa (sm b < sm s) then s else b) b = l.foldl (tN sm) b
 | [],_,_,_=>rfl
 | x :: r,b,hb,h=>by
  rw [List.foldl_cons,List.foldl_cons]
  have e:tN sm b x = bif aa (sm b < sm x) then x else b:=by unfold tN;rw [aJ (p:=b < 0) (by omega),Bool.false_or]
  rw [e]
  refine Ic sm r _ ?_ fun y hy=>h y (by simp [hy])
  cases aa (sm b < sm x) with
  | true=>exact h x (by simp)
  | false=>exact hb
theorem Bh (x:GCompetence_life) (day sub:Int) (hl:x.facts.length≤40) (hv:∀ f∈x.facts,cq f = true) (hsub:0≤sub∧sub≤100) (e:List Int) (he:wu (x.facts.filter (cm day [1])) e) (home:Int) (bY:Bool)
  (hres:dH x.facts day = some (home,bY)) (hh:bY = true→0≤home∧home < 6) :
  cK x day sub = some (Md (x.facts.filter (cm day [1,2])) e home bY sub):=by
 rw [jI,td _ _ _ (by omega) (by decide),Option.bind_some]
 have hw:=GL hv day
 have hwl:=Nat.le_trans (List.length_filter_le (cm day [1,2]) x.facts) hl
 have hw1:=Nat.le_trans (List.length_filter_le (cm day [1]) x.facts) hl
 have seats_rng:∀ y∈e,0≤y∧y < 6:=by
  intro y hy
  obtain ⟨f,hf,rfl⟩:=(he.2.1 y).1 hy
  obtain ⟨h1,h2⟩:=List.mem_filter.1 hf
  have hk:=FX h2
  simp at hk
  have hs:=((iA f).1 (hv f h1)).2.2.2.2.2.2.1
  have hb:dC f.Kind 84 = true:=by rw [hk];decide
  rw [hb] at hs
  unfold bV at hs
  rw [if_pos rfl,mJ] at hs
  omega
 have hseats:=Gi _ (by omega) e he
 have hon1:=td x day [1] (by omega) (by decide)
 generalize x.facts.filter (cm day [1,2]) = w at hw hwl
 obtain ⟨h1,h2,h3⟩:=kg w (fun i (s:Int × List Int × List Int)=>aV day sub s.1 (w.length:Int) i x s.2.1 s.2.2 w)
  (fun s f=>(ab (s.1+f.Share),dq tI s.2.1 f.State,du tI s.2.1 s.2.2 f.State (ab (cF tI s.2.1 s.2.2 f.State 0+f.Share))))
  (fun i s=>Ku s.2.1 s.2.2 (w.take i)∧s.1 = dW (w.take i)) (fun i s hi hs=>by
   obtain ⟨m,ht⟩:=hs
   have hp:Eu (w.take i):=fun g hg=>hw g (List.mem_of_mem_take hg)
   have r1:=yg _ hp
   have r2:=ng w[i].State _ hp
   have hlt:(w.take i).length≤40:=by rw [List.length_take];omega
   have hf:=hw _ (List.getElem_mem hi)
   refine ⟨?_, ?_, ?_⟩
   ·show aV _ _ _ _ _ _ _ _ _ = aV _ _ _ _ _ _ _ _ _
    rw [co]
    simp only [aO hi,aM,cond_true,ap,Bool.or_true,aH hi,aL hi (by omega)]
   ·rw [zO hi]
    have:=m.put w[i]
    show Ku _ (du tI s.2.1 s.2.2 w[i].State (ab _)) _
    rw [al (n:=cF tI s.2.1 s.2.2 w[i].State 0+w[i].Share) (by rw [m.val];omega) (by rw [m.val];omega)]
    exact this
   ·rw [zO hi,Ib,ht]
    show ab _ = _
    rw [al (by omega) (by omega)]) (0,[],[]) ⟨⟨by simp,rfl,by simp,fun z=>by rw [List.take_zero];exact tx rfl (by simp),by simp⟩,by simp [dW]⟩
 refine Eq.trans h1 ?_
 generalize w.foldl _ _ = s at h2 h3
 obtain ⟨tot,k,v⟩:=s
 rw [List.take_length] at h2 h3
 simp only at h2 h3
 subst h3
 show aV _ _ _ _ _ _ k v _ = _
 have hkin:∀ z∈k,0≤z∧z < 6:=fun z hz=>by
  obtain ⟨f,hf,rfl⟩:=(h2.mem z).1 hz
  exact (hw f hf).1
 have hkl:k.length≤40:=by have:=h2.le;omega
 have hwf:NR k = true:=by
  unfold NR
  rw [List.all_eq_true]
  intro z hz
  have:=hkin z hz
  rw [ax (by omega),ax (by omega)];rfl
 have hst:bf k = gB w:=by
  refine DV (Qf h2.nd) (Ul w) fun z=>?_
  rw [(dY k).mem_iff,h2.mem z,NO,DR z w hw]
  exact ⟨fun ⟨f,hf,e⟩=>⟨e ▸ (hw f hf).1,f,hf,e⟩,fun h=>h.2⟩
 have hhas:eC tI k home = true↔0 < aU home w:=by rw [J1,h2.mem,DR _ w hw]
 rw [co,aS,cond_false,ay hwf,ay (by omega),hst,hres,hon1,Option.bind_some,Option.bind_some,hseats,Option.bind_some]
 have hge:∀ z∈gB w,0≤z:=fun z hz=>((NO w z).1 hz).1.1
 have hsl:(gB w).length≤6:=by
  unfold gB
  exact Nat.le_trans (List.length_filter_le _ _) (by simp [L6])
 have r1:=yg w hw
 have r2:=ng home w hw
 have hg:cF (.i .i64) k v home 0 = aU home w:=h2.val home
 have hmul:0≤sub*dW w∧sub*dW w≤400000:=by
  refine ⟨Int.mul_nonneg hsub.1 r1.1, ?_⟩
  have h5:sub*dW w≤100*dW w:=Int.mul_le_mul_of_nonneg_right hsub.2 r1.1
  omega
 simp only [hg]
 rw [al (n:=sub*dW w) (by omega) (by omega),al (n:=100*aU home w) (by omega) (by omega)]
 have hh':(bif (bif bY then eC (.i .i64) k home else false) then aa (sub*dW w≤100*aU home w) else false) = (bY&&(aa (0 < aU home w)&&aa (sub*dW w≤100*aU home w))):=by
  have:eC (.i .i64) k home = aa (0 < aU home w):=by
   by_cases h:0 < aU home w
   ·rw [ax h];exact hhas.2 h
   ·rw [aJ h]
    cases hb:eC (.i .i64) k home with
    | false=>rfl
    | true=>exact absurd (hhas.1 hb) h
  rw [this]
  cases bY <;> cases aa (0 < aU home w) <;> rfl
 rw [hh']
 have hloop:0 < (gB w).length→aG (gD (gB w) 0 0) ((gB w).length:Int) 0 k v (gB w) = some (qF w,true):=by
  intro h0
  have lp:=(kg (gB w) (fun i b=>aG b ((gB w).length:Int) i k v (gB w)) (fun b s=>bif aa (aU b w < aU s w) then s else b) (fun _ _=>True) (fun i b hi _=>⟨by
   show aG _ _ _ _ _ _ = aG _ _ _ _ _ _
   rw [gz]
   simp only [aO hi,aM,cond_true,ap,Bool.or_true,aH hi,aL hi (by omega)]
   have g1:cF (.i .i64) k v b 0 = aU b w:=h2.val b
   have g2:cF (.i .i64) k v (gB w)[i] 0 = aU (gB w)[i] w:=h2.val _
   rw [g1,g2]
   cases aa (aU b w < aU (gB w)[i] w) <;> rfl,trivial⟩) (gD (gB w) 0 0) trivial).1
  refine lp.trans ?_
  show aG _ _ _ _ _ _ = _
  rw [gz,aS,cond_false]
  unfold qF
  cases hs:gB w with
  | nil=>rw [hs] at h0;simp at h0
  | cons a r =>
   rw [hs] at hge
   have ha:=hge a (by simp)
   show some (List.foldl _ a (a :: r),true) = _
   rw [List.foldl_cons,List.foldl_cons,aJ (p:=aU a w < aU a w) (by omega),cond_false,Ic _ r a ha fun x hx=>hge x (by simp [hx])]
   have:tN (fun s=>aU s w) (-1) a = a:=by unfold tN;rw [ax (p:=(-1:Int) < 0) (by omega)];rfl
   rw [this]
 have hone:(gB w).length = 1→gD (gB w) 0 0 = qF w:=by
  intro h
  unfold qF
  match hs:gB w,h with
  | [a],_ =>
   have:tN (fun s=>aU s w) (-1) a = a:=by unfold tN;rw [ax (p:=(-1:Int) < 0) (by omega)];rfl
   rw [List.foldl_cons,List.foldl_nil,this];rfl
 unfold Md
 cases h0:ae ((gB w).length:Int) 0 with
 | true=>rfl
 | false =>
  have h0':=il.1 h0
  rw [cond_false,cond_false]
  cases h1':ae ((gB w).length:Int) 1 with
  | true =>
   rw [cond_true,cond_true,ay (by omega),hone (by have:=ct.1 h1'; omega)]
  | false =>
   rw [cond_false,cond_false]
   cases hc:(bY&&(aa (0 < aU home w)&&aa (sub*dW w≤100*aU home w))) with
   | true=>rfl
   | false =>
    rw [cond_false,cond_false]
    cases he1:ae (e.length:Int) 1 with
    | true =>
     rw [cond_true,cond_true,ay (by have:=ct.1 he1;omega)]
    | false =>
     rw [cond_false,cond_false,hloop (by omega)]
     have g0:∀ o:Option (Int × Bool),(gb (aa (0 < ((gB w).length:Int))) o) = o:=fun o=>ay (by omega)
     simp only [g0]
     cases bY with
     | false=>rfl
     | true =>
      cases he2:ae (e.length:Int) 2 with
      | false=>rfl
      | true =>
       have hel:e.length = 2:=by have:=ct.1 he2;omega
       rw [cond_true,cond_true,A2 _ _ (by omega),Option.bind_some]
       match e,hel with
       | [a,b],_ =>
        have hab:=seats_rng a (by simp)
        have hbb:=seats_rng b (by simp)
        have hho:=hh rfl
        have es:[a,b].any (fun k=>ae home k) = (ae home a||ae home b):=by simp
        rw [es]
        show (bif _ then (gb _<|gb _<|some (ab (ab (a+b) - home),true)) else some (home,true)) = some (bif (true&&(true&&ae a home)) then (b,true) else bif (true&&(true&&ae b home)) then (a,true) else (home,true))
        rw [ay (by simp),ay (by simp),al (n:=a+b) (by omega) (by omega),al (n:=a+b - home) (by omega) (by omega)]
        by_cases ea:home = a
        ·rw [ct.2 ea,ct.2 ea.symm]
         simp;omega
        ·by_cases eb:home = b
         ·rw [il.2 ea,il.2 (Ne.symm ea),ct.2 eb,ct.2 eb.symm]
          simp;omega
         ·rw [il.2 ea,il.2 (Ne.symm ea),il.2 eb,il.2 (Ne.symm eb)]
          rfl
end Go.Ax
set_option linter.all false
/- The document's law by activity; LawDays. -/
set_option maxRecDepth 100000
namespace Go.Ax
theorem HM (c:List GFact) (hc:c.length≤40) (hv:∀ f∈c,cq f = true) (day:Int):s9 c day = some (sh (c.filter (cm day [1,2]))):=by
 rw [Fb]
 have hw:=GL hv day
 obtain ⟨h1,h2⟩:=kg c (fun i (out:List Int)=>cd c day i [0,0,0,0,0,0] out) (fun out f=>bif cm day [1,2] f then List.set out f.State.toNat (ab ((gD out f.State.toNat 0)+f.Share)) else out)
  (fun i out=>out = sh ((c.take i).filter (cm day [1,2]))) (fun i out hi ho=>by
   have hsub:(c.take (i+1)).filter (cm day [1,2]) = (c.take i).filter (cm day [1,2])++(if cm day [1,2] c[i] = true then [c[i]] else []):=by
    rw [zO hi,List.filter_append]
    congr 1
    by_cases h:cm day [1,2] c[i] = true
    ·rw [List.filter_cons,if_pos h,if_pos h];rfl
    ·rw [List.filter_cons,if_neg h,if_neg h];rfl
   have hap:Eu ((c.take (i+1)).filter (cm day [1,2])):=fun g hg=>hw g (List.mem_filter.2 ⟨List.mem_of_mem_take (List.mem_filter.1 hg).1,(List.mem_filter.1 hg).2⟩)
   have hlp:((c.take i).filter (cm day [1,2])).length≤40:=Nat.le_trans (List.length_filter_le _ _) (by rw [List.length_take];omega)
   have hol:out.length = 6:=by rw [ho];rfl
   have eo:cm day [1,2] c[i] = ((ae c[i].Kind 1||ae c[i].Kind 2)&&bh c[i].Span day):=by unfold cm;simp
   refine ⟨?_, ?_⟩
   ·show cd _ _ _ _ _ = cd _ _ _ _ (bif cm day [1,2] c[i] then _ else _)
    rw [oZ]
    simp only [aO hi,aM,cond_true,ap,Bool.or_true,aH hi,aL hi (by omega)]
    simp only [nB,Option.bind_some,ax hol,ap]
    rw [eo]
    cases hb:cm day [1,2] c[i] with
    | false =>
     rw [eo] at hb
     cases h1:ae c[i].Kind 1 <;> cases h2:ae c[i].Kind 2 <;> cases h3:bh c[i].Span day <;> rw [h1,h2,h3] at hb <;> first | rfl | cases hb
    | true =>
     have hst:=(hw c[i] (List.mem_filter.2 ⟨List.getElem_mem hi,hb⟩)).1
     rw [eo] at hb
     rw [ax hst.1,ax hst.2]
     cases h1:ae c[i].Kind 1 <;> cases h2:ae c[i].Kind 2 <;> cases h3:bh c[i].Span day <;> rw [h1,h2,h3] at hb <;> first | rfl | cases hb
   ·cases hb:cm day [1,2] c[i] with
    | false =>
     rw [cond_false,hsub,if_neg (by rw [hb];simp),List.append_nil]
     exact ho
    | true =>
     rw [hsub,if_pos hb] at hap
     rw [cond_true,hsub,if_pos hb,ho]
     exact TF _ _ hap hlp) [0,0,0,0,0,0] rfl
 refine Eq.trans h1 ?_
 rw [List.take_length] at h2
 rw [h2]
 show cd _ _ _ _ _ = _
 rw [oZ,aS,cond_false]
 rfl
theorem S5 (sm:Int→Int):∀ (l:List Int) (a n b:Int),l.foldl (fun (s:Int × Int × Int) x=>(s.1+sm x,(bif aa (0 < sm x) then s.2.1+1 else s.2.1),(bif aa (0 < sm x) then tN sm s.2.2 x else s.2.2))) (a,n,b) =
  ((l.map sm).foldl (fun a x=>a+x) a,n+((l.filter fun x=>aa (0 < sm x)).length:Int),(l.filter fun x=>aa (0 < sm x)).foldl (tN sm) b)
 | [],a,n,b=>by simp
 | x :: r,a,n,b=>by
  rw [List.foldl_cons,S5 sm r,List.map_cons,List.foldl_cons,List.filter_cons]
  cases aa (0 < sm x) with
  | true=>rw [if_pos rfl,cond_true,cond_true,List.foldl_cons,List.length_cons];simp;omega
  | false=>rw [if_neg (by simp),cond_false,cond_false]
theorem Vs {i:Nat} (hi:i < L6.length):L6[i] = (i:Int):=by
 have:i = 0∨i = 1∨i = 2∨i = 3∨i = 4∨i = 5:=by simp [L6] at hi;omega
 rcases this with rfl | rfl | rfl | rfl | rfl | rfl <;> rfl
theorem NE (l c:List GFact) (hc:c.length≤40) (hv:∀ f∈c,cq f = true) (r:GRules) (hsub:0≤r.Substantial∧r.Substantial≤100) (day:Int) (e:List Int) (he:wu (c.filter (cm day [1])) e) (hes:qi c day = some e)
  (home:Int) (bY:Bool) (hres:fZ l day = some (home,bY)) (hh:bY = true→0≤home∧home < 6) :
  l5 l c r day = some (Md (c.filter (cm day [1,2])) e home bY r.Substantial):=by
 rw [B1,HM c hc hv,Option.bind_some]
 have hw:=GL hv day
 have hwl:=Nat.le_trans (List.length_filter_le (cm day [1,2]) c) hc
 have hw1:=Nat.le_trans (List.length_filter_le (cm day [1]) c) hc
 generalize c.filter (cm day [1,2]) = w at hw hwl
 show bI l c day 0 0 (-1) 0 r (sh w) = _
 have h6:(sh w).length = 6:=rfl
 obtain ⟨h1,h2⟩:=kg L6 (fun i (s:Int × Int × Int)=>bI l c day s.1 s.2.1 s.2.2 i r (sh w))
  (fun s x=>(s.1+aU x w,(bif aa (0 < aU x w) then s.2.1+1 else s.2.1),(bif aa (0 < aU x w) then tN (fun s=>aU s w) s.2.2 x else s.2.2)))
  (fun i s=>(0≤s.1∧s.1≤4000*(i:Int))∧(0≤s.2.1∧s.2.1≤(i:Int))∧(s.2.2 = -1∨(0≤s.2.2∧s.2.2 < 6))) (fun i s hi hs=>by
   obtain ⟨⟨a1,a2⟩,⟨b1,b2⟩,c1⟩:=hs
   have hi6:i < 6:=hi
   rw [Vs hi]
   have hr:=ng (i:Int) w hw
   refine ⟨?_, ?_⟩
   ·show bI _ _ _ _ _ _ _ _ _ = bI _ _ _ _ (bif _ then _ else _) (bif _ then _ else _) _ _ _
    rw [mM,ax (p:=(i:Int) < 6) (by omega),aM,ax h6]
    simp only [cond_true,ap,Bool.or_true]
    rw [Eb w (b:=(i:Int)) (by omega) (by omega),al (n:=s.1+aU (i:Int) w) (by omega) (by omega),al (n:=s.2.1+1) (by omega) (by omega),aL hi6 (by omega)]
    unfold tN
    rcases c1 with c1 | ⟨c1,c2⟩
    ·rw [c1,ax (p:=(-1:Int) < 0) (by omega)]
     cases aa (0 < aU (i:Int) w) <;> rfl
    ·rw [aJ (p:=s.2.2 < 0) (by omega),ax c1,ax c2,Eb w c1 c2]
     cases aa (0 < aU (i:Int) w) <;> cases aa (aU s.2.2 w < aU (i:Int) w) <;> rfl
   ·refine ⟨⟨by show 0≤s.1+_;omega,by show s.1+_≤_;omega⟩, ?_, ?_⟩
    ·show 0≤(bif _ then _ else _)∧(bif _ then _ else _)≤_
     cases aa (0 < aU (i:Int) w)
     ·rw [cond_false];omega
     ·rw [cond_true];omega
    ·show (bif _ then _ else _) = -1∨_
     cases aa (0 < aU (i:Int) w)
     ·exact c1
     ·have hb:∀ x:Int,x = (tN (fun s=>aU s w) s.2.2 (i:Int))→x = -1∨(0≤x∧x < 6):=by
       intro x hx
       rw [hx]
       unfold tN
       cases (aa (s.2.2 < 0)||aa (aU s.2.2 w < aU (i:Int) w))
       ·exact c1
       ·right
        show 0≤(i:Int)∧(i:Int) < 6
        omega
      exact hb _ rfl) (0,0, -1) ⟨by simp,by simp, .inl rfl⟩
 refine Eq.trans h1 ?_
 rw [S5 (fun s=>aU s w)] at h2 ⊢
 have e1:(L6.map fun s=>aU s w).foldl (fun a x=>a+x) 0 = dW w:=QL w hw
 have e2:L6.filter (fun x=>aa (0 < aU x w)) = gB w:=rfl
 have e3:(gB w).foldl (tN fun s=>aU s w) (-1) = qF w:=rfl
 rw [e1,e2,e3] at h2 ⊢
 show bI l c day (dW w) (0+((gB w).length:Int)) (qF w) 6 r (sh w) = _
 rw [Int.zero_add]
 have r1:=yg w hw
 have r2:=ng home w hw
 have hmul:0≤r.Substantial*dW w∧r.Substantial*dW w≤400000:=by
  refine ⟨Int.mul_nonneg hsub.1 r1.1, ?_⟩
  have h5:r.Substantial*dW w≤100*dW w:=Int.mul_le_mul_of_nonneg_right hsub.2 r1.1
  omega
 rw [mM,aJ (p:=(6:Int) < 6) (by omega),cond_false,hres,Option.bind_some,hes,Option.bind_some,al (n:=r.Substantial*dW w) (by omega) (by omega)]
 unfold Md
 cases h0:ae ((gB w).length:Int) 0 with
 | true=>rfl
 | false =>
  rw [cond_false,cond_false]
  cases h1':ae ((gB w).length:Int) 1 with
  | true=>rfl
  | false =>
   rw [cond_false,cond_false,ax h6]
   cases bY with
   | false =>
    simp only [Bool.false_and,cond_false,Bool.not_false,Bool.true_or,ap]
    cases he1:ae (e.length:Int) 1 with
    | true=>rw [cond_true,cond_true,ay (by have:=ct.1 he1;omega)]
    | false=>rfl
   | true =>
    have hho:=hh rfl
    simp only []
    rw [ax hho.1,ax hho.2,Eb w hho.1 hho.2,al (n:=100*aU home w) (by omega) (by omega)]
    simp only [Bool.or_true,ap,cond_true,Bool.true_and]
    cases hc1:aa (0 < aU home w) <;> cases hc2:aa (r.Substantial*dW w≤100*aU home w) <;> first | rfl | skip
    all_goals
     simp only [cond_true,cond_false,Bool.false_and,Bool.and_false]
     cases he1:ae (e.length:Int) 1 with
     | true=>rw [cond_true,cond_true,ay (by have:=ct.1 he1;omega)]
     | false =>
      rw [cond_false,cond_false]
      cases he2:ae (e.length:Int) 2 with
      | false=>rfl
      | true =>
       have hel:e.length = 2:=by have:=ct.1 he2;omega
       rw [ax (p:=0 < (e.length:Int)) (by omega),ax (p:=1 < (e.length:Int)) (by omega)]
       cases ae (gD e 0 0) home <;> cases ae (gD e 1 0) home <;> rfl
theorem Iz {T:Type} (p:T→Bool) (bt:T→T→Bool):∀ (l:List T) (s:Bool × T),(l.foldl (cD p bt) s).1 = true→(s.1 = true∧l.foldl (cD p bt) s = s)∨((l.foldl (cD p bt) s).2∈l∧p (l.foldl (cD p bt) s).2 = true)
 | [],s,h=>.inl ⟨h,rfl⟩
 | f :: l,s,h=>by
  rw [List.foldl_cons] at h ⊢
  rcases Iz p bt l _ h with ⟨h1,h2⟩ | ⟨h1,h2⟩
  ·rw [h2]
   unfold cD at h1 ⊢
   cases hc:(p f&&(!s.1||bt s.2 f)) with
   | true=>rw [cond_true];exact .inr ⟨by simp,(Bool.and_eq_true _ _ ▸ hc).1⟩
   | false=>rw [hc,cond_false] at h1;rw [cond_false];exact .inl ⟨h1,rfl⟩
  ·exact .inr ⟨by simp [h1],h2⟩
theorem GX {c:List GFact} (hv:∀ f∈c,cq f = true) (day:Int):(gv c day).1 = true→0≤(gv c day).2.State∧(gv c day).2.State < 6:=by
 intro h
 unfold gv at h ⊢
 rcases Iz _ _ _ _ h with ⟨h1,_⟩ | ⟨h1,h2⟩
 ·cases h1
 ·refine AZ (hv _ h1) ?_
  generalize (c.foldl (cD (AS day) N2) (false,zS .GFact)).2 = g at h2 ⊢
  unfold AS at h2
  have:=ct.1 (Bool.and_eq_true _ _ ▸ h2).1
  rw [this];decide
theorem LV (n:List Int) (hn:n.length≤9223372036854775807) (limit:Int):En mL (qh n limit):=by
 rw [GF]
 refine .bind (TG n hn) fun y hy=>?_
 have hck:=Uk hy
 refine En.bif (fun _=>?_) fun _=>.some hck
 generalize y.2.1 = t at hck
 have key:∀ (k i:Nat) (t:List GRules),t.length = i+k→mL t→En mL (j7 limit (i:Int) t):=by
  intro k
  induction k with
  | zero =>
   intro i t hk ht
   have:i = t.length:=by omega
   subst this
   rw [oT,aS,cond_false]
   exact .some ht
  | succ k ih =>
   intro i t hk ht
   have hi:i < t.length:=by omega
   have hle:=ht.le
   rw [oT,aO hi,cond_true]
   refine .bind (no _ 50 (by decide) (by decide)) fun q hq=>.bind (no _ 101 (by decide) (by decide)) fun s hs=>?_
   rw [aM,ap,ap,ap]
   generalize hA:(⟨(gD t ((i:Nat):Int).toNat (zS .GRules)).From,(gD t ((i:Nat):Int).toNat (zS .GRules)).MinDays,q,(gD t ((i:Nat):Int).toNat (zS .GRules)).Substantial,(gD t ((i:Nat):Int).toNat (zS .GRules)).Members⟩:GRules) = A
   have hin:((i:Nat):Int).toNat = i:=by omega
   have eA:A = ⟨t[i].From,t[i].MinDays,q,t[i].Substantial,t[i].Members⟩:=by rw [← hA,aH hi]
   rw [hin]
   have gA:gD (List.set t i A) i (zS .GRules) = A:=by
    unfold gD
    rw [List.getD_eq_getElem?_getD,List.getElem?_set,if_pos rfl,if_pos hi];rfl
   rw [gA,List.length_set,List.set_set,aL hi (by omega),ay (by omega)]
   refine ih (i+1) _ (by rw [List.length_set];omega) ?_
   have eB:(⟨A.From,A.MinDays,A.PostingLimit,s,A.Members⟩:GRules) = ⟨t[i].From,t[i].MinDays,q,s,t[i].Members⟩:=by rw [eA]
   rw [eB]
   have hF:∀ (j:Nat) (hj:j < t.length),((t.set i ⟨t[i].From,t[i].MinDays,q,s,t[i].Members⟩)[j]'(by rw [List.length_set];exact hj)).From = t[j].From:=by
    intro j hj
    rw [List.getElem_set]
    split
    ·next h=>subst h;rfl
    ·rfl
   refine ⟨by rw [List.length_set];exact ht.le,by rw [List.length_set];exact ht.ne, ?_,fun j hj=>?_⟩
   ·have h0:=ht.ne
    have e0:gD t 0 (zS .GRules) = t[0]:=aH (i:=0) h0
    have e1:gD (t.set i ⟨t[i].From,t[i].MinDays,q,s,t[i].Members⟩) 0 (zS .GRules) = (t.set i ⟨t[i].From,t[i].MinDays,q,s,t[i].Members⟩)[0]'(by rw [List.length_set];exact h0):=aH (i:=0) (by rw [List.length_set];exact h0)
    rw [e1,hF 0 h0, ← e0,ht.zero]
   ·have hj':j < t.length:=by rw [List.length_set] at hj;exact hj
    obtain ⟨o1,o2,o3⟩:=ht.ok j hj'
    refine ⟨?_, ?_,fun h=>?_⟩
    ·rw [List.getElem_set]
     split
     ·next h =>
      subst h
      exact ⟨o1.1,o1.2.1,o1.2.2.1,o1.2.2.2.1,hq.1,by show q≤73049;omega,hs.1,by show s≤100;omega⟩
     ·exact o1
    ·rw [List.getElem_set]
     split
     ·next h=>subst h;exact o2
     ·exact o2
    ·rw [hF j hj',hF (j - 1) (by omega)]
     exact o3 h
 exact key t.length 0 t (by omega) hck
end Go.Ax
set_option linter.all false
/- Segments of days with the same law: one list alone is in order, joined, and exact. -/
set_option maxRecDepth 100000
namespace Go.Ax
def jY (lo:Int) (lv:Int × Int):List GSegment→Prop
 | []=>True
 | s :: r=>(lo < s.Span.From∨(lo = s.Span.From∧lv≠(s.State,s.Rule)))∧s.Span.From < s.Span.To∧s.Rule≠0∧jY s.Span.To (s.State,s.Rule) r
def pE (lo:Int) (lv:Int × Int):List GSegment→Int × (Int × Int)
 | []=>(lo,lv)
 | s :: r=>pE s.Span.To (s.State,s.Rule) r
def qS (l:List GSegment) (d:Int) (v:Int × Int):Prop:=∃ s∈l,(s.Span.From≤d∧d < s.Span.To)∧(s.State,s.Rule) = v
theorem uH (x:GSegment):∀ (q:List GSegment) (lo:Int) (lv:Int × Int),pE lo lv (q++[x]) = (x.Span.To,(x.State,x.Rule))
 | [],_,_=>rfl
 | s :: r,_,_=>by rw [List.cons_append,pE];exact uH x r _ _
theorem uV (x:GSegment):∀ (q:List GSegment) (lo:Int) (lv:Int × Int),jY lo lv (q++[x])↔jY lo lv q∧((pE lo lv q).1 < x.Span.From∨((pE lo lv q).1 = x.Span.From∧(pE lo lv q).2≠(x.State,x.Rule)))∧x.Span.From < x.Span.To∧x.Rule≠0
 | [],lo,lv=>by simp [jY,pE]
 | s :: r,lo,lv=>by
  rw [List.cons_append,jY,jY,uV x r,pE]
  constructor
  ·rintro ⟨a,b,c,d,e⟩;exact ⟨⟨a,b,c,d⟩,e⟩
  ·rintro ⟨⟨a,b,c,d⟩,e⟩;exact ⟨a,b,c,d,e⟩
theorem sE:∀ (l:List GSegment) (lo:Int) (lv:Int × Int),jY lo lv l→∀ s∈l,lo≤s.Span.From∧s.Span.From < s.Span.To∧s.Rule≠0
 | [],_,_,_,s,hs=>by cases hs
 | x :: r,lo,lv,h,s,hs=>by
  obtain ⟨h1,h2,h3,h4⟩:=h
  rcases List.mem_cons.1 hs with rfl | hs
  ·exact ⟨by omega,h2,h3⟩
  ·have:=sE r _ _ h4 s hs
   exact ⟨by omega,this.2⟩
theorem yw:∀ (l:List GSegment) (lo:Int) (lv:Int × Int),jY lo lv l→lo≤(pE lo lv l).1∧∀ s∈l,s.Span.To≤(pE lo lv l).1
 | [],lo,lv,_=>⟨Int.le_refl _,fun s hs=>by cases hs⟩
 | x :: r,lo,lv,h=>by
  obtain ⟨h1,h2,h3,h4⟩:=h
  obtain ⟨i1,i2⟩:=yw r _ _ h4
  rw [pE]
  refine ⟨by omega,fun s hs=>?_⟩
  rcases List.mem_cons.1 hs with rfl | hs
  ·exact i1
  ·exact i2 s hs
theorem Qc {l:List GSegment} {lo:Int} {lv v:Int × Int} (h:jY lo lv l) (hc:qS l lo v):v≠lv:=by
 obtain ⟨s,hs,⟨h1,h2⟩,rfl⟩:=hc
 cases l with
 | nil=>cases hs
 | cons x r =>
  obtain ⟨a,b,c,d⟩:=h
  rcases List.mem_cons.1 hs with rfl | hs
  ·rcases a with a | ⟨a,e⟩
   ·omega
   ·exact fun h=>e h.symm
  ·have:=sE r _ _ d s hs
   omega
theorem L9:∀ (a b:List GSegment) (lo lo':Int) (lv lv':Int × Int),jY lo lv a→jY lo' lv' b→(∀ d v,qS a d v↔qS b d v)→a = b
 | [],[],_,_,_,_,_,_,_=>rfl
 | [],t :: u,_,_,_,_,_,hb,h=>by
  obtain ⟨s,hs,_⟩:=(h t.Span.From (t.State,t.Rule)).2 ⟨t,by simp,⟨Int.le_refl _,hb.2.1⟩,rfl⟩
  cases hs
 | s :: r,[],_,_,_,_,ha,_,h=>by
  obtain ⟨t,ht,_⟩:=(h s.Span.From (s.State,s.Rule)).1 ⟨s,by simp,⟨Int.le_refl _,ha.2.1⟩,rfl⟩
  cases ht
 | s :: r,t :: u,lo,lo',lv,lv',ha,hb,h=>by
  obtain ⟨a1,a2,a3,a4⟩:=ha
  obtain ⟨b1,b2,b3,b4⟩:=hb
  have la:=sE r _ _ a4
  have lb:=sE u _ _ b4
  have c1:=(h s.Span.From (s.State,s.Rule)).1 ⟨s,by simp,⟨Int.le_refl _,a2⟩,rfl⟩
  have c2:=(h t.Span.From (t.State,t.Rule)).2 ⟨t,by simp,⟨Int.le_refl _,b2⟩,rfl⟩
  have hF:s.Span.From = t.Span.From:=by
   obtain ⟨x,hx,⟨x1,x2⟩,_⟩:=c1
   obtain ⟨y,hy,⟨y1,y2⟩,_⟩:=c2
   have g1:t.Span.From≤s.Span.From:=by
    rcases List.mem_cons.1 hx with rfl | hx
    ·exact x1
    ·have:=lb x hx;omega
   have g2:s.Span.From≤t.Span.From:=by
    rcases List.mem_cons.1 hy with rfl | hy
    ·exact y1
    ·have:=la y hy;omega
   omega
  have hV:(s.State,s.Rule) = (t.State,t.Rule):=by
   obtain ⟨x,hx,⟨x1,x2⟩,x3⟩:=c1
   rcases List.mem_cons.1 hx with rfl | hx
   ·exact x3.symm
   ·have:=lb x hx;omega
  have hT:s.Span.To = t.Span.To:=by
   by_cases h1:s.Span.To < t.Span.To
   ·exfalso
    obtain ⟨x,hx,⟨x1,x2⟩,x3⟩:=(h s.Span.To (t.State,t.Rule)).2 ⟨t,by simp,⟨by omega,h1⟩,rfl⟩
    rcases List.mem_cons.1 hx with rfl | hx
    ·omega
    ·exact Qc a4 ⟨x,hx,⟨x1,x2⟩,x3⟩ hV.symm
   ·by_cases h2:t.Span.To < s.Span.To
    ·exfalso
     obtain ⟨x,hx,⟨x1,x2⟩,x3⟩:=(h t.Span.To (s.State,s.Rule)).1 ⟨s,by simp,⟨by omega,h2⟩,rfl⟩
     rcases List.mem_cons.1 hx with rfl | hx
     ·omega
     ·exact Qc b4 ⟨x,hx,⟨x1,x2⟩,x3⟩ hV
    ·omega
  have hst:s = t:=by
   obtain ⟨⟨f1,f2⟩,f3,f4⟩:=s
   obtain ⟨⟨g1,g2⟩,g3,g4⟩:=t
   simp only at hF hT
   have e3:=congrArg Prod.fst hV
   have e4:=congrArg Prod.snd hV
   simp only at e3 e4
   rw [hF,hT,e3,e4]
  subst hst
  congr 1
  refine L9 r u _ _ _ _ a4 b4 fun d v=>?_
  have key:∀ (p q:List GSegment),(∀ x∈p,s.Span.To≤x.Span.From∧x.Span.From < x.Span.To∧x.Rule≠0)→(qS (s :: p) d v→qS (s :: q) d v)→qS p d v→qS q d v:=by
   intro p q hp hpq ⟨x,hx,⟨x1,x2⟩,x3⟩
   have:=hp x hx
   obtain ⟨y,hy,⟨y1,y2⟩,y3⟩:=hpq ⟨x,by simp [hx],⟨x1,x2⟩,x3⟩
   rcases List.mem_cons.1 hy with rfl | hy
   ·omega
   ·exact ⟨y,hy,⟨y1,y2⟩,y3⟩
  exact ⟨key r u la (h d v).1,key u r lb (h d v).2⟩
def qb (out:List GSegment):GSegment:=gD out (out.length - 1) (zS .GSegment)
def yo (out:List GSegment) (a:Int) (y:Int × Int):Bool:=aa (0 < out.length)&&(ae (qb out).Span.To a&&(ae (qb out).State y.1&&ae (qb out).Rule y.2))
def mn (out:List GSegment) (a b:Int) (y:Int × Int):List GSegment :=
 bif ae y.2 0 then out else bif yo out a y then List.set out (out.length - 1) ⟨⟨(qb out).Span.From,b⟩,(qb out).State,(qb out).Rule⟩ else out++[⟨⟨a,b⟩,y.1,y.2⟩]
theorem DF (out:List GSegment) (a b:Int) (y:Int × Int):(mn out a b y).length≤out.length+1:=by
 unfold mn
 cases ae y.2 0 with
 | true=>simp
 | false=>cases yo out a y <;> simp
structure Pa (F:Int→Int × Int) (out:List GSegment) (a:Int):Prop where
  ok:jY (-1) (0,0) out
  le:(pE (-1) (0,0) out).1≤a
  cov:∀ d v,d < a→(qS out d v↔F d = v∧v.2≠0)
theorem Pa.step {F:Int→Int × Int} {out:List GSegment} {a b:Int} (h:Pa F out a) (hab:a < b) (hF:∀ d,a≤d→d < b→F d = F a) (ha:(F a).2≠0→0≤a):Pa F (mn out a b (F a)) b:=by
 have hhi:=yw out _ _ h.ok
 have hle:=h.le
 unfold mn
 cases h0:ae (F a).2 0 with
 | true =>
  have hz:=ct.1 h0
  rw [cond_true]
  refine ⟨h.ok,by omega,fun d v hd=>?_⟩
  by_cases hda:d < a
  ·exact h.cov d v hda
  ·constructor
   ·rintro ⟨s,hs,⟨h1,h2⟩,_⟩
    have:=hhi.2 s hs;omega
   ·rintro ⟨h1,h2⟩
    rw [hF d (by omega) hd] at h1
    exact absurd (h1 ▸ hz) h2
 | false =>
  have hz:=il.1 h0
  rw [cond_false]
  rcases eI out with rfl | ⟨q,x,rfl⟩
  ·have:yo [] a (F a) = false:=rfl
   rw [this,cond_false,List.nil_append]
   refine ⟨⟨.inl (by show (-1:Int) < a;have:=ha hz;omega),hab,hz,trivial⟩,Int.le_refl _,fun d v hd=>?_⟩
   by_cases hda:d < a
   ·have hc:=h.cov d v hda
    constructor
    ·rintro ⟨s,hs,⟨h1,h2⟩,_⟩
     simp at hs;subst hs
     exact absurd h1 (by show ¬ a≤d;omega)
    ·intro h'
     obtain ⟨s,hs,_⟩:=hc.2 h'
     cases hs
   ·constructor
    ·rintro ⟨s,hs,⟨h1,h2⟩,h3⟩
     simp at hs;subst hs
     have h3:F a = v:=h3
     exact ⟨(hF d (by omega) hd).trans h3,h3 ▸ hz⟩
    ·rintro ⟨h1,h2⟩
     exact ⟨⟨⟨a,b⟩,(F a).1,(F a).2⟩,List.mem_singleton.2 rfl,⟨by show a≤d;omega,hd⟩,(hF d (by omega) hd).symm.trans h1⟩
  ·have hlast:qb (q++[x]) = x:=by
    unfold qb
    rw [show (q++[x]).length - 1 = q.length by simp]
    exact sF q x _
   have hend:pE (-1) (0,0) (q++[x]) = (x.Span.To,(x.State,x.Rule)):=uH x q _ _
   have hok:=(uV x q _ _).1 h.ok
   have hqhi:=yw q _ _ hok.1
   rw [hend] at hle
   have hle:x.Span.To≤a:=hle
   cases hj:yo (q++[x]) a (F a) with
   | true =>
    unfold yo at hj
    rw [hlast,Bool.and_eq_true,Bool.and_eq_true,Bool.and_eq_true] at hj
    have j1:=ct.1 hj.2.1
    have j2:=ct.1 hj.2.2.1
    have j3:=ct.1 hj.2.2.2
    have hval:(x.State,x.Rule) = F a:=by rw [j2,j3]
    rw [cond_true,hlast,show (q++[x]).length - 1 = q.length by simp,pD]
    refine ⟨(uV _ q _ _).2 ⟨hok.1,hok.2.1,by show x.Span.From < b;omega,hok.2.2.2⟩,by rw [uH];exact Int.le_refl _,fun d v hd=>?_⟩
    by_cases hda:d < a
    ·rw [← h.cov d v hda]
     constructor
     ·rintro ⟨s,hs,⟨h1,h2⟩,h3⟩
      rcases List.mem_append.1 hs with hs | hs
      ·exact ⟨s,by simp [hs],⟨h1,h2⟩,h3⟩
      ·simp at hs;subst hs
       exact ⟨x,by simp,⟨h1,by omega⟩,h3⟩
     ·rintro ⟨s,hs,⟨h1,h2⟩,h3⟩
      rcases List.mem_append.1 hs with hs | hs
      ·exact ⟨s,by simp [hs],⟨h1,h2⟩,h3⟩
      ·simp at hs;subst hs
       exact ⟨⟨⟨s.Span.From,b⟩,s.State,s.Rule⟩,by simp,⟨h1,by show d < b;omega⟩,h3⟩
    ·constructor
     ·rintro ⟨s,hs,⟨h1,h2⟩,h3⟩
      rcases List.mem_append.1 hs with hs | hs
      ·have:=hqhi.2 s hs;omega
      ·simp at hs;subst hs
       have h3:(x.State,x.Rule) = v:=h3
       exact ⟨(hF d (by omega) hd).trans (hval.symm.trans h3),by rw [← h3];exact hok.2.2.2⟩
     ·rintro ⟨h1,h2⟩
      exact ⟨⟨⟨x.Span.From,b⟩,x.State,x.Rule⟩,by simp,⟨by show x.Span.From≤d;omega,hd⟩,hval.trans ((hF d (by omega) hd).symm.trans h1)⟩
   | false =>
    rw [cond_false]
    have hne:x.Span.To < a∨(x.Span.To = a∧(x.State,x.Rule)≠F a):=by
     by_cases e:x.Span.To = a
     ·right
      refine ⟨e,fun hv=>?_⟩
      unfold yo at hj
      rw [hlast,ct.2 e, ← hv,kh,kh,ax (by simp)] at hj
      cases hj
     ·left;omega
    refine ⟨(uV _ (q++[x]) _ _).2 ⟨h.ok,by rw [hend];exact hne,hab,hz⟩,by rw [uH];exact Int.le_refl _,fun d v hd=>?_⟩
    by_cases hda:d < a
    ·rw [← h.cov d v hda]
     constructor
     ·rintro ⟨s,hs,⟨h1,h2⟩,h3⟩
      rcases List.mem_append.1 hs with hs | hs
      ·exact ⟨s,hs,⟨h1,h2⟩,h3⟩
      ·simp at hs;subst hs
       exact absurd h1 (by show ¬ a≤d;omega)
     ·rintro ⟨s,hs,h1⟩
      exact ⟨s,List.mem_append_left _ hs,h1⟩
    ·constructor
     ·rintro ⟨s,hs,⟨h1,h2⟩,h3⟩
      rcases List.mem_append.1 hs with hs | hs
      ·have:=hhi.2 s hs
       rw [hend] at this
       have:s.Span.To≤x.Span.To:=this
       omega
      ·simp at hs;subst hs
       have h3:F a = v:=h3
       exact ⟨(hF d (by omega) hd).trans h3,h3 ▸ hz⟩
     ·rintro ⟨h1,h2⟩
      exact ⟨⟨⟨a,b⟩,(F a).1,(F a).2⟩,by simp,⟨by show a≤d;omega,hd⟩,(hF d (by omega) hd).symm.trans h1⟩
def d7 (F:Int→Int × Int):List Int→List GSegment→List GSegment
 | [],out=>out
 | [_],out=>out
 | a :: b :: r,out=>d7 F (b :: r) (mn out a b (F a))
theorem KC {F:Int→Int × Int}:∀ (r:List Int) (a:Int) (out:List GSegment),(a :: r).Pairwise (· < ·)→Pa F out a→(∀ x∈a :: r,(F x).2≠0→0≤x)→(∀ x∈a :: r, ∀ d,x≤d→(∀ y∈a :: r,x < y→d < y)→(∃ y∈a :: r,x < y)→F d = F x)→(∀ d,(∀ x∈a :: r,x≤d)→(F d).2 = 0) →
  jY (-1) (0,0) (d7 F (a :: r) out)∧∀ d v,qS (d7 F (a :: r) out) d v↔F d = v∧v.2≠0
 | [],a,out,hp,hi,_,_,hend=>by
  rw [d7]
  refine ⟨hi.ok,fun d v=>?_⟩
  by_cases hd:d < a
  ·exact hi.cov d v hd
  ·have hz:=hend d (by simp;omega)
   have hhi:=yw out _ _ hi.ok
   have hle:=hi.le
   constructor
   ·rintro ⟨s,hs,⟨h1,h2⟩,_⟩
    have:=hhi.2 s hs;omega
   ·rintro ⟨h1,h2⟩
    exact absurd (h1 ▸ hz) h2
 | b :: r,a,out,hp,hi,h0,hF,hend=>by
  have hp':=List.pairwise_cons.1 hp
  have hab:=hp'.1 b (by simp)
  have hrb:∀ y∈r,b < y:=(List.pairwise_cons.1 hp'.2).1
  rw [d7]
  refine KC r b _ hp'.2 (hi.step hab (fun d h1 h2=>hF a (by simp) d h1 (fun y hy hay=>?_) ⟨b,by simp,hab⟩) (h0 a (by simp))) (fun x hx=>h0 x (by simp [hx])) (fun x hx d h1 h2 h3=>hF x (by simp [hx]) d h1 (fun y hy hxy=>?_) ?_) (fun d hd=>hend d fun x hx=>?_)
  ·rcases List.mem_cons.1 hy with rfl | hy
   ·omega
   ·rcases List.mem_cons.1 hy with rfl | hy
    ·exact h2
    ·have:=hrb y hy;omega
  ·rcases List.mem_cons.1 hy with rfl | hy
   ·have:=hp'.1 x hx;omega
   ·exact h2 y hy hxy
  ·obtain ⟨y,hy,hxy⟩:=h3
   exact ⟨y,by simp [hy],hxy⟩
  ·rcases List.mem_cons.1 hx with rfl | hx
   ·have:=hd b (by simp);omega
   ·exact hd x hx
end Go.Ax
set_option linter.all false
/- The law of all days, on both sides. -/
set_option maxRecDepth 100000
namespace Go.Ax
def wa (c:List GFact) (d:Int):List Int:=bP (bf ((c.filter (cm d [1])).map GFact.Seat))
theorem ue (c:List GFact) (d:Int):wu (c.filter (cm d [1])) (wa c d):=by
 obtain ⟨c1,c2⟩:=uj _ (iz ((c.filter (cm d [1])).map GFact.Seat))
 refine ⟨c1,fun x=>?_, ?_⟩
 ·unfold wa
  rw [c2 x,(dY _).mem_iff,List.mem_map]
 ·unfold wa
  refine Nat.le_trans (uL _) ?_
  rw [(dY _).length_eq,List.length_map];exact Nat.le_refl _
noncomputable def dl (c:List GFact) (life:GSpan) (p:List GPosting) (t:List GRules) (d:Int):Int × Int :=
 bif (bL t d).2&&bh life d then tO c p (bL t d).1.PostingLimit (Md (c.filter (cm d [1,2])) (wa c d) (gv c d).2.State (gv c d).1 (bL t d).1.Substantial) d else (-1,0)
theorem pi {c:List GFact} {life:GSpan} {p:List GPosting} {t:List GRules} {d:Int} (h:bh life d = false):dl c life p t d = (-1,0):=by
 unfold dl
 rw [h,Bool.and_false];rfl
theorem QY (c:List GFact) (p:List GPosting) (lim:Int) (act:Int × Bool) (d:Int):0≤(tO c p lim act d).2∧((tO c p lim act d).2 = 0→tO c p lim act d = (-1,0)):=by
 unfold tO
 cases (sY p d lim).2 <;> cases (pH c d).1 <;> cases act.2 <;> cases aa (0≤lh c d) <;> cases (gv c d).1 <;> simp
theorem Rn (c:List GFact) (life:GSpan) (p:List GPosting) (t:List GRules) (d:Int):0≤(dl c life p t d).2∧((dl c life p t d).2 = 0→dl c life p t d = (-1,0)):=by
 unfold dl
 cases ((bL t d).2&&bh life d) with
 | true=>exact QY _ _ _ _ _
 | false=>exact ⟨Int.le_refl 0,fun _=>rfl⟩
theorem yB {T:Type} {p q:T→Bool}:∀ (l:List T),(∀ x∈l,p x = q x)→l.find? p = l.find? q
 | [],_=>rfl
 | x :: r,h=>by
  rw [List.find?_cons,List.find?_cons,h x (by simp),yB r fun y hy=>h y (by simp [hy])]
theorem yd {T:Type} {p q:T→Bool} (bt:T→T→Bool):∀ (l:List T) (s:Bool × T),(∀ x∈l,p x = q x)→l.foldl (cD p bt) s = l.foldl (cD q bt) s
 | [],_,_=>rfl
 | x :: r,s,h=>by
  have:cD p bt s x = cD q bt s x:=by unfold cD;rw [h x (by simp)]
  rw [List.foldl_cons,List.foldl_cons,this,yd bt r _ fun y hy=>h y (by simp [hy])]
theorem I0 {d d':Int}:∀ (l:List GFact) (b:Int),(∀ x∈l,cm d [7,8] x = cm d' [7,8] x)→l.foldl (rm d) b = l.foldl (rm d') b
 | [],_,_=>rfl
 | x :: r,b,h=>by
  have:rm d b x = rm d' b x:=by unfold rm;rw [h x (by simp)]
  rw [List.foldl_cons,List.foldl_cons,this,I0 r _ fun y hy=>h y (by simp [hy])]
def iY (q:GPosting) (r:GRules):Int:=bif aa (73049 < q.Span.From+r.PostingLimit) then 73049 else q.Span.From+r.PostingLimit
structure RJ (c:List GFact) (life:GSpan) (p:List GPosting) (t:List GRules) (e:List Int):Prop where
  l1:life.From∈e
  l2:life.To∈e
  fa:∀ f∈c,f.Span.From∈e∧f.Span.To∈e
  ru:∀ r∈t,r.From∈e
  po:∀ q∈p,q.Span.From∈e∧q.Span.To∈e
  li:∀ r∈t, ∀ q∈p,iY q r∈e
theorem AU {s:GSpan} {d d':Int} (h1:s.From≤d↔s.From≤d') (h2:s.To≤d↔s.To≤d'):bh s d = bh s d':=by
 have e1:aa (s.From≤d) = aa (s.From≤d'):=decide_eq_decide.2 h1
 have e2:aa (d < s.To) = aa (d' < s.To):=decide_eq_decide.2 (by omega)
 unfold bh
 rw [e1,e2]
theorem OH {l c:List GFact} {p:List GPosting} {t:List GRules} {e:List Int} (h:RJ c (am l) p t e) (d d':Int) (hx:∀ x∈e,(x≤d↔x≤d')):dl c (am l) p t d = dl c (am l) p t d':=by
 have hl:=AU (hx _ h.l1) (hx _ h.l2)
 cases hd:bh (am l) d with
 | false=>rw [pi hd,pi (hl.symm.trans hd)]
 | true =>
  have hd':=hl.symm.trans hd
  have r1:=LN hd
  have r2:=LN hd'
  have hf:∀ f∈c,bh f.Span d = bh f.Span d':=fun f hf=>AU (hx _ (h.fa f hf).1) (hx _ (h.fa f hf).2)
  have ho:∀ ks, ∀ f∈c,cm d ks f = cm d' ks f:=fun ks f hc=>by unfold cm;rw [hf f hc]
  have er:bL t d = bL t d':=by
   unfold bL
   rw [aJ (p:=d < 0) (by omega),aJ (p:=d' < 0) (by omega),aJ (p:=73049≤d) (by omega),aJ (p:=73049≤d') (by omega)]
   rw [yB (p:=fun r:GRules=>aa (r.From≤d)) (q:=fun r:GRules=>aa (r.From≤d')) t.reverse fun r hr=>decide_eq_decide.2 (hx _ (h.ru r (List.mem_reverse.1 hr)))]
  have e1:∀ ks,c.filter (cm d ks) = c.filter (cm d' ks):=fun ks=>List.filter_congr (ho ks)
  have e2:gv c d = gv c d':=yd _ _ _ fun f hc=>by unfold AS;rw [hf f hc]
  have e3:pH c d = pH c d':=yd _ _ _ (ho [3])
  have e4:lh c d = lh c d':=I0 _ _ (ho [7,8])
  unfold dl
  rw [er,hd,hd']
  cases hr:(bL t d').2 with
  | false=>rfl
  | true =>
   obtain ⟨_,hm⟩:=oh hr
   have e5:sY p d (bL t d').1.PostingLimit = sY p d' (bL t d').1.PostingLimit:=by
    unfold sY
    rw [yB (p:=pB d (bL t d').1.PostingLimit) (q:=pB d' (bL t d').1.PostingLimit) p fun q hq=>?_]
    unfold pB
    rw [AU (hx _ (h.po q hq).1) (hx _ (h.po q hq).2)]
    congr 1
    refine decide_eq_decide.2 ?_
    have h6:=hx _ (h.li _ hm q hq)
    unfold iY at h6
    by_cases h7:73049 < q.Span.From+(bL t d').1.PostingLimit
    ·omega
    ·rw [aJ h7,cond_false] at h6;omega
   unfold tO wa
   rw [e1 [1],e1 [1,2],e2,e3,e4,e5]
theorem CG:∀ {l:List GSpan} {lo:Int},cW lo l→∀ s∈l, ∀ u∈l,u = s∨u.To < s.From∨s.To < u.From
 | [],_,_,s,hs,_,_=>by cases hs
 | x :: r,lo,h,s,hs,u,hu=>by
  obtain ⟨h1,h2,h3,h4⟩:=h
  have low:∀ y∈r,x.To < y.From:=fun y hy=>by
   have hy':y.From < y.To:=uE.norm_inR' h4 y hy
   have:=gn h4 (d:=y.From) ⟨y,hy,Int.le_refl _,hy'⟩
   omega
  rcases List.mem_cons.1 hs with hs | hs <;> rcases List.mem_cons.1 hu with hu | hu
  ·left;rw [hs,hu]
  ·right;right;rw [hs];exact low u hu
  ·right;left;rw [hu];exact low s hs
  ·exact CG h4 s hs u hu
theorem Id {c:List GFact} (hv:∀ f∈c,cq f = true) {life:GSpan} {q:GPosting} (h:IG c life q) (e:List Int) (l1:life.From∈e) (l2:life.To∈e) (hf:∀ f∈c,f.Span.From∈e∧f.Span.To∈e):q.Span.From∈e∧q.Span.To∈e:=by
 have hs:q.Span∈ik (bg c ⟨q.Seat,q.State⟩) life:=h
 have hD:∀ g∈bg c ⟨q.Seat,q.State⟩,g.From∈e∧g.To∈e∧0≤g.From∧g.To≤73049:=by
  intro g hg
  obtain ⟨f,hfm,rfl⟩:=List.mem_map.1 hg
  have hfc:=(List.mem_filter.1 hfm).1
  have hsp:=((iA f).1 (hv f hfc)).2.2.2.2.2.2.2.1
  exact ⟨(hf f hfc).1,(hf f hfc).2,hsp.1,hsp.2.2⟩
 generalize bg c ⟨q.Seat,q.State⟩ = D at hs hD
 generalize q.Span = s at hs
 obtain ⟨hn,hc⟩:=pC D life
 have hlt:=uE.norm_inR' hn s hs
 have n1:¬ dO (ik D life) (s.From - 1):=by
  rintro ⟨u,hu,h1,h2⟩
  rcases CG hn s hs u hu with rfl | h3 | h3 <;> omega
 have n2:¬ dO (ik D life) s.To:=by
  rintro ⟨u,hu,h1,h2⟩
  rcases CG hn s hs u hu with rfl | h3 | h3 <;> omega
 rw [hc] at n1 n2
 constructor
 ·obtain ⟨⟨⟨g,hg,g1,g2⟩,a1,a2⟩,b1,b2⟩:=(hc s.From).1 ⟨s,hs,Int.le_refl _,hlt⟩
  have hgd:=hD g hg
  by_cases e1:g.From = s.From
  ·rw [← e1];exact hgd.1
  ·by_cases e2:life.From = s.From
   ·rw [← e2];exact l1
   ·exact absurd ⟨⟨⟨g,hg,by omega,by omega⟩,by omega,by omega⟩,by omega,by omega⟩ n1
 ·obtain ⟨⟨⟨g,hg,g1,g2⟩,a1,a2⟩,b1,b2⟩:=(hc (s.To - 1)).1 ⟨s,hs,by omega,by omega⟩
  have hgd:=hD g hg
  by_cases e1:g.To = s.To
  ·rw [← e1];exact hgd.2.1
  ·by_cases e2:life.To = s.To
   ·rw [← e2];exact l2
   ·exact absurd ⟨⟨⟨g,hg,by omega,by omega⟩,by omega,by omega⟩,by omega,by omega⟩ n2
theorem Ek {l c:List GFact} {p:List GPosting} {t:List GRules} {e:List Int} (h:RJ c (am l) p t e) (ha:gG e) (h0:∀ x∈e,0≤x) :
  jY (-1) (0,0) (d7 (dl c (am l) p t) e [])∧∀ d v,qS (d7 (dl c (am l) p t) e []) d v↔dl c (am l) p t d = v∧v.2≠0:=by
 cases e with
 | nil=>exact absurd h.l1 (by simp)
 | cons a r =>
  have hp:=List.pairwise_cons.1 ha
  have hlow:∀ x∈a :: r,a≤x:=fun x hx=>by
   rcases List.mem_cons.1 hx with rfl | hx
   ·exact Int.le_refl _
   ·have:=hp.1 x hx;omega
  refine KC r a [] ha ⟨trivial,by show (-1:Int)≤a;have:=h0 a (by simp);omega,fun d v hd=>?_⟩ (fun x hx _=>h0 x hx) (fun x hx d h1 h2 _=>?_) (fun d hd=>?_)
  ·have:bh (am l) d = false:=by
    unfold bh
    rw [aJ (p:=(am l).From≤d) (by have:=hlow _ h.l1;omega)];rfl
   rw [pi this]
   constructor
   ·rintro ⟨s,hs,_⟩;cases hs
   ·rintro ⟨h1,h2⟩;exact absurd (by rw [← h1]) h2
  ·exact OH h d x fun y hy=>⟨fun h3=>by
    by_cases h4:x < y
    ·have:=h2 y hy h4;omega
    ·omega,fun h3=>by omega⟩
  ·have:bh (am l) d = false:=by
    unfold bh
    rw [aJ (p:=d < (am l).To) (by have:=hd _ h.l2;omega)]
    cases aa ((am l).From≤d) <;> rfl
   rw [pi this]
theorem Ln {a b:Int} {y:Int × Int} (h:ae y.2 0 = false):mn [] a b y = [⟨⟨a,b⟩,y.1,y.2⟩]:=by
 unfold mn
 rw [h];rfl
theorem Ig {q:List GSegment} {x:GSegment} {a b:Int} {y:Int × Int} (h:ae y.2 0 = false):mn (q++[x]) a b y = bif (bif (bif ae x.Span.To a then ae x.State y.1 else false) then ae x.Rule y.2 else false) then q++[⟨⟨x.Span.From,b⟩,x.State,x.Rule⟩] else (q++[x])++[⟨⟨a,b⟩,y.1,y.2⟩]:=by
 have hlast:qb (q++[x]) = x:=by
  unfold qb
  rw [show (q++[x]).length - 1 = q.length by simp]
  exact sF q x _
 unfold mn yo
 rw [h,cond_false,hlast,show (q++[x]).length - 1 = q.length by simp,pD,ax (p:=0 < (q++[x]).length) (by simp)]
 cases ae x.Span.To a <;> cases ae x.State y.1 <;> cases ae x.Rule y.2 <;> rfl
theorem Eg (F:Int→Int × Int) (e:List Int) (i:Nat) (h:i+1 < e.length) (out:List GSegment):d7 F (e.drop i) out = d7 F (e.drop (i+1)) (mn out e[i] e[i+1] (F e[i])):=by
 rw [List.drop_eq_getElem_cons (by omega:i < e.length),List.drop_eq_getElem_cons h,d7]
theorem H7 (F:Int→Int × Int) (e:List Int) (i:Nat) (h:¬ i+1 < e.length) (out:List GSegment):d7 F (e.drop i) out = out:=by
 by_cases hi:i < e.length
 ·rw [List.drop_eq_getElem_cons hi,List.drop_of_length_le (by omega),d7]
 ·rw [List.drop_of_length_le (by omega),d7]
section
variable (l:List GFact) (hl:l.length≤40) (t:List GRules) (ht:mL t) (p:List GPosting) (hs:Bf p) (hr:rR p)
include hl ht hr
theorem OM (d:Int):dV ⟨l.filter av,am l,p,t⟩ d = some (dl (l.filter av) (am l) p t d):=by
 have hcl:=List.length_filter_le av l
 refine AF l hl t ht p hr d _ fun h1 h2=>?_
 obtain ⟨hd,hm⟩:=oh h1
 have hru:=(ht.mem hm).1
 exact Bh ⟨l.filter av,am l,p,t⟩ d _ (by show (l.filter av).length≤40;omega) et ⟨hru.2.2.2.2.2.2.1,hru.2.2.2.2.2.2.2⟩ _ (ue _ d) _ _ (rt l d (by omega) hd h2) (GX et d)
theorem QU (e:List Int) (he:e.length≤1000000):∀ (n i:Nat) (out:List GSegment),e.length = i+n→out.length≤i →
  dm (i:Int) ⟨l.filter av,am l,p,t⟩ out e = some (d7 (dl (l.filter av) (am l) p t) (e.drop i) out):=by
 intro n
 have stop:∀ (i:Nat) (out:List GSegment),i≤e.length→¬ i+1 < e.length→dm (i:Int) ⟨l.filter av,am l,p,t⟩ out e = some (d7 (dl (l.filter av) (am l) p t) (e.drop i) out):=by
  intro i out hi h
  rw [mN,al (n:=(i:Int)+1) (by omega) (by omega),aJ (by omega),cond_false,H7 _ _ _ h]
 induction n with
 | zero=>intro i out hn ho;exact stop i out (by omega) (by omega)
 | succ n ih =>
  intro i out hn ho
  by_cases h:i+1 < e.length
  ·have hi:i < e.length:=by omega
   rw [Eg _ _ _ h,mN,aL hi (by omega),aO h,cond_true,aM,ap,aO hi,ap,aH hi,aH h,OM l hl t ht p hr,Option.bind_some]
   have hlen:=DF out e[i] e[i+1] (dl (l.filter av) (am l) p t e[i])
   have nx:=ih (i+1) (mn out e[i] e[i+1] (dl (l.filter av) (am l) p t e[i])) (by omega) (by omega)
   rw [← nx]
   generalize dl (l.filter av) (am l) p t e[i] = y
   cases hy:ae y.2 0 with
   | true =>
    rw [cond_true]
    unfold mn
    rw [hy];rfl
   | false =>
    rw [cond_false]
    rcases eI out with rfl | ⟨q,x,rfl⟩
    ·rw [Ln hy,aM]
     simp only [List.length_nil,aJ (p:=(0:Int) < ((0:Nat):Int)) (by omega),Bool.false_and,Bool.not_false,Bool.true_or,ap,cond_false]
     rfl
    ·have hql:q.length≤1000000000:=by simp at ho;omega
     have lix:ab ((((q++[x]).length:Nat):Int) - 1) = ((q.length:Nat):Int):=by
      rw [List.length_append,List.length_singleton,al (by omega) (by omega)];omega
     rw [Ig hy,lix,aM]
     have g1:gD (q++[x]) ((q.length:Nat):Int).toNat (zS .GSegment) = x:=sF q x _
     have g2:List.set (q++[x]) ((q.length:Nat):Int).toNat (⟨⟨x.Span.From,e[i+1]⟩,x.State,x.Rule⟩:GSegment) = q++[⟨⟨x.Span.From,e[i+1]⟩,x.State,x.Rule⟩]:=pD q x _
     have d1:aa ((0:Int) < ((q++[x]).length:Int)) = true:=ax (by rw [List.length_append,List.length_singleton];omega)
     have d2:aa (((q.length:Nat):Int) < ((q++[x]).length:Int)) = true:=ax (by rw [List.length_append,List.length_singleton];omega)
     rw [g1,g2,d1,d2,aM,nc (n:=(q++[x]).length) (by omega) (by omega)]
     cases ae x.Span.To e[i] <;> cases ae x.State y.1 <;> cases ae x.Rule y.2 <;> rfl
  ·exact stop i out (by omega) h
end
end Go.Ax
set_option linter.all false
/- The cuts of both sides; LawSegments. -/
set_option maxRecDepth 100000
namespace Go.Ax
theorem CN {A B:Type} (f:A→List B):∀ (l:List A) (o:List B),l.foldl (fun o x=>o++f x) o = o++l.flatMap f
 | [],o=>by simp
 | x :: r,o=>by rw [List.foldl_cons,CN f r,List.flatMap_cons,List.append_assoc]
section
variable (l:List GFact) (hl:l.length≤40) (t:List GRules) (ht:mL t) (p:List GPosting) (hs:Bf p) (hr:rR p) (hpl:p.length≤1476)
include hl ht hr hpl
theorem Qg:∃ e,gI ⟨l.filter av,am l,p,t⟩ = some e∧gG e∧e.length≤100000 ∧
  ∀ x,x∈e↔x∈[0,73049,(am l).From,(am l).To]∨(∃ f∈l.filter av,x = f.Span.From∨x = f.Span.To)∨(∃ r∈t,x = r.From∨∃ q∈p,x = iY q r):=by
 have hcl:=List.length_filter_le av l
 have hv:∀ f∈l.filter av,cq f = true:=et
 rw [uc]
 show ∃ e,bF (l.filter av) ((l.filter av).length:Int) 0 ⟨l.filter av,am l,p,t⟩ [0,73049,(am l).From,(am l).To] = some e∧_
 generalize l.filter av = c at hcl hv
 have f1:=(kg c (fun i out=>bF c (c.length:Int) i ⟨c,am l,p,t⟩ out) (fun o f=>o++[f.Span.From,f.Span.To]) (fun i o=>o.length = 4+2*i) (fun i o hi ho=>⟨by
  show bF _ _ _ _ _ = bF _ _ _ _ _
  rw [jK]
  simp only [aO hi,aM,cond_true,ap,Bool.or_true,aH hi,aL hi (by omega)]
  rw [ay (by omega),ay (by omega)],by simp;omega⟩) [0,73049,(am l).From,(am l).To] rfl)
 obtain ⟨f1,g1⟩:=f1
 rw [CN] at f1 g1
 rw [f1]
 generalize hA:[0,73049,(am l).From,(am l).To]++c.flatMap (fun f=>[f.Span.From,f.Span.To]) = A at g1
 have f2:=(kg t (fun i out=>bu t (t.length:Int) i ⟨c,am l,p,t⟩ out) (fun o r=>o++(r.From :: p.map fun q=>iY q r)) (fun i o=>o.length≤84+1477*i) (fun i o hi ho=>⟨by
  show bu _ _ _ _ _ = bu _ _ _ _ _
  have hle:=ht.le
  have hru:=(ht.mem (List.getElem_mem hi)).1
  rw [jw]
  simp only [aO hi,aM,cond_true,ap,Bool.or_true,aH hi,aL hi (by omega)]
  rw [ay (by omega),ay (by omega)]
  have f3:=(kg p (fun k out=>bG t (t.length:Int) (i:Int) p (p.length:Int) k ⟨c,am l,p,t⟩ out t[i]) (fun o q=>o++[iY q t[i]]) (fun k o=>o.length≤20000+k) (fun k o hk ho=>⟨by
   show bG _ _ _ _ _ _ _ _ _ = bG _ _ _ _ _ _ _ _ _
   have hq:=hr.2 _ (List.getElem_mem hk)
   rw [iT]
   simp only [aO hk,aM,cond_true,ap,Bool.or_true,aH hk,aL hk (by omega)]
   rw [ay (by omega),ay (by omega),al (n:=p[k].Span.From+t[i].PostingLimit) (by have:=hru.2.2.2.2.1;omega) (by have:=hru.2.2.2.2.2.1;omega)]
   rfl,by simp;omega⟩) (o++[t[i].From]) (by simp;omega)).1
  refine Eq.trans f3 ?_
  show bG _ _ _ _ _ _ _ _ _ = _
  rw [iT,aS,cond_false,aL hi (by omega),AC,List.append_assoc]
  rfl,by simp;omega⟩) A (by omega))
 obtain ⟨f2,g2⟩:=f2
 rw [CN] at f2 g2
 show ∃ e,bF _ _ _ _ A = some e∧_
 rw [jK,aS,cond_false]
 show ∃ e,bu t (t.length:Int) 0 ⟨c,am l,p,t⟩ A = some e∧_
 rw [f2]
 generalize hB:A++t.flatMap (fun r=>r.From :: p.map fun q=>iY q r) = B at g2
 have hle:=ht.le
 show ∃ e,bu _ _ _ _ B = some e∧_
 rw [jw,aS,cond_false,ay (by omega),ay (by rw [(dY _).length_eq];omega)]
 obtain ⟨c1,c2⟩:=uj _ (iz B)
 refine ⟨_,rfl,c1, ?_,fun x=>?_⟩
 ·refine Nat.le_trans (uL _) ?_
  rw [(dY _).length_eq];omega
 ·rw [c2 x,(dY _).mem_iff, ← hB, ← hA,List.mem_append,List.mem_append,List.mem_flatMap,List.mem_flatMap,or_assoc]
  refine or_congr Iff.rfl (or_congr ?_ ?_)
  ·exact ⟨fun ⟨f,hf,h⟩=>⟨f,hf,by simpa using h⟩,fun ⟨f,hf,h⟩=>⟨f,hf,by simpa using h⟩⟩
  ·constructor
   ·rintro ⟨r,hr1,h⟩
    rcases List.mem_cons.1 h with h | h
    ·exact ⟨r,hr1, .inl h⟩
    ·obtain ⟨q,hq,e⟩:=List.mem_map.1 h
     exact ⟨r,hr1, .inr ⟨q,hq,e.symm⟩⟩
   ·rintro ⟨r,hr1,h | ⟨q,hq,h⟩⟩
    ·exact ⟨r,hr1,by rw [h];simp⟩
    ·exact ⟨r,hr1,List.mem_cons.2 (.inr (List.mem_map.2 ⟨q,hq,h.symm⟩))⟩
end
theorem Lo (l:List GFact):0≤(am l).From∧0≤(am l).To:=by
 have h1:=uS l 11
 have h2:=uS l 12
 unfold am
 simp only
 have hd:0≤(if (cz l 12).2 = true then (cz l 12).1 else 73048)∧(if (cz l 12).2 = true then (cz l 12).1 else 73048)≤73048:=by split <;> omega
 generalize (if (cz l 12).2 = true then (cz l 12).1 else 73048) = d at hd
 split
 ·exact ⟨Int.le_refl 0,Int.le_refl 0⟩
 ·show 0≤(cz l 11).1∧0≤ab (d+1)
  rw [al (by omega) (by omega)];omega
theorem Mb {l:List GFact} {f:GFact} (h:f∈l.filter av):0≤f.Span.From∧0≤f.Span.To:=by
 have:=((iA f).1 (et f h)).2.2.2.2.2.2.2.1
 omega
theorem Mt {q:GPosting} {r:GRules} (hq:0≤q.Span.From) (hr:0≤r.PostingLimit):0≤iY q r:=by
 unfold iY
 by_cases h:73049 < q.Span.From+r.PostingLimit
 ·rw [ax h,cond_true];decide
 ·rw [aJ h,cond_false];omega
theorem AG (l:List GFact) (hl:l.length≤40) (t:List GRules) (ht:mL t) (p:List GPosting) (hp1:di l = some p) (hpp:p.Perm ((kF 0 6).flatMap (fQ (l.filter av) (am l)))) (hpl:p.length≤1476) :
  ∃ s,md l t = some s∧jY (-1) (0,0) s∧(∀ d v,qS s d v↔dl (l.filter av) (am l) p t d = v∧v.2≠0)∧s.length≤100000:=by
 have hr:=CM hpp hpl
 obtain ⟨e,e1,e2,e3,e4⟩:=Qg l hl t ht p hr hpl
 have hin:∀ q∈p,IG (l.filter av) (am l) q:=fun q hq=>by
  obtain ⟨r,_,h⟩:=List.mem_flatMap.1 (hpp.mem_iff.1 hq)
  exact wq q h
 have l1:(am l).From∈e:=(e4 _).2 (.inl (by simp))
 have l2:(am l).To∈e:=(e4 _).2 (.inl (by simp))
 have fa:∀ f∈l.filter av,f.Span.From∈e∧f.Span.To∈e:=fun f hf=>⟨(e4 _).2 (.inr (.inl ⟨f,hf, .inl rfl⟩)),(e4 _).2 (.inr (.inl ⟨f,hf, .inr rfl⟩))⟩
 have hcut:RJ (l.filter av) (am l) p t e:=⟨l1,l2,fa,fun r hr1=>(e4 _).2 (.inr (.inr ⟨r,hr1, .inl rfl⟩)),fun q hq=>Id et (hin q hq) e l1 l2 fa,fun r hr1 q hq=>(e4 _).2 (.inr (.inr ⟨r,hr1, .inr ⟨q,hq,rfl⟩⟩))⟩
 have h0:∀ x∈e,0≤x:=by
  intro x hx
  rcases (e4 x).1 hx with h | ⟨f,hf,h⟩ | ⟨r,hr1,h⟩
  ·have:=Lo l
   simp at h
   omega
  ·have:=Mb hf;omega
  ·have hru:=(ht.mem hr1).1
   rcases h with h | ⟨q,hq,h⟩
   ·rw [h];exact hru.1
   ·rw [h];exact Mt (hr.2 q hq).1 hru.2.2.2.2.1
 obtain ⟨s1,s2⟩:=Ek hcut e2 h0
 have hlen:∀ (e:List Int) (F:Int→Int × Int) (out:List GSegment),(d7 F e out).length≤out.length+e.length:=by
  intro e F
  induction e with
  | nil=>intro out;rw [d7];simp
  | cons a r ih =>
   intro out
   cases r with
   | nil=>rw [d7];simp
   | cons b r =>
    rw [d7]
    have:=ih (mn out a b (F a))
    have:=DF out a b (F a)
    simp only [List.length_cons] at *
    omega
 refine ⟨d7 (dl (l.filter av) (am l) p t) e [], ?_,s1,s2,by have:=hlen e (dl (l.filter av) (am l) p t) [];simp at this;omega⟩
 rw [B3,jF,iU l (by omega),Option.bind_some,iK l (by omega),Option.bind_some,hp1,Option.bind_some,ht.check,Option.bind_some,Option.bind_some,kh]
 show (gI ⟨l.filter av,am l,p,t⟩).bind _ = _
 rw [e1,Option.bind_some]
 exact QU l hl t ht p hr e (by omega) e.length 0 [] (by omega) (by simp)
theorem RC (LT:Prop) (e:List Int) (n:Int) (hl:e.length≤900000) (h:LT→gG e):∃ r,cV e n = some r∧(LT→gG r∧∀ x,x∈r↔x∈e∨x = n)∧r.length≤e.length+1:=by
 obtain ⟨r,h1,h2⟩:=UX e n (by omega)
 refine ⟨r,h1,fun hlt=>?_,h2⟩
 obtain ⟨r',g1,g2,g3,_⟩:=oq e n (by omega) (h hlt)
 rw [h1] at g1
 cases g1
 exact ⟨g2,g3⟩
def lQ (LT:Prop) (e S:List Int):Prop:=LT→gG e∧(∀ x∈S,x∈e)∧∀ x∈e,0≤x
theorem lQ.ins {LT:Prop} {e S:List Int} (h:lQ LT e S) (n:Int) (hn:0≤n) (hl:e.length≤900000):∃ r,cV e n = some r∧lQ LT r (S++[n])∧r.length≤e.length+1:=by
 obtain ⟨r,h1,h2,h3⟩:=RC LT e n hl fun hlt=>(h hlt).1
 refine ⟨r,h1,fun hlt=>?_,h3⟩
 obtain ⟨a,b⟩:=h2 hlt
 obtain ⟨_,c,d⟩:=h hlt
 refine ⟨a,fun x hx=>?_,fun x hx=>?_⟩
 ·rw [b]
  rcases List.mem_append.1 hx with hx | hx
  ·exact .inl (c x hx)
  ·simp at hx;exact .inr hx
 ·rcases (b x).1 hx with hx | hx
  ·exact d x hx
  ·omega
section
variable (LT:Prop) (l:List GFact) (t:List GRules) (c:List GFact) (p:List GPosting) (life:GSpan)
variable (hc:c.length≤40) (hcr:∀ f∈c,0≤f.Span.From∧0≤f.Span.To) (ht:mL t) (hpl:p.length≤1476) (hpr:∀ q∈p,(0≤q.Span.From∧q.Span.From≤73049)∧0≤q.Span.To)
include hpl hpr in
theorem TR:∀ (n i:Nat) (e S:List Int),p.length = i+n→lQ LT e S→e.length≤100000+2*i→∃ e',kV l t e (i:Int) c p life = bZ l t e' 0 c p life []∧lQ LT e' (S++(p.drop i).flatMap fun q=>[q.Span.From,q.Span.To])∧e'.length≤e.length+2*n:=by
 intro n
 induction n with
 | zero =>
  intro i e S hn hh he
  have:i = p.length:=by omega
  subst this
  exact ⟨e,by rw [qA,aS,cond_false],by rw [List.drop_length];simpa using hh,by omega⟩
 | succ n ih =>
  intro i e S hn hh he
  have hi:i < p.length:=by omega
  have hq:=hpr _ (List.getElem_mem hi)
  obtain ⟨a,a1,a2,a3⟩:=hh.ins p[i].Span.From hq.1.1 (by omega)
  obtain ⟨b,b1,b2,b3⟩:=a2.ins p[i].Span.To hq.2 (by omega)
  obtain ⟨e',g1,g2,g3⟩:=ih (i+1) b _ (by omega) b2 (by omega)
  refine ⟨e', ?_, ?_,by omega⟩
  ·rw [qA]
   simp only [aO hi,aM,cond_true,ap,Bool.or_true,aH hi,aL hi (by omega)]
   rw [a1,Option.bind_some,b1,Option.bind_some]
   exact g1
  ·rw [List.drop_eq_getElem_cons hi,List.flatMap_cons]
   rw [show S++([p[i].Span.From,p[i].Span.To]++(p.drop (i+1)).flatMap fun q=>[q.Span.From,q.Span.To]) = S++[p[i].Span.From]++[p[i].Span.To]++(p.drop (i+1)).flatMap fun q=>[q.Span.From,q.Span.To] by simp]
   exact g2
include hpl hpr ht in
theorem Rz (j:Nat) (hj:j < t.length):∀ (n i:Nat) (e S:List Int),p.length = i+n→lQ LT e S→e.length≤50000+i→∃ e',jT l t e (j:Int) (i:Int) c p life = jH l t e' ((j+1:Nat):Int) c p life∧lQ LT e' (S++(p.drop i).map fun q=>iY q t[j])∧e'.length≤e.length+n:=by
 intro n
 have hle:=ht.le
 have hru:=(ht.mem (List.getElem_mem hj)).1
 induction n with
 | zero =>
  intro i e S hn hh he
  have:i = p.length:=by omega
  subst this
  exact ⟨e,by rw [oV,aS,cond_false,aL hj (by omega)],by rw [List.drop_length];simpa using hh,by omega⟩
 | succ n ih =>
  intro i e S hn hh he
  have hi:i < p.length:=by omega
  have hq:=hpr _ (List.getElem_mem hi)
  obtain ⟨a,a1,a2,a3⟩:=hh.ins (iY p[i] t[j]) (Mt hq.1.1 hru.2.2.2.2.1) (by omega)
  obtain ⟨e',g1,g2,g3⟩:=ih (i+1) a _ (by omega) a2 (by omega)
  refine ⟨e', ?_, ?_,by omega⟩
  ·rw [oV]
   simp only [aO hi,aM,cond_true,ap,Bool.or_true,aH hi,aL hi (by omega)]
   rw [aO hj,ap,aH hj,al (n:=p[i].Span.From+t[j].PostingLimit) (by have:=hru.2.2.2.2.1;omega) (by have:=hru.2.2.2.2.2.1;omega)]
   show (cV e (iY p[i] t[j])).bind _ = _
   rw [a1,Option.bind_some]
   exact g1
  ·rw [List.drop_eq_getElem_cons hi,List.map_cons]
   rw [show S++(iY p[i] t[j] :: (p.drop (i+1)).map fun q=>iY q t[j]) = S++[iY p[i] t[j]]++(p.drop (i+1)).map fun q=>iY q t[j] by simp]
   exact g2
include hpl hpr ht in
theorem Tu:∀ (n i:Nat) (e S:List Int),t.length = i+n→lQ LT e S→e.length≤1000+1500*i→∃ e',jH l t e (i:Int) c p life = bZ l t e' 0 c p life []∧lQ LT e' (S++((t.drop i).flatMap fun r=>r.From :: p.map fun q=>iY q r)++p.flatMap fun q=>[q.Span.From,q.Span.To])∧e'.length≤e.length+1500*n+2*1476:=by
 intro n
 have hle:=ht.le
 induction n with
 | zero =>
  intro i e S hn hh he
  have:i = t.length:=by omega
  subst this
  obtain ⟨e',g1,g2,g3⟩:=TR LT l t c p life hpl hpr p.length 0 e S (by omega) hh (by omega)
  refine ⟨e',by rw [rL,aS,cond_false];exact g1,by rw [List.drop_length];simpa using g2,by omega⟩
 | succ n ih =>
  intro i e S hn hh he
  have hi:i < t.length:=by omega
  have hru:=(ht.mem (List.getElem_mem hi)).1
  obtain ⟨a,a1,a2,a3⟩:=hh.ins t[i].From hru.1 (by omega)
  obtain ⟨b,b1,b2,b3⟩:=Rz LT l t c p life ht hpl hpr i hi p.length 0 a _ (by omega) a2 (by omega)
  obtain ⟨e',g1,g2,g3⟩:=ih (i+1) b _ (by omega) b2 (by omega)
  refine ⟨e', ?_, ?_,by omega⟩
  ·rw [rL]
   simp only [aO hi,aM,cond_true,ap,Bool.or_true,aH hi,aL hi (by omega)]
   rw [a1,Option.bind_some]
   exact b1.trans g1
  ·rw [List.drop_eq_getElem_cons hi,List.flatMap_cons]
   rw [show S++(t[i].From :: p.map (fun q=>iY q t[i])++(t.drop (i+1)).flatMap fun r=>r.From :: p.map fun q=>iY q r) = S++[t[i].From]++(p.drop 0).map (fun q=>iY q t[i])++(t.drop (i+1)).flatMap fun r=>r.From :: p.map fun q=>iY q r by simp]
   exact g2
include hc hcr hpl hpr ht in
theorem Tq:∀ (n i:Nat) (e S:List Int),c.length = i+n→lQ LT e S→e.length≤2+2*i→∃ e',me l t e (i:Int) c p life = bZ l t e' 0 c p life []∧lQ LT e' (S++((c.drop i).flatMap fun f=>[f.Span.From,f.Span.To])++(t.flatMap fun r=>r.From :: p.map fun q=>iY q r)++p.flatMap fun q=>[q.Span.From,q.Span.To])∧e'.length≤100000:=by
 intro n
 have hle:=ht.le
 induction n with
 | zero =>
  intro i e S hn hh he
  have:i = c.length:=by omega
  subst this
  obtain ⟨e',g1,g2,g3⟩:=Tu LT l t c p life ht hpl hpr t.length 0 e S (by omega) hh (by omega)
  refine ⟨e',by rw [rG,aS,cond_false];exact g1,by rw [List.drop_length];simpa using g2,by omega⟩
 | succ n ih =>
  intro i e S hn hh he
  have hi:i < c.length:=by omega
  have hq:=hcr _ (List.getElem_mem hi)
  obtain ⟨a,a1,a2,a3⟩:=hh.ins c[i].Span.From hq.1 (by omega)
  obtain ⟨b,b1,b2,b3⟩:=a2.ins c[i].Span.To hq.2 (by omega)
  obtain ⟨e',g1,g2,g3⟩:=ih (i+1) b _ (by omega) b2 (by omega)
  refine ⟨e', ?_, ?_,g3⟩
  ·rw [rG]
   simp only [aO hi,aM,cond_true,ap,Bool.or_true,aH hi,aL hi (by omega)]
   rw [a1,Option.bind_some,b1,Option.bind_some]
   exact g1
  ·rw [List.drop_eq_getElem_cons hi,List.flatMap_cons]
   rw [show S++([c[i].Span.From,c[i].Span.To]++(c.drop (i+1)).flatMap fun f=>[f.Span.From,f.Span.To]) = S++[c[i].Span.From]++[c[i].Span.To]++(c.drop (i+1)).flatMap fun f=>[f.Span.From,f.Span.To] by simp]
   exact g2
end
end Go.Ax
set_option linter.all false
/- LawSegments. -/
set_option maxRecDepth 100000
namespace Go.Ax
section
variable (l:List GFact) (hl:l.length≤40) (t:List GRules) (ht:mL t) (p:List GPosting) (hs:Bf p) (hr:rR p)
include hl ht hr hs
theorem Q6 (d:Int) (h1:(bL t d).2 = true) (h2:bh (am l) d = true):uo l (l.filter av) p (bL t d).1 d = some (dl (l.filter av) (am l) p t d):=by
 have hcl:=List.length_filter_le av l
 obtain ⟨hd,hm⟩:=oh h1
 have hru:=(ht.mem hm).1
 have hres:=zf l d (by omega)
 rw [h2,cond_true] at hres
 obtain ⟨e,e1,e2⟩:=JD (l.filter av) d (by omega)
 have he:e = wa (l.filter av) d:=DV e2.1 (ue _ d).1 fun x=>by rw [e2.2.1,(ue _ d).2.1]
 have ha:=NE l (l.filter av) (by omega) et (bL t d).1 ⟨hru.2.2.2.2.2.2.1,hru.2.2.2.2.2.2.2⟩ d e e2 e1 _ _ hres (GX et d)
 rw [MY l (l.filter av) (by omega) et p hs hr _ hru d hd _ ha hres]
 unfold dl
 rw [h1,h2,he];rfl
theorem Sj (e:List Int) (he:e.length≤1000000):∀ (n i:Nat) (out:List GSegment),e.length = i+n→out.length≤i →
  bZ l t e (i:Int) (l.filter av) p (am l) out = some (d7 (dl (l.filter av) (am l) p t) (e.drop i) out):=by
 intro n
 have stop:∀ (i:Nat) (out:List GSegment),i≤e.length→¬ i+1 < e.length→bZ l t e (i:Int) (l.filter av) p (am l) out = some (d7 (dl (l.filter av) (am l) p t) (e.drop i) out):=by
  intro i out hi h
  rw [qw,al (n:=(i:Int)+1) (by omega) (by omega),aJ (by omega),cond_false,H7 _ _ _ h]
 induction n with
 | zero=>intro i out hn ho;exact stop i out (by omega) (by omega)
 | succ n ih =>
  intro i out hn ho
  by_cases h:i+1 < e.length
  ·have hi:i < e.length:=by omega
   rw [Eg _ _ _ h,qw,aL hi (by omega),aO h,cond_true,aM,ap,aO hi,ap,aH hi,aH h,M1 t _ ht.small,Option.bind_some]
   have hlen:=DF out e[i] e[i+1] (dl (l.filter av) (am l) p t e[i])
   have nx:=ih (i+1) (mn out e[i] e[i+1] (dl (l.filter av) (am l) p t e[i])) (by omega) (by omega)
   rw [← nx]
   have skip:dl (l.filter av) (am l) p t e[i] = (-1,0)→mn out e[i] e[i+1] (dl (l.filter av) (am l) p t e[i]) = out:=fun h=>by rw [h];rfl
   simp only [Bool.or_true,ap]
   cases h1:(bL t e[i]).2 with
   | false =>
    rw [skip (by unfold dl;rw [h1];rfl)]
    rfl
   | true =>
    rw [Bool.not_true,cond_false,nB,Option.bind_some]
    cases h2:bh (am l) e[i] with
    | false =>
     rw [skip (pi h2)]
     rfl
    | true =>
     rw [Bool.not_true,cond_false,Q6 l hl t ht p hs hr e[i] h1 h2,Option.bind_some]
     generalize dl (l.filter av) (am l) p t e[i] = y
     cases hy:ae y.2 0 with
     | true =>
      rw [cond_true]
      unfold mn
      rw [hy];rfl
     | false =>
      rw [cond_false]
      rcases eI out with rfl | ⟨q,x,rfl⟩
      ·rw [Ln hy,aM]
       simp only [List.length_nil,aJ (p:=(0:Int) < ((0:Nat):Int)) (by omega),Bool.false_and,Bool.not_false,Bool.true_or,ap,cond_false]
       rfl
      ·have hql:q.length≤1000000000:=by simp at ho;omega
       have lix:ab ((((q++[x]).length:Nat):Int) - 1) = ((q.length:Nat):Int):=by
        rw [List.length_append,List.length_singleton,al (by omega) (by omega)];omega
       rw [Ig hy,lix,aM]
       have g1:gD (q++[x]) ((q.length:Nat):Int).toNat (zS .GSegment) = x:=sF q x _
       have g2:List.set (q++[x]) ((q.length:Nat):Int).toNat (⟨⟨x.Span.From,e[i+1]⟩,x.State,x.Rule⟩:GSegment) = q++[⟨⟨x.Span.From,e[i+1]⟩,x.State,x.Rule⟩]:=pD q x _
       have d1:aa ((0:Int) < ((q++[x]).length:Int)) = true:=ax (by rw [List.length_append,List.length_singleton];omega)
       have d2:aa (((q.length:Nat):Int) < ((q++[x]).length:Int)) = true:=ax (by rw [List.length_append,List.length_singleton];omega)
       rw [g1,g2,d1,d2,aM,nc (n:=(q++[x]).length) (by omega) (by omega)]
       cases ae x.Span.To e[i] <;> cases ae x.State y.1 <;> cases ae x.Rule y.2 <;> rfl
  ·exact stop i out (by omega) h
end
theorem MR (l:List GFact) (hl:l.length≤40) (t:List GRules) (ht:mL t) (p:List GPosting) (hp1:jt l = some p) (hpp:p.Perm ((kF 0 6).flatMap (fQ (l.filter av) (am l)))) (hs:Bf p) (hpl:p.length≤1476) :
  ∃ s,zU l t = some s∧jY (-1) (0,0) s∧∀ d v,qS s d v↔dl (l.filter av) (am l) p t d = v∧v.2≠0:=by
 have hr:=CM hpp hpl
 have hcl:=List.length_filter_le av l
 have hin:∀ q∈p,IG (l.filter av) (am l) q:=fun q hq=>by
  obtain ⟨r,_,h⟩:=List.mem_flatMap.1 (hpp.mem_iff.1 hq)
  exact wq q h
 have hpr:∀ q∈p,(0≤q.Span.From∧q.Span.From≤73049)∧0≤q.Span.To:=fun q hq=>by
  have:=CF (pC _ _).1 (by omega) _ (hin q hq)
  omega
 have hL:=Lo l
 obtain ⟨e,e1,e2,e3⟩:=Tq ((am l).From < (am l).To) l t (l.filter av) p (am l) (by omega) (fun f hf=>Mb hf) ht hpl hpr (l.filter av).length 0 [(am l).From,(am l).To] [(am l).From,(am l).To] (by omega)
  (fun hlt=>⟨by unfold gG;simpa using hlt,fun x hx=>hx,fun x hx=>by simp at hx;omega⟩) (by simp)
 rw [Kd,ht.rcheck,Option.bind_some,sw.2 rfl,cond_false,i8 l (by omega),Option.bind_some,hp1,Option.bind_some,l3 l (by omega),Option.bind_some]
 refine ⟨d7 (dl (l.filter av) (am l) p t) e [],e1.trans (Sj l hl t ht p hs hr e (by omega) e.length 0 [] (by omega) (by simp)), ?_⟩
 by_cases hlt:(am l).From < (am l).To
 ·obtain ⟨a1,a2,a3⟩:=e2 hlt
  rw [List.drop_zero] at a2
  have l1:(am l).From∈e:=a2 _ (by simp)
  have l2:(am l).To∈e:=a2 _ (by simp)
  have fa:∀ f∈l.filter av,f.Span.From∈e∧f.Span.To∈e:=fun f hf =>
   ⟨a2 _ (List.mem_append_left _ (List.mem_append_left _ (List.mem_append_right _ (List.mem_flatMap.2 ⟨f,hf,by simp⟩)))),a2 _ (List.mem_append_left _ (List.mem_append_left _ (List.mem_append_right _ (List.mem_flatMap.2 ⟨f,hf,by simp⟩))))⟩
  refine Ek ⟨l1,l2,fa,fun r hr1=>a2 _ (List.mem_append_left _ (List.mem_append_right _ (List.mem_flatMap.2 ⟨r,hr1,by simp⟩))),fun q hq=>Id et (hin q hq) e l1 l2 fa,fun r hr1 q hq=>a2 _ (List.mem_append_left _ (List.mem_append_right _ (List.mem_flatMap.2 ⟨r,hr1,List.mem_cons.2 (.inr (List.mem_map.2 ⟨q,hq,rfl⟩))⟩)))⟩ a1 a3
 ·have hz:∀ d,dl (l.filter av) (am l) p t d = (-1,0):=fun d=>pi (by
   unfold bh
   rw [eX,Bool.and_eq_false_iff]
   by_cases h:(am l).From≤d
   ·exact .inr (aJ (by omega))
   ·exact .inl (aJ h))
  have hnil:∀ (e:List Int),d7 (dl (l.filter av) (am l) p t) e [] = []:=by
   intro e
   induction e with
   | nil=>rfl
   | cons a r ih =>
    cases r with
    | nil=>rfl
    | cons b r=>rw [d7,hz];exact ih
  rw [hnil]
  refine ⟨trivial,fun d v=>?_⟩
  constructor
  ·rintro ⟨s,hs,_⟩;cases hs
  ·rintro ⟨h1,h2⟩
   exact absurd (by rw [← h1,hz]) h2
theorem Li (a:List GSegment) (ha:a.length≤1000000):lB a a = some true:=by
 rw [wE,sw.2 rfl,cond_false]
 refine (lT a (fun i=>cC a a i) (fun _=>false) none (some true) ?_ fun i hi=>?_).trans (by simp)
 ·show cC _ _ _ = _
  rw [kT,aS];rfl
 ·show cC _ _ _ = if (false:Bool) = true then none else cC a a ((i+1:Nat):Int)
  rw [if_neg (by simp),kT]
  simp only [aO hi,aM,cond_true,ap,Bool.or_true,aH hi,aL hi (by omega)]
  simp only [kh,Bool.and_self,Bool.not_true,cond_false]
theorem EN (l:List GPensionhand_Fact) (n:List Int) (dense:Bool) (limit:Int):rF l n dense limit = some true:=by
 rw [wO]
 by_cases hn:60 < (n.length:Int)
 ·rw [ax hn];rfl
 ·rw [aJ hn,cond_false]
  obtain ⟨a,ha,hal⟩:=Cq l n dense (by omega)
  obtain ⟨t,h2,h3⟩:=LV n (by omega) limit
  obtain ⟨p,p1,p2,p3,p4,p5⟩:=sZ a (by omega)
  obtain ⟨s,s1,s2,s3,s4⟩:=AG a (by omega) t h3 p p2 p3 p5
  obtain ⟨u,u1,u2,u3⟩:=MR a (by omega) t h3 p p1 p3 p4 p5
  have:s = u:=L9 s u _ _ _ _ s2 u2 fun d v=>by rw [s3,u3]
  subst this
  rw [ha,Option.bind_some,h2,Option.bind_some,NI,Option.bind_some,cond_true,s1,Option.bind_some,u1,Option.bind_some,Li s (by omega)]
  rfl
end Go.Ax
set_option linter.all false
/- LawOnce. -/
set_option maxRecDepth 100000
namespace Go.Ax
theorem QO (l:List GFact) (hl:l.length≤40) (t:List GRules) (ht:mL t) (p:List GPosting) (hp1:di l = some p) (hr:rR p) (d:Int):gm l t d = some (dl (l.filter av) (am l) p t d):=by
 have hcl:=List.length_filter_le av l
 refine Nc l hl t ht p hp1 hr d _ fun h1 h2=>?_
 obtain ⟨hd,hm⟩:=oh h1
 have hru:=(ht.mem hm).1
 exact Bh ⟨l.filter av,am l,p,t⟩ d _ (by show (l.filter av).length≤40;omega) et ⟨hru.2.2.2.2.2.2.1,hru.2.2.2.2.2.2.2⟩ _ (ue _ d) _ _ (rt l d (by omega) hd h2) (GX et d)
theorem NL:∀ (l:List GSegment) (lo:Int) (lv:Int × Int),jY lo lv l→∀ (i:Nat) (h:i+1 < l.length),l[i].Span.To < l[i+1].Span.From∨(l[i].Span.To = l[i+1].Span.From∧(l[i].State,l[i].Rule)≠(l[i+1].State,l[i+1].Rule))
 | [],_,_,_,i,h=>by simp at h
 | [x],_,_,_,i,h=>by simp at h
 | x :: y :: r,lo,lv,hn,i,h=>by
  obtain ⟨_,_,_,h4⟩:=hn
  cases i with
  | zero=>exact h4.1
  | succ i=>exact NL (y :: r) _ _ h4 i (by simp at h ⊢; omega)
def lM (d:Int) (s:GSegment):Bool:=bif aa (s.Span.From≤d) then aa (d < s.Span.To) else false
theorem tj {d:Int} {s:GSegment}:lM d s = true↔s.Span.From≤d∧d < s.Span.To:=by
 unfold lM
 rw [eX,Bool.and_eq_true]
 exact ⟨fun h=>⟨dJ h.1,dJ h.2⟩,fun h=>⟨ax h.1,ax h.2⟩⟩
theorem Oi (d:Int):∀ (l:List GSegment) (lo:Int) (lv:Int × Int),jY lo lv l→(l.filter (lM d)).length≤1
 | [],_,_,_=>by simp
 | x :: r,lo,lv,h=>by
  obtain ⟨h1,h2,h3,h4⟩:=h
  rw [List.filter_cons]
  split
  ·next hc =>
   have hx:=tj.1 hc
   have:r.filter (lM d) = []:=by
    rw [List.filter_eq_nil_iff]
    intro s hs h5
    have:=tj.1 h5
    have:=sE r _ _ h4 s hs
    omega
   rw [this];simp
  ·exact Oi d r _ _ h4
theorem P4 (segs:List GSegment) (hlen:segs.length≤1000000) (hn:jY (-1) (0,0) segs) (d s r:Int) (hv:∀ x∈segs,lM d x = true→x.State = s∧x.Rule = r):∀ (n i:Nat) (found:Int),segs.length = i+n→0≤found→found≤(i:Int) →
  dj d s r found (i:Int) segs = some (bif (bif (ae (found+(((segs.drop i).filter (lM d)).length:Int)) 1) then aa (0 < r) else false) then true else (bif (bif (ae (found+(((segs.drop i).filter (lM d)).length:Int)) 0) then (ae r 0) else false) then (ae s (-1)) else false)):=by
 intro n
 induction n with
 | zero =>
  intro i found hi h0 h1
  have:i = segs.length:=by omega
  subst this
  rw [mG,aS,cond_false,NI,Option.bind_some,List.drop_length]
  simp
 | succ n ih =>
  intro i found hin h0 h1
  have hi:i < segs.length:=by omega
  have hl:=sE segs _ _ hn segs[i] (List.getElem_mem hi)
  rw [mG]
  simp only [aO hi,aM,cond_true,ap,Bool.or_true,aH hi,aL hi (by omega)]
  rw [aJ (p:=segs[i].Span.To≤segs[i].Span.From) (by omega),al (n:=found+1) (by omega) (by omega)]
  have tail:∀ o:Option Bool,o = (bif (bif aa (segs[i].Span.From≤d) then aa (d < segs[i].Span.To) else false) then bif (bif (bW segs[i].State s) then true else (bW segs[i].Rule r)) then some false else dj d s r (found+1) ((i+1:Nat):Int) segs else dj d s r found ((i+1:Nat):Int) segs) →
    o = some (bif (bif (ae (found+(((segs.drop i).filter (lM d)).length:Int)) 1) then aa (0 < r) else false) then true else (bif (bif (ae (found+(((segs.drop i).filter (lM d)).length:Int)) 0) then (ae r 0) else false) then (ae s (-1)) else false)):=by
   intro o ho
   rw [ho,List.drop_eq_getElem_cons hi,List.filter_cons]
   show (bif lM d segs[i] then _ else _) = _
   cases hc:lM d segs[i] with
   | true =>
    obtain ⟨e1,e2⟩:=hv _ (List.getElem_mem hi) hc
    rw [cond_true,sw.2 e1,sw.2 e2,cond_false,cond_false,if_pos rfl,ih (i+1) (found+1) (by omega) (by omega) (by omega),List.length_cons]
    rw [show found+1+(((segs.drop (i+1)).filter (lM d)).length:Int) = found+((((segs.drop (i+1)).filter (lM d)).length+1:Nat):Int) by omega]
   | false =>
    rw [cond_false,if_neg (by simp),ih (i+1) found (by omega) (by omega) (by omega)]
  refine tail _ ?_
  by_cases h0':0 < i
  ·have e:ab ((i:Int) - 1) = ((i - 1:Nat):Int):=by rw [al (by omega) (by omega)];omega
   have hi':i - 1 < segs.length:=by omega
   have hadj:=NL segs _ _ hn (i - 1) (by omega)
   have ei:segs[i - 1+1]'(by omega) = segs[i]:=by congr 1;omega
   rw [ei] at hadj
   rw [e,aH (i:=i - 1) hi',aM,aO hi']
   have hcond:(bif aa (segs[i].Span.From < segs[i - 1].Span.To) then true else (bif (bif (ae segs[i - 1].Span.To segs[i].Span.From) then (ae segs[i - 1].State segs[i].State) else false) then (ae segs[i - 1].Rule segs[i].Rule) else false)) = false:=by
    rw [aJ (by omega),cond_false]
    rcases hadj with h | ⟨h2,h3⟩
    ·rw [il.2 (by omega)];rfl
    ·cases ha:ae segs[i - 1].State segs[i].State with
     | false=>cases ae segs[i - 1].Span.To segs[i].Span.From <;> rfl
     | true =>
      cases hb:ae segs[i - 1].Rule segs[i].Rule with
      | false=>cases ae segs[i - 1].Span.To segs[i].Span.From <;> rfl
      | true=>exact absurd (by rw [ct.1 ha,ct.1 hb]) h3
   simp only [Bool.or_true,ap]
   rw [hcond]
   cases aa (0 < (i:Int)) <;> rfl
  ·have:i = 0:=by omega
   subst this
   rw [aJ (p:=(0:Int) < ((0:Nat):Int)) (by omega)]
   simp only [Bool.false_and,Bool.and_false,Bool.not_false,Bool.true_or,ap,cond_false]
theorem MQ (l:List GPensionhand_Fact) (n:List Int) (dense:Bool) (limit day:Int):yR l n dense limit day = some true:=by
 rw [C5]
 by_cases hn:60 < (n.length:Int)
 ·rw [ax hn];rfl
 ·rw [aJ hn,cond_false]
  obtain ⟨a,ha,hal⟩:=Cq l n dense (by omega)
  obtain ⟨t,h2,h3⟩:=LV n (by omega) limit
  obtain ⟨d,h4,_⟩:=PV day dense
  obtain ⟨p,p1,p2,p3,p4,p5⟩:=sZ a (by omega)
  obtain ⟨g,s1,s2,s3,s4⟩:=AG a (by omega) t h3 p p2 p3 p5
  rw [ha,Option.bind_some,h2,Option.bind_some,h4,Option.bind_some,s1,Option.bind_some,QO a (by omega) t h3 p p2 (CM p3 p5) d,Option.bind_some]
  have s3:=s3 d
  have hrl:=Rn (a.filter av) (am a) p t d
  generalize dl (a.filter av) (am a) p t d = y at s3 hrl
  have hv:∀ x∈g,lM d x = true→x.State = y.1∧x.Rule = y.2:=by
   intro x hx hc
   have:=((s3 (x.State,x.Rule)).1 ⟨x,hx,tj.1 hc,rfl⟩).1
   rw [this];exact ⟨rfl,rfl⟩
  refine (P4 g (by omega) s2 d y.1 y.2 hv g.length 0 0 (by omega) (Int.le_refl _) (Int.le_refl _)).trans ?_
  rw [List.drop_zero]
  have hone:=Oi d g _ _ s2
  by_cases hz:y.2 = 0
  ·have hnone:g.filter (lM d) = []:=by
    rw [List.filter_eq_nil_iff]
    intro x hx hc
    obtain ⟨e1,e2⟩:=(s3 (x.State,x.Rule)).1 ⟨x,hx,tj.1 hc,rfl⟩
    rw [e1] at hz
    exact e2 hz
   have hy:=hrl.2 hz
   rw [hnone,hy];rfl
  ·obtain ⟨x,hx,hxc,_⟩:=(s3 y).2 ⟨rfl,hz⟩
   have hpos:0 < (g.filter (lM d)).length:=List.length_pos_of_mem (List.mem_filter.2 ⟨hx,tj.2 hxc⟩)
   have:(g.filter (lM d)).length = 1:=by omega
   rw [this,ax (p:=0 < y.2) (by have:=hrl.1;omega)];rfl
end Go.Ax
