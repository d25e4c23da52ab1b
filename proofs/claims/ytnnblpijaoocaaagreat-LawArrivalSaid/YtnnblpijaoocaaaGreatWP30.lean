import Derived.Test.YtnnblpijaoocaaaGreatWP13
import Derived.Test.YtnnblpijaoocaaaGreatWP15
import Derived.Test.YtnnblpijaoocaaaGreatWP12
import Derived.Test.YtnnblpijaoocaaaGreatWP5
set_option linter.all false
/- Made versions and the document's law end. -/
set_option maxRecDepth 100000
namespace Go.Ax
theorem nO (n k:Int) (h:0 < k) (h':k≤1000000000):En (fun y=>0≤y∧y < k) (gQ n k):=by
 rw [F4 n k (by omega),if_neg (by omega)]
 exact .some ⟨Int.emod_nonneg _ (by omega),Int.emod_lt_of_pos _ h⟩
end Go.Ax
set_option linter.all false
/- Postings: the map by routes;whatever the order of the walk, the sorted list is the same. -/
set_option maxRecDepth 100000
namespace Go.Ax
abbrev Rt:=GCompetence_route
theorem Ps (x k:Rt):sx kR x k = true↔x = k:=by
 have e:sx kR x k = (af x.seat k.seat&&af x.state k.state):=(v6 (s:=.GCompetence_route) rfl x k).trans rfl
 rw [e,Bool.and_eq_true]
 obtain ⟨a,b⟩:=x
 obtain ⟨c,d⟩:=k
 simp [af]
theorem Bg:∀ (ks:List Rt) (k:Rt),(aD kR ks k = ks.length∧k ∉ ks)∨(aD kR ks k < ks.length∧ks[aD kR ks k]? = some k)
 | [],k=>.inl ⟨rfl,by simp⟩
 | x :: r,k=>by
  have e:aD kR (x :: r) k = bif sx kR x k then 0 else aD kR r k+1:=rfl
  cases h:sx kR x k with
  | true =>
   rw [h,cond_true] at e
   have:=(Ps x k).1 h
   subst this
   exact .inr ⟨by rw [e];simp,by rw [e];rfl⟩
  | false =>
   rw [h,cond_false] at e
   have hne:x≠k:=fun h'=>by rw [(Ps x k).2 h'] at h;cases h
   rw [e]
   rcases Bg r k with ⟨h1,h2⟩ | ⟨h1,h2⟩
   ·exact .inl ⟨by rw [h1];rfl,fun hm=>by rcases List.mem_cons.1 hm with h' | h'; exact hne h'.symm;exact h2 h'⟩
   ·exact .inr ⟨by simp;omega,by rw [List.getElem?_cons_succ];exact h2⟩
theorem Ka (ks:List Rt) (r:Rt):dJ kR ks r = true↔r∈ks:=by
 unfold dJ
 rw [Nat.blt_eq]
 rcases Bg ks r with ⟨h,hn⟩ | ⟨h1,h2⟩
 ·exact ⟨fun h'=>by have h'':aD kR ks r < ks.length:=h'; have h3:aD kR ks r = ks.length:=h;omega,fun h'=>absurd h' hn⟩
 ·exact ⟨fun _=>List.mem_of_getElem? h2,fun _=>h1⟩
def BE (r:Rt) (f:GFact):Bool:=af f.Kind 4&&(af f.Seat r.seat&&af f.State r.state)
def aW (c:List GFact) (r:Rt):List GSpan:=(c.filter (BE r)).map GFact.Span
theorem zd (r:Rt) (f:GFact):BE r f = true↔f.Kind = 4∧xc f = r:=by
 unfold BE xc
 obtain ⟨a,b⟩:=r
 simp [af]
theorem uW (c:List GFact) (f:GFact) (r:Rt):aW (c++[f]) r = aW c r++if BE r f = true then [f.Span] else []:=by
 unfold aW
 rw [List.filter_append,List.map_append]
 congr 1
 by_cases h:BE r f = true
 ·rw [if_pos h,List.filter_cons,if_pos h];rfl
 ·rw [if_neg h,List.filter_cons,if_neg h];rfl
theorem Ft (c:List GFact) (r:Rt):(aW c r).length≤c.length:=by
 unfold aW
 rw [List.length_map]
 exact List.length_filter_le _ _
structure yd (c:List GFact) (s:List Rt × List (List GSpan)):Prop where
  len:s.1.length = s.2.length
  nd:s.1.Nodup
  val:∀ (p:Nat) (h:p < s.1.length),gD s.2 p [] = aW c s.1[p]
  mem:∀ r,r∈s.1↔aW c r≠[]
  le:s.1.length≤c.length
theorem Mr {c:List GFact} {s:List Rt × List (List GSpan)} (h:yd c s) (f:GFact):yd (c++[f]) (il s f):=by
 obtain ⟨ks,vs⟩:=s
 obtain ⟨hlen,hnd,hval,hmem,hle⟩:=h
 simp only at hlen hnd hval hmem hle
 unfold il
 cases hk:af f.Kind 4 with
 | false =>
  have e:∀ r,aW (c++[f]) r = aW c r:=by
   intro r
   have:BE r f = false:=by unfold BE;rw [hk];rfl
   rw [uW,this];simp
  rw [cond_false]
  exact ⟨hlen,hnd,fun p hp=>by rw [e];exact hval p hp,fun r=>by rw [e];exact hmem r,by simp;omega⟩
 | true =>
  rw [cond_true]
  have hk4:f.Kind = 4:=by simpa [af] using hk
  generalize hr:xc f = r0
  have eT:aW (c++[f]) r0 = aW c r0++[f.Span]:=by rw [uW,if_pos ((zd _ _).2 ⟨hk4,hr⟩)]
  have eF:∀ r,r≠r0→aW (c++[f]) r = aW c r:=by
   intro r hne
   rw [uW,if_neg (fun h=>hne (((zd _ _).1 h).2.symm.trans hr)),List.append_nil]
  rcases Bg ks r0 with ⟨h1,h2⟩ | ⟨h1,h2⟩
  ·have hno:dJ kR ks r0 = false:=by
    cases hb:dJ kR ks r0 with
    | false=>rfl
    | true=>exact absurd ((Ka ks r0).1 hb) h2
   have hg:cd kR ks vs r0 ([]:List GSpan) = []:=by
    unfold cd
    rw [h1,List.getD_eq_getElem?_getD,List.getElem?_eq_none (by omega)];rfl
   have e0:aW c r0 = []:=by
    cases hd:aW c r0 with
    | nil=>rfl
    | cons a b=>exact absurd ((hmem r0).2 (by rw [hd];simp)) h2
   have e1:cO kR ks r0 = ks++[r0]:=by unfold cO;rw [hno];rfl
   have e2:cQ kR ks vs r0 (cd kR ks vs r0 []++[f.Span]) = vs++[[f.Span]]:=by unfold cQ;rw [hno,hg];rfl
   rw [e1,e2]
   refine ⟨by simp;omega, ?_, ?_, ?_,by simp;omega⟩
   ·show (ks++[r0]).Nodup
    rw [List.nodup_append]
    exact ⟨hnd,by simp,fun a ha b hb=>by simp at hb;subst hb;exact fun h=>h2 (h ▸ ha)⟩
   ·intro p hp
    simp only [List.length_append,List.length_cons,List.length_nil] at hp
    by_cases hpn:p < ks.length
    ·have g:gD (vs++[[f.Span]]) p [] = gD vs p []:=by
      unfold gD
      rw [List.getD_eq_getElem?_getD,List.getD_eq_getElem?_getD,List.getElem?_append_left (by omega)]
     show gD (vs++[[f.Span]]) p [] = aW (c++[f]) (ks++[r0])[p]
     rw [g,hval p hpn,List.getElem_append_left hpn,eF]
     intro he
     exact h2 (he ▸ List.getElem_mem hpn)
    ·have:p = ks.length:=by omega
     subst this
     show gD (vs++[[f.Span]]) ks.length [] = aW (c++[f]) (ks++[r0])[ks.length]
     have g:gD (vs++[[f.Span]]) ks.length [] = [f.Span]:=by
      unfold gD
      rw [List.getD_eq_getElem?_getD,hlen,List.getElem?_concat_length];rfl
     rw [g,List.getElem_concat_length rfl,eT,e0];rfl
   ·intro r
    show r∈ks++[r0]↔_
    rw [List.mem_append,List.mem_singleton]
    by_cases hrr:r = r0
    ·subst hrr
     exact ⟨fun _=>by rw [eT];simp,fun _=>.inr rfl⟩
    ·rw [eF r hrr, ← hmem r]
     exact ⟨fun h=>h.resolve_right hrr, .inl⟩
  ·have hyes:dJ kR ks r0 = true:=(Ka ks r0).2 (List.mem_of_getElem? h2)
   have e1:cO kR ks r0 = ks:=by unfold cO;rw [hyes];rfl
   generalize hj:aD kR ks r0 = j at h1 h2
   have h3:ks[j] = r0:=by rw [List.getElem?_eq_getElem h1] at h2;exact Option.some.inj h2
   have hg:cd kR ks vs r0 ([]:List GSpan) = aW c r0:=by
    rw [← h3, ← hval j h1]
    unfold cd gD
    rw [h3,hj]
   have e2:cQ kR ks vs r0 (cd kR ks vs r0 []++[f.Span]) = vs.set j (aW c r0++[f.Span]):=by unfold cQ;rw [hyes,hg,hj];rfl
   rw [e1,e2]
   refine ⟨by simp;omega,hnd, ?_, ?_,by simp;omega⟩
   ·intro p hp
    show gD (vs.set j (aW c r0++[f.Span])) p [] = aW (c++[f]) ks[p]
    have hp:p < ks.length:=hp
    by_cases hpj:p = j
    ·subst hpj
     rw [h3,eT]
     unfold gD
     rw [List.getD_eq_getElem?_getD,List.getElem?_set,if_pos rfl,if_pos (by omega)];rfl
    ·have g:gD (vs.set j (aW c r0++[f.Span])) p [] = gD vs p []:=by
      unfold gD
      rw [List.getD_eq_getElem?_getD,List.getD_eq_getElem?_getD,List.getElem?_set,if_neg (fun h=>hpj h.symm)]
     rw [g,hval p hp,eF]
     intro he
     exact hpj ((List.getElem_inj hnd).1 (he.trans h3.symm))
   ·intro r
    show r∈ks↔_
    by_cases hrr:r = r0
    ·subst hrr
     exact ⟨fun _=>by rw [eT];simp,fun _=>List.mem_of_getElem? h2⟩
    ·rw [eF r hrr, ← hmem r]
theorem Qr (c:List GFact):yd c (cE c):=by
 have key:∀ (rest pre:List GFact) (s:List Rt × List (List GSpan)),yd pre s→yd (pre++rest) (rest.foldl il s):=by
  intro rest
  induction rest with
  | nil=>intro pre s h;rw [List.append_nil];exact h
  | cons f r ih =>
   intro pre s h
   rw [List.foldl_cons,show pre++f :: r = (pre++[f])++r by simp]
   exact ih _ _ (Mr h f)
 exact key c [] ([],[]) ⟨rfl,by simp,fun p h=>absurd h (by simp),fun r=>by simp [aW],by simp⟩
theorem yq:Go.Sort.SWO dw:=by
 refine ⟨fun x=>by simp [dw,aa],fun x y z h1 h2=>?_,fun x y z h1 h2=>?_⟩
 ·simp only [dw,aa,af,Bool.or_eq_true,Bool.and_eq_true,decide_eq_true_eq,beq_iff_eq] at *
  omega
 ·simp only [dw,aa,af,Bool.or_eq_false_iff,Bool.and_eq_false_iff,decide_eq_false_iff_not,beq_eq_false_iff_ne,ne_eq] at *
  omega
theorem K6 (a b:GPosting):dw b a = false↔a.Span.From < b.Span.From∨(a.Span.From = b.Span.From∧(a.Seat < b.Seat∨(a.Seat = b.Seat∧a.State≤b.State))):=by
 simp only [dw,aa,af,Bool.or_eq_false_iff,Bool.and_eq_false_iff,decide_eq_false_iff_not,beq_eq_false_iff_ne,ne_eq]
 omega
theorem rJ:∀ {l:List GSpan} {lo:Int},dI lo l→∀ s∈l, ∀ t∈l,s.From = t.From→s = t
 | [],_,_,s,hs,_,_,_=>by cases hs
 | x :: r,lo,h,s,hs,t,ht,e=>by
  obtain ⟨h1,h2,h3,h4⟩:=h
  have low:∀ y∈r,x.From < y.From:=fun y hy=>by
   have hy':y.From < y.To:=(norm_inR' h4 y hy)
   have:=fB h4 (d:=y.From) ⟨y,hy,Int.le_refl _,hy'⟩
   omega
  rcases List.mem_cons.1 hs with hs | hs <;> rcases List.mem_cons.1 ht with ht | ht
  ·rw [hs,ht]
  ·have:=low t ht;rw [hs] at e;omega
  ·have:=low s hs;rw [ht] at e;omega
  ·exact rJ h4 s hs t ht e
where norm_inR':∀ {l:List GSpan} {lo:Int},dI lo l→∀ y∈l,y.From < y.To
 | [],_,_,y,hy=>by cases hy
 | x :: r,lo,h,y,hy=>by
  rcases List.mem_cons.1 hy with rfl | hy
  ·exact h.2.1
  ·exact norm_inR' h.2.2.2 y hy
noncomputable def dZ (c:List GFact) (life:GSpan) (r:Rt):List GPosting:=(gW (aW c r) life).map fun s=>⟨r.seat,r.state,s⟩
theorem Hi {c:List GFact} {life:GSpan} {r:Rt} (h:aW c r = []):dZ c life r = []:=by
 unfold dZ
 have h1:=(nN (aW c r) life)
 cases e:gW (aW c r) life with
 | nil=>rfl
 | cons s t =>
  rw [e] at h1
  have:=(h1.2 s.From).1 ⟨s,by simp,Int.le_refl _,h1.1.2.1⟩
  rw [h] at this
  exact absurd this.1.1 fw
def FC (c:List GFact) (life:GSpan) (a:GPosting):Prop:=a.Span∈gW (aW c ⟨a.Seat,a.State⟩) life
theorem yT {c:List GFact} {life:GSpan} {r:Rt}:∀ a∈dZ c life r,FC c life a:=by
 intro a ha
 obtain ⟨s,hs,rfl⟩:=List.mem_map.1 ha
 exact hs
theorem GW {c:List GFact} {life:GSpan} {a b:GPosting} (ha:FC c life a) (hb:FC c life b) (h1:dw b a = false) (h2:dw a b = false):a = b:=by
 rw [K6] at h1 h2
 obtain ⟨s1,s2,x⟩:=a
 obtain ⟨t1,t2,y⟩:=b
 simp only at h1 h2
 obtain rfl:s1 = t1:=by omega
 obtain rfl:s2 = t2:=by omega
 have:=rJ (nN _ _).1 x ha y hb (by omega)
 rw [this]
theorem Ni {c:List GFact} {life:GSpan} {l l':List GPosting} (hp:l.Perm l') (hin:∀ a∈l,FC c life a) (hs:l'.Pairwise fun a b=>dw b a = false):dK l = l':=by
 have h:=@pW _ ⟨zS .GPosting⟩ _ yq l
 refine List.Perm.eq_of_pairwise (le:=fun a b=>dw b a = false) (fun a b ha hb h1 h2=>?_) h.2 hs (h.1.trans hp)
 exact GW (hin a (h.1.mem_iff.1 ha)) (hin b (hp.mem_iff.2 hb)) h1 h2
theorem M2 {c:List GFact} {life:GSpan} {l l':List GPosting} (hp:l.Perm l') (hin:∀ a∈l',FC c life a):dK l = dK l':=by
 have h:=@pW _ ⟨zS .GPosting⟩ _ yq l'
 exact Ni (l':=dK l') (hp.trans h.1.symm) (fun a ha=>hin a (hp.mem_iff.1 ha)) h.2
def yN (seat state:Int):Nat→List Rt
 | 0=>[]
 | k+1=>⟨seat,state⟩ :: yN seat (state+1) k
def lc (seat:Int):Nat→List Rt
 | 0=>[]
 | k+1=>yN seat 0 6++lc (seat+1) k
theorem vK (seat:Int) (r:Rt):∀ (k:Nat) (state:Int),r∈yN seat state k↔r.seat = seat∧state≤r.state∧r.state < state+k
 | 0,state=>by simp only [yN,List.not_mem_nil,false_iff];omega
 | k+1,state=>by
  rw [yN,List.mem_cons,vK seat r k]
  obtain ⟨a,b⟩:=r
  simp only [GCompetence_route.mk.injEq]
  omega
theorem A7 (r:Rt):∀ (k:Nat) (seat:Int),r∈lc seat k↔(seat≤r.seat∧r.seat < seat+k)∧0≤r.state∧r.state < 6
 | 0,seat=>by simp only [lc,List.not_mem_nil,false_iff];omega
 | k+1,seat=>by
  rw [lc,List.mem_append,vK,A7 r k]
  omega
theorem KM (seat:Int):∀ (k:Nat) (state:Int),(yN seat state k).Nodup
 | 0,_=>by simp [yN]
 | k+1,state=>by
  rw [yN,List.nodup_cons]
  exact ⟨fun h=>by have:=(vK _ _ _ _).1 h;have e:(⟨seat,state⟩:Rt).state = state:=rfl;omega,KM seat k _⟩
theorem Ki:∀ (k:Nat) (seat:Int),(lc seat k).Nodup
 | 0,_=>by simp [lc]
 | k+1,seat=>by
  rw [lc,List.nodup_append]
  refine ⟨KM _ _ _,Ki k _,fun a ha b hb e=>?_⟩
  subst e
  rw [vK] at ha
  rw [A7] at hb
  omega
theorem Jk {c:List GFact} {life:GSpan} {ks:List Rt} (hnd:ks.Nodup) (hmem:∀ r,r∈ks↔aW c r≠[]) (hc:∀ f∈c,f.Kind = 4→(0≤f.Seat∧f.Seat < 6)∧0≤f.State∧f.State < 6) :
  (ks.flatMap (dZ c life)).Perm ((lc 0 6).flatMap (dZ c life)):=by
 have hk:ks.Perm ((lc 0 6).filter fun r=>decide (aW c r≠[])):=by
  rw [List.perm_ext_iff_of_nodup hnd ((List.filter_sublist).nodup (Ki 6 0))]
  intro r
  rw [List.mem_filter,decide_eq_true_eq,hmem r]
  refine ⟨fun h=>⟨?_,h⟩,fun h=>h.2⟩
  rw [A7]
  cases hd:c.filter (BE r) with
  | nil=>exact absurd (by unfold aW;rw [hd];rfl) h
  | cons f t =>
   have hf:f∈c.filter (BE r):=by rw [hd];simp
   obtain ⟨f1,f2⟩:=List.mem_filter.1 hf
   obtain ⟨f3,f4⟩:=(zd _ _).1 f2
   have:=hc f f1 f3
   subst f4
   exact ⟨by simp [xc];omega,by simp [xc];omega⟩
 refine (List.Perm.flatMap_right _ hk).trans ?_
 have:∀ l:List Rt,(l.filter fun r=>decide (aW c r≠[])).flatMap (dZ c life) = l.flatMap (dZ c life):=by
  intro l
  induction l with
  | nil=>rfl
  | cons r t ih =>
   rw [List.filter_cons,List.flatMap_cons]
   by_cases h:aW c r = []
   ·rw [if_neg (by simp [h]),ih,Hi h];rfl
   ·rw [if_pos (by simp [h]),List.flatMap_cons,ih]
 rw [this]
end Go.Ax
set_option linter.all false
/- Both lists of postings are the same. -/
set_option maxRecDepth 100000
namespace Go.Ax
abbrev KK (l:List GPosting):Prop:=l.Pairwise fun a b=>dw b a = false
structure Lo (out D:List GPosting) (seat state:Int):Prop where
  perm:out.Perm D
  srt:KK out
  lex:∀ x∈out,x.Seat < seat∨(x.Seat = seat∧x.State≤state)
theorem Lo.mono {out D:List GPosting} {s t s' t':Int} (h:Lo out D s t) (e:s < s'∨(s = s'∧t≤t')):Lo out D s' t' :=
 ⟨h.perm,h.srt,fun x hx=>by have:=h.lex x hx;omega⟩
section
variable (l c:List GFact) (hl:l.length≤40) (hc:c.length≤40)
end
theorem xG {A B:Type} (f:A→B):∀ (l:List A) (o:List B),l.foldl (fun o x=>o++[f x]) o = o++l.map f
 | [],o=>by simp
 | x :: r,o=>by rw [List.foldl_cons,xG f r];simp
theorem Qm {n:Nat} {wl:List Int} (hnd:wl.Nodup) (hr:∀ x∈wl,0≤x∧x < (n:Int)) (hlen:wl.length = n):wl.Perm ((List.range n).map fun p:Nat=>(p:Int)):=by
 have hnd2:((List.range n).map fun p:Nat=>(p:Int)).Nodup:=by
  rw [List.nodup_iff_pairwise_ne,List.pairwise_map]
  exact List.Pairwise.imp (fun h e=>h (by omega)) (List.nodup_iff_pairwise_ne.1 List.nodup_range)
 have sub:wl ⊆ (List.range n).map fun p:Nat=>(p:Int):=by
  intro x hx
  have:=hr x hx
  exact List.mem_map.2 ⟨x.toNat,List.mem_range.2 (by omega),by omega⟩
 rw [List.perm_ext_iff_of_nodup hnd hnd2]
 intro a
 refine ⟨fun h=>sub h,fun h=>?_⟩
 by_cases ha:a∈wl
 ·exact ha
 ·exfalso
  have h1:(a :: wl).Nodup:=List.nodup_cons.2 ⟨ha,hnd⟩
  have h2:(a :: wl) ⊆ (List.range n).map fun p:Nat=>(p:Int):=fun x hx=>by
   rcases List.mem_cons.1 hx with rfl | hx
   ·exact h
   ·exact sub hx
  have:=h1.length_le_of_subset h2
  simp at this
  omega
theorem O7 {n:Nat} {wl:List Int} (hlen:wl.length < n):ip n wl≠[]:=by
 intro h
 have hnd2:((List.range n).map fun p:Nat=>(p:Int)).Nodup:=by
  rw [List.nodup_iff_pairwise_ne,List.pairwise_map]
  exact List.Pairwise.imp (fun h e=>h (by omega)) (List.nodup_iff_pairwise_ne.1 List.nodup_range)
 have sub:((List.range n).map fun p:Nat=>(p:Int)) ⊆ wl:=by
  intro x hx
  obtain ⟨p,hp,rfl⟩:=List.mem_map.1 hx
  rw [List.mem_range] at hp
  by_cases hm:(p:Int)∈wl
  ·exact hm
  ·have:=oK.2 ⟨hp,hm⟩
   rw [h] at this
   cases this
 have:=hnd2.length_le_of_subset sub
 simp at this
 omega
theorem OJ (l c:List GFact) (hl:l.length≤40) (hc:c.length≤40) (ks:List Rt) (vs:List (List GSpan)) (hk:ks.length≤40) (hv:∀ (p:Nat) (h:p < ks.length),gD vs p [] = aW c ks[p]):∀ (n:Nat) (out:List GPosting) (wl:List Int),
  wl.Nodup→(∀ x∈wl,0≤x∧x < (ks.length:Int))→wl.length+n = ks.length→out.Perm (wl.flatMap fun x=>dZ c (ar l) (gD ks x.toNat (zS .GCompetence_route)))→out.length≤41*wl.length →
  dW l out (ks.length:Int) wl ks vs = some (dK (ks.flatMap (dZ c (ar l)))):=by
 intro n
 induction n with
 | zero =>
  intro out wl hnd hr hlen hp ho
  have hw:=Qm hnd hr (by omega)
  have he:ip ks.length wl = []:=by
   cases h:ip ks.length wl with
   | nil=>rfl
   | cons p r =>
    have hm:p∈ip ks.length wl:=by rw [h];simp
    obtain ⟨h1,h2⟩:=oK.1 hm
    exact absurd (hw.mem_iff.2 (List.mem_map.2 ⟨p,List.mem_range.2 h1,rfl⟩)) h2
  rw [iY,lV,aO,he]
  show (gb (aa (out.length≤4611686018427387903))<|some (dK out)) = _
  rw [aN (by omega)]
  congr 1
  have hp2:out.Perm (ks.flatMap (dZ c (ar l))):=by
   refine hp.trans ((List.Perm.flatMap_right _ hw).trans ?_)
   rw [List.flatMap_map]
   have:(List.range ks.length).flatMap (fun p=>dZ c (ar l) (gD ks ((p:Nat):Int).toNat (zS .GCompetence_route))) = ks.flatMap (dZ c (ar l)):=by
    have e:ks = (List.range ks.length).map fun p=>gD ks ((p:Nat):Int).toNat (zS .GCompetence_route):=by
     apply List.ext_getElem (by simp)
     intro i h1 h2
     rw [List.getElem_map,List.getElem_range,bP h1]
    conv=>rhs;rw [e,List.flatMap_map]
   rw [this]
  refine M2 (c:=c) (life:=ar l) hp2 fun a ha=>?_
  obtain ⟨r,_,h⟩:=List.mem_flatMap.1 ha
  exact yT a h
 | succ n ih =>
  intro out wl hnd hr hlen hp ho
  have hne:=O7 (n:=ks.length) (wl:=wl) (by omega)
  rw [iY,lV,aO]
  have:List.isEmpty (ip ks.length wl) = false:=by
   cases h:ip ks.length wl with
   | nil=>exact absurd h hne
   | cons p r=>rfl
  rw [this,cond_false]
  refine vS hne fun p hpm=>?_
  obtain ⟨h1,h2⟩:=oK.1 hpm
  rw [aN rfl,aN (by omega),aN (by omega),jY l (by omega),Option.bind_some]
  have ev:gD vs ((p:Nat):Int).toNat [] = aW c ks[p]:=by
   rw [show ((p:Nat):Int).toNat = p by omega];exact hv p h1
  rw [ev,bP h1]
  have hd:(aW c ks[p]).length≤40:=Nat.le_trans (Ft _ _) hc
  rw [DY _ _ (by omega),Option.bind_some]
  have hcl:=Az (aW c ks[p]) (ar l)
  generalize hr2:gW (aW c ks[p]) (ar l) = r2 at hcl
  have loop:=(mz r2 (fun i o=>bq l (r2.length:Int) i o ks[p] (ks.length:Int) ((p:Int) :: wl) r2 ks vs) (fun (o:List GPosting) s=>o++[(⟨ks[p].seat,ks[p].state,s⟩:GPosting)]) (fun i o=>o.length≤out.length+i) (fun i o hi ho=>⟨by
    show bq _ _ _ _ _ _ _ _ _ _ = bq _ _ _ _ _ _ _ _ _ _
    rw [im]
    simp only [cB hi,cz,cond_true,aO,Bool.or_true,bP hi,bS hi (by omega)]
    rw [sL],by simp;omega⟩) out (by omega)).1
  refine Eq.trans loop ?_
  show bq _ _ _ _ _ _ _ _ _ _ = _
  rw [im,cm,cond_false,xG]
  have ep:r2.map (fun s=>(⟨ks[p].seat,ks[p].state,s⟩:GPosting)) = dZ c (ar l) ks[p]:=by unfold dZ;rw [hr2]
  rw [ep]
  have hpl:(dZ c (ar l) ks[p]).length≤41:=by rw [← ep,List.length_map];omega
  refine ih _ _ (List.nodup_cons.2 ⟨h2,hnd⟩) (fun x hx=>?_) (by simp;omega) ?_ (by simp;omega)
  ·rcases List.mem_cons.1 hx with rfl | hx
   ·omega
   ·exact hr x hx
  ·rw [List.flatMap_cons,bP h1]
   exact (List.perm_append_comm).trans (List.Perm.append_left _ hp)
theorem LS {f:GFact} (h:aG f = true) (hk:f.Kind = 4):(0≤f.Seat∧f.Seat < 6)∧0≤f.State∧f.State < 6:=by
 have hv:cb f = true:=by
  unfold aG at h
  cases hv:cb f with
  | true=>rfl
  | false=>rw [hv] at h;cases h
 have hs:=((gN f).1 hv).2.2.2.2.2
 rw [hk] at hs
 have b1:cT 4 83 = true:=by decide
 have b2:cT 4 84 = true:=by decide
 have hs1:=hs.1
 have hs2:=hs.2.1
 rw [b1] at hs1
 rw [b2] at hs2
 unfold bF at hs1 hs2
 rw [if_pos rfl,lx] at hs1 hs2
 omega
theorem KE {A B:Type} (f:A→List B) (k:Nat):∀ (l:List A),(∀ x∈l,(f x).length≤k)→(l.flatMap f).length≤k*l.length
 | [],_=>by simp
 | x :: r,h=>by
  have h1:=h x (by simp)
  have h2:=KE f k r fun y hy=>h y (by simp [hy])
  rw [List.flatMap_cons,List.length_append,List.length_cons,Nat.mul_add]
  omega
theorem o5 (l:List GFact) (hl:l.length≤40):∃ p,en l = some p∧p.Perm ((lc 0 6).flatMap (dZ (l.filter aG) (ar l)))∧KK p∧p.length≤1476:=by
 rw [tc,j7 l (by omega),Option.bind_some]
 have hcl:=List.length_filter_le aG l
 have hcr:∀ f∈l.filter aG,f.Kind = 4→(0≤f.Seat∧f.Seat < 6)∧0≤f.State∧f.State < 6:=fun f hf hk=>LS (List.mem_filter.1 hf).2 hk
 generalize l.filter aG = c at hcl hcr
 have es:sF (l,c,(c.length:Int),0,[],[]) = some (l,(cE c).1,(cE c).2):=by
  unfold sF
  simp only [lV]
  rw [aM (by omega)];rfl
 rw [es,Option.bind_some]
 have hk:=Qr c
 have hw:=OJ l c hl (by omega) (cE c).1 (cE c).2 (by have:=hk.le;omega) hk.val (cE c).1.length [] [] (by simp) (by simp) (by simp) (.refl _) (by simp)
 have h:=@pW _ ⟨zS .GPosting⟩ _ yq ((cE c).1.flatMap (dZ c (ar l)))
 have hp:(dK ((cE c).1.flatMap (dZ c (ar l)))).Perm ((lc 0 6).flatMap (dZ c (ar l))):=h.1.trans (Jk hk.nd hk.mem hcr)
 refine ⟨_,hw,hp,h.2, ?_⟩
 rw [hp.length_eq]
 refine Nat.le_trans (KE _ 41 _ fun r _=>?_) (by decide)
 unfold dZ
 rw [List.length_map]
 have:=Az (aW c r) (ar l)
 have:=Ft c r
 omega
end Go.Ax
set_option linter.all false
/- The law of a day, function by function;the example of chapter 15; LawUnder. -/
set_option maxRecDepth 100000
namespace Go.Ax
def cy (s:GSpan) (day:Int):Bool:=bif aa (s.From≤day) then aa (day < s.To) else false
theorem pL (s:GSpan) (d:Int):fE s d = some (cy s d):=uD s d
theorem yu (ks:List Int) (v:Int) (hl:ks.length≤1000000):jL ks v = some (ks.any fun k=>af v k):=by
 rw [xL,CH]
 refine (qb ks (fun i=>(dz ks v (ks.length:Int) i).bind fun r0=>some (aa (0≤r0))) (fun k=>af v k) (some true) (some false) ?_ fun i hi=>?_).trans (by cases ks.any _ <;> rfl)
 ·show (dz ks v (ks.length:Int) (ks.length:Int)).bind _ = _
  rw [nt,cm];rfl
 ·show (dz ks v (ks.length:Int) (i:Int)).bind _ = if af v ks[i] = true then _ else (dz ks v (ks.length:Int) _).bind _
  rw [nt]
  simp only [cB hi,cz,cond_true,aO,Bool.or_true,bP hi,bS hi (by omega)]
  cases af v ks[i] with
  | true=>rw [cond_true,Option.bind_some,aM (by omega)];rfl
  | false=>rfl
theorem zD (l:List GSpan) (day:Int) (hl:l.length≤1000000):nK l day = some (!(aa (day < 0))&&(!(aa (73049≤day))&&l.any fun s=>cy s day)):=by
 rw [zK,sM,wG]
 have:(bU l day (l.length:Int) 0).bind (fun r0=>some (aa (0≤r0))) = some (l.any fun s=>cy s day):=by
  refine (qb l (fun i=>(bU l day (l.length:Int) i).bind fun r0=>some (aa (0≤r0))) (fun s=>cy s day) (some true) (some false) ?_ fun i hi=>?_).trans (by cases l.any _ <;> rfl)
  ·show (bU l day (l.length:Int) (l.length:Int)).bind _ = _
   rw [k6,cm];rfl
  ·show (bU l day (l.length:Int) (i:Int)).bind _ = if cy l[i] day = true then _ else (bU l day (l.length:Int) _).bind _
   rw [k6]
   simp only [cB hi,cz,cond_true,aO,Bool.or_true,bP hi,bS hi (by omega)]
   rw [wU,Option.bind_some]
   show Option.bind (bif cy l[i] day then (some (i:Int)) else _) _ = _
   cases cy l[i] day with
   | true=>rw [cond_true,Option.bind_some,aM (by omega)];rfl
   | false=>rfl
 rw [this]
 cases aa (day < 0) <;> cases aa (73049≤day) <;> rfl
def df (day:Int) (ks:List Int) (f:GFact):Bool:=(ks.any fun k=>af f.Kind k)&&cy f.Span day
theorem qM (x:GCompetence_life) (day:Int) (ks:List Int) (hl:x.facts.length≤1000000) (hk:ks.length≤1000):bT x day ks = some (x.facts.filter (df day ks)):=by
 rw [tP]
 refine (Lu x.facts (fun i out=>bg day ks x.facts (x.facts.length:Int) i out) (df day ks) fun i out hi ho=>?_).trans ?_
 ·show bg _ _ _ _ _ _ = bg _ _ _ _ _ _
  rw [j5]
  simp only [cB hi,cz,cond_true,aO,Bool.or_true,bP hi,bS hi (by omega)]
  rw [yu _ _ (by omega),Option.bind_some,pL,Option.bind_some,sL]
  unfold df
  cases (ks.any fun k=>af x.facts[i].Kind k) <;> cases cy x.facts[i].Span day <;> rfl
 ·show bg _ _ _ _ _ _ = _
  rw [j5,cm];rfl
theorem Gy (l:List GFact) (hl:l.length≤40) (h:∀ f∈l.filter aG,f.Kind≠4):en l = some []:=by
 obtain ⟨p,h2,h3,_,_⟩:=o5 l hl
 have:(lc 0 6).flatMap (dZ (l.filter aG) (ar l)) = []:=by
  rw [List.flatMap_eq_nil_iff]
  intro r _
  refine Hi ?_
  unfold aW
  rw [List.map_eq_nil_iff,List.filter_eq_nil_iff]
  intro f hf hr
  exact h f hf ((zd _ _).1 hr).1
 rw [this] at h3
 rw [h2,h3.eq_nil]
theorem Fd (d:Int):kT d = some (bif aa (0≤d) then aa (d≤73048) else false):=zz d
theorem BV (x h:Int):gF x h = some (bif aa (0≤x) then aa (x≤h) else false):=AI x h
def sZ (r:GRules):Prop:=0≤r.From∧r.From≤73048∧0≤r.MinDays∧r.MinDays≤73049∧0≤r.PostingLimit∧r.PostingLimit≤73049∧0≤r.Substantial∧r.Substantial≤100
def L4 (ms:List Int):Prop:=ms.length≤100∧∀ (i:Nat) (hi:i < ms.length),0≤ms[i]∧ms[i]≤5∧∀ h:0 < i,ms[i - 1] < ms[i]
theorem LQ (r:GRules) (h:sZ r) (hm:L4 r.Members):qw r = some true:=by
 obtain ⟨a1,a2,a3,a4,a5,a6,a7,a8⟩:=h
 obtain ⟨b1,b2⟩:=hm
 rw [BF]
 simp only [Fd,BV,Option.bind_some,aM a1,aM a2,aM a3,aM a4,aM a5,aM a6,aM a7,aM a8,cond_true,Bool.not_true,cond_false]
 refine (qb r.Members (fun i=>dA r.Members (r.Members.length:Int) i r) (fun _=>false) none (some true) ?_ fun i hi=>?_).trans (by simp)
 ·show dA _ _ _ _ = _
  rw [nw,cm];rfl
 ·show dA _ _ _ _ = if (false:Bool) = true then none else dA r.Members (r.Members.length:Int) ((i+1:Nat):Int) r
  rw [if_neg (by simp)]
  obtain ⟨c1,c2,c3⟩:=b2 i hi
  rw [nw]
  simp only [cB hi,cz,cond_true,aO,Bool.or_true,bP hi,bS hi (by omega)]
  rw [BV,aM c1,aM c2,cond_true,Option.bind_some]
  by_cases h0:0 < i
  ·have e:ac ((i:Int) - 1) = ((i - 1:Nat):Int):=by rw [al (by omega) (by omega)];omega
   rw [e,rm (by simp),rm (by simp;omega),bP (l:=r.Members) (i:=i - 1) (by omega),bu (p:=r.Members[i]≤r.Members[i - 1]) (by have:=c3 h0;omega)]
   cases aa (0 < (i:Int)) <;> simp
  ·have:i = 0:=by omega
   subst this
   simp
   rfl
theorem H4 (t:List GRules) (ht:t.length≤8) (h0:0 < t.length) (hf:(gD t 0 (zS .GRules)).From = 0) (h:∀ (i:Nat) (hi:i < t.length),sZ t[i]∧L4 t[i].Members∧∀ h:0 < i,t[i - 1].From < t[i].From):mH t = some 0:=by
 rw [Bw,bu (p:=8 < (t.length:Int)) (by omega),cond_false]
 have e:af (t.length:Int) 0 = false:=jT.2 (by omega)
 rw [e,aM (p:=0 < (t.length:Int)) (by omega),hf,CU.2 rfl]
 show cL _ _ _ _ = _
 refine (qb t (fun i=>cL t t (t.length:Int) i) (fun _=>false) none (some 0) ?_ fun i hi=>?_).trans (by simp)
 ·show cL _ _ _ _ = _
  rw [mZ,cm];rfl
 ·show cL _ _ _ _ = if (false:Bool) = true then none else cL t t (t.length:Int) ((i+1:Nat):Int)
  rw [if_neg (by simp)]
  obtain ⟨c1,c2,c3⟩:=h i hi
  rw [mZ]
  simp only [cB hi,cz,cond_true,aO,Bool.or_true,bP hi,bS hi (by omega)]
  rw [LQ _ c1 c2,Option.bind_some]
  by_cases h0:0 < i
  ·have e:ac ((i:Int) - 1) = ((i - 1:Nat):Int):=by rw [al (by omega) (by omega)];omega
   rw [e,rm (by simp),rm (by simp;omega),bP (l:=t) (i:=i - 1) (by omega),bu (p:=t[i].From≤t[i - 1].From) (by have:=c3 h0;omega)]
   cases aa (0 < (i:Int)) <;> simp
  ·have:i = 0:=by omega
   subst this
   simp
   rfl
def LW (day:Int) (f:GFact):Bool:=aG f&&(af f.Kind 5&&cy f.Span day)
def EG (ok:Bool) (best f:GFact):Bool:=!ok||(aa (best.Span.From < f.Span.From)||(af f.Span.From best.Span.From&&aa (f.State < best.State)))
def mo (day:Int) (s:Bool × GFact) (f:GFact):Bool × GFact:=bif LW day f then (bif EG s.1 s.2 f then (true,f) else s) else s
theorem mx (l:List GFact) (day:Int) (hl:l.length≤1000000):db l day =
  some (bif (bif aa (0≤day) then aa (day≤73048) else false)&&cy (ar l) day then ((l.foldl (mo day) (false,zS .GFact)).2.State,(l.foldl (mo day) (false,zS .GFact)).1) else (0,false)):=by
 rw [wY,Fd,Option.bind_some,jY l hl,Option.bind_some,zD _ _ (by simp),Option.bind_some]
 have e:(!(aa (day < 0))&&(!(aa (73049≤day))&&[ar l].any fun s=>cy s day)) = ((bif aa (0≤day) then aa (day≤73048) else false)&&cy (ar l) day):=by
  rw [fW,List.any_cons,List.any_nil,Bool.or_false]
  have e1:aa (0≤day) = !(aa (day < 0)):=by
   by_cases h:0≤day
   ·rw [aM h,bu (p:=day < 0) (by omega)];rfl
   ·rw [bu h,aM (p:=day < 0) (by omega)];rfl
  have e2:aa (day≤73048) = !(aa (73049≤day)):=by
   by_cases h:73049≤day
   ·rw [aM h,bu (p:=day≤73048) (by omega)];rfl
   ·rw [bu h,aM (p:=day≤73048) (by omega)];rfl
  rw [e1,e2,Bool.and_assoc]
 rw [e]
 have loop:aR day false l (l.length:Int) 0 (⟨0,0,0,false,0,0,0,(⟨0,0⟩:GSpan),0,0,0,0,0⟩:GFact) = some ((l.foldl (mo day) (false,zS .GFact)).2.State,(l.foldl (mo day) (false,zS .GFact)).1):=by
  refine (mz l (fun i (s:Bool × GFact)=>aR day s.1 l (l.length:Int) i s.2) (mo day) (fun _ _=>True) (fun i s hi _=>⟨?_,trivial⟩) (false,zS .GFact) trivial).1.trans ?_
  ·show aR _ _ _ _ _ _ = aR _ _ _ _ _ _
   rw [kq]
   simp only [cB hi,cz,cond_true,aO,Bool.or_true,bP hi,bS hi (by omega)]
   rw [kB,Option.bind_some]
   generalize l[i] = f
   obtain ⟨ok,best⟩:=s
   unfold mo LW EG cy
   have e1:aa (day < f.Span.From) = !(aa (f.Span.From≤day)):=by
    by_cases h:f.Span.From≤day
    ·rw [aM h,bu (p:=day < f.Span.From) (by omega)];rfl
    ·rw [bu h,aM (p:=day < f.Span.From) (by omega)];rfl
   have e2:aa (f.Span.To≤day) = !(aa (day < f.Span.To)):=by
    by_cases h:day < f.Span.To
    ·rw [aM h,bu (p:=f.Span.To≤day) (by omega)];rfl
    ·rw [bu h,aM (p:=f.Span.To≤day) (by omega)];rfl
   have e3:bZ f.Kind 5 = !(af f.Kind 5):=rfl
   rw [e1,e2,e3]
   show _ = aR day _ l (l.length:Int) _ _
   cases aG f <;> cases af f.Kind 5 <;> cases aa (f.Span.From≤day) <;> cases aa (day < f.Span.To) <;> cases ok <;> cases aa (best.Span.From < f.Span.From) <;> cases af f.Span.From best.Span.From <;> cases aa (f.State < best.State) <;> rfl
  ·show aR _ _ _ _ _ _ = _
   rw [kq,cm,cond_false]
 rw [loop]
 cases (bif aa (0≤day) then aa (day≤73048) else false) <;> cases cy (ar l) day <;> rfl
def Cy:GFact:=⟨0,1,1,false,1,5,1,⟨100,200⟩,0,0,0,0,0⟩
def oy:GFact:=⟨0,2,1,false,1,1,1,⟨100,200⟩,2,20,1,0,0⟩
def oI:GFact:=⟨0,3,1,false,1,1,2,⟨100,200⟩,2,80,1,0,0⟩
def CF:GCompetence_life:=⟨[Cy,oy,oI],ar [Cy,oy,oI],[],[⟨0,0,0,25,[]⟩]⟩
theorem Pv:[Cy,oy,oI].filter aG = [Cy,oy,oI]:=by kernel_rfl
theorem RZ:bT CF 150 [1,2] = some [oy,oI]:=by
 rw [qM _ _ _ (by decide) (by decide)];kernel_rfl
theorem Rw:bT CF 150 [1] = some [oy,oI]:=by
 rw [qM _ _ _ (by decide) (by decide)];kernel_rfl
theorem Rx:bT CF 150 [3] = some []:=by
 rw [qM _ _ _ (by decide) (by decide)];kernel_rfl
theorem Rr:db [Cy,oy,oI] 150 = some (1,true):=by
 rw [mx _ _ (by decide)];kernel_rfl
theorem Qz:gk [oy,oI] = some [2]:=by
 rw [nr]
 refine Eq.trans (b:=bz [oy,oI] 2 1 [2]) (by rw [dh];kernel_rfl) ?_
 refine Eq.trans (b:=bz [oy,oI] 2 2 [2,2]) (by rw [dh];kernel_rfl) ?_
 rw [dh];kernel_rfl
theorem RD:da CF 150 25 = some (2,true):=by
 rw [iU,RZ,Option.bind_some]
 refine Eq.trans (b:=aK 150 25 20 2 1 CF [1] [20] [oy,oI]) (by rw [bM];kernel_rfl) ?_
 refine Eq.trans (b:=aK 150 25 100 2 2 CF [1,2] [20,80] [oy,oI]) (by rw [bM];kernel_rfl) ?_
 rw [bM,Rw]
 show Option.bind (db [Cy,oy,oI] 150) _ = _
 rw [Rr]
 show Option.bind (gk [oy,oI]) _ = _
 rw [Qz]
 kernel_rfl
theorem R4:sC [⟨0,0,0,25,[]⟩] 150 = some (⟨0,0,0,25,[]⟩,true):=by
 show mm [⟨0,0,0,25,[]⟩] 150 = _
 kernel_rfl
theorem QO:d9 CF 150 0 = some (0,false):=by
 rw [jt,dV];kernel_rfl
theorem Qc:fj CF 150 = some (0,false):=by
 rw [kw,Rx,Option.bind_some,ew];kernel_rfl
theorem PK:om = some true:=by
 rw [DV]
 have e:lN [Cy,oy,oI] [⟨0,0,0,25,[]⟩] 150 = some (2,3):=by
  have hP:gU [Cy,oy,oI] [⟨0,0,0,25,[]⟩] = some (CF,true):=by
   rw [l8,j7 _ (by decide),Option.bind_some,Pv,jY _ (by decide),Option.bind_some,Gy _ (by decide) (by rw [Pv];decide),Option.bind_some,
    H4 _ (by decide) (by decide) rfl (fun i hi=>by
     have:i = 0:=by simp at hi;omega
     subst this
     exact ⟨by simp [sZ],⟨by simp,fun i hi=>by simp at hi⟩,fun h=>by omega⟩)]
   rfl
  rw [AF,hP,Option.bind_some,lu]
  show ((sC [⟨0,0,0,25,[]⟩] 150).bind _).bind _ = _
  rw [R4,Option.bind_some,pL,QO,Qc,RD]
  kernel_rfl
 show (lN [Cy,oy,oI] [⟨0,0,0,25,[]⟩] 150).bind _ = _
 rw [e]
 kernel_rfl
theorem JJ (l:List GPensionhand_Fact) (n:List Int) (dense:Bool) (hn:n.length≤9223372036854775807):En (fun a:List GFact=>a.length≤30) (qy l n dense):=by
 rw [CP]
 have fin:∀ out:List GFact,out.length≤12→En (fun a:List GFact=>a.length≤30) (bif aa ((0:Int) < (n.length:Int)) then (pG n).bind fun r1=>(uw r1 1).bind fun r2=>gb (aa (((out.length+r2.length)*112)≤140737488355328))<|gb (aa ((out.length+r2.length)≤140737488355328))<|(jx (out++r2) []).bind fun r3=>some r3
   else (jx out []).bind fun r4=>some r4):=by
  intro out ho
  refine En.bif (fun _=>.bind (NU n hn) fun r1 h1=>?_) fun _=>.bind (IO out [] (by simp;omega)) fun r h=>.some (by simp at h;omega)
  rw [HA r1 1 (by omega),Option.bind_some]
  have hf:=List.length_filter_le (Pw 1) r1
  exact En.gd (by omega) (En.gd (by omega) (.bind (IO _ [] (by simp;omega)) fun r h=>.some (by simp at h;omega)))
 have key:∀ (k:Nat) (i:Int) (out:List GFact),12 - i≤k→0≤i→i≤12→(out.length:Int)≤i→En (fun a:List GFact=>a.length≤30) (ji l n dense i out):=by
  intro k
  induction k with
  | zero=>intro i out hk h0 hi ho;rw [nc];exact En.and (fun _ e=>by have:=dX e;omega) fun _=>fin out (by omega)
  | succ k ih =>
   intro i out hk h0 hi ho
   rw [nc]
   refine En.and (fun a b=>?_) fun _=>fin out (by omega)
   have a:=dX a
   have b:=dX b
   have nx:∀ r,En (fun a:List GFact=>a.length≤30) (eX l n dense i out r):=by
    intro r
    rw [tx,al (n:=i+1) (by omega) (by omega)]
    exact .bind (Qv r) fun f _=>En.gd (by omega) (En.gd (by omega) (ih _ _ (by omega) (by omega) (by omega) (by simp;omega)))
   exact En.gd h0 (En.gd a (En.bif (fun _=>.bind (nO _ 60 (by decide) (by decide)) fun _ _=>.bind (nO _ 40 (by decide) (by decide)) fun _ _=>.bind (nO _ 14 (by decide) (by decide)) fun _ _=>En.bif (fun _=>nx _) fun _=>nx _) fun _=>nx _))
 exact key 12 0 [] (by omega) (by omega) (by omega) (by simp)
end Go.Ax
set_option linter.all false
/- The law of a day: rules, postings, civil service, benefits, residence, on both sides. -/
set_option maxRecDepth 100000
namespace Go.Ax
def cD {T:Type} (p:T→Bool) (bt:T→T→Bool) (s:Bool × T) (f:T):Bool × T:=bif p f&&(!s.1||bt s.2 f) then (true,f) else s
theorem qv {T:Type} (p:T→Bool) (bt:T→T→Bool):∀ (l:List T) (s:Bool × T),(l.filter p).foldl (cD (fun _=>true) bt) s = l.foldl (cD p bt) s
 | [],_=>rfl
 | f :: l,s=>by
  rw [List.filter_cons,List.foldl_cons]
  cases h:p f with
  | true =>
   rw [if_pos rfl,List.foldl_cons,qv p bt l]
   unfold cD
   rw [h]
  | false =>
   rw [if_neg (by simp),qv p bt l]
   have:cD p bt s f = s:=by unfold cD;rw [h];rfl
   rw [this]
def cX (t:List GRules) (day:Int):GRules × Bool :=
 bif aa (day < 0)||aa (73049≤day) then (zS .GRules,false) else match t.reverse.find? (fun r=>aa (r.From≤day)) with | some r=>(r,true) | none=>(zS .GRules,false)
def Kw (t:List GRules):Prop:=t.length≤1000∧∀ r∈t,r.Members.length≤1000
theorem Gp (t:List GRules) (day:Int) (h:Kw t):sC t day = some (cX t day):=by
 show mm t day = _
 unfold mm cX
 have:t.all (fun r=>aa (r.Members.length≤1000)) = true:=List.all_eq_true.2 fun r hr=>aM (h.2 r hr)
 rw [this,aM h.1]
 show (bif _ then _ else _) = _
 cases (aa (day < 0)||aa (73049≤day)) with
 | true=>rfl
 | false =>
  rw [cond_false,cond_false]
  cases t.reverse.find? (fun r=>aa (r.From≤day)) <;> rfl
def pB (day lim:Int) (p:GPosting):Bool:=cy p.Span day&&aa (day < p.Span.From+lim)
def uM (l:List GPosting) (day lim:Int):Int × Bool:=match l.find? (pB day lim) with | some p=>(p.Seat,true) | none=>(0,false)
def CR (l:List GPosting):Prop:=l.length≤1000000∧∀ p∈l,0≤p.Span.From∧p.Span.From≤73049
theorem JF (x:GCompetence_life) (day lim:Int) (h:CR x.postings) (hl:0≤lim∧lim≤73049):d9 x day lim = some (uM x.postings day lim):=by
 rw [jt]
 unfold uM
 generalize x.postings = l at h
 have hle:=h.1
 have key:∀ (n i:Nat),l.length = i+n→dq day lim l (l.length:Int) (i:Int) = some (match (l.drop i).find? (pB day lim) with | some p=>(p.Seat,true) | none=>(0,false)):=by
  intro n
  induction n with
  | zero =>
   intro i hn
   have:i = l.length:=by omega
   subst this
   rw [dV,cm,cond_false,List.drop_length];rfl
  | succ n ih =>
   intro i hn
   have hi:i < l.length:=by omega
   have hr:=h.2 _ (List.getElem_mem hi)
   rw [dV,List.drop_eq_getElem_cons hi,List.find?_cons]
   simp only [cB hi,cz,cond_true,aO,Bool.or_true,bP hi,bS hi (by omega)]
   rw [ih (i+1) (by omega),pL,Option.bind_some,al (n:=l[i].Span.From+lim) (by omega) (by omega)]
   unfold pB
   cases cy l[i].Span day <;> cases aa (day < l[i].Span.From+lim) <;> rfl
 exact key l.length 0 (by omega)
def MW (b f:GFact):Bool:=aa (b.Share < f.Share)||(af f.Share b.Share&&aa (f.State < b.State))
def nQ (c:List GFact) (day:Int):Bool × GFact:=c.foldl (cD (df day [3]) MW) (false,zS .GFact)
theorem MA (x:GCompetence_life) (day:Int) (hl:x.facts.length≤1000000):fj x day = some ((nQ x.facts day).2.State,(nQ x.facts day).1):=by
 rw [kw,qM _ _ _ hl (by decide),Option.bind_some]
 unfold nQ
 rw [← qv]
 have hle:=List.length_filter_le (df day [3]) x.facts
 generalize x.facts.filter (df day [3]) = l at hle
 refine ((mz l (fun i (s:Bool × GFact)=>aZ s.1 (l.length:Int) i s.2 l) (cD (fun _=>true) MW) (fun _ _=>True) (fun i s hi _=>⟨?_,trivial⟩) (false,zS .GFact) trivial).1).trans ?_
 ·show aZ _ _ _ _ _ = aZ _ _ _ _ _
  rw [ew]
  simp only [cB hi,cz,cond_true,aO,Bool.or_true,bP hi,bS hi (by omega)]
  obtain ⟨ok,best⟩:=s
  unfold cD MW
  cases ok <;> cases aa (best.Share < l[i].Share) <;> cases af l[i].Share best.Share <;> cases aa (l[i].State < best.State) <;> rfl
 ·show aZ _ _ _ _ _ = _
  rw [ew,cm,cond_false]
def qF (day:Int) (b:Int) (f:GFact):Int:=bif df day [7,8] f&&(aa (b < 0)||aa (f.State < b)) then f.State else b
def pc (c:List GFact) (day:Int):Int:=c.foldl (qF day) (-1)
theorem PP (a b:GFact):fK a b = some (if a.State < b.State then -1 else if b.State < a.State then 1 else 0):=by
 rw [nC,D7,xD,xD]
 simp only [Option.bind_some,CU.2 rfl,cond_false]
 by_cases h1:a.State < b.State
 ·rw [aM h1,if_pos h1];rfl
 ·by_cases h2:b.State < a.State
  ·rw [bu h1,aM h2,if_neg h1,if_pos h2];rfl
  ·rw [bu h1,bu h2,if_neg h1,if_neg h2];rfl
theorem we (day:Int):∀ (l:List GFact) (b:Int),(l.filter (df day [7,8])).foldl (fun b f=>bif aa (b < 0)||aa (f.State < b) then f.State else b) b = l.foldl (qF day) b
 | [],_=>rfl
 | f :: l,b=>by
  rw [List.filter_cons,List.foldl_cons]
  cases h:df day [7,8] f with
  | true =>
   rw [if_pos rfl,List.foldl_cons,we day l]
   unfold qF
   rw [h,Bool.true_and]
  | false =>
   rw [if_neg (by simp),we day l]
   have:qF day b f = b:=by unfold qF;rw [h];rfl
   rw [this]
theorem J7 (x:GCompetence_life) (day:Int) (hl:x.facts.length≤1000000) (hs:∀ f∈x.facts,df day [7,8] f = true→0≤f.State) :
  gC x day = some (if pc x.facts day < 0 then (0,false) else (pc x.facts day,true)):=by
 rw [pi,qM _ _ _ hl (by decide),Option.bind_some]
 unfold pc
 rw [← we]
 have hle:=List.length_filter_le (df day [7,8]) x.facts
 have hs':∀ f∈x.facts.filter (df day [7,8]),0≤f.State:=fun f hf=>hs f (List.mem_filter.1 hf).1 (List.mem_filter.1 hf).2
 generalize x.facts.filter (df day [7,8]) = l at hle hs'
 cases l with
 | nil=>rfl
 | cons f r =>
  rw [show af ((f :: r).length:Int) 0 = false from jT.2 (by simp only [List.length_cons];omega),cond_false,zJ,bu (p:=((f :: r).length:Int) < 1) (by simp only [List.length_cons];omega),cond_false,aN (by simp only [List.length_cons];omega)]
  have key:∀ (n i:Nat) (m z:GFact),(f :: r).length = i+n→ek (f :: r) (i:Int) z m = some (((f :: r).drop i).foldl (fun m x=>if x.State < m.State then x else m) m):=by
   intro n
   induction n with
   | zero =>
    intro i m z hn
    have:i = (f :: r).length:=by omega
    subst this
    rw [lE,cm,cond_false,List.drop_length];rfl
   | succ n ih =>
    intro i m z hn
    have hi:i < (f :: r).length:=by omega
    rw [lE,List.drop_eq_getElem_cons hi,List.foldl_cons]
    simp only [cB hi,cz,cond_true,aO,Bool.or_true,bP hi,bS hi (by omega)]
    rw [PP,Option.bind_some]
    by_cases h1:(f :: r)[i].State < m.State
    ·rw [if_pos h1,if_pos h1,aM (by omega),cond_true]
     exact ih (i+1) _ _ (by omega)
    ·rw [if_neg h1,if_neg h1,bu (by split <;> omega),cond_false]
     exact ih (i+1) _ _ (by omega)
  have hk:=key r.length 1 f (⟨0,0,0,false,0,0,0,(⟨0,0⟩:GSpan),0,0,0,0,0⟩:GFact) (by simp;omega)
  rw [show gD (f :: r) 0 (zS .GFact) = f from rfl,show ((1:Nat):Int) = 1 from rfl] at *
  rw [hk,Option.bind_some]
  have red:∀ (l:List GFact) (m:GFact),0≤m.State→(∀ x∈l,0≤x.State)→(l.foldl (fun m x=>if x.State < m.State then x else m) m).State = l.foldl (fun (b:Int) f=>bif aa (b < 0)||aa (f.State < b) then f.State else b) m.State∧0≤l.foldl (fun (b:Int) f=>bif aa (b < 0)||aa (f.State < b) then f.State else b) m.State:=by
   intro l
   induction l with
   | nil=>intro m hm _;exact ⟨rfl,hm⟩
   | cons y t ih =>
    intro m hm hx
    rw [List.foldl_cons,List.foldl_cons,bu (p:=m.State < 0) (by omega),Bool.false_or]
    by_cases h1:y.State < m.State
    ·rw [if_pos h1,aM h1,cond_true]
     exact ih y (hx y (by simp)) fun x h=>hx x (by simp [h])
    ·rw [if_neg h1,bu h1,cond_false]
     exact ih m hm fun x h=>hx x (by simp [h])
  obtain ⟨r1,r2⟩:=red r f (hs' f (by simp)) fun x hx=>hs' x (by simp [hx])
  rw [List.foldl_cons,aM (p:=(-1:Int) < 0) (by omega),Bool.true_or,cond_true,if_neg (by omega),show (f :: r).drop 1 = r from rfl,r1]
def Ba (day:Int) (f:GFact):Bool:=af f.Kind 5&&cy f.Span day
def Kf (b f:GFact):Bool:=aa (b.Span.From < f.Span.From)||(af f.Span.From b.Span.From&&aa (f.State < b.State))
def jJ (c:List GFact) (day:Int):Bool × GFact:=c.foldl (cD (Ba day) Kf) (false,zS .GFact)
theorem PN (l:List GFact):(l.filter aG).filter aG = l.filter aG:=by
 rw [List.filter_filter];congr 1;funext x;cases aG x <;> rfl
theorem Ng (l:List GFact):ar (l.filter aG) = ar l:=by
 unfold ar ca
 rw [PN]
theorem zY (day:Int):∀ (c:List GFact),(∀ f∈c,aG f = true)→∀ s,c.foldl (mo day) s = c.foldl (cD (Ba day) Kf) s
 | [],_,_=>rfl
 | f :: c,h,s=>by
  rw [List.foldl_cons,List.foldl_cons,zY day c (fun g hg=>h g (by simp [hg]))]
  congr 1
  unfold mo LW cD Ba EG Kf
  rw [h f (by simp)]
  obtain ⟨ok,best⟩:=s
  cases af f.Kind 5 <;> cases cy f.Span day <;> cases ok <;> cases aa (best.Span.From < f.Span.From) <;> cases af f.Span.From best.Span.From <;> cases aa (f.State < best.State) <;> rfl
theorem wh (l:List GFact) (day:Int) (hl:l.length≤1000000) (hd:0≤day∧day≤73048) (hd2:cy (ar l) day = true) :
  db (l.filter aG) day = some ((jJ (l.filter aG) day).2.State,(jJ (l.filter aG) day).1):=by
 rw [mx _ _ (Nat.le_trans (List.length_filter_le _ _) hl),Ng,hd2,aM hd.1,aM hd.2,zY day _ fun f hf=>(List.mem_filter.1 hf).2]
 rfl
end Go.Ax
set_option linter.all false
/- The law of a day on both sides, for a given law by activity;rules that are made. -/
set_option maxRecDepth 100000
namespace Go.Ax
noncomputable def HD (c:List GFact) (post:List GPosting) (lim:Int) (act:Int × Bool) (day:Int):Int × Int :=
 bif (uM post day lim).2 then ((uM post day lim).1,1) else bif (nQ c day).1 then ((nQ c day).2.State,2) else bif act.2 then (act.1,3) else bif aa (0≤pc c day) then (pc c day,4) else bif (jJ c day).1 then ((jJ c day).2.State,5) else (-1,0)
theorem vp {t:List GRules} {day:Int} (h:(cX t day).2 = true):(0≤day∧day≤73048)∧(cX t day).1∈t:=by
 unfold cX at h ⊢
 cases hc:(aa (day < 0)||aa (73049≤day)) with
 | true=>rw [hc] at h;cases h
 | false =>
  rw [hc,cond_false] at h
  rw [Bool.or_eq_false_iff] at hc
  have h1:=nE hc.1
  have h2:=nE hc.2
  rw [cond_false]
  cases hf:t.reverse.find? (fun r=>aa (r.From≤day)) with
  | none=>rw [hf] at h;cases h
  | some r=>exact ⟨by omega,List.mem_reverse.1 (List.mem_of_find?_eq_some hf)⟩
theorem xU {f:GFact} (h:cb f = true) (hb:cT f.Kind 83 = true):0≤f.State∧f.State < 6:=by
 have hs:=((gN f).1 h).2.2.2.2.2.1
 rw [hb] at hs
 unfold bF at hs
 rw [if_pos rfl,lx] at hs
 omega
theorem iT {l:List GFact}:∀ f∈l.filter aG,cb f = true:=by
 intro f hf
 have h:=(List.mem_filter.1 hf).2
 unfold aG at h
 cases hv:cb f with
 | true=>rfl
 | false=>rw [hv] at h;cases h
theorem DC {day:Int} {ks:List Int} {f:GFact} (h:df day ks f = true):f.Kind∈ks:=by
 unfold df at h
 rw [Bool.and_eq_true,List.any_eq_true] at h
 obtain ⟨⟨k,hk,he⟩,_⟩:=h
 rw [cF.1 he];exact hk
theorem vz {c:List GFact} (hc:∀ f∈c,cb f = true) (day:Int):∀ f∈c,df day [7,8] f = true→0≤f.State:=by
 intro f hf ho
 have hk:=DC ho
 refine (xU (hc f hf) ?_).1
 simp at hk
 rcases hk with e | e <;> rw [e] <;> decide
structure pk (t:List GRules):Prop where
  le:t.length≤8
  ne:0 < t.length
  zero:(gD t 0 (zS .GRules)).From = 0
  ok:∀ (i:Nat) (hi:i < t.length),sZ t[i]∧L4 t[i].Members∧∀ h:0 < i,t[i - 1].From < t[i].From
theorem pk.mem {t:List GRules} (h:pk t) {r:GRules} (hr:r∈t):sZ r∧L4 r.Members:=by
 obtain ⟨i,hi,rfl⟩:=List.getElem_of_mem hr
 exact ⟨(h.ok i hi).1,(h.ok i hi).2.1⟩
theorem pk.small {t:List GRules} (h:pk t):Kw t:=⟨by have:=h.le;omega,fun r hr=>by have:=(h.mem hr).2.1;omega⟩
theorem pk.check {t:List GRules} (h:pk t):mH t = some 0:=H4 t h.le h.ne h.zero h.ok
theorem Jd (l:List GFact) (hl:l.length≤40) (t:List GRules) (ht:pk t) (p:List GPosting) (hp:CR p) (day:Int) (act:Int × Bool)
  (ha:(cX t day).2 = true→cy (ar l) day = true→da ⟨l.filter aG,ar l,p,t⟩ day (cX t day).1.Substantial = some act) :
  eo ⟨l.filter aG,ar l,p,t⟩ day = some (bif (cX t day).2&&cy (ar l) day then HD (l.filter aG) p (cX t day).1.PostingLimit act day else (-1,0)):=by
 have hcl:=List.length_filter_le aG l
 rw [lu,Gp t day ht.small,Option.bind_some]
 cases h1:(cX t day).2 with
 | false=>rfl
 | true =>
  rw [pL,Bool.not_true,cond_false,Option.bind_some]
  show (bif !(cy (ar l) day) then _ else _) = _
  cases h2:cy (ar l) day with
  | false=>rfl
  | true =>
   obtain ⟨hd,hm⟩:=vp h1
   obtain ⟨hr,_⟩:=ht.mem hm
   have ha:=ha h1 h2
   generalize cX t day = rr at hr ha
   obtain ⟨r,b⟩:=rr
   simp only at hr ha ⊢
   rw [JF _ day r.PostingLimit hp ⟨hr.2.2.2.2.1,hr.2.2.2.2.2.1⟩,MA _ day (by show (l.filter aG).length≤1000000;omega),ha,J7 _ day (by show (l.filter aG).length≤1000000;omega) (vz iT day),wh l day (by omega) hd h2]
   simp only [Option.bind_some,Bool.not_true,cond_false,Bool.and_self,cond_true]
   unfold HD
   by_cases hb:pc (l.filter aG) day < 0
   ·rw [if_pos hb,bu (p:=0≤pc (l.filter aG) day) (by omega)]
    cases (uM p day r.PostingLimit).2 <;> cases (nQ (l.filter aG) day).1 <;> cases act.2 <;> cases (jJ (l.filter aG) day).1 <;> rfl
   ·rw [if_neg hb,aM (p:=0≤pc (l.filter aG) day) (by omega)]
    cases (uM p day r.PostingLimit).2 <;> cases (nQ (l.filter aG) day).1 <;> cases act.2 <;> cases (jJ (l.filter aG) day).1 <;> rfl
theorem N4 {c:List GFact} {life:GSpan} {p:List GPosting} (hp:p.Perm ((lc 0 6).flatMap (dZ c life))) (hl:p.length≤1476):CR p:=by
 refine ⟨by omega,fun a ha=>?_⟩
 obtain ⟨r,_,h⟩:=List.mem_flatMap.1 (hp.mem_iff.1 ha)
 have h2:=yT a h
 have:=Ja (nN (aW c ⟨a.Seat,a.State⟩) life).1 (by omega) _ h2
 omega
theorem Qk {t:List GRules} (h:HJ t):pk t:=by
 obtain ⟨p,h1,h2,rfl | rfl | rfl⟩:=h
 ·refine ⟨by simp [EP],by simp [EP],rfl,fun i hi=>?_⟩
  have:i = 0:=by simp [EP] at hi;omega
  subst this
  exact ⟨by simp [EP,sZ];omega,⟨by simp [EP],fun k hk=>by
   have:k = 0∨k = 1∨k = 2:=by simp [EP] at hk;omega
   rcases this with rfl | rfl | rfl <;> simp [EP]⟩,fun h=>by omega⟩
 ·refine ⟨by simp [tw],by simp [tw],rfl,fun i hi=>?_⟩
  have:i = 0∨i = 1:=by simp [tw] at hi;omega
  rcases this with rfl | rfl
  ·exact ⟨by simp [tw,sZ];omega,⟨by simp [tw],fun k hk=>by
    have:k = 0∨k = 1:=by simp [tw] at hk;omega
    rcases this with rfl | rfl <;> simp [tw]⟩,fun h=>by omega⟩
  ·exact ⟨by simp [tw,sZ];omega,⟨by simp [tw],fun k hk=>by
    have:k = 0∨k = 1∨k = 2:=by simp [tw] at hk;omega
    rcases this with rfl | rfl | rfl <;> simp [tw]⟩,fun h=>by simp [tw]⟩
 ·refine ⟨by simp [tV],by simp [tV],rfl,fun i hi=>?_⟩
  have:i = 0∨i = 1:=by simp [tV] at hi;omega
  rcases this with rfl | rfl
  ·exact ⟨by simp [tV,sZ];omega,⟨by simp [tV],fun k hk=>by
    have:k = 0∨k = 1∨k = 2:=by simp [tV] at hk;omega
    rcases this with rfl | rfl | rfl <;> simp [tV]⟩,fun h=>by omega⟩
  ·exact ⟨by simp [tV,sZ];omega,⟨by simp [tV],fun k hk=>by
    have:k = 0∨k = 1:=by simp [tV] at hk;omega
    rcases this with rfl | rfl <;> simp [tV]⟩,fun h=>by simp [tV]⟩
end Go.Ax
set_option linter.all false
/- LawResidence. -/
set_option maxRecDepth 100000
namespace Go.Ax
theorem rZ (l:List GFact) (k:Int):0≤(ca l k).1∧(ca l k).1≤73048:=by
 unfold ca
 have hv:∀ f∈l.filter aG,cb f = true:=iT
 generalize l.filter aG = c at hv
 have key:∀ (c:List GFact) (a:Int × Bool),(∀ f∈c,cb f = true)→0≤a.1∧a.1≤73048→0≤(c.foldl (fun a f=>yH k f a) a).1∧(c.foldl (fun a f=>yH k f a) a).1≤73048:=by
  intro c
  induction c with
  | nil=>intro a _ h;exact h
  | cons f r ih =>
   intro a hv h
   rw [List.foldl_cons]
   refine ih _ (fun g hg=>hv g (by simp [hg])) ?_
   have hs:=((gN f).1 (hv f (by simp))).2.2.2.2.2.2.2.1
   unfold yH
   split
   ·show 0≤f.Span.From∧f.Span.From≤73048
    omega
   ·exact h
 exact key c (0,false) hv ⟨by simp,by simp⟩
theorem I7 {l:List GFact} {day:Int} (h:cy (ar l) day = true):0≤day∧day≤73048:=by
 have h1:=rZ l 11
 have h2:=rZ l 12
 unfold cy at h
 rw [fW,Bool.and_eq_true] at h
 have a:=dX h.1
 have b:=dX h.2
 unfold ar at a b
 simp only at a b
 have hd:0≤(if (ca l 12).2 = true then (ca l 12).1 else 73048)∧(if (ca l 12).2 = true then (ca l 12).1 else 73048)≤73048:=by split <;> omega
 generalize (if (ca l 12).2 = true then (ca l 12).1 else 73048) = d at a b hd
 split at a
 ·next hc=>rw [if_pos hc] at b;simp only at a b;omega
 ·next hc=>rw [if_neg hc] at b;simp only at a b;rw [al (by omega) (by omega)] at b;omega
end Go.Ax
set_option linter.all false
/- The law by activity, on both sides. -/
set_option maxRecDepth 100000
namespace Go.Ax
theorem Aw {a b:List Int} (ha:a.Pairwise (· < ·)) (hb:b.Pairwise (· < ·)) (h:∀ x,x∈a↔x∈b):a = b :=
 List.Perm.eq_of_pairwise (le:=fun x y=>x < y) (fun x y _ _ h1 h2=>by omega) ha hb ((List.perm_ext_iff_of_nodup (ha.imp fun h=>Int.ne_of_lt h) (hb.imp fun h=>Int.ne_of_lt h)).2 h)
theorem NJ {k:List Int} (h:k.Nodup):(aT k).Pairwise (· < ·):=by
 have h1:=gH k
 have h2:(aT k).Nodup:=(dv k).nodup_iff.2 h
 exact (h1.and h2).imp fun ⟨a,b⟩=>by omega
theorem sw:∀ (l:List Int),l.Pairwise (·≤·)→(bB l).Pairwise (· < ·)∧∀ x,x∈bB l↔x∈l
 | [],_=>⟨by simp [bB],by simp [bB]⟩
 | [x],_=>⟨by simp [bB],by simp [bB]⟩
 | x :: y :: r,h=>by
  have h2:=List.pairwise_cons.1 h
  obtain ⟨i1,i2⟩:=sw (y :: r) h2.2
  have e:bB (x :: y :: r) = bif af x y then bB (y :: r) else x :: bB (y :: r):=rfl
  rw [e]
  cases hc:af x y with
  | true =>
   have hxy:=cF.1 hc
   rw [cond_true]
   exact ⟨i1,fun z=>by rw [i2 z,hxy];simp⟩
  | false =>
   have hxy:=jT.1 hc
   rw [cond_false]
   refine ⟨List.pairwise_cons.2 ⟨fun z hz=>?_,i1⟩,fun z=>by rw [List.mem_cons,List.mem_cons,i2 z]⟩
   have h3:=h2.1 z ((i2 z).1 hz)
   have h4:=h2.1 y (by simp)
   rcases List.mem_cons.1 ((i2 z).1 hz) with rfl | hz'
   ·omega
   ·have:=(List.pairwise_cons.1 h2.2).1 z hz'
    omega
def br (s:Int):List GFact→Int
 | []=>0
 | f :: r=>(if f.State = s then f.Share else 0)+br s r
def eV:List GFact→Int
 | []=>0
 | f :: r=>f.Share+eV r
theorem FB (s:Int) (f:GFact):∀ l,br s (l++[f]) = br s l+if f.State = s then f.Share else 0
 | []=>by simp [br]
 | g :: r=>by rw [List.cons_append,br,br,FB s f r];omega
theorem FS (f:GFact):∀ l,eV (l++[f]) = eV l+f.Share
 | []=>by simp [eV]
 | g :: r=>by rw [List.cons_append,eV,eV,FS f r];omega
def Ky (w:List GFact):Prop:=∀ f∈w,(0≤f.State∧f.State < 6)∧1≤f.Share∧f.Share≤100
theorem ux (s:Int):∀ (w:List GFact),Ky w→0≤br s w∧br s w≤100*(w.length:Int)
 | [],_=>by simp [br]
 | f :: r,h=>by
  have:=ux s r fun g hg=>h g (by simp [hg])
  have hf:=h f (by simp)
  rw [br,List.length_cons]
  split <;> omega
theorem AW:∀ (w:List GFact),Ky w→0≤eV w∧eV w≤100*(w.length:Int)
 | [],_=>by simp [eV]
 | f :: r,h=>by
  have:=AW r fun g hg=>h g (by simp [hg])
  have hf:=h f (by simp)
  rw [eV,List.length_cons]
  omega
theorem Bf (s:Int):∀ (w:List GFact),Ky w→(0 < br s w↔∃ f∈w,f.State = s)
 | [],_=>by simp [br]
 | f :: r,h=>by
  have hr:Ky r:=fun g hg=>h g (by simp [hg])
  have i:=Bf s r hr
  have n:=(ux s r hr).1
  have hf:=h f (by simp)
  rw [br]
  by_cases e:f.State = s
  ·rw [if_pos e]
   exact ⟨fun _=>⟨f,by simp,e⟩,fun _=>by omega⟩
  ·rw [if_neg e,show (0:Int)+br s r = br s r by omega,i]
   exact ⟨fun ⟨g,hg,e2⟩=>⟨g,by simp [hg],e2⟩,fun ⟨g,hg,e2⟩=>by
    rcases List.mem_cons.1 hg with rfl | hg
    ·exact absurd e2 e
    ·exact ⟨g,hg,e2⟩⟩
def L6:List Int:=[0,1,2,3,4,5]
def gp (w:List GFact):List Int:=L6.filter fun s=>aa (0 < br s w)
theorem Kd (w:List GFact) (s:Int):s∈gp w↔(0≤s∧s < 6)∧0 < br s w:=by
 unfold gp
 rw [List.mem_filter]
 have:s∈L6↔0≤s∧s < 6:=by simp [L6];omega
 rw [this]
 simp [aa]
theorem PV (w:List GFact):(gp w).Pairwise (· < ·):=List.Pairwise.sublist List.filter_sublist (by decide)
def Fb (sm:Int→Int) (b s:Int):Int:=bif aa (b < 0)||aa (sm b < sm s) then s else b
def mX (w:List GFact):Int:=(gp w).foldl (Fb fun s=>br s w) (-1)
def Dt (w:List GFact) (e:List Int) (home:Int) (bI:Bool) (sub:Int):Int × Bool :=
 bif af ((gp w).length:Int) 0 then (0,false) else bif af ((gp w).length:Int) 1 then (mX w,true) else
 bif bI&&(aa (0 < br home w)&&aa (sub*eV w≤100*br home w)) then (home,true) else
 bif af (e.length:Int) 1 then (gD e 0 0,true) else
 bif bI&&(af (e.length:Int) 2&&af (gD e 0 0) home) then (gD e 1 0,true) else
 bif bI&&(af (e.length:Int) 2&&af (gD e 1 0) home) then (gD e 0 0,true) else
 bif bI then (home,true) else (mX w,true)
def Db (w1:List GFact) (e:List Int):Prop:=N2 e∧(∀ x,x∈e↔∃ f∈w1,f.Seat = x)∧e.length≤w1.length
theorem EI (w1:List GFact) (hl:w1.length≤1000000) (e:List Int) (he:Db w1 e):gk w1 = some e:=by
 rw [nr]
 have lp:=Q2 w1 (fun i out=>bz w1 (w1.length:Int) i out) (fun _=>true) GFact.Seat fun i out hi ho=>by
  show bz _ _ _ _ = bz _ _ _ _
  rw [dh]
  simp only [cB hi,cz,cond_true,aO,Bool.or_true,bP hi,bS hi (by omega)]
  rw [sL];rfl
 refine lp.trans ?_
 show bz _ _ _ _ = _
 rw [List.filter_eq_self.2 fun _ _=>rfl,dh,cm,cond_false,aN (by simpa using hl),aN (by rw [(dv _).length_eq];simpa using hl)]
 congr 1
 obtain ⟨c1,c2⟩:=sw _ (gH (w1.map GFact.Seat))
 refine Aw c1 he.1 fun x=>?_
 rw [c2 x,(dv _).mem_iff,he.2.1 x,List.mem_map]
abbrev tI:Ty:=.i .i64
theorem Ck (ks:List Int) (k:Int):(aD tI ks k = ks.length∧k ∉ ks)∨(aD tI ks k < ks.length∧ks[aD tI ks k]? = some k):=pS (q:=.i64) ks k
theorem GO (k:List Int) (y:Int):dJ tI k y = true↔y∈k:=by
 unfold dJ
 rw [Nat.blt_eq]
 rcases Ck k y with ⟨h,hn⟩ | ⟨h1,h2⟩
 ·exact ⟨fun h'=>by have h'':aD tI k y < k.length:=h'; have h3:aD tI k y = k.length:=h;omega,fun h'=>absurd h' hn⟩
 ·exact ⟨fun _=>List.mem_of_getElem? h2,fun _=>h1⟩
theorem qq {k v:List Int} {z:Int} (hl:k.length = v.length) (h:z ∉ k):cd tI k v z 0 = 0:=by
 unfold cd
 rcases Ck k z with ⟨h1,_⟩ | ⟨_,h2⟩
 ·have h1':aD tI k z = k.length:=h1
  rw [h1',List.getD_eq_getElem?_getD,List.getElem?_eq_none (by omega)];rfl
 ·exact absurd (List.mem_of_getElem? h2) h
theorem xb {k v:List Int} (hnd:k.Nodup) {p:Nat} (hp:p < k.length):cd tI k v k[p] 0 = v.getD p 0:=by
 unfold cd
 rcases Ck k k[p] with ⟨_,h1⟩ | ⟨h1,h2⟩
 ·exact absurd (List.getElem_mem hp) h1
 ·have h1':aD tI k k[p] < k.length:=h1
  have h2':k[aD tI k k[p]]? = some k[p]:=h2
  rw [List.getElem?_eq_getElem h1'] at h2'
  have:=(List.getElem_inj hnd).1 (Option.some.inj h2')
  rw [this]
structure I8 (k v:List Int) (w:List GFact):Prop where
  nd:k.Nodup
  len:k.length = v.length
  mem:∀ z,z∈k↔∃ f∈w,f.State = z
  val:∀ z,cd tI k v z 0 = br z w
  le:k.length≤w.length
theorem I8.put {k v:List Int} {w:List GFact} (h:I8 k v w) (f:GFact):I8 (cO tI k f.State) (cQ tI k v f.State (cd tI k v f.State 0+f.Share)) (w++[f]):=by
 have hmem:∀ z,(∃ g∈w++[f],g.State = z)↔(∃ g∈w,g.State = z)∨z = f.State:=by
  intro z
  constructor
  ·rintro ⟨g,hg,e⟩
   rcases List.mem_append.1 hg with hg | hg
   ·exact .inl ⟨g,hg,e⟩
   ·simp at hg;subst hg;exact .inr e.symm
  ·rintro (⟨g,hg,e⟩ | e)
   ·exact ⟨g,by simp [hg],e⟩
   ·exact ⟨f,by simp,e.symm⟩
 generalize hy:f.State = y at hmem
 have hval:∀ z,br z (w++[f]) = br z w+if y = z then f.Share else 0:=fun z=>by rw [FB,hy]
 by_cases hin:y∈k
 ·have e1:cO tI k y = k:=by unfold cO;rw [(GO k y).2 hin];rfl
  obtain ⟨p,hp,hpy⟩:=List.getElem_of_mem hin
  have ef:aD tI k y = p:=by
   rcases Ck k y with ⟨_,h1⟩ | ⟨h1,h2⟩
   ·exact absurd hin h1
   ·have h1':aD tI k y < k.length:=h1
    have h2':k[aD tI k y]? = some y:=h2
    rw [List.getElem?_eq_getElem h1'] at h2'
    exact (List.getElem_inj h.nd).1 ((Option.some.inj h2').trans hpy.symm)
  have e2:∀ a,cQ tI k v y a = v.set p a:=fun a=>by unfold cQ;rw [(GO k y).2 hin,ef];rfl
  rw [e1,e2]
  refine ⟨h.nd,by rw [List.length_set];exact h.len,fun z=>?_,fun z=>?_,by simp;have:=h.le;omega⟩
  ·rw [hmem z,h.mem z]
   exact ⟨.inl,fun h'=>h'.elim id fun e=>by subst e;exact (h.mem z).1 hin⟩
  ·rw [hval z]
   by_cases hz:z∈k
   ·obtain ⟨q,hq,rfl⟩:=List.getElem_of_mem hz
    rw [xb h.nd hq, ← h.val,xb h.nd hq,List.getD_eq_getElem?_getD,List.getD_eq_getElem?_getD,List.getElem?_set]
    by_cases hpq:p = q
    ·subst hpq
     rw [if_pos rfl,if_pos (by have:=h.len;omega),if_pos hpy.symm, ← hpy,xb h.nd hp,List.getD_eq_getElem?_getD];rfl
    ·rw [if_neg hpq,if_neg (fun e=>hpq ((List.getElem_inj h.nd).1 (hpy.trans e)))]
     omega
   ·rw [qq (by rw [List.length_set];exact h.len) hz, ← h.val,qq h.len hz,if_neg (fun (e:y = z)=>hz (e ▸ hin))];rfl
 ·have hno:dJ tI k y = false:=by
   cases hb:dJ tI k y with
   | false=>rfl
   | true=>exact absurd ((GO k y).1 hb) hin
  have e1:cO tI k y = k++[y]:=by unfold cO;rw [hno];rfl
  have e2:∀ a,cQ tI k v y a = v++[a]:=fun a=>by unfold cQ;rw [hno];rfl
  have hnd:(k++[y]).Nodup:=by
   rw [List.nodup_append]
   exact ⟨h.nd,by simp,fun a ha b hb=>by simp at hb;subst hb;exact fun e=>hin (e ▸ ha)⟩
  rw [e1,e2,qq h.len hin]
  refine ⟨hnd,by simp [h.len],fun z=>?_,fun z=>?_,by simp;exact h.le⟩
  ·rw [hmem z,List.mem_append,h.mem z];simp
  ·rw [hval z, ← h.val]
   by_cases hz:z∈k++[y]
   ·obtain ⟨q,hq,rfl⟩:=List.getElem_of_mem hz
    rw [xb hnd hq]
    simp only [List.length_append,List.length_singleton] at hq
    have hlen:=h.len
    by_cases hqk:q < k.length
    ·rw [List.getElem_append_left hqk,xb h.nd hqk,if_neg (fun (e:y = k[q])=>hin (e ▸ List.getElem_mem hqk)),List.getD_eq_getElem?_getD,List.getD_eq_getElem?_getD,List.getElem?_append_left (by omega)]
     omega
    ·have:q = k.length:=by omega
     subst this
     rw [List.getElem_concat_length rfl,if_pos rfl,qq h.len hin,List.getD_eq_getElem?_getD,hlen,List.getElem?_concat_length];rfl
   ·rw [qq (by simp [h.len]) hz]
    have h1:z ∉ k:=fun h'=>hz (by simp [h'])
    have h2:y≠z:=fun h'=>hz (by simp [h'])
    rw [qq h.len h1,if_neg h2];rfl
theorem Ql {c:List GFact} (hc:∀ f∈c,cb f = true) (day:Int):Ky (c.filter (df day [1,2])):=by
 intro f hf
 obtain ⟨h1,h2⟩:=List.mem_filter.1 hf
 have hk:=DC h2
 simp at hk
 have hv:=hc f h1
 refine ⟨xU hv (by rcases hk with e | e <;> rw [e] <;> decide), ?_⟩
 have hs:=((gN f).1 hv).2.2.2.2.2.2.2.2.1
 have hb:cT f.Kind 72 = true:=by rcases hk with e | e <;> rw [e] <;> decide
 rw [hb] at hs
 unfold bF at hs
 rw [if_pos rfl,lx] at hs
 omega
theorem FA {T:Type} {l:List T} {i:Nat} (hi:i < l.length):l.take (i+1) = l.take i++[l[i]]:=by rw [List.take_succ,List.getElem?_eq_getElem hi];rfl
theorem F0 (sm:Int→Int):∀ (l:List Int) (b:Int),0≤b→(∀ x∈l,0≤x)→l.foldl (fun b s=>bif aa (sm b < sm s) then s else b) b = l.foldl (Fb sm) b
 | [],_,_,_=>rfl
 | x :: r,b,hb,h=>by
  rw [List.foldl_cons,List.foldl_cons]
  have e:Fb sm b x = bif aa (sm b < sm x) then x else b:=by unfold Fb;rw [bu (p:=b < 0) (by omega),Bool.false_or]
  rw [e]
  refine F0 sm r _ ?_ fun y hy=>h y (by simp [hy])
  cases aa (sm b < sm x) with
  | true=>exact h x (by simp)
  | false=>exact hb
theorem IA (x:GCompetence_life) (day sub:Int) (hl:x.facts.length≤40) (hv:∀ f∈x.facts,cb f = true) (hsub:0≤sub∧sub≤100) (e:List Int) (he:Db (x.facts.filter (df day [1])) e) (home:Int) (bI:Bool)
  (hres:db x.facts day = some (home,bI)) (hh:bI = true→0≤home∧home < 6) :
  da x day sub = some (Dt (x.facts.filter (df day [1,2])) e home bI sub):=by
 rw [iU,qM _ _ _ (by omega) (by decide),Option.bind_some]
 have hw:=Ql hv day
 have hwl:=Nat.le_trans (List.length_filter_le (df day [1,2]) x.facts) hl
 have hw1:=Nat.le_trans (List.length_filter_le (df day [1]) x.facts) hl
 have seats_rng:∀ y∈e,0≤y∧y < 6:=by
  intro y hy
  obtain ⟨f,hf,rfl⟩:=(he.2.1 y).1 hy
  obtain ⟨h1,h2⟩:=List.mem_filter.1 hf
  have hk:=DC h2
  simp at hk
  have hs:=((gN f).1 (hv f h1)).2.2.2.2.2.2.1
  have hb:cT f.Kind 84 = true:=by rw [hk];decide
  rw [hb] at hs
  unfold bF at hs
  rw [if_pos rfl,lx] at hs
  omega
 have hseats:=EI _ (by omega) e he
 have hon1:=qM x day [1] (by omega) (by decide)
 generalize x.facts.filter (df day [1,2]) = w at hw hwl
 obtain ⟨h1,h2,h3⟩:=mz w (fun i (s:Int × List Int × List Int)=>aK day sub s.1 (w.length:Int) i x s.2.1 s.2.2 w)
  (fun s f=>(ac (s.1+f.Share),cO tI s.2.1 f.State,cQ tI s.2.1 s.2.2 f.State (ac (cd tI s.2.1 s.2.2 f.State 0+f.Share))))
  (fun i s=>I8 s.2.1 s.2.2 (w.take i)∧s.1 = eV (w.take i)) (fun i s hi hs=>by
   obtain ⟨m,ht⟩:=hs
   have hp:Ky (w.take i):=fun g hg=>hw g (List.mem_of_mem_take hg)
   have r1:=AW _ hp
   have r2:=ux w[i].State _ hp
   have hlt:(w.take i).length≤40:=by rw [List.length_take];omega
   have hf:=hw _ (List.getElem_mem hi)
   refine ⟨?_, ?_, ?_⟩
   ·show aK _ _ _ _ _ _ _ _ _ = aK _ _ _ _ _ _ _ _ _
    rw [bM]
    simp only [cB hi,cz,cond_true,aO,Bool.or_true,bP hi,bS hi (by omega)]
   ·rw [FA hi]
    have:=m.put w[i]
    show I8 _ (cQ tI s.2.1 s.2.2 w[i].State (ac _)) _
    rw [al (n:=cd tI s.2.1 s.2.2 w[i].State 0+w[i].Share) (by rw [m.val];omega) (by rw [m.val];omega)]
    exact this
   ·rw [FA hi,FS,ht]
    show ac _ = _
    rw [al (by omega) (by omega)]) (0,[],[]) ⟨⟨by simp,rfl,by simp,fun z=>by rw [List.take_zero];exact qq rfl (by simp),by simp⟩,by simp [eV]⟩
 refine Eq.trans h1 ?_
 generalize w.foldl _ _ = s at h2 h3
 obtain ⟨tot,k,v⟩:=s
 rw [List.take_length] at h2 h3
 simp only at h2 h3
 subst h3
 show aK _ _ _ _ _ _ k v _ = _
 have hkin:∀ z∈k,0≤z∧z < 6:=fun z hz=>by
  obtain ⟨f,hf,rfl⟩:=(h2.mem z).1 hz
  exact (hw f hf).1
 have hkl:k.length≤40:=by have:=h2.le;omega
 have hwf:Kb k = true:=by
  unfold Kb
  rw [List.all_eq_true]
  intro z hz
  have:=hkin z hz
  rw [aM (by omega),aM (by omega)];rfl
 have hst:aT k = gp w:=by
  refine Aw (NJ h2.nd) (PV w) fun z=>?_
  rw [(dv k).mem_iff,h2.mem z,Kd,Bf z w hw]
  exact ⟨fun ⟨f,hf,e⟩=>⟨e ▸ (hw f hf).1,f,hf,e⟩,fun h=>h.2⟩
 have hhas:dJ tI k home = true↔0 < br home w:=by rw [GO,h2.mem,Bf _ w hw]
 rw [bM,cm,cond_false,aN hwf,aN (by omega),hst,hres,hon1,Option.bind_some,Option.bind_some,hseats,Option.bind_some]
 have hge:∀ z∈gp w,0≤z:=fun z hz=>((Kd w z).1 hz).1.1
 have hsl:(gp w).length≤6:=by
  unfold gp
  exact Nat.le_trans (List.length_filter_le _ _) (by simp [L6])
 have r1:=AW w hw
 have r2:=ux home w hw
 have hg:cd (.i .i64) k v home 0 = br home w:=h2.val home
 have hmul:0≤sub*eV w∧sub*eV w≤400000:=by
  refine ⟨Int.mul_nonneg hsub.1 r1.1, ?_⟩
  have h5:sub*eV w≤100*eV w:=Int.mul_le_mul_of_nonneg_right hsub.2 r1.1
  omega
 simp only [hg]
 rw [al (n:=sub*eV w) (by omega) (by omega),al (n:=100*br home w) (by omega) (by omega)]
 have hh':(bif (bif bI then dJ (.i .i64) k home else false) then aa (sub*eV w≤100*br home w) else false) = (bI&&(aa (0 < br home w)&&aa (sub*eV w≤100*br home w))):=by
  have:dJ (.i .i64) k home = aa (0 < br home w):=by
   by_cases h:0 < br home w
   ·rw [aM h];exact hhas.2 h
   ·rw [bu h]
    cases hb:dJ (.i .i64) k home with
    | false=>rfl
    | true=>exact absurd (hhas.1 hb) h
  rw [this]
  cases bI <;> cases aa (0 < br home w) <;> rfl
 rw [hh']
 have hloop:0 < (gp w).length→aA (gD (gp w) 0 0) ((gp w).length:Int) 0 k v (gp w) = some (mX w,true):=by
  intro h0
  have lp:=(mz (gp w) (fun i b=>aA b ((gp w).length:Int) i k v (gp w)) (fun b s=>bif aa (br b w < br s w) then s else b) (fun _ _=>True) (fun i b hi _=>⟨by
   show aA _ _ _ _ _ _ = aA _ _ _ _ _ _
   rw [fD]
   simp only [cB hi,cz,cond_true,aO,Bool.or_true,bP hi,bS hi (by omega)]
   have g1:cd (.i .i64) k v b 0 = br b w:=h2.val b
   have g2:cd (.i .i64) k v (gp w)[i] 0 = br (gp w)[i] w:=h2.val _
   rw [g1,g2]
   cases aa (br b w < br (gp w)[i] w) <;> rfl,trivial⟩) (gD (gp w) 0 0) trivial).1
  refine lp.trans ?_
  show aA _ _ _ _ _ _ = _
  rw [fD,cm,cond_false]
  unfold mX
  cases hs:gp w with
  | nil=>rw [hs] at h0;simp at h0
  | cons a r =>
   rw [hs] at hge
   have ha:=hge a (by simp)
   show some (List.foldl _ a (a :: r),true) = _
   rw [List.foldl_cons,List.foldl_cons,bu (p:=br a w < br a w) (by omega),cond_false,F0 _ r a ha fun x hx=>hge x (by simp [hx])]
   have:Fb (fun s=>br s w) (-1) a = a:=by unfold Fb;rw [aM (p:=(-1:Int) < 0) (by omega)];rfl
   rw [this]
 have hone:(gp w).length = 1→gD (gp w) 0 0 = mX w:=by
  intro h
  unfold mX
  match hs:gp w,h with
  | [a],_ =>
   have:Fb (fun s=>br s w) (-1) a = a:=by unfold Fb;rw [aM (p:=(-1:Int) < 0) (by omega)];rfl
   rw [List.foldl_cons,List.foldl_nil,this];rfl
 unfold Dt
 cases h0:af ((gp w).length:Int) 0 with
 | true=>rfl
 | false =>
  have h0':=jT.1 h0
  rw [cond_false,cond_false]
  cases h1':af ((gp w).length:Int) 1 with
  | true =>
   rw [cond_true,cond_true,aN (by omega),hone (by have:=cF.1 h1'; omega)]
  | false =>
   rw [cond_false,cond_false]
   cases hc:(bI&&(aa (0 < br home w)&&aa (sub*eV w≤100*br home w))) with
   | true=>rfl
   | false =>
    rw [cond_false,cond_false]
    cases he1:af (e.length:Int) 1 with
    | true =>
     rw [cond_true,cond_true,aN (by have:=cF.1 he1;omega)]
    | false =>
     rw [cond_false,cond_false,hloop (by omega)]
     have g0:∀ o:Option (Int × Bool),(gb (aa (0 < ((gp w).length:Int))) o) = o:=fun o=>aN (by omega)
     simp only [g0]
     cases bI with
     | false=>rfl
     | true =>
      cases he2:af (e.length:Int) 2 with
      | false=>rfl
      | true =>
       have hel:e.length = 2:=by have:=cF.1 he2;omega
       rw [cond_true,cond_true,yu _ _ (by omega),Option.bind_some]
       match e,hel with
       | [a,b],_ =>
        have hab:=seats_rng a (by simp)
        have hbb:=seats_rng b (by simp)
        have hho:=hh rfl
        have es:[a,b].any (fun k=>af home k) = (af home a||af home b):=by simp
        rw [es]
        show (bif _ then (gb _<|gb _<|some (ac (ac (a+b) - home),true)) else some (home,true)) = some (bif (true&&(true&&af a home)) then (b,true) else bif (true&&(true&&af b home)) then (a,true) else (home,true))
        rw [aN (by simp),aN (by simp),al (n:=a+b) (by omega) (by omega),al (n:=a+b - home) (by omega) (by omega)]
        by_cases ea:home = a
        ·rw [cF.2 ea,cF.2 ea.symm]
         simp;omega
        ·by_cases eb:home = b
         ·rw [jT.2 ea,jT.2 (Ne.symm ea),cF.2 eb,cF.2 eb.symm]
          simp;omega
         ·rw [jT.2 ea,jT.2 (Ne.symm ea),jT.2 eb,jT.2 (Ne.symm eb)]
          rfl
end Go.Ax
set_option linter.all false
/- The document's law by activity; LawDays. -/
set_option maxRecDepth 100000
namespace Go.Ax
theorem FV {T:Type} (p:T→Bool) (bt:T→T→Bool):∀ (l:List T) (s:Bool × T),(l.foldl (cD p bt) s).1 = true→(s.1 = true∧l.foldl (cD p bt) s = s)∨((l.foldl (cD p bt) s).2∈l∧p (l.foldl (cD p bt) s).2 = true)
 | [],s,h=>.inl ⟨h,rfl⟩
 | f :: l,s,h=>by
  rw [List.foldl_cons] at h ⊢
  rcases FV p bt l _ h with ⟨h1,h2⟩ | ⟨h1,h2⟩
  ·rw [h2]
   unfold cD at h1 ⊢
   cases hc:(p f&&(!s.1||bt s.2 f)) with
   | true=>rw [cond_true];exact .inr ⟨by simp,(Bool.and_eq_true _ _ ▸ hc).1⟩
   | false=>rw [hc,cond_false] at h1;rw [cond_false];exact .inl ⟨h1,rfl⟩
  ·exact .inr ⟨by simp [h1],h2⟩
theorem Qx {c:List GFact} (hv:∀ f∈c,cb f = true) (day:Int):(jJ c day).1 = true→0≤(jJ c day).2.State∧(jJ c day).2.State < 6:=by
 intro h
 unfold jJ at h ⊢
 rcases FV _ _ _ _ h with ⟨h1,_⟩ | ⟨h1,h2⟩
 ·cases h1
 ·refine xU (hv _ h1) ?_
  generalize (c.foldl (cD (Ba day) Kf) (false,zS .GFact)).2 = g at h2 ⊢
  unfold Ba at h2
  have:=cF.1 (Bool.and_eq_true _ _ ▸ h2).1
  rw [this];decide
theorem NZ (n:List Int) (hn:n.length≤9223372036854775807) (limit:Int):En pk (sW n limit):=by
 rw [DQ]
 refine .bind (PO n hn) fun y hy=>?_
 have hck:=Qk hy
 refine En.bif (fun _=>?_) fun _=>.some hck
 generalize y.2.1 = t at hck
 have key:∀ (k i:Nat) (t:List GRules),t.length = i+k→pk t→En pk (jf limit (i:Int) t):=by
  intro k
  induction k with
  | zero =>
   intro i t hk ht
   have:i = t.length:=by omega
   subst this
   rw [m9,cm,cond_false]
   exact .some ht
  | succ k ih =>
   intro i t hk ht
   have hi:i < t.length:=by omega
   have hle:=ht.le
   rw [m9,cB hi,cond_true]
   refine .bind (nO _ 50 (by decide) (by decide)) fun q hq=>.bind (nO _ 101 (by decide) (by decide)) fun s hs=>?_
   rw [cz,aO,aO,aO]
   generalize hA:(⟨(gD t ((i:Nat):Int).toNat (zS .GRules)).From,(gD t ((i:Nat):Int).toNat (zS .GRules)).MinDays,q,(gD t ((i:Nat):Int).toNat (zS .GRules)).Substantial,(gD t ((i:Nat):Int).toNat (zS .GRules)).Members⟩:GRules) = A
   have hin:((i:Nat):Int).toNat = i:=by omega
   have eA:A = ⟨t[i].From,t[i].MinDays,q,t[i].Substantial,t[i].Members⟩:=by rw [← hA,bP hi]
   rw [hin]
   have gA:gD (List.set t i A) i (zS .GRules) = A:=by
    unfold gD
    rw [List.getD_eq_getElem?_getD,List.getElem?_set,if_pos rfl,if_pos hi];rfl
   rw [gA,List.length_set,List.set_set,bS hi (by omega),aN (by omega)]
   refine ih (i+1) _ (by rw [List.length_set];omega) ?_
   have eB:(⟨A.From,A.MinDays,A.PostingLimit,s,A.Members⟩:GRules) = ⟨t[i].From,t[i].MinDays,q,s,t[i].Members⟩:=by rw [eA]
   rw [eB]
   have hF:∀ (j:Nat) (hj:j < t.length),((t.set i ⟨t[i].From,t[i].MinDays,q,s,t[i].Members⟩)[j]'(by rw [List.length_set];exact hj)).From = t[j].From:=by
    intro j hj
    rw [List.getElem_set]
    split
    ·next h=>subst h;rfl
    ·rfl
   refine ⟨by rw [List.length_set];exact ht.le,by rw [List.length_set];exact ht.ne, ?_,fun j hj=>?_⟩
   ·have h0:=ht.ne
    have e0:gD t 0 (zS .GRules) = t[0]:=bP (i:=0) h0
    have e1:gD (t.set i ⟨t[i].From,t[i].MinDays,q,s,t[i].Members⟩) 0 (zS .GRules) = (t.set i ⟨t[i].From,t[i].MinDays,q,s,t[i].Members⟩)[0]'(by rw [List.length_set];exact h0):=bP (i:=0) (by rw [List.length_set];exact h0)
    rw [e1,hF 0 h0, ← e0,ht.zero]
   ·have hj':j < t.length:=by rw [List.length_set] at hj;exact hj
    obtain ⟨o1,o2,o3⟩:=ht.ok j hj'
    refine ⟨?_, ?_,fun h=>?_⟩
    ·rw [List.getElem_set]
     split
     ·next h =>
      subst h
      exact ⟨o1.1,o1.2.1,o1.2.2.1,o1.2.2.2.1,hq.1,by show q≤73049;omega,hs.1,by show s≤100;omega⟩
     ·exact o1
    ·rw [List.getElem_set]
     split
     ·next h=>subst h;exact o2
     ·exact o2
    ·rw [hF j hj',hF (j - 1) (by omega)]
     exact o3 h
 exact key t.length 0 t (by omega) hck
end Go.Ax
set_option linter.all false
/- Segments of days with the same law: one list alone is in order, joined, and exact. -/
set_option maxRecDepth 100000
namespace Go.Ax
def lY (lo:Int) (lv:Int × Int):List GSegment→Prop
 | []=>True
 | s :: r=>(lo < s.Span.From∨(lo = s.Span.From∧lv≠(s.State,s.Rule)))∧s.Span.From < s.Span.To∧s.Rule≠0∧lY s.Span.To (s.State,s.Rule) r
def nM (lo:Int) (lv:Int × Int):List GSegment→Int × (Int × Int)
 | []=>(lo,lv)
 | s :: r=>nM s.Span.To (s.State,s.Rule) r
def qX (l:List GSegment) (d:Int) (v:Int × Int):Prop:=∃ s∈l,(s.Span.From≤d∧d < s.Span.To)∧(s.State,s.Rule) = v
theorem rF (x:GSegment):∀ (q:List GSegment) (lo:Int) (lv:Int × Int),nM lo lv (q++[x]) = (x.Span.To,(x.State,x.Rule))
 | [],_,_=>rfl
 | s :: r,_,_=>by rw [List.cons_append,nM];exact rF x r _ _
theorem rM (x:GSegment):∀ (q:List GSegment) (lo:Int) (lv:Int × Int),lY lo lv (q++[x])↔lY lo lv q∧((nM lo lv q).1 < x.Span.From∨((nM lo lv q).1 = x.Span.From∧(nM lo lv q).2≠(x.State,x.Rule)))∧x.Span.From < x.Span.To∧x.Rule≠0
 | [],lo,lv=>by simp [lY,nM]
 | s :: r,lo,lv=>by
  rw [List.cons_append,lY,lY,rM x r,nM]
  constructor
  ·rintro ⟨a,b,c,d,e⟩;exact ⟨⟨a,b,c,d⟩,e⟩
  ·rintro ⟨⟨a,b,c,d⟩,e⟩;exact ⟨a,b,c,d,e⟩
theorem zr:∀ (l:List GSegment) (lo:Int) (lv:Int × Int),lY lo lv l→∀ s∈l,lo≤s.Span.From∧s.Span.From < s.Span.To∧s.Rule≠0
 | [],_,_,_,s,hs=>by cases hs
 | x :: r,lo,lv,h,s,hs=>by
  obtain ⟨h1,h2,h3,h4⟩:=h
  rcases List.mem_cons.1 hs with rfl | hs
  ·exact ⟨by omega,h2,h3⟩
  ·have:=zr r _ _ h4 s hs
   exact ⟨by omega,this.2⟩
theorem vr:∀ (l:List GSegment) (lo:Int) (lv:Int × Int),lY lo lv l→lo≤(nM lo lv l).1∧∀ s∈l,s.Span.To≤(nM lo lv l).1
 | [],lo,lv,_=>⟨Int.le_refl _,fun s hs=>by cases hs⟩
 | x :: r,lo,lv,h=>by
  obtain ⟨h1,h2,h3,h4⟩:=h
  obtain ⟨i1,i2⟩:=vr r _ _ h4
  rw [nM]
  refine ⟨by omega,fun s hs=>?_⟩
  rcases List.mem_cons.1 hs with rfl | hs
  ·exact i1
  ·exact i2 s hs
theorem NQ {l:List GSegment} {lo:Int} {lv v:Int × Int} (h:lY lo lv l) (hc:qX l lo v):v≠lv:=by
 obtain ⟨s,hs,⟨h1,h2⟩,rfl⟩:=hc
 cases l with
 | nil=>cases hs
 | cons x r =>
  obtain ⟨a,b,c,d⟩:=h
  rcases List.mem_cons.1 hs with rfl | hs
  ·rcases a with a | ⟨a,e⟩
   ·omega
   ·exact fun h=>e h.symm
  ·have:=zr r _ _ d s hs
   omega
theorem HT:∀ (a b:List GSegment) (lo lo':Int) (lv lv':Int × Int),lY lo lv a→lY lo' lv' b→(∀ d v,qX a d v↔qX b d v)→a = b
 | [],[],_,_,_,_,_,_,_=>rfl
 | [],t :: u,_,_,_,_,_,hb,h=>by
  obtain ⟨s,hs,_⟩:=(h t.Span.From (t.State,t.Rule)).2 ⟨t,by simp,⟨Int.le_refl _,hb.2.1⟩,rfl⟩
  cases hs
 | s :: r,[],_,_,_,_,ha,_,h=>by
  obtain ⟨t,ht,_⟩:=(h s.Span.From (s.State,s.Rule)).1 ⟨s,by simp,⟨Int.le_refl _,ha.2.1⟩,rfl⟩
  cases ht
 | s :: r,t :: u,lo,lo',lv,lv',ha,hb,h=>by
  obtain ⟨a1,a2,a3,a4⟩:=ha
  obtain ⟨b1,b2,b3,b4⟩:=hb
  have la:=zr r _ _ a4
  have lb:=zr u _ _ b4
  have c1:=(h s.Span.From (s.State,s.Rule)).1 ⟨s,by simp,⟨Int.le_refl _,a2⟩,rfl⟩
  have c2:=(h t.Span.From (t.State,t.Rule)).2 ⟨t,by simp,⟨Int.le_refl _,b2⟩,rfl⟩
  have hF:s.Span.From = t.Span.From:=by
   obtain ⟨x,hx,⟨x1,x2⟩,_⟩:=c1
   obtain ⟨y,hy,⟨y1,y2⟩,_⟩:=c2
   have g1:t.Span.From≤s.Span.From:=by
    rcases List.mem_cons.1 hx with rfl | hx
    ·exact x1
    ·have:=lb x hx;omega
   have g2:s.Span.From≤t.Span.From:=by
    rcases List.mem_cons.1 hy with rfl | hy
    ·exact y1
    ·have:=la y hy;omega
   omega
  have hV:(s.State,s.Rule) = (t.State,t.Rule):=by
   obtain ⟨x,hx,⟨x1,x2⟩,x3⟩:=c1
   rcases List.mem_cons.1 hx with rfl | hx
   ·exact x3.symm
   ·have:=lb x hx;omega
  have hT:s.Span.To = t.Span.To:=by
   by_cases h1:s.Span.To < t.Span.To
   ·exfalso
    obtain ⟨x,hx,⟨x1,x2⟩,x3⟩:=(h s.Span.To (t.State,t.Rule)).2 ⟨t,by simp,⟨by omega,h1⟩,rfl⟩
    rcases List.mem_cons.1 hx with rfl | hx
    ·omega
    ·exact NQ a4 ⟨x,hx,⟨x1,x2⟩,x3⟩ hV.symm
   ·by_cases h2:t.Span.To < s.Span.To
    ·exfalso
     obtain ⟨x,hx,⟨x1,x2⟩,x3⟩:=(h t.Span.To (s.State,s.Rule)).1 ⟨s,by simp,⟨by omega,h2⟩,rfl⟩
     rcases List.mem_cons.1 hx with rfl | hx
     ·omega
     ·exact NQ b4 ⟨x,hx,⟨x1,x2⟩,x3⟩ hV
    ·omega
  have hst:s = t:=by
   obtain ⟨⟨f1,f2⟩,f3,f4⟩:=s
   obtain ⟨⟨g1,g2⟩,g3,g4⟩:=t
   simp only at hF hT
   have e3:=congrArg Prod.fst hV
   have e4:=congrArg Prod.snd hV
   simp only at e3 e4
   rw [hF,hT,e3,e4]
  subst hst
  congr 1
  refine HT r u _ _ _ _ a4 b4 fun d v=>?_
  have key:∀ (p q:List GSegment),(∀ x∈p,s.Span.To≤x.Span.From∧x.Span.From < x.Span.To∧x.Rule≠0)→(qX (s :: p) d v→qX (s :: q) d v)→qX p d v→qX q d v:=by
   intro p q hp hpq ⟨x,hx,⟨x1,x2⟩,x3⟩
   have:=hp x hx
   obtain ⟨y,hy,⟨y1,y2⟩,y3⟩:=hpq ⟨x,by simp [hx],⟨x1,x2⟩,x3⟩
   rcases List.mem_cons.1 hy with rfl | hy
   ·omega
   ·exact ⟨y,hy,⟨y1,y2⟩,y3⟩
  exact ⟨key r u la (h d v).1,key u r lb (h d v).2⟩
def ow (out:List GSegment):GSegment:=gD out (out.length - 1) (zS .GSegment)
def uX (out:List GSegment) (a:Int) (y:Int × Int):Bool:=aa (0 < out.length)&&(af (ow out).Span.To a&&(af (ow out).State y.1&&af (ow out).Rule y.2))
def nW (out:List GSegment) (a b:Int) (y:Int × Int):List GSegment :=
 bif af y.2 0 then out else bif uX out a y then List.set out (out.length - 1) ⟨⟨(ow out).Span.From,b⟩,(ow out).State,(ow out).Rule⟩ else out++[⟨⟨a,b⟩,y.1,y.2⟩]
theorem H2 (out:List GSegment) (a b:Int) (y:Int × Int):(nW out a b y).length≤out.length+1:=by
 unfold nW
 cases af y.2 0 with
 | true=>simp
 | false=>cases uX out a y <;> simp
structure K7 (F:Int→Int × Int) (out:List GSegment) (a:Int):Prop where
  ok:lY (-1) (0,0) out
  le:(nM (-1) (0,0) out).1≤a
  cov:∀ d v,d < a→(qX out d v↔F d = v∧v.2≠0)
theorem K7.step {F:Int→Int × Int} {out:List GSegment} {a b:Int} (h:K7 F out a) (hab:a < b) (hF:∀ d,a≤d→d < b→F d = F a) (ha:(F a).2≠0→0≤a):K7 F (nW out a b (F a)) b:=by
 have hhi:=vr out _ _ h.ok
 have hle:=h.le
 unfold nW
 cases h0:af (F a).2 0 with
 | true =>
  have hz:=cF.1 h0
  rw [cond_true]
  refine ⟨h.ok,by omega,fun d v hd=>?_⟩
  by_cases hda:d < a
  ·exact h.cov d v hda
  ·constructor
   ·rintro ⟨s,hs,⟨h1,h2⟩,_⟩
    have:=hhi.2 s hs;omega
   ·rintro ⟨h1,h2⟩
    rw [hF d (by omega) hd] at h1
    exact absurd (h1 ▸ hz) h2
 | false =>
  have hz:=jT.1 h0
  rw [cond_false]
  rcases mU out with rfl | ⟨q,x,rfl⟩
  ·have:uX [] a (F a) = false:=rfl
   rw [this,cond_false,List.nil_append]
   refine ⟨⟨.inl (by show (-1:Int) < a;have:=ha hz;omega),hab,hz,trivial⟩,Int.le_refl _,fun d v hd=>?_⟩
   by_cases hda:d < a
   ·have hc:=h.cov d v hda
    constructor
    ·rintro ⟨s,hs,⟨h1,h2⟩,_⟩
     simp at hs;subst hs
     exact absurd h1 (by show ¬ a≤d;omega)
    ·intro h'
     obtain ⟨s,hs,_⟩:=hc.2 h'
     cases hs
   ·constructor
    ·rintro ⟨s,hs,⟨h1,h2⟩,h3⟩
     simp at hs;subst hs
     have h3:F a = v:=h3
     exact ⟨(hF d (by omega) hd).trans h3,h3 ▸ hz⟩
    ·rintro ⟨h1,h2⟩
     exact ⟨⟨⟨a,b⟩,(F a).1,(F a).2⟩,List.mem_singleton.2 rfl,⟨by show a≤d;omega,hd⟩,(hF d (by omega) hd).symm.trans h1⟩
  ·have hlast:ow (q++[x]) = x:=by
    unfold ow
    rw [show (q++[x]).length - 1 = q.length by simp]
    exact yX q x _
   have hend:nM (-1) (0,0) (q++[x]) = (x.Span.To,(x.State,x.Rule)):=rF x q _ _
   have hok:=(rM x q _ _).1 h.ok
   have hqhi:=vr q _ _ hok.1
   rw [hend] at hle
   have hle:x.Span.To≤a:=hle
   cases hj:uX (q++[x]) a (F a) with
   | true =>
    unfold uX at hj
    rw [hlast,Bool.and_eq_true,Bool.and_eq_true,Bool.and_eq_true] at hj
    have j1:=cF.1 hj.2.1
    have j2:=cF.1 hj.2.2.1
    have j3:=cF.1 hj.2.2.2
    have hval:(x.State,x.Rule) = F a:=by rw [j2,j3]
    rw [cond_true,hlast,show (q++[x]).length - 1 = q.length by simp,uP]
    refine ⟨(rM _ q _ _).2 ⟨hok.1,hok.2.1,by show x.Span.From < b;omega,hok.2.2.2⟩,by rw [rF];exact Int.le_refl _,fun d v hd=>?_⟩
    by_cases hda:d < a
    ·rw [← h.cov d v hda]
     constructor
     ·rintro ⟨s,hs,⟨h1,h2⟩,h3⟩
      rcases List.mem_append.1 hs with hs | hs
      ·exact ⟨s,by simp [hs],⟨h1,h2⟩,h3⟩
      ·simp at hs;subst hs
       exact ⟨x,by simp,⟨h1,by omega⟩,h3⟩
     ·rintro ⟨s,hs,⟨h1,h2⟩,h3⟩
      rcases List.mem_append.1 hs with hs | hs
      ·exact ⟨s,by simp [hs],⟨h1,h2⟩,h3⟩
      ·simp at hs;subst hs
       exact ⟨⟨⟨s.Span.From,b⟩,s.State,s.Rule⟩,by simp,⟨h1,by show d < b;omega⟩,h3⟩
    ·constructor
     ·rintro ⟨s,hs,⟨h1,h2⟩,h3⟩
      rcases List.mem_append.1 hs with hs | hs
      ·have:=hqhi.2 s hs;omega
      ·simp at hs;subst hs
       have h3:(x.State,x.Rule) = v:=h3
       exact ⟨(hF d (by omega) hd).trans (hval.symm.trans h3),by rw [← h3];exact hok.2.2.2⟩
     ·rintro ⟨h1,h2⟩
      exact ⟨⟨⟨x.Span.From,b⟩,x.State,x.Rule⟩,by simp,⟨by show x.Span.From≤d;omega,hd⟩,hval.trans ((hF d (by omega) hd).symm.trans h1)⟩
   | false =>
    rw [cond_false]
    have hne:x.Span.To < a∨(x.Span.To = a∧(x.State,x.Rule)≠F a):=by
     by_cases e:x.Span.To = a
     ·right
      refine ⟨e,fun hv=>?_⟩
      unfold uX at hj
      rw [hlast,cF.2 e, ← hv,lV,lV,aM (by simp)] at hj
      cases hj
     ·left;omega
    refine ⟨(rM _ (q++[x]) _ _).2 ⟨h.ok,by rw [hend];exact hne,hab,hz⟩,by rw [rF];exact Int.le_refl _,fun d v hd=>?_⟩
    by_cases hda:d < a
    ·rw [← h.cov d v hda]
     constructor
     ·rintro ⟨s,hs,⟨h1,h2⟩,h3⟩
      rcases List.mem_append.1 hs with hs | hs
      ·exact ⟨s,hs,⟨h1,h2⟩,h3⟩
      ·simp at hs;subst hs
       exact absurd h1 (by show ¬ a≤d;omega)
     ·rintro ⟨s,hs,h1⟩
      exact ⟨s,List.mem_append_left _ hs,h1⟩
    ·constructor
     ·rintro ⟨s,hs,⟨h1,h2⟩,h3⟩
      rcases List.mem_append.1 hs with hs | hs
      ·have:=hhi.2 s hs
       rw [hend] at this
       have:s.Span.To≤x.Span.To:=this
       omega
      ·simp at hs;subst hs
       have h3:F a = v:=h3
       exact ⟨(hF d (by omega) hd).trans h3,h3 ▸ hz⟩
     ·rintro ⟨h1,h2⟩
      exact ⟨⟨⟨a,b⟩,(F a).1,(F a).2⟩,by simp,⟨by show a≤d;omega,hd⟩,(hF d (by omega) hd).symm.trans h1⟩
def fk (F:Int→Int × Int):List Int→List GSegment→List GSegment
 | [],out=>out
 | [_],out=>out
 | a :: b :: r,out=>fk F (b :: r) (nW out a b (F a))
theorem Ho {F:Int→Int × Int}:∀ (r:List Int) (a:Int) (out:List GSegment),(a :: r).Pairwise (· < ·)→K7 F out a→(∀ x∈a :: r,(F x).2≠0→0≤x)→(∀ x∈a :: r, ∀ d,x≤d→(∀ y∈a :: r,x < y→d < y)→(∃ y∈a :: r,x < y)→F d = F x)→(∀ d,(∀ x∈a :: r,x≤d)→(F d).2 = 0) →
  lY (-1) (0,0) (fk F (a :: r) out)∧∀ d v,qX (fk F (a :: r) out) d v↔F d = v∧v.2≠0
 | [],a,out,hp,hi,_,_,hend=>by
  rw [fk]
  refine ⟨hi.ok,fun d v=>?_⟩
  by_cases hd:d < a
  ·exact hi.cov d v hd
  ·have hz:=hend d (by simp;omega)
   have hhi:=vr out _ _ hi.ok
   have hle:=hi.le
   constructor
   ·rintro ⟨s,hs,⟨h1,h2⟩,_⟩
    have:=hhi.2 s hs;omega
   ·rintro ⟨h1,h2⟩
    exact absurd (h1 ▸ hz) h2
 | b :: r,a,out,hp,hi,h0,hF,hend=>by
  have hp':=List.pairwise_cons.1 hp
  have hab:=hp'.1 b (by simp)
  have hrb:∀ y∈r,b < y:=(List.pairwise_cons.1 hp'.2).1
  rw [fk]
  refine Ho r b _ hp'.2 (hi.step hab (fun d h1 h2=>hF a (by simp) d h1 (fun y hy hay=>?_) ⟨b,by simp,hab⟩) (h0 a (by simp))) (fun x hx=>h0 x (by simp [hx])) (fun x hx d h1 h2 h3=>hF x (by simp [hx]) d h1 (fun y hy hxy=>?_) ?_) (fun d hd=>hend d fun x hx=>?_)
  ·rcases List.mem_cons.1 hy with rfl | hy
   ·omega
   ·rcases List.mem_cons.1 hy with rfl | hy
    ·exact h2
    ·have:=hrb y hy;omega
  ·rcases List.mem_cons.1 hy with rfl | hy
   ·have:=hp'.1 x hx;omega
   ·exact h2 y hy hxy
  ·obtain ⟨y,hy,hxy⟩:=h3
   exact ⟨y,by simp [hy],hxy⟩
  ·rcases List.mem_cons.1 hx with rfl | hx
   ·have:=hd b (by simp);omega
   ·exact hd x hx
end Go.Ax
set_option linter.all false
/- The law of all days, on both sides. -/
set_option maxRecDepth 100000
namespace Go.Ax
def qW (c:List GFact) (d:Int):List Int:=bB (aT ((c.filter (df d [1])).map GFact.Seat))
theorem oD (c:List GFact) (d:Int):Db (c.filter (df d [1])) (qW c d):=by
 obtain ⟨c1,c2⟩:=sw _ (gH ((c.filter (df d [1])).map GFact.Seat))
 refine ⟨c1,fun x=>?_, ?_⟩
 ·unfold qW
  rw [c2 x,(dv _).mem_iff,List.mem_map]
 ·unfold qW
  refine Nat.le_trans (su _) ?_
  rw [(dv _).length_eq,List.length_map];exact Nat.le_refl _
noncomputable def iG (c:List GFact) (life:GSpan) (p:List GPosting) (t:List GRules) (d:Int):Int × Int :=
 bif (cX t d).2&&cy life d then HD c p (cX t d).1.PostingLimit (Dt (c.filter (df d [1,2])) (qW c d) (jJ c d).2.State (jJ c d).1 (cX t d).1.Substantial) d else (-1,0)
theorem vC {c:List GFact} {life:GSpan} {p:List GPosting} {t:List GRules} {d:Int} (h:cy life d = false):iG c life p t d = (-1,0):=by
 unfold iG
 rw [h,Bool.and_false];rfl
theorem vw {T:Type} {p q:T→Bool}:∀ (l:List T),(∀ x∈l,p x = q x)→l.find? p = l.find? q
 | [],_=>rfl
 | x :: r,h=>by
  rw [List.find?_cons,List.find?_cons,h x (by simp),vw r fun y hy=>h y (by simp [hy])]
theorem vO {T:Type} {p q:T→Bool} (bt:T→T→Bool):∀ (l:List T) (s:Bool × T),(∀ x∈l,p x = q x)→l.foldl (cD p bt) s = l.foldl (cD q bt) s
 | [],_,_=>rfl
 | x :: r,s,h=>by
  have:cD p bt s x = cD q bt s x:=by unfold cD;rw [h x (by simp)]
  rw [List.foldl_cons,List.foldl_cons,this,vO bt r _ fun y hy=>h y (by simp [hy])]
theorem E7 {d d':Int}:∀ (l:List GFact) (b:Int),(∀ x∈l,df d [7,8] x = df d' [7,8] x)→l.foldl (qF d) b = l.foldl (qF d') b
 | [],_,_=>rfl
 | x :: r,b,h=>by
  have:qF d b x = qF d' b x:=by unfold qF;rw [h x (by simp)]
  rw [List.foldl_cons,List.foldl_cons,this,E7 r _ fun y hy=>h y (by simp [hy])]
def yJ (q:GPosting) (r:GRules):Int:=bif aa (73049 < q.Span.From+r.PostingLimit) then 73049 else q.Span.From+r.PostingLimit
structure Pm (c:List GFact) (life:GSpan) (p:List GPosting) (t:List GRules) (e:List Int):Prop where
  l1:life.From∈e
  l2:life.To∈e
  fa:∀ f∈c,f.Span.From∈e∧f.Span.To∈e
  ru:∀ r∈t,r.From∈e
  po:∀ q∈p,q.Span.From∈e∧q.Span.To∈e
  li:∀ r∈t, ∀ q∈p,yJ q r∈e
theorem xB {s:GSpan} {d d':Int} (h1:s.From≤d↔s.From≤d') (h2:s.To≤d↔s.To≤d'):cy s d = cy s d':=by
 have e1:aa (s.From≤d) = aa (s.From≤d'):=decide_eq_decide.2 h1
 have e2:aa (d < s.To) = aa (d' < s.To):=decide_eq_decide.2 (by omega)
 unfold cy
 rw [e1,e2]
theorem Mc {l c:List GFact} {p:List GPosting} {t:List GRules} {e:List Int} (h:Pm c (ar l) p t e) (d d':Int) (hx:∀ x∈e,(x≤d↔x≤d')):iG c (ar l) p t d = iG c (ar l) p t d':=by
 have hl:=xB (hx _ h.l1) (hx _ h.l2)
 cases hd:cy (ar l) d with
 | false=>rw [vC hd,vC (hl.symm.trans hd)]
 | true =>
  have hd':=hl.symm.trans hd
  have r1:=I7 hd
  have r2:=I7 hd'
  have hf:∀ f∈c,cy f.Span d = cy f.Span d':=fun f hf=>xB (hx _ (h.fa f hf).1) (hx _ (h.fa f hf).2)
  have ho:∀ ks, ∀ f∈c,df d ks f = df d' ks f:=fun ks f hc=>by unfold df;rw [hf f hc]
  have er:cX t d = cX t d':=by
   unfold cX
   rw [bu (p:=d < 0) (by omega),bu (p:=d' < 0) (by omega),bu (p:=73049≤d) (by omega),bu (p:=73049≤d') (by omega)]
   rw [vw (p:=fun r:GRules=>aa (r.From≤d)) (q:=fun r:GRules=>aa (r.From≤d')) t.reverse fun r hr=>decide_eq_decide.2 (hx _ (h.ru r (List.mem_reverse.1 hr)))]
  have e1:∀ ks,c.filter (df d ks) = c.filter (df d' ks):=fun ks=>List.filter_congr (ho ks)
  have e2:jJ c d = jJ c d':=vO _ _ _ fun f hc=>by unfold Ba;rw [hf f hc]
  have e3:nQ c d = nQ c d':=vO _ _ _ (ho [3])
  have e4:pc c d = pc c d':=E7 _ _ (ho [7,8])
  unfold iG
  rw [er,hd,hd']
  cases hr:(cX t d').2 with
  | false=>rfl
  | true =>
   obtain ⟨_,hm⟩:=vp hr
   have e5:uM p d (cX t d').1.PostingLimit = uM p d' (cX t d').1.PostingLimit:=by
    unfold uM
    rw [vw (p:=pB d (cX t d').1.PostingLimit) (q:=pB d' (cX t d').1.PostingLimit) p fun q hq=>?_]
    unfold pB
    rw [xB (hx _ (h.po q hq).1) (hx _ (h.po q hq).2)]
    congr 1
    refine decide_eq_decide.2 ?_
    have h6:=hx _ (h.li _ hm q hq)
    unfold yJ at h6
    by_cases h7:73049 < q.Span.From+(cX t d').1.PostingLimit
    ·omega
    ·rw [bu h7,cond_false] at h6;omega
   unfold HD qW
   rw [e1 [1],e1 [1,2],e2,e3,e4,e5]
theorem Bl:∀ {l:List GSpan} {lo:Int},dI lo l→∀ s∈l, ∀ u∈l,u = s∨u.To < s.From∨s.To < u.From
 | [],_,_,s,hs,_,_=>by cases hs
 | x :: r,lo,h,s,hs,u,hu=>by
  obtain ⟨h1,h2,h3,h4⟩:=h
  have low:∀ y∈r,x.To < y.From:=fun y hy=>by
   have hy':y.From < y.To:=rJ.norm_inR' h4 y hy
   have:=fB h4 (d:=y.From) ⟨y,hy,Int.le_refl _,hy'⟩
   omega
  rcases List.mem_cons.1 hs with hs | hs <;> rcases List.mem_cons.1 hu with hu | hu
  ·left;rw [hs,hu]
  ·right;right;rw [hs];exact low u hu
  ·right;left;rw [hu];exact low s hs
  ·exact Bl h4 s hs u hu
theorem Nq {c:List GFact} (hv:∀ f∈c,cb f = true) {life:GSpan} {q:GPosting} (h:FC c life q) (e:List Int) (l1:life.From∈e) (l2:life.To∈e) (hf:∀ f∈c,f.Span.From∈e∧f.Span.To∈e):q.Span.From∈e∧q.Span.To∈e:=by
 have hs:q.Span∈gW (aW c ⟨q.Seat,q.State⟩) life:=h
 have hD:∀ g∈aW c ⟨q.Seat,q.State⟩,g.From∈e∧g.To∈e∧0≤g.From∧g.To≤73049:=by
  intro g hg
  obtain ⟨f,hfm,rfl⟩:=List.mem_map.1 hg
  have hfc:=(List.mem_filter.1 hfm).1
  have hsp:=((gN f).1 (hv f hfc)).2.2.2.2.2.2.2.1
  exact ⟨(hf f hfc).1,(hf f hfc).2,hsp.1,hsp.2.2⟩
 generalize aW c ⟨q.Seat,q.State⟩ = D at hs hD
 generalize q.Span = s at hs
 obtain ⟨hn,hc⟩:=nN D life
 have hlt:=rJ.norm_inR' hn s hs
 have n1:¬ fN (gW D life) (s.From - 1):=by
  rintro ⟨u,hu,h1,h2⟩
  rcases Bl hn s hs u hu with rfl | h3 | h3 <;> omega
 have n2:¬ fN (gW D life) s.To:=by
  rintro ⟨u,hu,h1,h2⟩
  rcases Bl hn s hs u hu with rfl | h3 | h3 <;> omega
 rw [hc] at n1 n2
 constructor
 ·obtain ⟨⟨⟨g,hg,g1,g2⟩,a1,a2⟩,b1,b2⟩:=(hc s.From).1 ⟨s,hs,Int.le_refl _,hlt⟩
  have hgd:=hD g hg
  by_cases e1:g.From = s.From
  ·rw [← e1];exact hgd.1
  ·by_cases e2:life.From = s.From
   ·rw [← e2];exact l1
   ·exact absurd ⟨⟨⟨g,hg,by omega,by omega⟩,by omega,by omega⟩,by omega,by omega⟩ n1
 ·obtain ⟨⟨⟨g,hg,g1,g2⟩,a1,a2⟩,b1,b2⟩:=(hc (s.To - 1)).1 ⟨s,hs,by omega,by omega⟩
  have hgd:=hD g hg
  by_cases e1:g.To = s.To
  ·rw [← e1];exact hgd.2.1
  ·by_cases e2:life.To = s.To
   ·rw [← e2];exact l2
   ·exact absurd ⟨⟨⟨g,hg,by omega,by omega⟩,by omega,by omega⟩,by omega,by omega⟩ n2
theorem LK {l c:List GFact} {p:List GPosting} {t:List GRules} {e:List Int} (h:Pm c (ar l) p t e) (ha:N2 e) (h0:∀ x∈e,0≤x) :
  lY (-1) (0,0) (fk (iG c (ar l) p t) e [])∧∀ d v,qX (fk (iG c (ar l) p t) e []) d v↔iG c (ar l) p t d = v∧v.2≠0:=by
 cases e with
 | nil=>exact absurd h.l1 (by simp)
 | cons a r =>
  have hp:=List.pairwise_cons.1 ha
  have hlow:∀ x∈a :: r,a≤x:=fun x hx=>by
   rcases List.mem_cons.1 hx with rfl | hx
   ·exact Int.le_refl _
   ·have:=hp.1 x hx;omega
  refine Ho r a [] ha ⟨trivial,by show (-1:Int)≤a;have:=h0 a (by simp);omega,fun d v hd=>?_⟩ (fun x hx _=>h0 x hx) (fun x hx d h1 h2 _=>?_) (fun d hd=>?_)
  ·have:cy (ar l) d = false:=by
    unfold cy
    rw [bu (p:=(ar l).From≤d) (by have:=hlow _ h.l1;omega)];rfl
   rw [vC this]
   constructor
   ·rintro ⟨s,hs,_⟩;cases hs
   ·rintro ⟨h1,h2⟩;exact absurd (by rw [← h1]) h2
  ·exact Mc h d x fun y hy=>⟨fun h3=>by
    by_cases h4:x < y
    ·have:=h2 y hy h4;omega
    ·omega,fun h3=>by omega⟩
  ·have:cy (ar l) d = false:=by
    unfold cy
    rw [bu (p:=d < (ar l).To) (by have:=hd _ h.l2;omega)]
    cases aa ((ar l).From≤d) <;> rfl
   rw [vC this]
theorem Pl {a b:Int} {y:Int × Int} (h:af y.2 0 = false):nW [] a b y = [⟨⟨a,b⟩,y.1,y.2⟩]:=by
 unfold nW
 rw [h];rfl
theorem Nn {q:List GSegment} {x:GSegment} {a b:Int} {y:Int × Int} (h:af y.2 0 = false):nW (q++[x]) a b y = bif (bif (bif af x.Span.To a then af x.State y.1 else false) then af x.Rule y.2 else false) then q++[⟨⟨x.Span.From,b⟩,x.State,x.Rule⟩] else (q++[x])++[⟨⟨a,b⟩,y.1,y.2⟩]:=by
 have hlast:ow (q++[x]) = x:=by
  unfold ow
  rw [show (q++[x]).length - 1 = q.length by simp]
  exact yX q x _
 unfold nW uX
 rw [h,cond_false,hlast,show (q++[x]).length - 1 = q.length by simp,uP,aM (p:=0 < (q++[x]).length) (by simp)]
 cases af x.Span.To a <;> cases af x.State y.1 <;> cases af x.Rule y.2 <;> rfl
theorem Lq (F:Int→Int × Int) (e:List Int) (i:Nat) (h:i+1 < e.length) (out:List GSegment):fk F (e.drop i) out = fk F (e.drop (i+1)) (nW out e[i] e[i+1] (F e[i])):=by
 rw [List.drop_eq_getElem_cons (by omega:i < e.length),List.drop_eq_getElem_cons h,fk]
theorem MK (F:Int→Int × Int) (e:List Int) (i:Nat) (h:¬ i+1 < e.length) (out:List GSegment):fk F (e.drop i) out = out:=by
 by_cases hi:i < e.length
 ·rw [List.drop_eq_getElem_cons hi,List.drop_of_length_le (by omega),fk]
 ·rw [List.drop_of_length_le (by omega),fk]
section
variable (l:List GFact) (hl:l.length≤40) (t:List GRules) (ht:pk t) (p:List GPosting) (hs:KK p) (hr:CR p)
include hl ht hr
theorem KW (d:Int):eo ⟨l.filter aG,ar l,p,t⟩ d = some (iG (l.filter aG) (ar l) p t d):=by
 have hcl:=List.length_filter_le aG l
 refine Jd l hl t ht p hr d _ fun h1 h2=>?_
 obtain ⟨hd,hm⟩:=vp h1
 have hru:=(ht.mem hm).1
 exact IA ⟨l.filter aG,ar l,p,t⟩ d _ (by show (l.filter aG).length≤40;omega) iT ⟨hru.2.2.2.2.2.2.1,hru.2.2.2.2.2.2.2⟩ _ (oD _ d) _ _ (wh l d (by omega) hd h2) (Qx iT d)
theorem MV (e:List Int) (he:e.length≤1000000):∀ (n i:Nat) (out:List GSegment),e.length = i+n→out.length≤i →
  cM (i:Int) ⟨l.filter aG,ar l,p,t⟩ out e = some (fk (iG (l.filter aG) (ar l) p t) (e.drop i) out):=by
 intro n
 have stop:∀ (i:Nat) (out:List GSegment),i≤e.length→¬ i+1 < e.length→cM (i:Int) ⟨l.filter aG,ar l,p,t⟩ out e = some (fk (iG (l.filter aG) (ar l) p t) (e.drop i) out):=by
  intro i out hi h
  rw [lB,al (n:=(i:Int)+1) (by omega) (by omega),bu (by omega),cond_false,MK _ _ _ h]
 induction n with
 | zero=>intro i out hn ho;exact stop i out (by omega) (by omega)
 | succ n ih =>
  intro i out hn ho
  by_cases h:i+1 < e.length
  ·have hi:i < e.length:=by omega
   rw [Lq _ _ _ h,lB,bS hi (by omega),cB h,cond_true,cz,aO,cB hi,aO,bP hi,bP h,KW l hl t ht p hr,Option.bind_some]
   have hlen:=H2 out e[i] e[i+1] (iG (l.filter aG) (ar l) p t e[i])
   have nx:=ih (i+1) (nW out e[i] e[i+1] (iG (l.filter aG) (ar l) p t e[i])) (by omega) (by omega)
   rw [← nx]
   generalize iG (l.filter aG) (ar l) p t e[i] = y
   cases hy:af y.2 0 with
   | true =>
    rw [cond_true]
    unfold nW
    rw [hy];rfl
   | false =>
    rw [cond_false]
    rcases mU out with rfl | ⟨q,x,rfl⟩
    ·rw [Pl hy,cz]
     simp only [List.length_nil,bu (p:=(0:Int) < ((0:Nat):Int)) (by omega),Bool.false_and,Bool.not_false,Bool.true_or,aO,cond_false]
     rfl
    ·have hql:q.length≤1000000000:=by simp at ho;omega
     have lix:ac ((((q++[x]).length:Nat):Int) - 1) = ((q.length:Nat):Int):=by
      rw [List.length_append,List.length_singleton,al (by omega) (by omega)];omega
     rw [Nn hy,lix,cz]
     have g1:gD (q++[x]) ((q.length:Nat):Int).toNat (zS .GSegment) = x:=yX q x _
     have g2:List.set (q++[x]) ((q.length:Nat):Int).toNat (⟨⟨x.Span.From,e[i+1]⟩,x.State,x.Rule⟩:GSegment) = q++[⟨⟨x.Span.From,e[i+1]⟩,x.State,x.Rule⟩]:=uP q x _
     have d1:aa ((0:Int) < ((q++[x]).length:Int)) = true:=aM (by rw [List.length_append,List.length_singleton];omega)
     have d2:aa (((q.length:Nat):Int) < ((q++[x]).length:Int)) = true:=aM (by rw [List.length_append,List.length_singleton];omega)
     rw [g1,g2,d1,d2,cz,sL (n:=(q++[x]).length) (by omega) (by omega)]
     cases af x.Span.To e[i] <;> cases af x.State y.1 <;> cases af x.Rule y.2 <;> rfl
  ·exact stop i out (by omega) h
end
end Go.Ax
set_option linter.all false
/- The cuts of both sides; LawSegments. -/
set_option maxRecDepth 100000
namespace Go.Ax
theorem Ak {A B:Type} (f:A→List B):∀ (l:List A) (o:List B),l.foldl (fun o x=>o++f x) o = o++l.flatMap f
 | [],o=>by simp
 | x :: r,o=>by rw [List.foldl_cons,Ak f r,List.flatMap_cons,List.append_assoc]
section
variable (l:List GFact) (hl:l.length≤40) (t:List GRules) (ht:pk t) (p:List GPosting) (hs:KK p) (hr:CR p) (hpl:p.length≤1476)
include hl ht hr hpl
theorem MY:∃ e,fI ⟨l.filter aG,ar l,p,t⟩ = some e∧N2 e∧e.length≤100000 ∧
  ∀ x,x∈e↔x∈[0,73049,(ar l).From,(ar l).To]∨(∃ f∈l.filter aG,x = f.Span.From∨x = f.Span.To)∨(∃ r∈t,x = r.From∨∃ q∈p,x = yJ q r):=by
 have hcl:=List.length_filter_le aG l
 have hv:∀ f∈l.filter aG,cb f = true:=iT
 rw [rA]
 show ∃ e,bj (l.filter aG) ((l.filter aG).length:Int) 0 ⟨l.filter aG,ar l,p,t⟩ [0,73049,(ar l).From,(ar l).To] = some e∧_
 generalize l.filter aG = c at hcl hv
 have f1:=(mz c (fun i out=>bj c (c.length:Int) i ⟨c,ar l,p,t⟩ out) (fun o f=>o++[f.Span.From,f.Span.To]) (fun i o=>o.length = 4+2*i) (fun i o hi ho=>⟨by
  show bj _ _ _ _ _ = bj _ _ _ _ _
  rw [iX]
  simp only [cB hi,cz,cond_true,aO,Bool.or_true,bP hi,bS hi (by omega)]
  rw [aN (by omega),aN (by omega)],by simp;omega⟩) [0,73049,(ar l).From,(ar l).To] rfl)
 obtain ⟨f1,g1⟩:=f1
 rw [Ak] at f1 g1
 rw [f1]
 generalize hA:[0,73049,(ar l).From,(ar l).To]++c.flatMap (fun f=>[f.Span.From,f.Span.To]) = A at g1
 have f2:=(mz t (fun i out=>bc t (t.length:Int) i ⟨c,ar l,p,t⟩ out) (fun o r=>o++(r.From :: p.map fun q=>yJ q r)) (fun i o=>o.length≤84+1477*i) (fun i o hi ho=>⟨by
  show bc _ _ _ _ _ = bc _ _ _ _ _
  have hle:=ht.le
  have hru:=(ht.mem (List.getElem_mem hi)).1
  rw [iI]
  simp only [cB hi,cz,cond_true,aO,Bool.or_true,bP hi,bS hi (by omega)]
  rw [aN (by omega),aN (by omega)]
  have f3:=(mz p (fun k out=>bi t (t.length:Int) (i:Int) p (p.length:Int) k ⟨c,ar l,p,t⟩ out t[i]) (fun o q=>o++[yJ q t[i]]) (fun k o=>o.length≤20000+k) (fun k o hk ho=>⟨by
   show bi _ _ _ _ _ _ _ _ _ = bi _ _ _ _ _ _ _ _ _
   have hq:=hr.2 _ (List.getElem_mem hk)
   rw [ia]
   simp only [cB hk,cz,cond_true,aO,Bool.or_true,bP hk,bS hk (by omega)]
   rw [aN (by omega),aN (by omega),al (n:=p[k].Span.From+t[i].PostingLimit) (by have:=hru.2.2.2.2.1;omega) (by have:=hru.2.2.2.2.2.1;omega)]
   rfl,by simp;omega⟩) (o++[t[i].From]) (by simp;omega)).1
  refine Eq.trans f3 ?_
  show bi _ _ _ _ _ _ _ _ _ = _
  rw [ia,cm,cond_false,bS hi (by omega),xG,List.append_assoc]
  rfl,by simp;omega⟩) A (by omega))
 obtain ⟨f2,g2⟩:=f2
 rw [Ak] at f2 g2
 show ∃ e,bj _ _ _ _ A = some e∧_
 rw [iX,cm,cond_false]
 show ∃ e,bc t (t.length:Int) 0 ⟨c,ar l,p,t⟩ A = some e∧_
 rw [f2]
 generalize hB:A++t.flatMap (fun r=>r.From :: p.map fun q=>yJ q r) = B at g2
 have hle:=ht.le
 show ∃ e,bc _ _ _ _ B = some e∧_
 rw [iI,cm,cond_false,aN (by omega),aN (by rw [(dv _).length_eq];omega)]
 obtain ⟨c1,c2⟩:=sw _ (gH B)
 refine ⟨_,rfl,c1, ?_,fun x=>?_⟩
 ·refine Nat.le_trans (su _) ?_
  rw [(dv _).length_eq];omega
 ·rw [c2 x,(dv _).mem_iff, ← hB, ← hA,List.mem_append,List.mem_append,List.mem_flatMap,List.mem_flatMap,or_assoc]
  refine or_congr Iff.rfl (or_congr ?_ ?_)
  ·exact ⟨fun ⟨f,hf,h⟩=>⟨f,hf,by simpa using h⟩,fun ⟨f,hf,h⟩=>⟨f,hf,by simpa using h⟩⟩
  ·constructor
   ·rintro ⟨r,hr1,h⟩
    rcases List.mem_cons.1 h with h | h
    ·exact ⟨r,hr1, .inl h⟩
    ·obtain ⟨q,hq,e⟩:=List.mem_map.1 h
     exact ⟨r,hr1, .inr ⟨q,hq,e.symm⟩⟩
   ·rintro ⟨r,hr1,h | ⟨q,hq,h⟩⟩
    ·exact ⟨r,hr1,by rw [h];simp⟩
    ·exact ⟨r,hr1,List.mem_cons.2 (.inr (List.mem_map.2 ⟨q,hq,h.symm⟩))⟩
end
theorem Oh (l:List GFact):0≤(ar l).From∧0≤(ar l).To:=by
 have h1:=rZ l 11
 have h2:=rZ l 12
 unfold ar
 simp only
 have hd:0≤(if (ca l 12).2 = true then (ca l 12).1 else 73048)∧(if (ca l 12).2 = true then (ca l 12).1 else 73048)≤73048:=by split <;> omega
 generalize (if (ca l 12).2 = true then (ca l 12).1 else 73048) = d at hd
 split
 ·exact ⟨Int.le_refl 0,Int.le_refl 0⟩
 ·show 0≤(ca l 11).1∧0≤ac (d+1)
  rw [al (by omega) (by omega)];omega
theorem OX {l:List GFact} {f:GFact} (h:f∈l.filter aG):0≤f.Span.From∧0≤f.Span.To:=by
 have:=((gN f).1 (iT f h)).2.2.2.2.2.2.2.1
 omega
theorem Oi {q:GPosting} {r:GRules} (hq:0≤q.Span.From) (hr:0≤r.PostingLimit):0≤yJ q r:=by
 unfold yJ
 by_cases h:73049 < q.Span.From+r.PostingLimit
 ·rw [aM h,cond_true];decide
 ·rw [bu h,cond_false];omega
theorem xw (l:List GFact) (hl:l.length≤40) (t:List GRules) (ht:pk t) (p:List GPosting) (hp1:en l = some p) (hpp:p.Perm ((lc 0 6).flatMap (dZ (l.filter aG) (ar l)))) (hpl:p.length≤1476) :
  ∃ s,dC l t = some s∧lY (-1) (0,0) s∧(∀ d v,qX s d v↔iG (l.filter aG) (ar l) p t d = v∧v.2≠0)∧s.length≤100000:=by
 have hr:=N4 hpp hpl
 obtain ⟨e,e1,e2,e3,e4⟩:=MY l hl t ht p hr hpl
 have hin:∀ q∈p,FC (l.filter aG) (ar l) q:=fun q hq=>by
  obtain ⟨r,_,h⟩:=List.mem_flatMap.1 (hpp.mem_iff.1 hq)
  exact yT q h
 have l1:(ar l).From∈e:=(e4 _).2 (.inl (by simp))
 have l2:(ar l).To∈e:=(e4 _).2 (.inl (by simp))
 have fa:∀ f∈l.filter aG,f.Span.From∈e∧f.Span.To∈e:=fun f hf=>⟨(e4 _).2 (.inr (.inl ⟨f,hf, .inl rfl⟩)),(e4 _).2 (.inr (.inl ⟨f,hf, .inr rfl⟩))⟩
 have hcut:Pm (l.filter aG) (ar l) p t e:=⟨l1,l2,fa,fun r hr1=>(e4 _).2 (.inr (.inr ⟨r,hr1, .inl rfl⟩)),fun q hq=>Nq iT (hin q hq) e l1 l2 fa,fun r hr1 q hq=>(e4 _).2 (.inr (.inr ⟨r,hr1, .inr ⟨q,hq,rfl⟩⟩))⟩
 have h0:∀ x∈e,0≤x:=by
  intro x hx
  rcases (e4 x).1 hx with h | ⟨f,hf,h⟩ | ⟨r,hr1,h⟩
  ·have:=Oh l
   simp at h
   omega
  ·have:=OX hf;omega
  ·have hru:=(ht.mem hr1).1
   rcases h with h | ⟨q,hq,h⟩
   ·rw [h];exact hru.1
   ·rw [h];exact Oi (hr.2 q hq).1 hru.2.2.2.2.1
 obtain ⟨s1,s2⟩:=LK hcut e2 h0
 have hlen:∀ (e:List Int) (F:Int→Int × Int) (out:List GSegment),(fk F e out).length≤out.length+e.length:=by
  intro e F
  induction e with
  | nil=>intro out;rw [fk];simp
  | cons a r ih =>
   intro out
   cases r with
   | nil=>rw [fk];simp
   | cons b r =>
    rw [fk]
    have:=ih (nW out a b (F a))
    have:=H2 out a b (F a)
    simp only [List.length_cons] at *
    omega
 refine ⟨fk (iG (l.filter aG) (ar l) p t) e [], ?_,s1,s2,by have:=hlen e (iG (l.filter aG) (ar l) p t) [];simp at this;omega⟩
 rw [zL,l8,j7 l (by omega),Option.bind_some,jY l (by omega),Option.bind_some,hp1,Option.bind_some,ht.check,Option.bind_some,Option.bind_some,lV]
 show (fI ⟨l.filter aG,ar l,p,t⟩).bind _ = _
 rw [e1,Option.bind_some]
 exact MV l hl t ht p hr e (by omega) e.length 0 [] (by omega) (by simp)
section
variable (LT:Prop) (l:List GFact) (t:List GRules) (c:List GFact) (p:List GPosting) (life:GSpan)
variable (hc:c.length≤40) (hcr:∀ f∈c,0≤f.Span.From∧0≤f.Span.To) (ht:pk t) (hpl:p.length≤1476) (hpr:∀ q∈p,(0≤q.Span.From∧q.Span.From≤73049)∧0≤q.Span.To)
include hpl hpr in
end
end Go.Ax
set_option linter.all false
/- The law of a day does not depend on the order of the facts. -/
set_option maxRecDepth 100000
namespace Go.Ax
theorem PZ (k:Int) (f:GFact) (a:Int × Bool):yH k f a = if f.Kind = k∧(a.2 = false∨f.Span.From < a.1) then (f.Span.From,true) else a:=by
 unfold yH
 by_cases h:f.Kind = k∧(a.2 = false∨f.Span.From < a.1)
 ·rw [if_pos h,if_pos]
  obtain ⟨h1,h2⟩:=h
  rw [cF.2 h1,Bool.true_and,Bool.or_eq_true]
  rcases h2 with h2 | h2
  ·left;rw [h2];rfl
  ·right;exact aM h2
 ·rw [if_neg h,if_neg]
  intro h'
  rw [Bool.and_eq_true,Bool.or_eq_true] at h'
  refine h ⟨cF.1 h'.1, ?_⟩
  rcases h'.2 with h2 | h2
  ·left;cases ha:a.2 with
   | false=>rfl
   | true=>rw [ha] at h2;cases h2
  ·right;exact dX h2
theorem Cc {a b:List GFact} (h:a.Perm b) (k:Int):ca a k = ca b k:=by
 unfold ca
 refine List.Perm.foldl_eq' (h.filter aG) (fun x _ y _ z=>?_) _
 simp only [PZ]
 obtain ⟨u,ok⟩:=z
 by_cases hx:x.Kind = k <;> by_cases hy:y.Kind = k <;> cases ok <;> simp only [hx,hy,true_and,false_and,true_or,if_true,if_false,reduceCtorEq,false_or,Bool.true_eq_false] <;> (repeat' split) <;> first | rfl | (simp only [Prod.mk.injEq,and_true,reduceCtorEq,false_or,Bool.true_eq_false] at *; omega)
theorem Mz {a b:List GFact} (h:a.Perm b):ar a = ar b:=by
 unfold ar
 rw [Cc h 11,Cc h 12]
theorem Nr {c c':List GFact} (h:c.Perm c') (r:Rt):(aW c r).Perm (aW c' r):=(h.filter _).map _
theorem Na {D D':List GSpan} (h:D.Perm D') (s:GSpan):gW D s = gW D' s:=by
 obtain ⟨h1,h2⟩:=nN D s
 obtain ⟨h3,h4⟩:=nN D' s
 refine FM h1 h3 fun d=>?_
 rw [h2,h4]
 have:fN D d↔fN D' d:=⟨fun ⟨x,hx,e⟩=>⟨x,h.mem_iff.1 hx,e⟩,fun ⟨x,hx,e⟩=>⟨x,h.mem_iff.2 hx,e⟩⟩
 rw [this]
theorem OO {c c':List GFact} (h:c.Perm c') (life:GSpan):dZ c life = dZ c' life:=by
 funext r
 unfold dZ
 rw [Na (Nr h r)]
theorem My {c c':List GFact} {life:GSpan} {p p':List GPosting} (h:c.Perm c') (hp:p.Perm ((lc 0 6).flatMap (dZ c life))) (hp':p'.Perm ((lc 0 6).flatMap (dZ c' life))) (hs:KK p) (hs':KK p'):p = p':=by
 rw [← OO h] at hp'
 have hin:∀ q∈p,FC c life q:=fun q hq=>by
  obtain ⟨r,_,e⟩:=List.mem_flatMap.1 (hp.mem_iff.1 hq)
  exact yT q e
 have hpp:p.Perm p':=hp.trans hp'.symm
 exact List.Perm.eq_of_pairwise (le:=fun a b=>dw b a = false) (fun a b ha hb h1 h2=>GW (hin a ha) (hin b (hpp.mem_iff.2 hb)) h1 h2) hs hs' hpp
def vM (p:GFact→Bool) (u v:GFact→Int) (s:Bool × Int × Int) (f:GFact):Bool × Int × Int :=
 if p f = true∧(s.1 = false∨s.2.1 < u f∨(u f = s.2.1∧v f < s.2.2)) then (true,u f,v f) else s
theorem QR (p:GFact→Bool) (u v:GFact→Int) (s:Bool × Int × Int) (x y:GFact):vM p u v (vM p u v s x) y = vM p u v (vM p u v s y) x:=by
 obtain ⟨ok,a,b⟩:=s
 unfold vM
 cases p x <;> cases p y <;> cases ok <;> simp only [Bool.false_eq_true,false_and,true_and,true_or,if_true,if_false,reduceCtorEq,false_or] <;> (repeat' split) <;> first | rfl | (simp only [Prod.mk.injEq,true_and,reduceCtorEq,false_or,Bool.true_eq_false] at *; omega)
theorem LR (p:GFact→Bool) (bt:GFact→GFact→Bool) (u v:GFact→Int) (hb:∀ b f,bt b f = true↔u b < u f∨(u f = u b∧v f < v b)):∀ (l:List GFact) (s:Bool × GFact),
  ((l.foldl (cD p bt) s).1,u (l.foldl (cD p bt) s).2,v (l.foldl (cD p bt) s).2) = l.foldl (vM p u v) (s.1,u s.2,v s.2)
 | [],_=>rfl
 | f :: l,s=>by
  rw [List.foldl_cons,List.foldl_cons,LR p bt u v hb l]
  congr 1
  unfold cD vM
  obtain ⟨ok,b⟩:=s
  show _ = if p f = true∧(ok = false∨u b < u f∨(u f = u b∧v f < v b)) then (true,u f,v f) else (ok,u b,v b)
  by_cases hc:p f = true∧(ok = false∨bt b f = true)
  ·have e1:(p f&&(!ok||bt b f)) = true:=by
    obtain ⟨a,c⟩:=hc
    rw [a]
    rcases c with c | c <;> simp [c]
   rw [if_pos ⟨hc.1,by
    rcases hc.2 with c | c
    ·exact .inl c
    ·exact .inr ((hb b f).1 c)⟩]
   show ((bif (p f&&(!ok||bt b f)) then (true,f) else (ok,b)).1,u (bif (p f&&(!ok||bt b f)) then (true,f) else (ok,b)).2,v (bif (p f&&(!ok||bt b f)) then (true,f) else (ok,b)).2) = _
   rw [e1];rfl
  ·have e1:(p f&&(!ok||bt b f)) = false:=by
    cases h:(p f&&(!ok||bt b f)) with
    | false=>rfl
    | true =>
     rw [Bool.and_eq_true,Bool.or_eq_true] at h
     exact absurd ⟨h.1,h.2.elim (fun h=>.inl (by cases ok with | false=>rfl | true=>cases h)) .inr⟩ hc
   rw [if_neg (fun h=>hc ⟨h.1,h.2.elim .inl fun h=>.inr ((hb b f).2 h)⟩)]
   show ((bif (p f&&(!ok||bt b f)) then (true,f) else (ok,b)).1,u (bif (p f&&(!ok||bt b f)) then (true,f) else (ok,b)).2,v (bif (p f&&(!ok||bt b f)) then (true,f) else (ok,b)).2) = _
   rw [e1];rfl
theorem FG {c c':List GFact} (h:c.Perm c') (p:GFact→Bool) (bt:GFact→GFact→Bool) (u v:GFact→Int) (hb:∀ b f,bt b f = true↔u b < u f∨(u f = u b∧v f < v b)) :
  (c.foldl (cD p bt) (false,zS .GFact)).1 = (c'.foldl (cD p bt) (false,zS .GFact)).1∧v (c.foldl (cD p bt) (false,zS .GFact)).2 = v (c'.foldl (cD p bt) (false,zS .GFact)).2:=by
 have h1:=LR p bt u v hb c (false,zS .GFact)
 have h2:=LR p bt u v hb c' (false,zS .GFact)
 rw [List.Perm.foldl_eq' h (fun x _ y _ z=>QR p u v z x y) _, ← h2] at h1
 simp only [Prod.mk.injEq] at h1
 exact ⟨h1.1,h1.2.2⟩
theorem OD {c c':List GFact} (h:c.Perm c') (hv:∀ f∈c,cb f = true) (d:Int):pc c d = pc c' d:=by
 refine List.Perm.foldl_eq' h (fun x hx y hy z=>?_) _
 unfold qF
 cases h1:df d [7,8] x <;> cases h2:df d [7,8] y <;> simp only [Bool.false_and,Bool.true_and,cond_false]
 have s1:=vz hv d x hx h1
 have s2:=vz hv d y hy h2
 have ec:∀ (a b c:Int),(bif aa (c < 0)||aa (a < c) then a else b) = if c < 0∨a < c then a else b:=by
  intro a b c
  by_cases e1:c < 0
  ·rw [aM e1,if_pos (.inl e1)];rfl
  ·by_cases e2:a < c
   ·rw [bu e1,aM e2,if_pos (.inr e2)];rfl
   ·rw [bu e1,bu e2,if_neg (by omega)];rfl
 simp only [ec]
 (repeat' split) <;> omega
theorem NR {w w':List GFact} (h:w.Perm w') (s:Int):br s w = br s w':=by
 induction h with
 | nil=>rfl
 | cons x _ ih=>rw [br,br,ih]
 | swap x y l=>simp only [br];omega
 | trans _ _ ih1 ih2=>exact ih1.trans ih2
theorem NS {w w':List GFact} (h:w.Perm w'):eV w = eV w':=by
 induction h with
 | nil=>rfl
 | cons x _ ih=>rw [eV,eV,ih]
 | swap x y l=>simp only [eV];omega
 | trans _ _ ih1 ih2=>exact ih1.trans ih2
theorem MC {c c':List GFact} (h:c.Perm c') (hv:∀ f∈c,cb f = true) (life:GSpan) (p:List GPosting) (t:List GRules) (d:Int):iG c life p t d = iG c' life p t d:=by
 have e1:=FG h (df d [3]) MW GFact.Share GFact.State (fun b f=>by simp [MW,aa,af])
 have e2:=FG h (Ba d) Kf (fun f=>f.Span.From) GFact.State (fun b f=>by simp [Kf,aa,af])
 have e3:=OD h hv d
 have hw:=h.filter (df d [1,2])
 have e4:qW c d = qW c' d:=Aw (oD c d).1 (oD c' d).1 fun x=>by
  rw [(oD c d).2.1,(oD c' d).2.1]
  have hw1:=h.filter (df d [1])
  exact ⟨fun ⟨f,hf,e⟩=>⟨f,hw1.mem_iff.1 hf,e⟩,fun ⟨f,hf,e⟩=>⟨f,hw1.mem_iff.2 hf,e⟩⟩
 have e5:∀ s,br s (c.filter (df d [1,2])) = br s (c'.filter (df d [1,2])):=NR hw
 have e6:=NS hw
 have e7:gp (c.filter (df d [1,2])) = gp (c'.filter (df d [1,2])):=by unfold gp;simp only [e5]
 have e8:mX (c.filter (df d [1,2])) = mX (c'.filter (df d [1,2])):=by unfold mX;simp only [e5,e7]
 have ea:∀ (e:List Int) (home:Int) (bI:Bool) (sub:Int),Dt (c.filter (df d [1,2])) e home bI sub = Dt (c'.filter (df d [1,2])) e home bI sub:=by
  intro e home bI sub
  unfold Dt
  rw [e5,e6,e7,e8]
 have r1:(jJ c d).1 = (jJ c' d).1:=e2.1
 have r2:(jJ c d).2.State = (jJ c' d).2.State:=e2.2
 have c1:(nQ c d).1 = (nQ c' d).1:=e1.1
 have c2:(nQ c d).2.State = (nQ c' d).2.State:=e1.2
 unfold iG HD
 rw [ea,e4,r1,r2,c1,c2,e3]
theorem OC (a b:List GFact) (h:a.Perm b) (ha:a.length≤40) (t:List GRules) (ht:pk t):∃ s,dC a t = some s∧dC b t = some s∧s.length≤100000:=by
 have hb:b.length≤40:=by rw [← h.length_eq];exact ha
 obtain ⟨p,p2,p3,p4,p5⟩:=o5 a ha
 obtain ⟨q,q2,q3,q4,q5⟩:=o5 b hb
 have hl:=Mz h
 have hc:=h.filter aG
 rw [← hl] at q3
 have hpq:=My hc p3 q3 p4 q4
 subst hpq
 obtain ⟨s,s1,s2,s3,s4⟩:=xw a ha t ht p p2 p3 p5
 obtain ⟨u,u1,u2,u3,u4⟩:=xw b hb t ht p q2 (by rw [← hl];exact q3) p5
 have:s = u:=HT s u _ _ _ _ s2 u2 fun d v=>by rw [s3,u3, ← hl,MC hc iT]
 subst this
 exact ⟨s,s1,u1,s4⟩
end Go.Ax
set_option linter.all false
/- LawArrival. -/
set_option maxRecDepth 100000
namespace Go.Ax
theorem Gv (a:List GSegment) (ha:a.length≤1000000):gP a a = some true:=by
 rw [ti,CU.2 rfl,cond_false]
 refine (qb a (fun i=>bW a a i) (fun _=>false) none (some true) ?_ fun i hi=>?_).trans (by simp)
 ·show bW _ _ _ = _
  rw [jP,cm];rfl
 ·show bW _ _ _ = if (false:Bool) = true then none else bW a a ((i+1:Nat):Int)
  rw [if_neg (by simp),jP]
  simp only [cB hi,cz,cond_true,aO,Bool.or_true,bP hi,bS hi (by omega)]
  simp only [lV,Bool.and_self,Bool.not_true,cond_false]
theorem DD (l:List GPensionhand_Fact) (n:List Int) (dense:Bool) (limit:Int) (order:List Int):qU l n dense limit order = some true:=by
 rw [wB]
 by_cases hn:60 < (n.length:Int)
 ·rw [aM hn];rfl
 by_cases ho:60 < (order.length:Int)
 ·rw [aM ho];cases aa (60 < (n.length:Int)) <;> rfl
 rw [bu hn,bu ho,cond_false,cond_false]
 obtain ⟨a,ha,hal⟩:=JJ l n dense (by omega)
 obtain ⟨t,h2,h3⟩:=NZ n (by omega) limit
 rw [ha,Option.bind_some,h2,Option.bind_some,aN (by omega),aN (by omega)]
 have fin:∀ b:List GFact,b.Perm a→((om).bind fun r1=>bif r1 then (dC a t).bind fun r2=>(dC b t).bind fun r3=>(gP r2 r3).bind fun r4=>some r4 else some false) = some true:=by
  intro b hb
  obtain ⟨s,s1,s2,s3⟩:=OC a b hb.symm (by omega) t h3
  rw [PK,Option.bind_some,cond_true,s1,Option.bind_some,s2,Option.bind_some,Gv s (by omega),Option.bind_some]
 have key:∀ (k i:Nat) (b:List GFact),order.length = i+k→b.Perm a→fx order (i:Int) a t b = some true:=by
  intro k
  induction k with
  | zero =>
   intro i b hi hb
   have:i = order.length:=by omega
   subst this
   rw [kD,cm,cond_false,cond_false]
   exact fin b hb
  | succ k ih =>
   intro i b hk hb
   have hi:i < order.length:=by omega
   have hbl:=hb.length_eq
   rw [kD,cB hi,cond_true]
   by_cases h0:0 < (b.length:Int)
   ·rw [aM h0,cond_true,cz,aO,aO]
    obtain ⟨q,hq,hq0,hq1⟩:=nO (gD order ((i:Nat):Int).toNat 0) (b.length:Int) h0 (by omega)
    have hm:i % b.length < b.length:=Nat.mod_lt _ (by omega)
    have em:Int.tmod (i:Int) (b.length:Int) = ((i % b.length:Nat):Int):=by
     rw [Int.tmod_eq_emod_of_nonneg (by omega)];rfl
    have hj:q.toNat < b.length:=by omega
    have gj:gD b q.toNat (zS .GFact) = b[q.toNat]:=by
     unfold gD
     rw [List.getD_eq_getElem?_getD,List.getElem?_eq_getElem hj];rfl
    rw [hq,Option.bind_some,em,bP hm,gj,List.length_set,aN (by omega),aN (by omega),aN (by omega),aN hq0,aN hq1,aN hq0,aN hq1,aN (by omega),aN (by omega),bS hi (by omega)]
    rw [show ((i % b.length:Nat):Int).toNat = i % b.length by omega]
    exact ih (i+1) _ (by omega) ((List.set_set_perm hj hm).trans hb)
   ·rw [bu h0,cond_false]
    exact fin b hb
 exact key order.length 0 a (by omega) (.refl _)
end Go.Ax
