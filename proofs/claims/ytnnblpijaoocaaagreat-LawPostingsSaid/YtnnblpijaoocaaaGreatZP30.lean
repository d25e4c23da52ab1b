import Derived.Test.YtnnblpijaoocaaaGreatZP13
import Derived.Test.YtnnblpijaoocaaaGreatZP15
import Derived.Test.YtnnblpijaoocaaaGreatZP12
import Derived.Test.YtnnblpijaoocaaaGreatZP5
set_option linter.all false
/- Made versions and the document's law end. -/
set_option maxRecDepth 100000
namespace Go.Ax
theorem uB (n k:Int) (h:0 < k) (h':k≤1000000000):En (fun y=>0≤y∧y < k) (jp n k):=by
  rw [zr n k (by omega),if_neg (by omega)]
  exact .some ⟨Int.emod_nonneg _ (by omega),Int.emod_lt_of_pos _ h⟩
end Go.Ax
set_option linter.all false
/- Postings: the map by routes; whatever the order of the walk, the sorted list is the same. -/
set_option maxRecDepth 100000
namespace Go.Ax
abbrev Rt:=GCompetence_route
theorem HZ (x k:Rt):ny kR x k = true↔x = k:=by
  have e:ny kR x k = (ah x.seat k.seat&&ah x.state k.state):=(ph (s:=.GCompetence_route) rfl x k).trans rfl
  rw [e,Bool.and_eq_true]
  obtain ⟨a,b⟩:=x
  obtain ⟨c,d⟩:=k
  simp [ah]
theorem ul:∀ (ks:List Rt) (k:Rt),(aA kR ks k = ks.length∧k ∉ ks)∨(aA kR ks k < ks.length∧ks[aA kR ks k]? = some k)
  | [],k=>.inl ⟨rfl,by simp⟩
  | x :: r,k=>by
    have e:aA kR (x :: r) k = bif ny kR x k then 0 else aA kR r k+1:=rfl
    cases h:ny kR x k with
    | true =>
      rw [h,cond_true] at e
      have:=(HZ x k).1 h
      subst this
      exact .inr ⟨by rw [e]; simp,by rw [e]; rfl⟩
    | false =>
      rw [h,cond_false] at e
      have hne:x≠k:=fun h'=>by rw [(HZ x k).2 h'] at h; cases h
      rw [e]
      rcases ul r k with ⟨h1,h2⟩ | ⟨h1,h2⟩
      · exact .inl ⟨by rw [h1]; rfl,fun hm=>by rcases List.mem_cons.1 hm with h' | h'; exact hne h'.symm; exact h2 h'⟩
      · exact .inr ⟨by simp; omega,by rw [List.getElem?_cons_succ]; exact h2⟩
theorem Dv (ks:List Rt) (r:Rt):ew kR ks r = true↔r∈ks:=by
  unfold ew
  rw [Nat.blt_eq]
  rcases ul ks r with ⟨h,hn⟩ | ⟨h1,h2⟩
  · exact ⟨fun h'=>by have h'':aA kR ks r < ks.length:=h'; have h3:aA kR ks r = ks.length:=h; omega,fun h'=>absurd h' hn⟩
  · exact ⟨fun _=>List.mem_of_getElem? h2,fun _=>h1⟩
def sT (r:Rt) (f:GFact):Bool:=ah f.Kind 4&&(ah f.Seat r.seat&&ah f.State r.state)
def aN (c:List GFact) (r:Rt):List GSpan:=(c.filter (sT r)).map GFact.Span
theorem tn (r:Rt) (f:GFact):sT r f = true↔f.Kind = 4∧rT f = r:=by
  unfold sT rT
  obtain ⟨a,b⟩:=r
  simp [ah]
theorem qy (c:List GFact) (f:GFact) (r:Rt):aN (c++[f]) r = aN c r++if sT r f = true then [f.Span] else []:=by
  unfold aN
  rw [List.filter_append,List.map_append]
  congr 1
  by_cases h:sT r f = true
  · rw [if_pos h,List.filter_cons,if_pos h]; rfl
  · rw [if_neg h,List.filter_cons,if_neg h]; rfl
theorem sL (c:List GFact) (r:Rt):(aN c r).length≤c.length:=by
  unfold aN
  rw [List.length_map]
  exact List.length_filter_le _ _
structure su (c:List GFact) (s:List Rt × List (List GSpan)):Prop where
  len:s.1.length = s.2.length
  nd:s.1.Nodup
  val:∀ (p:Nat) (h:p < s.1.length),gD s.2 p [] = aN c s.1[p]
  mem:∀ r,r∈s.1↔aN c r≠[]
  le:s.1.length≤c.length
theorem FD {c:List GFact} {s:List Rt × List (List GSpan)} (h:su c s) (f:GFact):su (c++[f]) (eX s f):=by
  obtain ⟨ks,vs⟩:=s
  obtain ⟨hlen,hnd,hval,hmem,hle⟩:=h
  simp only at hlen hnd hval hmem hle
  unfold eX
  cases hk:ah f.Kind 4 with
  | false =>
    have e:∀ r,aN (c++[f]) r = aN c r:=by
      intro r
      have:sT r f = false:=by unfold sT; rw [hk]; rfl
      rw [qy,this]; simp
    rw [cond_false]
    exact ⟨hlen,hnd,fun p hp=>by rw [e]; exact hval p hp,fun r=>by rw [e]; exact hmem r,by simp; omega⟩
  | true =>
    rw [cond_true]
    have hk4:f.Kind = 4:=by simpa [ah] using hk
    generalize hr:rT f = r0
    have eT:aN (c++[f]) r0 = aN c r0++[f.Span]:=by rw [qy,if_pos ((tn _ _).2 ⟨hk4,hr⟩)]
    have eF:∀ r,r≠r0→aN (c++[f]) r = aN c r:=by
      intro r hne
      rw [qy,if_neg (fun h=>hne (((tn _ _).1 h).2.symm.trans hr)),List.append_nil]
    rcases ul ks r0 with ⟨h1,h2⟩ | ⟨h1,h2⟩
    · have hno:ew kR ks r0 = false:=by
        cases hb:ew kR ks r0 with
        | false=>rfl
        | true=>exact absurd ((Dv ks r0).1 hb) h2
      have hg:cV kR ks vs r0 ([]:List GSpan) = []:=by
        unfold cV
        rw [h1,List.getD_eq_getElem?_getD,List.getElem?_eq_none (by omega)]; rfl
      have e0:aN c r0 = []:=by
        cases hd:aN c r0 with
        | nil=>rfl
        | cons a b=>exact absurd ((hmem r0).2 (by rw [hd]; simp)) h2
      have e1:cT kR ks r0 = ks++[r0]:=by unfold cT; rw [hno]; rfl
      have e2:dD kR ks vs r0 (cV kR ks vs r0 []++[f.Span]) = vs++[[f.Span]]:=by unfold dD; rw [hno,hg]; rfl
      rw [e1,e2]
      refine ⟨by simp; omega, ?_, ?_, ?_,by simp; omega⟩
      · show (ks++[r0]).Nodup
        rw [List.nodup_append]
        exact ⟨hnd,by simp,fun a ha b hb=>by simp at hb; subst hb; exact fun h=>h2 (h ▸ ha)⟩
      · intro p hp
        simp only [List.length_append,List.length_cons,List.length_nil] at hp
        by_cases hpn:p < ks.length
        · have g:gD (vs++[[f.Span]]) p [] = gD vs p []:=by
            unfold gD
            rw [List.getD_eq_getElem?_getD,List.getD_eq_getElem?_getD,List.getElem?_append_left (by omega)]
          show gD (vs++[[f.Span]]) p [] = aN (c++[f]) (ks++[r0])[p]
          rw [g,hval p hpn,List.getElem_append_left hpn,eF]
          intro he
          exact h2 (he ▸ List.getElem_mem hpn)
        · have:p = ks.length:=by omega
          subst this
          show gD (vs++[[f.Span]]) ks.length [] = aN (c++[f]) (ks++[r0])[ks.length]
          have g:gD (vs++[[f.Span]]) ks.length [] = [f.Span]:=by
            unfold gD
            rw [List.getD_eq_getElem?_getD,hlen,List.getElem?_concat_length]; rfl
          rw [g,List.getElem_concat_length rfl,eT,e0]; rfl
      · intro r
        show r∈ks++[r0]↔_
        rw [List.mem_append,List.mem_singleton]
        by_cases hrr:r = r0
        · subst hrr
          exact ⟨fun _=>by rw [eT]; simp,fun _=>.inr rfl⟩
        · rw [eF r hrr, ← hmem r]
          exact ⟨fun h=>h.resolve_right hrr, .inl⟩
    · have hyes:ew kR ks r0 = true:=(Dv ks r0).2 (List.mem_of_getElem? h2)
      have e1:cT kR ks r0 = ks:=by unfold cT; rw [hyes]; rfl
      generalize hj:aA kR ks r0 = j at h1 h2
      have h3:ks[j] = r0:=by rw [List.getElem?_eq_getElem h1] at h2; exact Option.some.inj h2
      have hg:cV kR ks vs r0 ([]:List GSpan) = aN c r0:=by
        rw [← h3, ← hval j h1]
        unfold cV gD
        rw [h3,hj]
      have e2:dD kR ks vs r0 (cV kR ks vs r0 []++[f.Span]) = vs.set j (aN c r0++[f.Span]):=by unfold dD; rw [hyes,hg,hj]; rfl
      rw [e1,e2]
      refine ⟨by simp; omega,hnd, ?_, ?_,by simp; omega⟩
      · intro p hp
        show gD (vs.set j (aN c r0++[f.Span])) p [] = aN (c++[f]) ks[p]
        have hp:p < ks.length:=hp
        by_cases hpj:p = j
        · subst hpj
          rw [h3,eT]
          unfold gD
          rw [List.getD_eq_getElem?_getD,List.getElem?_set,if_pos rfl,if_pos (by omega)]; rfl
        · have g:gD (vs.set j (aN c r0++[f.Span])) p [] = gD vs p []:=by
            unfold gD
            rw [List.getD_eq_getElem?_getD,List.getD_eq_getElem?_getD,List.getElem?_set,if_neg (fun h=>hpj h.symm)]
          rw [g,hval p hp,eF]
          intro he
          exact hpj ((List.getElem_inj hnd).1 (he.trans h3.symm))
      · intro r
        show r∈ks↔_
        by_cases hrr:r = r0
        · subst hrr
          exact ⟨fun _=>by rw [eT]; simp,fun _=>List.mem_of_getElem? h2⟩
        · rw [eF r hrr, ← hmem r]
theorem IE (c:List GFact):su c (bZ c):=by
  have key:∀ (rest pre:List GFact) (s:List Rt × List (List GSpan)),su pre s→su (pre++rest) (rest.foldl eX s):=by
    intro rest
    induction rest with
    | nil=>intro pre s h; rw [List.append_nil]; exact h
    | cons f r ih =>
      intro pre s h
      rw [List.foldl_cons,show pre++f :: r = (pre++[f])++r by simp]
      exact ih _ _ (FD h f)
  exact key c [] ([],[]) ⟨rfl,by simp,fun p h=>absurd h (by simp),fun r=>by simp [aN],by simp⟩
theorem y9:Go.Sort.SWO cx:=by
  refine ⟨fun x=>by simp [cx,aa],fun x y z h1 h2=>?_,fun x y z h1 h2=>?_⟩
  · simp only [cx,aa,ah,Bool.or_eq_true,Bool.and_eq_true,decide_eq_true_eq,beq_iff_eq] at *
    omega
  · simp only [cx,aa,ah,Bool.or_eq_false_iff,Bool.and_eq_false_iff,decide_eq_false_iff_not,beq_eq_false_iff_ne,ne_eq] at *
    omega
theorem l9 (a b:GPosting):cx b a = false↔a.Span.From < b.Span.From∨(a.Span.From = b.Span.From∧(a.Seat < b.Seat∨(a.Seat = b.Seat∧a.State≤b.State))):=by
  simp only [cx,aa,ah,Bool.or_eq_false_iff,Bool.and_eq_false_iff,decide_eq_false_iff_not,beq_eq_false_iff_ne,ne_eq]
  omega
theorem zl:∀ {l:List GSpan} {lo:Int},cq lo l→∀ s∈l, ∀ t∈l,s.From = t.From→s = t
  | [],_,_,s,hs,_,_,_=>by cases hs
  | x :: r,lo,h,s,hs,t,ht,e=>by
    obtain ⟨h1,h2,h3,h4⟩:=h
    have low:∀ y∈r,x.From < y.From:=fun y hy=>by
      have hy':y.From < y.To:=(norm_inR' h4 y hy)
      have:=d9 h4 (d:=y.From) ⟨y,hy,Int.le_refl _,hy'⟩
      omega
    rcases List.mem_cons.1 hs with hs | hs <;> rcases List.mem_cons.1 ht with ht | ht
    · rw [hs,ht]
    · have:=low t ht; rw [hs] at e; omega
    · have:=low s hs; rw [ht] at e; omega
    · exact zl h4 s hs t ht e
where norm_inR':∀ {l:List GSpan} {lo:Int},cq lo l→∀ y∈l,y.From < y.To
  | [],_,_,y,hy=>by cases hy
  | x :: r,lo,h,y,hy=>by
    rcases List.mem_cons.1 hy with rfl | hy
    · exact h.2.1
    · exact norm_inR' h.2.2.2 y hy
noncomputable def eh (c:List GFact) (life:GSpan) (r:Rt):List GPosting:=(fV (aN c r) life).map fun s=>⟨r.seat,r.state,s⟩
theorem B1 {c:List GFact} {life:GSpan} {r:Rt} (h:aN c r = []):eh c life r = []:=by
  unfold eh
  have h1:=(uG (aN c r) life)
  cases e:fV (aN c r) life with
  | nil=>rfl
  | cons s t =>
    rw [e] at h1
    have:=(h1.2 s.From).1 ⟨s,by simp,Int.le_refl _,h1.1.2.1⟩
    rw [h] at this
    exact absurd this.1.1 ct
def F9 (c:List GFact) (life:GSpan) (a:GPosting):Prop:=a.Span∈fV (aN c ⟨a.Seat,a.State⟩) life
theorem DJ {c:List GFact} {life:GSpan} {r:Rt}:∀ a∈eh c life r,F9 c life a:=by
  intro a ha
  obtain ⟨s,hs,rfl⟩:=List.mem_map.1 ha
  exact hs
theorem HR {c:List GFact} {life:GSpan} {a b:GPosting} (ha:F9 c life a) (hb:F9 c life b) (h1:cx b a = false) (h2:cx a b = false):a = b:=by
  rw [l9] at h1 h2
  obtain ⟨s1,s2,x⟩:=a
  obtain ⟨t1,t2,y⟩:=b
  simp only at h1 h2
  obtain rfl:s1 = t1:=by omega
  obtain rfl:s2 = t2:=by omega
  have:=zl (uG _ _).1 x ha y hb (by omega)
  rw [this]
theorem yI {c:List GFact} {life:GSpan} {l l':List GPosting} (hp:l.Perm l') (hin:∀ a∈l,F9 c life a) (hs:l'.Pairwise fun a b=>cx b a = false):dE l = l':=by
  have h:=@pt _ ⟨zS .GPosting⟩ _ y9 l
  refine List.Perm.eq_of_pairwise (le:=fun a b=>cx b a = false) (fun a b ha hb h1 h2=>?_) h.2 hs (h.1.trans hp)
  exact HR (hin a (h.1.mem_iff.1 ha)) (hin b (hp.mem_iff.2 hb)) h1 h2
theorem Gh {c:List GFact} {life:GSpan} {l l':List GPosting} (hp:l.Perm l') (hin:∀ a∈l',F9 c life a):dE l = dE l':=by
  have h:=@pt _ ⟨zS .GPosting⟩ _ y9 l'
  exact yI (l':=dE l') (hp.trans h.1.symm) (fun a ha=>hin a (hp.mem_iff.1 ha)) h.2
def mH (seat state:Int):Nat→List Rt
  | 0=>[]
  | k+1=>⟨seat,state⟩ :: mH seat (state+1) k
def jj (seat:Int):Nat→List Rt
  | 0=>[]
  | k+1=>mH seat 0 6++jj (seat+1) k
theorem pX (seat:Int) (r:Rt):∀ (k:Nat) (state:Int),r∈mH seat state k↔r.seat = seat∧state≤r.state∧r.state < state+k
  | 0,state=>by simp only [mH,List.not_mem_nil,false_iff]; omega
  | k+1,state=>by
    rw [mH,List.mem_cons,pX seat r k]
    obtain ⟨a,b⟩:=r
    simp only [GCompetence_route.mk.injEq]
    omega
theorem uQ (r:Rt):∀ (k:Nat) (seat:Int),r∈jj seat k↔(seat≤r.seat∧r.seat < seat+k)∧0≤r.state∧r.state < 6
  | 0,seat=>by simp only [jj,List.not_mem_nil,false_iff]; omega
  | k+1,seat=>by
    rw [jj,List.mem_append,pX,uQ r k]
    omega
theorem DE (seat:Int):∀ (k:Nat) (state:Int),(mH seat state k).Nodup
  | 0,_=>by simp [mH]
  | k+1,state=>by
    rw [mH,List.nodup_cons]
    exact ⟨fun h=>by have:=(pX _ _ _ _).1 h; have e:(⟨seat,state⟩:Rt).state = state:=rfl; omega,DE seat k _⟩
theorem Ds:∀ (k:Nat) (seat:Int),(jj seat k).Nodup
  | 0,_=>by simp [jj]
  | k+1,seat=>by
    rw [jj,List.nodup_append]
    refine ⟨DE _ _ _,Ds k _,fun a ha b hb e=>?_⟩
    subst e
    rw [pX] at ha
    rw [uQ] at hb
    omega
theorem CI {c:List GFact} {life:GSpan} {ks:List Rt} (hnd:ks.Nodup) (hmem:∀ r,r∈ks↔aN c r≠[]) (hc:∀ f∈c,f.Kind = 4→(0≤f.Seat∧f.Seat < 6)∧0≤f.State∧f.State < 6) :
    (ks.flatMap (eh c life)).Perm ((jj 0 6).flatMap (eh c life)):=by
  have hk:ks.Perm ((jj 0 6).filter fun r=>decide (aN c r≠[])):=by
    rw [List.perm_ext_iff_of_nodup hnd ((List.filter_sublist).nodup (Ds 6 0))]
    intro r
    rw [List.mem_filter,decide_eq_true_eq,hmem r]
    refine ⟨fun h=>⟨?_,h⟩,fun h=>h.2⟩
    rw [uQ]
    cases hd:c.filter (sT r) with
    | nil=>exact absurd (by unfold aN; rw [hd]; rfl) h
    | cons f t =>
      have hf:f∈c.filter (sT r):=by rw [hd]; simp
      obtain ⟨f1,f2⟩:=List.mem_filter.1 hf
      obtain ⟨f3,f4⟩:=(tn _ _).1 f2
      have:=hc f f1 f3
      subst f4
      exact ⟨by simp [rT]; omega,by simp [rT]; omega⟩
  refine (List.Perm.flatMap_right _ hk).trans ?_
  have:∀ l:List Rt,(l.filter fun r=>decide (aN c r≠[])).flatMap (eh c life) = l.flatMap (eh c life):=by
    intro l
    induction l with
    | nil=>rfl
    | cons r t ih =>
      rw [List.filter_cons,List.flatMap_cons]
      by_cases h:aN c r = []
      · rw [if_neg (by simp [h]),ih,B1 h]; rfl
      · rw [if_pos (by simp [h]),List.flatMap_cons,ih]
  rw [this]
end Go.Ax
set_option linter.all false
/- Both lists of postings are the same. -/
set_option maxRecDepth 100000
namespace Go.Ax
abbrev FS (l:List GPosting):Prop:=l.Pairwise fun a b=>cx b a = false
theorem EF (l:List GPosting) (p:GPosting) (hl:l.length≤1000000) :
    ∃ a b,l = a++b∧jH l p = some (a++[p]++b)∧(∀ y∈b,p.Span.From < y.Span.From)∧(∀ q y,a = q++[y]→y.Span.From≤p.Span.From):=by
  rw [wh]
  have fin:∀ (k:Nat),k≤l.length→(gb (aa (0≤(k:Int)))<|gb (aa ((k:Int)≤(l.length:Int)))<|gb (aa (((al l 0 ((k:Int) - 0).toNat).length*32)≤140737488355328)) <|
        gb (aa ((al l 0 ((k:Int) - 0).toNat).length≤140737488355328))<|gb (aa ((((al l 0 ((k:Int) - 0).toNat).length+1)*32)≤140737488355328))<|gb (aa (((al l 0 ((k:Int) - 0).toNat).length+1)≤140737488355328))<|gb (aa (0≤(k:Int))) <|
        gb (aa ((k:Int)≤(l.length:Int)))<|gb (aa ((l.length:Int)≤(l.length:Int)))<|gb (aa (((((al l 0 ((k:Int) - 0).toNat)++[p]).length+(al l (k:Int).toNat ((l.length:Int) - (k:Int)).toNat).length)*32)≤140737488355328)) <|
        gb (aa ((((al l 0 ((k:Int) - 0).toNat)++[p]).length+(al l (k:Int).toNat ((l.length:Int) - (k:Int)).toNat).length)≤140737488355328)) <|
        some (((al l 0 ((k:Int) - 0).toNat)++[p])++(al l (k:Int).toNat ((l.length:Int) - (k:Int)).toNat))) = some (l.take k++[p]++l.drop k):=by
    intro k hk
    have e1:al l 0 ((k:Int) - 0).toNat = l.take k:=by
      unfold al
      rw [List.drop_zero]; congr 1
    have e2:al l (k:Int).toNat ((l.length:Int) - (k:Int)).toNat = l.drop k:=by
      unfold al
      rw [show (k:Int).toNat = k by omega,List.take_of_length_le]
      rw [List.length_drop]; omega
    have l1:(l.take k).length = k:=by rw [List.length_take]; omega
    have l2:(l.drop k).length = l.length - k:=List.length_drop
    rw [e1,e2]
    simp only [List.length_append,List.length_singleton,l1,l2]
    rw [aF (by omega),aF (by omega),aF (by omega),aF (by omega),aF (by omega),aF (by omega),aF (by omega),aF (by omega),aF (by omega),aF (by omega),aF (by omega)]
  have key:∀ (k:Nat),k≤l.length→(∀ y∈l.drop k,p.Span.From < y.Span.From)→∃ a b,l = a++b∧fK l (k:Int) p = some (a++[p]++b)∧(∀ y∈b,p.Span.From < y.Span.From)∧(∀ q y,a = q++[y]→y.Span.From≤p.Span.From):=by
    intro k
    induction k with
    | zero =>
      intro hk hd
      refine ⟨[],l,rfl, ?_,by simpa using hd,fun q y h=>by simp at h⟩
      rw [gE,cP (p:=(0:Int) < ((0:Nat):Int)) (by omega)]
      simp only [Bool.false_and,Bool.not_false,Bool.true_or,aH,cond_false]
      exact fin 0 (by omega)
    | succ k ih =>
      intro hk hd
      have hk':k < l.length:=by omega
      have e1:ae (((k+1:Nat):Int) - 1) = (k:Int):=by rw [aY (by omega) (by omega)]; omega
      have h0:aa ((0:Int) < ((k+1:Nat):Int)) = true:=aU (by omega)
      by_cases hc:p.Span.From < l[k].Span.From
      · obtain ⟨a,b,h1,h2,h3,h4⟩:=ih (by omega) (fun y hy=>by
          rw [List.drop_eq_getElem_cons hk'] at hy
          rcases List.mem_cons.1 hy with rfl | hy
          · exact hc
          · exact hd y hy)
        refine ⟨a,b,h1, ?_,h3,h4⟩
        rw [gE,e1]
        simp only [h0,bp hk',bW,Bool.or_true,aH,cond_true,bj hk',aU hc]
        exact h2
      · refine ⟨l.take (k+1),l.drop (k+1),(List.take_append_drop _ _).symm, ?_,hd,fun q y h=>?_⟩
        · rw [gE,e1]
          simp only [h0,bp hk',bW,Bool.or_true,aH,cond_true,bj hk',cP hc,cond_false]
          exact fin (k+1) hk
        · have h6:l.take (k+1) = l.take k++[l[k]]:=by rw [List.take_succ,List.getElem?_eq_getElem hk']; rfl
          rw [h6] at h
          have:=List.append_inj_right' h rfl
          simp at this
          rw [← this]; omega
  exact key l.length (by omega) (by rw [List.drop_length]; simp)
theorem zq {out:List GPosting} {p:GPosting} (hs:FS out) (hx:∀ x∈out,x.Seat < p.Seat∨(x.Seat = p.Seat∧x.State≤p.State)) (hl:out.length≤1000000) :
    ∃ r,jH out p = some r∧r.Perm (out++[p])∧FS r:=by
  obtain ⟨a,b,rfl,h2,h3,h4⟩:=EF out p hl
  refine ⟨_,h2, ?_, ?_⟩
  · rw [List.append_assoc,List.append_assoc]
    exact List.Perm.append_left _ List.perm_append_comm
  · have hp:=List.pairwise_append.1 hs
    have ha:∀ x∈a,x.Span.From≤p.Span.From:=by
      intro x hx
      rcases eR a with rfl | ⟨q,y,rfl⟩
      · cases hx
      · have hy:=h4 q y rfl
        rcases List.mem_append.1 hx with hq | hq
        · have:=(List.pairwise_append.1 hp.1).2.2 x hq y (by simp)
          rw [l9] at this; omega
        · simp at hq; subst hq; exact hy
    have hap:∀ x∈a,cx p x = false:=by
      intro x hxa
      rw [l9]
      have h5:=ha x hxa
      have h6:=hx x (List.mem_append_left _ hxa)
      omega
    have hpb:∀ y∈b,cx y p = false:=by
      intro y hy
      rw [l9]
      have:=h3 y hy
      omega
    refine List.pairwise_append.2 ⟨List.pairwise_append.2 ⟨hp.1,by simp,fun x hx y hy=>?_⟩,hp.2.1,fun x hx y hy=>?_⟩
    · simp at hy; rw [hy]; exact hap x hx
    · rcases List.mem_append.1 hx with hx | hx
      · exact hp.2.2 x hx y hy
      · simp at hx; subst hx; exact hpb y hy
structure ji (out D:List GPosting) (seat state:Int):Prop where
  perm:out.Perm D
  srt:FS out
  lex:∀ x∈out,x.Seat < seat∨(x.Seat = seat∧x.State≤state)
theorem ji.mono {out D:List GPosting} {s t s' t':Int} (h:ji out D s t) (e:s < s'∨(s = s'∧t≤t')):ji out D s' t' :=
  ⟨h.perm,h.srt,fun x hx=>by have:=h.lex x hx; omega⟩
section
variable (l c:List GFact) (hl:l.length≤40) (hc:c.length≤40)
theorem Gx (seat state:Int) (s:List GSpan) (hs:s.length≤1000):∀ (n i:Nat) (out D:List GPosting),i+n = s.length→ji out D seat state→out.length+n≤1000000 →
    ∃ out',dj l seat state (i:Int) c out s = bH l seat (ae (state+1)) c out'∧ji out' (D++(s.drop i).map fun x=>⟨seat,state,x⟩) seat state:=by
  intro n
  induction n with
  | zero =>
    intro i out D hn hg ho
    have:i = s.length:=by omega
    subst this
    refine ⟨out,by rw [gj,bU,cond_false], ?_⟩
    rw [List.drop_length,List.map_nil,List.append_nil]
    exact hg
  | succ n ih =>
    intro i out D hn hg ho
    have hi:i < s.length:=by omega
    obtain ⟨r,h1,h2,h3⟩:=zq (p:=⟨seat,state,s[i]⟩) hg.srt hg.lex (by omega)
    have hg':ji r (D++[⟨seat,state,s[i]⟩]) seat state:=⟨h2.trans (hg.perm.append_right _),h3,fun x hx=>by
      rcases List.mem_append.1 (h2.mem_iff.1 hx) with hx | hx
      · exact hg.lex x hx
      · simp at hx; subst hx; right; exact ⟨rfl,Int.le_refl _⟩⟩
    have hlen:r.length = out.length+1:=by rw [h2.length_eq]; simp
    obtain ⟨o,e1,e2⟩:=ih (i+1) r _ (by omega) hg' (by omega)
    refine ⟨o, ?_, ?_⟩
    · rw [gj]
      simp only [bp hi,bW,cond_true,aH,Bool.or_true,bj hi,bV hi (by omega)]
      rw [h1,Option.bind_some]
      exact e1
    · rw [List.drop_eq_getElem_cons hi,List.map_cons]
      rw [List.append_assoc] at e2
      exact e2
include hl hc
theorem FF (seat state:Int) (h0:0≤state) (h6:state < 6) (out D:List GPosting) (hg:ji out D seat state) (ho:out.length≤100000) :
    ∃ out',bH l seat state c out = bH l seat (state+1) c out'∧ji out' (D++eh c (cw l) ⟨seat,state⟩) seat state:=by
  rw [iF,aU h6,cond_true]
  have hd:(aN c ⟨seat,state⟩).length≤40:=Nat.le_trans (sL _ _) hc
  have e:aK l seat state 0 c out [] = aK l seat state (c.length:Int) c out (aN c ⟨seat,state⟩):=by
    refine J5 c (fun i s=>aK l seat state i c out s) (sT ⟨seat,state⟩) GFact.Span fun i s hi hs=>?_
    show aK _ _ _ _ _ _ _ = aK _ _ _ _ _ _ _
    rw [gm]
    simp only [bp hi,bW,cond_true,aH,Bool.or_true,bj hi,bV hi (by omega)]
    rw [lJ]
    unfold sT
    cases ah c[i].Kind 4 <;> cases ah c[i].Seat seat <;> cases ah c[i].State state <;> rfl
  rw [e,gm,bU,cond_false,xO l (by omega),Option.bind_some,zM _ _ (by omega),Option.bind_some]
  have hcl:=pe (aN c ⟨seat,state⟩) (cw l)
  obtain ⟨o,e1,e2⟩:=Gx l c seat state (fV (aN c ⟨seat,state⟩) (cw l)) (by omega) _ 0 out D (Nat.zero_add _) hg (by omega)
  rw [aY (n:=state+1) (by omega) (by omega)] at e1
  exact ⟨o,e1,by rw [List.drop_zero] at e2; exact e2⟩
theorem JC (r:Rt):(eh c (cw l) r).length≤41:=by
  unfold eh
  rw [List.length_map]
  have:=pe (aN c r) (cw l)
  have:=sL c r
  omega
theorem IW (seat:Int) (hs0:0≤seat) (hs6:seat < 6):∀ (k:Nat) (state:Int) (out D:List GPosting),state+k = 6→0≤state→ji out D seat state→out.length+41*k≤100000 →
    ∃ out',bH l seat state c out = dn l (seat+1) c out'∧ji out' (D++(mH seat state k).flatMap (eh c (cw l))) (seat+1) 0∧out'.length≤out.length+41*k:=by
  intro k
  induction k with
  | zero =>
    intro state out D hk h0 hg ho
    refine ⟨out, ?_, ?_,by omega⟩
    · rw [iF,cP (by omega),cond_false,aY (n:=seat+1) (by omega) (by omega)]
    · rw [mH,List.flatMap_nil,List.append_nil]
      exact hg.mono (by omega)
  | succ k ih =>
    intro state out D hk h0 hg ho
    obtain ⟨o,e1,e2⟩:=FF l c hl hc seat state h0 (by omega) out D hg (by omega)
    have hlen:o.length≤out.length+41:=by
      rw [e2.perm.length_eq,List.length_append, ← hg.perm.length_eq]
      have:=JC l c hl hc ⟨seat,state⟩
      omega
    obtain ⟨o2,f1,f2,f3⟩:=ih (state+1) o _ (by omega) (by omega) (e2.mono (by omega)) (by omega)
    refine ⟨o2,e1.trans f1, ?_,by omega⟩
    rw [mH,List.flatMap_cons, ← List.append_assoc]
    exact f2
theorem IH:∀ (k:Nat) (seat:Int) (out D:List GPosting),seat+k = 6→0≤seat→ji out D seat 0→out.length+246*k≤100000 →
    ∃ out',dn l seat c out = some out'∧ji out' (D++(jj seat k).flatMap (eh c (cw l))) 6 0∧out'.length≤out.length+246*k:=by
  intro k
  induction k with
  | zero =>
    intro seat out D hk h0 hg ho
    refine ⟨out, ?_, ?_,by omega⟩
    · rw [iS,cP (by omega),cond_false]
    · rw [jj,List.flatMap_nil,List.append_nil]
      exact hg.mono (by omega)
  | succ k ih =>
    intro seat out D hk h0 hg ho
    obtain ⟨o,e1,e2,e3⟩:=IW l c hl hc seat h0 (by omega) 6 0 out D (by omega) (by omega) hg (by omega)
    obtain ⟨o2,f1,f2,f3⟩:=ih (seat+1) o _ (by omega) (by omega) e2 (by omega)
    refine ⟨o2, ?_, ?_,by omega⟩
    · rw [iS,aU (by omega),cond_true,e1]
      exact f1
    · rw [jj,List.flatMap_append, ← List.append_assoc]
      exact f2
end
theorem rA (l:List GFact) (hl:l.length≤40):∃ out,ip l = some out∧out.Perm ((jj 0 6).flatMap (eh (l.filter dq) (cw l)))∧FS out∧out.length≤1476:=by
  rw [tA,lR l (by omega),Option.bind_some]
  have:=List.length_filter_le dq l
  obtain ⟨o,e1,e2,e3⟩:=IH l (l.filter dq) hl (by omega) 6 0 [] [] (by omega) (by omega) ⟨.refl _,by simp,by simp⟩ (by simp)
  exact ⟨o,e1,e2.perm,e2.srt,by simpa using e3⟩
theorem zi {A B:Type} (f:A→B):∀ (l:List A) (o:List B),l.foldl (fun o x=>o++[f x]) o = o++l.map f
  | [],o=>by simp
  | x :: r,o=>by rw [List.foldl_cons,zi f r]; simp
theorem Iy {n:Nat} {wl:List Int} (hnd:wl.Nodup) (hr:∀ x∈wl,0≤x∧x < (n:Int)) (hlen:wl.length = n):wl.Perm ((List.range n).map fun p:Nat=>(p:Int)):=by
  have hnd2:((List.range n).map fun p:Nat=>(p:Int)).Nodup:=by
    rw [List.nodup_iff_pairwise_ne,List.pairwise_map]
    exact List.Pairwise.imp (fun h e=>h (by omega)) (List.nodup_iff_pairwise_ne.1 List.nodup_range)
  have sub:wl ⊆ (List.range n).map fun p:Nat=>(p:Int):=by
    intro x hx
    have:=hr x hx
    exact List.mem_map.2 ⟨x.toNat,List.mem_range.2 (by omega),by omega⟩
  rw [List.perm_ext_iff_of_nodup hnd hnd2]
  intro a
  refine ⟨fun h=>sub h,fun h=>?_⟩
  by_cases ha:a∈wl
  · exact ha
  · exfalso
    have h1:(a :: wl).Nodup:=List.nodup_cons.2 ⟨ha,hnd⟩
    have h2:(a :: wl) ⊆ (List.range n).map fun p:Nat=>(p:Int):=fun x hx=>by
      rcases List.mem_cons.1 hx with rfl | hx
      · exact h
      · exact sub hx
    have:=h1.length_le_of_subset h2
    simp at this
    omega
theorem HK {n:Nat} {wl:List Int} (hlen:wl.length < n):ff n wl≠[]:=by
  intro h
  have hnd2:((List.range n).map fun p:Nat=>(p:Int)).Nodup:=by
    rw [List.nodup_iff_pairwise_ne,List.pairwise_map]
    exact List.Pairwise.imp (fun h e=>h (by omega)) (List.nodup_iff_pairwise_ne.1 List.nodup_range)
  have sub:((List.range n).map fun p:Nat=>(p:Int)) ⊆ wl:=by
    intro x hx
    obtain ⟨p,hp,rfl⟩:=List.mem_map.1 hx
    rw [List.mem_range] at hp
    by_cases hm:(p:Int)∈wl
    · exact hm
    · have:=lC.2 ⟨hp,hm⟩
      rw [h] at this
      cases this
  have:=hnd2.length_le_of_subset sub
  simp at this
  omega
theorem GA (l c:List GFact) (hl:l.length≤40) (hc:c.length≤40) (ks:List Rt) (vs:List (List GSpan)) (hk:ks.length≤40) (hv:∀ (p:Nat) (h:p < ks.length),gD vs p [] = aN c ks[p]):∀ (n:Nat) (out:List GPosting) (wl:List Int),
    wl.Nodup→(∀ x∈wl,0≤x∧x < (ks.length:Int))→wl.length+n = ks.length→out.Perm (wl.flatMap fun x=>eh c (cw l) (gD ks x.toNat (zS .GCompetence_route)))→out.length≤41*wl.length →
    cW l out (ks.length:Int) wl ks vs = some (dE (ks.flatMap (eh c (cw l)))):=by
  intro n
  induction n with
  | zero =>
    intro out wl hnd hr hlen hp ho
    have hw:=Iy hnd hr (by omega)
    have he:ff ks.length wl = []:=by
      cases h:ff ks.length wl with
      | nil=>rfl
      | cons p r =>
        have hm:p∈ff ks.length wl:=by rw [h]; simp
        obtain ⟨h1,h2⟩:=lC.1 hm
        exact absurd (hw.mem_iff.2 (List.mem_map.2 ⟨p,List.mem_range.2 h1,rfl⟩)) h2
    rw [fH,m5,aH,he]
    show (gb (aa (out.length≤4611686018427387903))<|some (dE out)) = _
    rw [aF (by omega)]
    congr 1
    have hp2:out.Perm (ks.flatMap (eh c (cw l))):=by
      refine hp.trans ((List.Perm.flatMap_right _ hw).trans ?_)
      rw [List.flatMap_map]
      have:(List.range ks.length).flatMap (fun p=>eh c (cw l) (gD ks ((p:Nat):Int).toNat (zS .GCompetence_route))) = ks.flatMap (eh c (cw l)):=by
        have e:ks = (List.range ks.length).map fun p=>gD ks ((p:Nat):Int).toNat (zS .GCompetence_route):=by
          apply List.ext_getElem (by simp)
          intro i h1 h2
          rw [List.getElem_map,List.getElem_range,bj h1]
        conv=>rhs; rw [e,List.flatMap_map]
      rw [this]
    refine Gh (c:=c) (life:=cw l) hp2 fun a ha=>?_
    obtain ⟨r,_,h⟩:=List.mem_flatMap.1 ha
    exact DJ a h
  | succ n ih =>
    intro out wl hnd hr hlen hp ho
    have hne:=HK (n:=ks.length) (wl:=wl) (by omega)
    rw [fH,m5,aH]
    have:List.isEmpty (ff ks.length wl) = false:=by
      cases h:ff ks.length wl with
      | nil=>exact absurd h hne
      | cons p r=>rfl
    rw [this,cond_false]
    refine ql hne fun p hpm=>?_
    obtain ⟨h1,h2⟩:=lC.1 hpm
    rw [aF rfl,aF (by omega),aF (by omega),jF l (by omega),Option.bind_some]
    have ev:gD vs ((p:Nat):Int).toNat [] = aN c ks[p]:=by
      rw [show ((p:Nat):Int).toNat = p by omega]; exact hv p h1
    rw [ev,bj h1]
    have hd:(aN c ks[p]).length≤40:=Nat.le_trans (sL _ _) hc
    rw [xW _ _ (by omega),Option.bind_some]
    have hcl:=pe (aN c ks[p]) (cw l)
    generalize hr2:fV (aN c ks[p]) (cw l) = r2 at hcl
    have loop:=(tv r2 (fun i o=>aV l (r2.length:Int) i o ks[p] (ks.length:Int) ((p:Int) :: wl) r2 ks vs) (fun (o:List GPosting) s=>o++[(⟨ks[p].seat,ks[p].state,s⟩:GPosting)]) (fun i o=>o.length≤out.length+i) (fun i o hi ho=>⟨by
        show aV _ _ _ _ _ _ _ _ _ _ = aV _ _ _ _ _ _ _ _ _ _
        rw [e7]
        simp only [bp hi,bW,cond_true,aH,Bool.or_true,bj hi,bV hi (by omega)]
        rw [lJ],by simp; omega⟩) out (by omega)).1
    refine Eq.trans loop ?_
    show aV _ _ _ _ _ _ _ _ _ _ = _
    rw [e7,bU,cond_false,zi]
    have ep:r2.map (fun s=>(⟨ks[p].seat,ks[p].state,s⟩:GPosting)) = eh c (cw l) ks[p]:=by unfold eh; rw [hr2]
    rw [ep]
    have hpl:(eh c (cw l) ks[p]).length≤41:=by rw [← ep,List.length_map]; omega
    refine ih _ _ (List.nodup_cons.2 ⟨h2,hnd⟩) (fun x hx=>?_) (by simp; omega) ?_ (by simp; omega)
    · rcases List.mem_cons.1 hx with rfl | hx
      · omega
      · exact hr x hx
    · rw [List.flatMap_cons,bj h1]
      exact (List.perm_append_comm).trans (List.Perm.append_left _ hp)
theorem EJ {f:GFact} (h:dq f = true) (hk:f.Kind = 4):(0≤f.Seat∧f.Seat < 6)∧0≤f.State∧f.State < 6:=by
  have hv:dT f = true:=by
    unfold dq at h
    cases hv:dT f with
    | true=>rfl
    | false=>rw [hv] at h; cases h
  have hs:=((wH f).1 hv).2.2.2.2.2
  rw [hk] at hs
  have b1:cE 4 83 = true:=by decide
  have b2:cE 4 84 = true:=by decide
  have hs1:=hs.1
  have hs2:=hs.2.1
  rw [b1] at hs1
  rw [b2] at hs2
  unfold bg at hs1 hs2
  rw [if_pos rfl,tP] at hs1 hs2
  omega
theorem rR (l:List GFact) (hl:l.length≤40):∃ p,ip l = some p∧dm l = some p∧p.Perm ((jj 0 6).flatMap (eh (l.filter dq) (cw l)))∧FS p∧p.length≤1476:=by
  obtain ⟨p,h1,h2,h3,h4⟩:=rA l hl
  refine ⟨p,h1, ?_,h2,h3,h4⟩
  rw [oc,lv l (by omega),Option.bind_some]
  have hcl:=List.length_filter_le dq l
  have hcr:∀ f∈l.filter dq,f.Kind = 4→(0≤f.Seat∧f.Seat < 6)∧0≤f.State∧f.State < 6:=fun f hf hk=>EJ (List.mem_filter.1 hf).2 hk
  generalize l.filter dq = c at hcl hcr h2
  have es:nE (l,c,(c.length:Int),0,[],[]) = some (l,(bZ c).1,(bZ c).2):=by
    unfold nE
    simp only [m5]
    rw [aU (by omega)]; rfl
  rw [es,Option.bind_some]
  have hk:=IE c
  have:=GA l c hl (by omega) (bZ c).1 (bZ c).2 (by have:=hk.le; omega) hk.val (bZ c).1.length [] [] (by simp) (by simp) (by simp) (.refl _) (by simp)
  refine Eq.trans this ?_
  congr 1
  exact yI ((CI hk.nd hk.mem hcr).trans h2.symm) (fun a ha=>by
    obtain ⟨r,_,h⟩:=List.mem_flatMap.1 ha
    exact DJ a h) h3
end Go.Ax
set_option linter.all false
/- The law of a day, function by function; the example of chapter 15; LawUnder. -/
set_option maxRecDepth 100000
namespace Go.Ax
def jm (s:GSpan) (day:Int):Bool:=bif aa (s.From≤day) then aa (day < s.To) else false
theorem wL (s:GSpan) (d:Int):dS s d = some (jm s d):=o8 s d
theorem AH (ks:List Int) (v:Int) (hl:ks.length≤1000000):gG ks v = some (ks.any fun k=>ah v k):=by
  rw [sG,wB]
  refine (kO ks (fun i=>(cG ks v (ks.length:Int) i).bind fun r0=>some (aa (0≤r0))) (fun k=>ah v k) (some true) (some false) ?_ fun i hi=>?_).trans (by cases ks.any _ <;> rfl)
  · show (cG ks v (ks.length:Int) (ks.length:Int)).bind _ = _
    rw [kh,bU]; rfl
  · show (cG ks v (ks.length:Int) (i:Int)).bind _ = if ah v ks[i] = true then _ else (cG ks v (ks.length:Int) _).bind _
    rw [kh]
    simp only [bp hi,bW,cond_true,aH,Bool.or_true,bj hi,bV hi (by omega)]
    cases ah v ks[i] with
    | true=>rw [cond_true,Option.bind_some,aU (by omega)]; rfl
    | false=>rfl
theorem tG (l:List GSpan) (day:Int) (hl:l.length≤1000000):kL l day = some (!(aa (day < 0))&&(!(aa (73049≤day))&&l.any fun s=>jm s day)):=by
  rw [tB,oA,rk]
  have:(bh l day (l.length:Int) 0).bind (fun r0=>some (aa (0≤r0))) = some (l.any fun s=>jm s day):=by
    refine (kO l (fun i=>(bh l day (l.length:Int) i).bind fun r0=>some (aa (0≤r0))) (fun s=>jm s day) (some true) (some false) ?_ fun i hi=>?_).trans (by cases l.any _ <;> rfl)
    · show (bh l day (l.length:Int) (l.length:Int)).bind _ = _
      rw [iG,bU]; rfl
    · show (bh l day (l.length:Int) (i:Int)).bind _ = if jm l[i] day = true then _ else (bh l day (l.length:Int) _).bind _
      rw [iG]
      simp only [bp hi,bW,cond_true,aH,Bool.or_true,bj hi,bV hi (by omega)]
      rw [qT,Option.bind_some]
      show Option.bind (bif jm l[i] day then (some (i:Int)) else _) _ = _
      cases jm l[i] day with
      | true=>rw [cond_true,Option.bind_some,aU (by omega)]; rfl
      | false=>rfl
  rw [this]
  cases aa (day < 0) <;> cases aa (73049≤day) <;> rfl
def Kn (day:Int) (ks:List Int) (f:GFact):Bool:=(ks.any fun k=>ah f.Kind k)&&jm f.Span day
theorem BK (x:GCompetence_life) (day:Int) (ks:List Int) (hl:x.facts.length≤1000000) (hk:ks.length≤1000):bC x day ks = some (x.facts.filter (Kn day ks)):=by
  rw [oR]
  refine (Ad x.facts (fun i out=>aP day ks x.facts (x.facts.length:Int) i out) (Kn day ks) fun i out hi ho=>?_).trans ?_
  · show aP _ _ _ _ _ _ = aP _ _ _ _ _ _
    rw [gK]
    simp only [bp hi,bW,cond_true,aH,Bool.or_true,bj hi,bV hi (by omega)]
    rw [AH _ _ (by omega),Option.bind_some,wL,Option.bind_some,lJ]
    unfold Kn
    cases (ks.any fun k=>ah x.facts[i].Kind k) <;> cases jm x.facts[i].Span day <;> rfl
  · show aP _ _ _ _ _ _ = _
    rw [gK,bU]; rfl
theorem zR (l:List GFact) (hl:l.length≤40) (h:∀ f∈l.filter dq,f.Kind≠4):dm l = some []:=by
  obtain ⟨p,_,h2,h3,_,_⟩:=rR l hl
  have:(jj 0 6).flatMap (eh (l.filter dq) (cw l)) = []:=by
    rw [List.flatMap_eq_nil_iff]
    intro r _
    refine B1 ?_
    unfold aN
    rw [List.map_eq_nil_iff,List.filter_eq_nil_iff]
    intro f hf hr
    exact h f hf ((tn _ _).1 hr).1
  rw [this] at h3
  rw [h2,h3.eq_nil]
theorem yV (d:Int):iB d = some (bif aa (0≤d) then aa (d≤73048) else false):=tF d
theorem vF (x h:Int):eC x h = some (bif aa (0≤x) then aa (x≤h) else false):=uN x h
def GJ (r:GRules):Prop:=0≤r.From∧r.From≤73048∧0≤r.MinDays∧r.MinDays≤73049∧0≤r.PostingLimit∧r.PostingLimit≤73049∧0≤r.Substantial∧r.Substantial≤100
def Kf (ms:List Int):Prop:=ms.length≤100∧∀ (i:Nat) (hi:i < ms.length),0≤ms[i]∧ms[i]≤5∧∀ h:0 < i,ms[i - 1] < ms[i]
theorem Ey (r:GRules) (h:GJ r) (hm:Kf r.Members):mX r = some true:=by
  obtain ⟨a1,a2,a3,a4,a5,a6,a7,a8⟩:=h
  obtain ⟨b1,b2⟩:=hm
  rw [wD]
  simp only [yV,vF,Option.bind_some,aU a1,aU a2,aU a3,aU a4,aU a5,aU a6,aU a7,aU a8,cond_true,Bool.not_true,cond_false]
  refine (kO r.Members (fun i=>cH r.Members (r.Members.length:Int) i r) (fun _=>false) none (some true) ?_ fun i hi=>?_).trans (by simp)
  · show cH _ _ _ _ = _
    rw [ki,bU]; rfl
  · show cH _ _ _ _ = if (false:Bool) = true then none else cH r.Members (r.Members.length:Int) ((i+1:Nat):Int) r
    rw [if_neg (by simp)]
    obtain ⟨c1,c2,c3⟩:=b2 i hi
    rw [ki]
    simp only [bp hi,bW,cond_true,aH,Bool.or_true,bj hi,bV hi (by omega)]
    rw [vF,aU c1,aU c2,cond_true,Option.bind_some]
    by_cases h0:0 < i
    · have e:ae ((i:Int) - 1) = ((i - 1:Nat):Int):=by rw [aY (by omega) (by omega)]; omega
      rw [e,mC (by simp),mC (by simp; omega),bj (l:=r.Members) (i:=i - 1) (by omega),cP (p:=r.Members[i]≤r.Members[i - 1]) (by have:=c3 h0; omega)]
      cases aa (0 < (i:Int)) <;> simp
    · have:i = 0:=by omega
      subst this
      simp
      rfl
theorem HJ (t:List GRules) (ht:t.length≤8) (h0:0 < t.length) (hf:(gD t 0 (zS .GRules)).From = 0) (h:∀ (i:Nat) (hi:i < t.length),GJ t[i]∧Kf t[i].Members∧∀ h:0 < i,t[i - 1].From < t[i].From):mK t = some 0:=by
  rw [vn,cP (p:=8 < (t.length:Int)) (by omega),cond_false]
  have e:ah (t.length:Int) 0 = false:=tj.2 (by omega)
  rw [e,aU (p:=0 < (t.length:Int)) (by omega),hf,H3.2 rfl]
  show bS _ _ _ _ = _
  refine (kO t (fun i=>bS t t (t.length:Int) i) (fun _=>false) none (some 0) ?_ fun i hi=>?_).trans (by simp)
  · show bS _ _ _ _ = _
    rw [j5,bU]; rfl
  · show bS _ _ _ _ = if (false:Bool) = true then none else bS t t (t.length:Int) ((i+1:Nat):Int)
    rw [if_neg (by simp)]
    obtain ⟨c1,c2,c3⟩:=h i hi
    rw [j5]
    simp only [bp hi,bW,cond_true,aH,Bool.or_true,bj hi,bV hi (by omega)]
    rw [Ey _ c1 c2,Option.bind_some]
    by_cases h0:0 < i
    · have e:ae ((i:Int) - 1) = ((i - 1:Nat):Int):=by rw [aY (by omega) (by omega)]; omega
      rw [e,mC (by simp),mC (by simp; omega),bj (l:=t) (i:=i - 1) (by omega),cP (p:=t[i].From≤t[i - 1].From) (by have:=c3 h0; omega)]
      cases aa (0 < (i:Int)) <;> simp
    · have:i = 0:=by omega
      subst this
      simp
      rfl
def HX (day:Int) (f:GFact):Bool:=dq f&&(ah f.Kind 5&&jm f.Span day)
def DA (ok:Bool) (best f:GFact):Bool:=!ok||(aa (best.Span.From < f.Span.From)||(ah f.Span.From best.Span.From&&aa (f.State < best.State)))
def mf (day:Int) (s:Bool × GFact) (f:GFact):Bool × GFact:=bif HX day f then (bif DA s.1 s.2 f then (true,f) else s) else s
theorem qb (l:List GFact) (day:Int) (hl:l.length≤1000000):du l day =
    some (bif (bif aa (0≤day) then aa (day≤73048) else false)&&jm (cw l) day then ((l.foldl (mf day) (false,zS .GFact)).2.State,(l.foldl (mf day) (false,zS .GFact)).1) else (0,false)):=by
  rw [qV,yV,Option.bind_some,jF l hl,Option.bind_some,tG _ _ (by simp),Option.bind_some]
  have e:(!(aa (day < 0))&&(!(aa (73049≤day))&&[cw l].any fun s=>jm s day)) = ((bif aa (0≤day) then aa (day≤73048) else false)&&jm (cw l) day):=by
    rw [iA,List.any_cons,List.any_nil,Bool.or_false]
    have e1:aa (0≤day) = !(aa (day < 0)):=by
      by_cases h:0≤day
      · rw [aU h,cP (p:=day < 0) (by omega)]; rfl
      · rw [cP h,aU (p:=day < 0) (by omega)]; rfl
    have e2:aa (day≤73048) = !(aa (73049≤day)):=by
      by_cases h:73049≤day
      · rw [aU h,cP (p:=day≤73048) (by omega)]; rfl
      · rw [cP h,aU (p:=day≤73048) (by omega)]; rfl
    rw [e1,e2,Bool.and_assoc]
  rw [e]
  have loop:aD day false l (l.length:Int) 0 (⟨0,0,0,false,0,0,0,(⟨0,0⟩:GSpan),0,0,0,0,0⟩:GFact) = some ((l.foldl (mf day) (false,zS .GFact)).2.State,(l.foldl (mf day) (false,zS .GFact)).1):=by
    refine (tv l (fun i (s:Bool × GFact)=>aD day s.1 l (l.length:Int) i s.2) (mf day) (fun _ _=>True) (fun i s hi _=>⟨?_,trivial⟩) (false,zS .GFact) trivial).1.trans ?_
    · show aD _ _ _ _ _ _ = aD _ _ _ _ _ _
      rw [il]
      simp only [bp hi,bW,cond_true,aH,Bool.or_true,bj hi,bV hi (by omega)]
      rw [io,Option.bind_some]
      generalize l[i] = f
      obtain ⟨ok,best⟩:=s
      unfold mf HX DA jm
      have e1:aa (day < f.Span.From) = !(aa (f.Span.From≤day)):=by
        by_cases h:f.Span.From≤day
        · rw [aU h,cP (p:=day < f.Span.From) (by omega)]; rfl
        · rw [cP h,aU (p:=day < f.Span.From) (by omega)]; rfl
      have e2:aa (f.Span.To≤day) = !(aa (day < f.Span.To)):=by
        by_cases h:day < f.Span.To
        · rw [aU h,cP (p:=f.Span.To≤day) (by omega)]; rfl
        · rw [cP h,aU (p:=f.Span.To≤day) (by omega)]; rfl
      have e3:gH f.Kind 5 = !(ah f.Kind 5):=rfl
      rw [e1,e2,e3]
      show _ = aD day _ l (l.length:Int) _ _
      cases dq f <;> cases ah f.Kind 5 <;> cases aa (f.Span.From≤day) <;> cases aa (day < f.Span.To) <;> cases ok <;> cases aa (best.Span.From < f.Span.From) <;> cases ah f.Span.From best.Span.From <;> cases aa (f.State < best.State) <;> rfl
    · show aD _ _ _ _ _ _ = _
      rw [il,bU,cond_false]
  rw [loop]
  cases (bif aa (0≤day) then aa (day≤73048) else false) <;> cases jm (cw l) day <;> rfl
def vV:GFact:=⟨0,1,1,false,1,5,1,⟨100,200⟩,0,0,0,0,0⟩
def lx:GFact:=⟨0,2,1,false,1,1,1,⟨100,200⟩,2,20,1,0,0⟩
def lc:GFact:=⟨0,3,1,false,1,1,2,⟨100,200⟩,2,80,1,0,0⟩
def wd:GCompetence_life:=⟨[vV,lx,lc],cw [vV,lx,lc],[],[⟨0,0,0,25,[]⟩]⟩
theorem H7:[vV,lx,lc].filter dq = [vV,lx,lc]:=by kernel_rfl
theorem KV:bC wd 150 [1,2] = some [lx,lc]:=by
  rw [BK _ _ _ (by decide) (by decide)]; kernel_rfl
theorem KL:bC wd 150 [1] = some [lx,lc]:=by
  rw [BK _ _ _ (by decide) (by decide)]; kernel_rfl
theorem Kq:bC wd 150 [3] = some []:=by
  rw [BK _ _ _ (by decide) (by decide)]; kernel_rfl
theorem Kt:du [vV,lx,lc] 150 = some (1,true):=by
  rw [qb _ _ (by decide)]; kernel_rfl
theorem Iv:ga [lx,lc] = some [2]:=by
  rw [qW]
  refine Eq.trans (b:=cU [lx,lc] 2 1 [2]) (by rw [eA]; kernel_rfl) ?_
  refine Eq.trans (b:=cU [lx,lc] 2 2 [2,2]) (by rw [eA]; kernel_rfl) ?_
  rw [eA]; kernel_rfl
theorem Ks:en wd 150 25 = some (2,true):=by
  rw [lm,KV,Option.bind_some]
  refine Eq.trans (b:=bA 150 25 20 2 1 wd [1] [20] [lx,lc]) (by rw [cN]; kernel_rfl) ?_
  refine Eq.trans (b:=bA 150 25 100 2 2 wd [1,2] [20,80] [lx,lc]) (by rw [cN]; kernel_rfl) ?_
  rw [cN,KL]
  show Option.bind (du [vV,lx,lc] 150) _ = _
  rw [Kt]
  show Option.bind (ga [lx,lc]) _ = _
  rw [Iv]
  kernel_rfl
theorem K3:rU [⟨0,0,0,25,[]⟩] 150 = some (⟨0,0,0,25,[]⟩,true):=by
  show nR [⟨0,0,0,25,[]⟩] 150 = _
  kernel_rfl
theorem J3:eu wd 150 0 = some (0,false):=by
  rw [lK,jL]; kernel_rfl
theorem I7:fq wd 150 = some (0,false):=by
  rw [mV,Kq,Option.bind_some,kx]; kernel_rfl
theorem Ij:n8 = some true:=by
  rw [xN]
  have e:jf [vV,lx,lc] [⟨0,0,0,25,[]⟩] 150 = some (2,3):=by
    have hP:ii [vV,lx,lc] [⟨0,0,0,25,[]⟩] = some (wd,true):=by
      rw [oS,lv _ (by decide),Option.bind_some,H7,jF _ (by decide),Option.bind_some,zR _ (by decide) (by rw [H7]; decide),Option.bind_some,
        HJ _ (by decide) (by decide) rfl (fun i hi=>by
          have:i = 0:=by simp at hi; omega
          subst this
          exact ⟨by simp [GJ],⟨by simp,fun i hi=>by simp at hi⟩,fun h=>by omega⟩)]
      rfl
    rw [ut,hP,Option.bind_some,nW]
    show ((rU [⟨0,0,0,25,[]⟩] 150).bind _).bind _ = _
    rw [K3,Option.bind_some,wL,J3,I7,Ks]
    kernel_rfl
  show (jf [vV,lx,lc] [⟨0,0,0,25,[]⟩] 150).bind _ = _
  rw [e]
  kernel_rfl
theorem C2 (l:List GPensionhand_Fact) (n:List Int) (dense:Bool) (hn:n.length≤9223372036854775807):En (fun a:List GFact=>a.length≤30) (mm l n dense):=by
  rw [vK]
  have fin:∀ out:List GFact,out.length≤12→En (fun a:List GFact=>a.length≤30) (bif aa ((0:Int) < (n.length:Int)) then (l8 n).bind fun r1=>(qw r1 1).bind fun r2=>gb (aa (((out.length+r2.length)*112)≤140737488355328))<|gb (aa ((out.length+r2.length)≤140737488355328))<|(gq (out++r2) []).bind fun r3=>some r3
      else (gq out []).bind fun r4=>some r4):=by
    intro out ho
    refine En.bif (fun _=>.bind (GX n hn) fun r1 h1=>?_) fun _=>.bind (BB out [] (by simp; omega)) fun r h=>.some (by simp at h; omega)
    rw [BC r1 1 (by omega),Option.bind_some]
    have hf:=List.length_filter_le (H5 1) r1
    exact En.gd (by omega) (En.gd (by omega) (.bind (BB _ [] (by simp; omega)) fun r h=>.some (by simp at h; omega)))
  have key:∀ (k:Nat) (i:Int) (out:List GFact),12 - i≤k→0≤i→i≤12→(out.length:Int)≤i→En (fun a:List GFact=>a.length≤30) (fI l n dense i out):=by
    intro k
    induction k with
    | zero=>intro i out hk h0 hi ho; rw [kf]; exact En.and (fun _ e=>by have:=oZ e; omega) fun _=>fin out (by omega)
    | succ k ih =>
      intro i out hk h0 hi ho
      rw [kf]
      refine En.and (fun a b=>?_) fun _=>fin out (by omega)
      have a:=oZ a
      have b:=oZ b
      have nx:∀ r,En (fun a:List GFact=>a.length≤30) (dJ l n dense i out r):=by
        intro r
        rw [o4,aY (n:=i+1) (by omega) (by omega)]
        exact .bind (IT r) fun f _=>En.gd (by omega) (En.gd (by omega) (ih _ _ (by omega) (by omega) (by omega) (by simp; omega)))
      exact En.gd h0 (En.gd a (En.bif (fun _=>.bind (uB _ 60 (by decide) (by decide)) fun _ _=>.bind (uB _ 40 (by decide) (by decide)) fun _ _=>.bind (uB _ 14 (by decide) (by decide)) fun _ _=>En.bif (fun _=>nx _) fun _=>nx _) fun _=>nx _))
  exact key 12 0 [] (by omega) (by omega) (by omega) (by simp)
end Go.Ax
set_option linter.all false
/- LawPostings. -/
set_option maxRecDepth 100000
namespace Go.Ax
theorem vN (l:List GPensionhand_Fact) (n:List Int) (dense:Bool) (h1:∀ k,mM k (.ls (.i .i64)) n):lT l n dense = some true:=by
  have hn:n.length≤9223372036854775807:=by
    have:=(h1 1).1
    simp only [maxLen] at this
    omega
  rw [pP]
  obtain ⟨a,ha,hal⟩:=C2 l n dense hn
  obtain ⟨p,p1,p2,p3,p4,p5⟩:=rR a (by omega)
  rw [ha,Option.bind_some,p2,Option.bind_some,p1,Option.bind_some,Ij,Option.bind_some,H3.2 rfl]
  show aZ 0 p p = _
  refine (kO p (fun i=>aZ i p p) (fun _=>false) none (some true) ?_ fun i hi=>?_).trans (by simp)
  · show aZ _ _ _ = _
    rw [gJ,bU]; rfl
  · show aZ _ _ _ = if (false:Bool) = true then none else aZ ((i+1:Nat):Int) p p
    rw [if_neg (by simp),gJ]
    simp only [bp hi,bW,cond_true,aH,Bool.or_true,bj hi,bV hi (by omega)]
    simp only [m5,Bool.and_self,Bool.not_true,cond_false]
end Go.Ax
