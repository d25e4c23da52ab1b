import Derived.Test.YtnnblpijaoocaaaGreatYP13
import Derived.Test.YtnnblpijaoocaaaGreatYP15
import Derived.Test.YtnnblpijaoocaaaGreatYP12
import Derived.Test.YtnnblpijaoocaaaGreatYP5
set_option linter.all false
/- Made versions and the document's law end. -/
set_option maxRecDepth 100000
namespace Go.Ax
theorem GB (n k:Int) (h:0 < k) (h':k≤1000000000):En (fun y=>0≤y∧y < k) (nQ n k):=by
  rw [Fu n k (by omega),if_neg (by omega)]
  exact .some ⟨Int.emod_nonneg _ (by omega),Int.emod_lt_of_pos _ h⟩
end Go.Ax
set_option linter.all false
/- Postings: the map by routes; whatever the order of the walk, the sorted list is the same. -/
set_option maxRecDepth 100000
namespace Go.Ax
abbrev Rt:=GCompetence_route
theorem OL (x k:Rt):qH kR x k = true↔x = k:=by
  have e:qH kR x k = (ah x.seat k.seat&&ah x.state k.state):=(tU (s:=.GCompetence_route) rfl x k).trans rfl
  rw [e,Bool.and_eq_true]
  obtain ⟨a,b⟩:=x
  obtain ⟨c,d⟩:=k
  simp [ah]
theorem zO:∀ (ks:List Rt) (k:Rt),(aL kR ks k = ks.length∧k ∉ ks)∨(aL kR ks k < ks.length∧ks[aL kR ks k]? = some k)
  | [],k=>.inl ⟨rfl,by simp⟩
  | x :: r,k=>by
    have e:aL kR (x :: r) k = bif qH kR x k then 0 else aL kR r k+1:=rfl
    cases h:qH kR x k with
    | true =>
      rw [h,cond_true] at e
      have:=(OL x k).1 h
      subst this
      exact .inr ⟨by rw [e]; simp,by rw [e]; rfl⟩
    | false =>
      rw [h,cond_false] at e
      have hne:x≠k:=fun h'=>by rw [(OL x k).2 h'] at h; cases h
      rw [e]
      rcases zO r k with ⟨h1,h2⟩ | ⟨h1,h2⟩
      · exact .inl ⟨by rw [h1]; rfl,fun hm=>by rcases List.mem_cons.1 hm with h' | h'; exact hne h'.symm; exact h2 h'⟩
      · exact .inr ⟨by simp; omega,by rw [List.getElem?_cons_succ]; exact h2⟩
theorem JK (ks:List Rt) (r:Rt):ga kR ks r = true↔r∈ks:=by
  unfold ga
  rw [Nat.blt_eq]
  rcases zO ks r with ⟨h,hn⟩ | ⟨h1,h2⟩
  · exact ⟨fun h'=>by have h'':aL kR ks r < ks.length:=h'; have h3:aL kR ks r = ks.length:=h; omega,fun h'=>absurd h' hn⟩
  · exact ⟨fun _=>List.mem_of_getElem? h2,fun _=>h1⟩
def xq (r:Rt) (f:GFact):Bool:=ah f.Kind 4&&(ah f.Seat r.seat&&ah f.State r.state)
def aY (c:List GFact) (r:Rt):List GSpan:=(c.filter (xq r)).map GFact.Span
theorem yf (r:Rt) (f:GFact):xq r f = true↔f.Kind = 4∧wS f = r:=by
  unfold xq wS
  obtain ⟨a,b⟩:=r
  simp [ah]
theorem tu (c:List GFact) (f:GFact) (r:Rt):aY (c++[f]) r = aY c r++if xq r f = true then [f.Span] else []:=by
  unfold aY
  rw [List.filter_append,List.map_append]
  congr 1
  by_cases h:xq r f = true
  · rw [if_pos h,List.filter_cons,if_pos h]; rfl
  · rw [if_neg h,List.filter_cons,if_neg h]; rfl
theorem wy (c:List GFact) (r:Rt):(aY c r).length≤c.length:=by
  unfold aY
  rw [List.length_map]
  exact List.length_filter_le _ _
structure wM (c:List GFact) (s:List Rt × List (List GSpan)):Prop where
  len:s.1.length = s.2.length
  nd:s.1.Nodup
  val:∀ (p:Nat) (h:p < s.1.length),gD s.2 p [] = aY c s.1[p]
  mem:∀ r,r∈s.1↔aY c r≠[]
  le:s.1.length≤c.length
theorem MB {c:List GFact} {s:List Rt × List (List GSpan)} (h:wM c s) (f:GFact):wM (c++[f]) (gI s f):=by
  obtain ⟨ks,vs⟩:=s
  obtain ⟨hlen,hnd,hval,hmem,hle⟩:=h
  simp only at hlen hnd hval hmem hle
  unfold gI
  cases hk:ah f.Kind 4 with
  | false =>
    have e:∀ r,aY (c++[f]) r = aY c r:=by
      intro r
      have:xq r f = false:=by unfold xq; rw [hk]; rfl
      rw [tu,this]; simp
    rw [cond_false]
    exact ⟨hlen,hnd,fun p hp=>by rw [e]; exact hval p hp,fun r=>by rw [e]; exact hmem r,by simp; omega⟩
  | true =>
    rw [cond_true]
    have hk4:f.Kind = 4:=by simpa [ah] using hk
    generalize hr:wS f = r0
    have eT:aY (c++[f]) r0 = aY c r0++[f.Span]:=by rw [tu,if_pos ((yf _ _).2 ⟨hk4,hr⟩)]
    have eF:∀ r,r≠r0→aY (c++[f]) r = aY c r:=by
      intro r hne
      rw [tu,if_neg (fun h=>hne (((yf _ _).1 h).2.symm.trans hr)),List.append_nil]
    rcases zO ks r0 with ⟨h1,h2⟩ | ⟨h1,h2⟩
    · have hno:ga kR ks r0 = false:=by
        cases hb:ga kR ks r0 with
        | false=>rfl
        | true=>exact absurd ((JK ks r0).1 hb) h2
      have hg:dF kR ks vs r0 ([]:List GSpan) = []:=by
        unfold dF
        rw [h1,List.getD_eq_getElem?_getD,List.getElem?_eq_none (by omega)]; rfl
      have e0:aY c r0 = []:=by
        cases hd:aY c r0 with
        | nil=>rfl
        | cons a b=>exact absurd ((hmem r0).2 (by rw [hd]; simp)) h2
      have e1:dC kR ks r0 = ks++[r0]:=by unfold dC; rw [hno]; rfl
      have e2:eH kR ks vs r0 (dF kR ks vs r0 []++[f.Span]) = vs++[[f.Span]]:=by unfold eH; rw [hno,hg]; rfl
      rw [e1,e2]
      refine ⟨by simp; omega, ?_, ?_, ?_,by simp; omega⟩
      · show (ks++[r0]).Nodup
        rw [List.nodup_append]
        exact ⟨hnd,by simp,fun a ha b hb=>by simp at hb; subst hb; exact fun h=>h2 (h ▸ ha)⟩
      · intro p hp
        simp only [List.length_append,List.length_cons,List.length_nil] at hp
        by_cases hpn:p < ks.length
        · have g:gD (vs++[[f.Span]]) p [] = gD vs p []:=by
            unfold gD
            rw [List.getD_eq_getElem?_getD,List.getD_eq_getElem?_getD,List.getElem?_append_left (by omega)]
          show gD (vs++[[f.Span]]) p [] = aY (c++[f]) (ks++[r0])[p]
          rw [g,hval p hpn,List.getElem_append_left hpn,eF]
          intro he
          exact h2 (he ▸ List.getElem_mem hpn)
        · have:p = ks.length:=by omega
          subst this
          show gD (vs++[[f.Span]]) ks.length [] = aY (c++[f]) (ks++[r0])[ks.length]
          have g:gD (vs++[[f.Span]]) ks.length [] = [f.Span]:=by
            unfold gD
            rw [List.getD_eq_getElem?_getD,hlen,List.getElem?_concat_length]; rfl
          rw [g,List.getElem_concat_length rfl,eT,e0]; rfl
      · intro r
        show r∈ks++[r0]↔_
        rw [List.mem_append,List.mem_singleton]
        by_cases hrr:r = r0
        · subst hrr
          exact ⟨fun _=>by rw [eT]; simp,fun _=>.inr rfl⟩
        · rw [eF r hrr, ← hmem r]
          exact ⟨fun h=>h.resolve_right hrr, .inl⟩
    · have hyes:ga kR ks r0 = true:=(JK ks r0).2 (List.mem_of_getElem? h2)
      have e1:dC kR ks r0 = ks:=by unfold dC; rw [hyes]; rfl
      generalize hj:aL kR ks r0 = j at h1 h2
      have h3:ks[j] = r0:=by rw [List.getElem?_eq_getElem h1] at h2; exact Option.some.inj h2
      have hg:dF kR ks vs r0 ([]:List GSpan) = aY c r0:=by
        rw [← h3, ← hval j h1]
        unfold dF gD
        rw [h3,hj]
      have e2:eH kR ks vs r0 (dF kR ks vs r0 []++[f.Span]) = vs.set j (aY c r0++[f.Span]):=by unfold eH; rw [hyes,hg,hj]; rfl
      rw [e1,e2]
      refine ⟨by simp; omega,hnd, ?_, ?_,by simp; omega⟩
      · intro p hp
        show gD (vs.set j (aY c r0++[f.Span])) p [] = aY (c++[f]) ks[p]
        have hp:p < ks.length:=hp
        by_cases hpj:p = j
        · subst hpj
          rw [h3,eT]
          unfold gD
          rw [List.getD_eq_getElem?_getD,List.getElem?_set,if_pos rfl,if_pos (by omega)]; rfl
        · have g:gD (vs.set j (aY c r0++[f.Span])) p [] = gD vs p []:=by
            unfold gD
            rw [List.getD_eq_getElem?_getD,List.getD_eq_getElem?_getD,List.getElem?_set,if_neg (fun h=>hpj h.symm)]
          rw [g,hval p hp,eF]
          intro he
          exact hpj ((List.getElem_inj hnd).1 (he.trans h3.symm))
      · intro r
        show r∈ks↔_
        by_cases hrr:r = r0
        · subst hrr
          exact ⟨fun _=>by rw [eT]; simp,fun _=>List.mem_of_getElem? h2⟩
        · rw [eF r hrr, ← hmem r]
theorem Pk (c:List GFact):wM c (cE c):=by
  have key:∀ (rest pre:List GFact) (s:List Rt × List (List GSpan)),wM pre s→wM (pre++rest) (rest.foldl gI s):=by
    intro rest
    induction rest with
    | nil=>intro pre s h; rw [List.append_nil]; exact h
    | cons f r ih =>
      intro pre s h
      rw [List.foldl_cons,show pre++f :: r = (pre++[f])++r by simp]
      exact ih _ _ (MB h f)
  exact key c [] ([],[]) ⟨rfl,by simp,fun p h=>absurd h (by simp),fun r=>by simp [aY],by simp⟩
theorem EI:Go.Sort.SWO cV:=by
  refine ⟨fun x=>by simp [cV,aa],fun x y z h1 h2=>?_,fun x y z h1 h2=>?_⟩
  · simp only [cV,aa,ah,Bool.or_eq_true,Bool.and_eq_true,decide_eq_true_eq,beq_iff_eq] at *
    omega
  · simp only [cV,aa,ah,Bool.or_eq_false_iff,Bool.and_eq_false_iff,decide_eq_false_iff_not,beq_eq_false_iff_ne,ne_eq] at *
    omega
theorem oR (a b:GPosting):cV b a = false↔a.Span.From < b.Span.From∨(a.Span.From = b.Span.From∧(a.Seat < b.Seat∨(a.Seat = b.Seat∧a.State≤b.State))):=by
  simp only [cV,aa,ah,Bool.or_eq_false_iff,Bool.and_eq_false_iff,decide_eq_false_iff_not,beq_eq_false_iff_ne,ne_eq]
  omega
theorem EA:∀ {l:List GSpan} {lo:Int},cP lo l→∀ s∈l, ∀ t∈l,s.From = t.From→s = t
  | [],_,_,s,hs,_,_,_=>by cases hs
  | x :: r,lo,h,s,hs,t,ht,e=>by
    obtain ⟨h1,h2,h3,h4⟩:=h
    have low:∀ y∈r,x.From < y.From:=fun y hy=>by
      have hy':y.From < y.To:=(norm_inR' h4 y hy)
      have:=fI h4 (d:=y.From) ⟨y,hy,Int.le_refl _,hy'⟩
      omega
    rcases List.mem_cons.1 hs with hs | hs <;> rcases List.mem_cons.1 ht with ht | ht
    · rw [hs,ht]
    · have:=low t ht; rw [hs] at e; omega
    · have:=low s hs; rw [ht] at e; omega
    · exact EA h4 s hs t ht e
where norm_inR':∀ {l:List GSpan} {lo:Int},cP lo l→∀ y∈l,y.From < y.To
  | [],_,_,y,hy=>by cases hy
  | x :: r,lo,h,y,hy=>by
    rcases List.mem_cons.1 hy with rfl | hy
    · exact h.2.1
    · exact norm_inR' h.2.2.2 y hy
noncomputable def fJ (c:List GFact) (life:GSpan) (r:Rt):List GPosting:=(iO (aY c r) life).map fun s=>⟨r.seat,r.state,s⟩
theorem H7 {c:List GFact} {life:GSpan} {r:Rt} (h:aY c r = []):fJ c life r = []:=by
  unfold fJ
  have h1:=(zC (aY c r) life)
  cases e:iO (aY c r) life with
  | nil=>rfl
  | cons s t =>
    rw [e] at h1
    have:=(h1.2 s.From).1 ⟨s,by simp,Int.le_refl _,h1.1.2.1⟩
    rw [h] at this
    exact absurd this.1.1 cO
def LY (c:List GFact) (life:GSpan) (a:GPosting):Prop:=a.Span∈iO (aY c ⟨a.Seat,a.State⟩) life
theorem Jy {c:List GFact} {life:GSpan} {r:Rt}:∀ a∈fJ c life r,LY c life a:=by
  intro a ha
  obtain ⟨s,hs,rfl⟩:=List.mem_map.1 ha
  exact hs
theorem Oe {c:List GFact} {life:GSpan} {a b:GPosting} (ha:LY c life a) (hb:LY c life b) (h1:cV b a = false) (h2:cV a b = false):a = b:=by
  rw [oR] at h1 h2
  obtain ⟨s1,s2,x⟩:=a
  obtain ⟨t1,t2,y⟩:=b
  simp only at h1 h2
  obtain rfl:s1 = t1:=by omega
  obtain rfl:s2 = t2:=by omega
  have:=EA (zC _ _).1 x ha y hb (by omega)
  rw [this]
theorem EG {c:List GFact} {life:GSpan} {l l':List GPosting} (hp:l.Perm l') (hin:∀ a∈l,LY c life a) (hs:l'.Pairwise fun a b=>cV b a = false):eC l = l':=by
  have h:=@tV _ ⟨zS .GPosting⟩ _ EI l
  refine List.Perm.eq_of_pairwise (le:=fun a b=>cV b a = false) (fun a b ha hb h1 h2=>?_) h.2 hs (h.1.trans hp)
  exact Oe (hin a (h.1.mem_iff.1 ha)) (hin b (hp.mem_iff.2 hb)) h1 h2
theorem LI {c:List GFact} {life:GSpan} {l l':List GPosting} (hp:l.Perm l') (hin:∀ a∈l',LY c life a):eC l = eC l':=by
  have h:=@tV _ ⟨zS .GPosting⟩ _ EI l'
  exact EG (l':=eC l') (hp.trans h.1.symm) (fun a ha=>hin a (hp.mem_iff.1 ha)) h.2
def qc (seat state:Int):Nat→List Rt
  | 0=>[]
  | k+1=>⟨seat,state⟩ :: qc seat (state+1) k
def lx (seat:Int):Nat→List Rt
  | 0=>[]
  | k+1=>qc seat 0 6++lx (seat+1) k
theorem vh (seat:Int) (r:Rt):∀ (k:Nat) (state:Int),r∈qc seat state k↔r.seat = seat∧state≤r.state∧r.state < state+k
  | 0,state=>by simp only [qc,List.not_mem_nil,false_iff]; omega
  | k+1,state=>by
    rw [qc,List.mem_cons,vh seat r k]
    obtain ⟨a,b⟩:=r
    simp only [GCompetence_route.mk.injEq]
    omega
theorem zK (r:Rt):∀ (k:Nat) (seat:Int),r∈lx seat k↔(seat≤r.seat∧r.seat < seat+k)∧0≤r.state∧r.state < 6
  | 0,seat=>by simp only [lx,List.not_mem_nil,false_iff]; omega
  | k+1,seat=>by
    rw [lx,List.mem_append,vh,zK r k]
    omega
theorem Jp (seat:Int):∀ (k:Nat) (state:Int),(qc seat state k).Nodup
  | 0,_=>by simp [qc]
  | k+1,state=>by
    rw [qc,List.nodup_cons]
    exact ⟨fun h=>by have:=(vh _ _ _ _).1 h; have e:(⟨seat,state⟩:Rt).state = state:=rfl; omega,Jp seat k _⟩
theorem JG:∀ (k:Nat) (seat:Int),(lx seat k).Nodup
  | 0,_=>by simp [lx]
  | k+1,seat=>by
    rw [lx,List.nodup_append]
    refine ⟨Jp _ _ _,JG k _,fun a ha b hb e=>?_⟩
    subst e
    rw [vh] at ha
    rw [zK] at hb
    omega
theorem IT {c:List GFact} {life:GSpan} {ks:List Rt} (hnd:ks.Nodup) (hmem:∀ r,r∈ks↔aY c r≠[]) (hc:∀ f∈c,f.Kind = 4→(0≤f.Seat∧f.Seat < 6)∧0≤f.State∧f.State < 6) :
    (ks.flatMap (fJ c life)).Perm ((lx 0 6).flatMap (fJ c life)):=by
  have hk:ks.Perm ((lx 0 6).filter fun r=>decide (aY c r≠[])):=by
    rw [List.perm_ext_iff_of_nodup hnd ((List.filter_sublist).nodup (JG 6 0))]
    intro r
    rw [List.mem_filter,decide_eq_true_eq,hmem r]
    refine ⟨fun h=>⟨?_,h⟩,fun h=>h.2⟩
    rw [zK]
    cases hd:c.filter (xq r) with
    | nil=>exact absurd (by unfold aY; rw [hd]; rfl) h
    | cons f t =>
      have hf:f∈c.filter (xq r):=by rw [hd]; simp
      obtain ⟨f1,f2⟩:=List.mem_filter.1 hf
      obtain ⟨f3,f4⟩:=(yf _ _).1 f2
      have:=hc f f1 f3
      subst f4
      exact ⟨by simp [wS]; omega,by simp [wS]; omega⟩
  refine (List.Perm.flatMap_right _ hk).trans ?_
  have:∀ l:List Rt,(l.filter fun r=>decide (aY c r≠[])).flatMap (fJ c life) = l.flatMap (fJ c life):=by
    intro l
    induction l with
    | nil=>rfl
    | cons r t ih =>
      rw [List.filter_cons,List.flatMap_cons]
      by_cases h:aY c r = []
      · rw [if_neg (by simp [h]),ih,H7 h]; rfl
      · rw [if_pos (by simp [h]),List.flatMap_cons,ih]
  rw [this]
end Go.Ax
set_option linter.all false
/- Both lists of postings are the same. -/
set_option maxRecDepth 100000
namespace Go.Ax
abbrev LK (l:List GPosting):Prop:=l.Pairwise fun a b=>cV b a = false
theorem KP (l:List GPosting) (p:GPosting) (hl:l.length≤1000000) :
    ∃ a b,l = a++b∧lZ l p = some (a++[p]++b)∧(∀ y∈b,p.Span.From < y.Span.From)∧(∀ q y,a = q++[y]→y.Span.From≤p.Span.From):=by
  rw [BZ]
  have fin:∀ (k:Nat),k≤l.length→(gb (aa (0≤(k:Int)))<|gb (aa ((k:Int)≤(l.length:Int)))<|gb (aa (((aH l 0 ((k:Int) - 0).toNat).length*32)≤140737488355328)) <|
        gb (aa ((aH l 0 ((k:Int) - 0).toNat).length≤140737488355328))<|gb (aa ((((aH l 0 ((k:Int) - 0).toNat).length+1)*32)≤140737488355328))<|gb (aa (((aH l 0 ((k:Int) - 0).toNat).length+1)≤140737488355328))<|gb (aa (0≤(k:Int))) <|
        gb (aa ((k:Int)≤(l.length:Int)))<|gb (aa ((l.length:Int)≤(l.length:Int)))<|gb (aa (((((aH l 0 ((k:Int) - 0).toNat)++[p]).length+(aH l (k:Int).toNat ((l.length:Int) - (k:Int)).toNat).length)*32)≤140737488355328)) <|
        gb (aa ((((aH l 0 ((k:Int) - 0).toNat)++[p]).length+(aH l (k:Int).toNat ((l.length:Int) - (k:Int)).toNat).length)≤140737488355328)) <|
        some (((aH l 0 ((k:Int) - 0).toNat)++[p])++(aH l (k:Int).toNat ((l.length:Int) - (k:Int)).toNat))) = some (l.take k++[p]++l.drop k):=by
    intro k hk
    have e1:aH l 0 ((k:Int) - 0).toNat = l.take k:=by
      unfold aH
      rw [List.drop_zero]; congr 1
    have e2:aH l (k:Int).toNat ((l.length:Int) - (k:Int)).toNat = l.drop k:=by
      unfold aH
      rw [show (k:Int).toNat = k by omega,List.take_of_length_le]
      rw [List.length_drop]; omega
    have l1:(l.take k).length = k:=by rw [List.length_take]; omega
    have l2:(l.drop k).length = l.length - k:=List.length_drop
    rw [e1,e2]
    simp only [List.length_append,List.length_singleton,l1,l2]
    rw [aG (by omega),aG (by omega),aG (by omega),aG (by omega),aG (by omega),aG (by omega),aG (by omega),aG (by omega),aG (by omega),aG (by omega),aG (by omega)]
  have key:∀ (k:Nat),k≤l.length→(∀ y∈l.drop k,p.Span.From < y.Span.From)→∃ a b,l = a++b∧iH l (k:Int) p = some (a++[p]++b)∧(∀ y∈b,p.Span.From < y.Span.From)∧(∀ q y,a = q++[y]→y.Span.From≤p.Span.From):=by
    intro k
    induction k with
    | zero =>
      intro hk hd
      refine ⟨[],l,rfl, ?_,by simpa using hd,fun q y h=>by simp at h⟩
      rw [jh,bw (p:=(0:Int) < ((0:Nat):Int)) (by omega)]
      simp only [Bool.false_and,Bool.not_false,Bool.true_or,aK,cond_false]
      exact fin 0 (by omega)
    | succ k ih =>
      intro hk hd
      have hk':k < l.length:=by omega
      have e1:ae (((k+1:Nat):Int) - 1) = (k:Int):=by rw [al (by omega) (by omega)]; omega
      have h0:aa ((0:Int) < ((k+1:Nat):Int)) = true:=aF (by omega)
      by_cases hc:p.Span.From < l[k].Span.From
      · obtain ⟨a,b,h1,h2,h3,h4⟩:=ih (by omega) (fun y hy=>by
          rw [List.drop_eq_getElem_cons hk'] at hy
          rcases List.mem_cons.1 hy with rfl | hy
          · exact hc
          · exact hd y hy)
        refine ⟨a,b,h1, ?_,h3,h4⟩
        rw [jh,e1]
        simp only [h0,bH hk',ce,Bool.or_true,aK,cond_true,bq hk',aF hc]
        exact h2
      · refine ⟨l.take (k+1),l.drop (k+1),(List.take_append_drop _ _).symm, ?_,hd,fun q y h=>?_⟩
        · rw [jh,e1]
          simp only [h0,bH hk',ce,Bool.or_true,aK,cond_true,bq hk',bw hc,cond_false]
          exact fin (k+1) hk
        · have h6:l.take (k+1) = l.take k++[l[k]]:=by rw [List.take_succ,List.getElem?_eq_getElem hk']; rfl
          rw [h6] at h
          have:=List.append_inj_right' h rfl
          simp at this
          rw [← this]; omega
  exact key l.length (by omega) (by rw [List.drop_length]; simp)
theorem FC {out:List GPosting} {p:GPosting} (hs:LK out) (hx:∀ x∈out,x.Seat < p.Seat∨(x.Seat = p.Seat∧x.State≤p.State)) (hl:out.length≤1000000) :
    ∃ r,lZ out p = some r∧r.Perm (out++[p])∧LK r:=by
  obtain ⟨a,b,rfl,h2,h3,h4⟩:=KP out p hl
  refine ⟨_,h2, ?_, ?_⟩
  · rw [List.append_assoc,List.append_assoc]
    exact List.Perm.append_left _ List.perm_append_comm
  · have hp:=List.pairwise_append.1 hs
    have ha:∀ x∈a,x.Span.From≤p.Span.From:=by
      intro x hx
      rcases gH a with rfl | ⟨q,y,rfl⟩
      · cases hx
      · have hy:=h4 q y rfl
        rcases List.mem_append.1 hx with hq | hq
        · have:=(List.pairwise_append.1 hp.1).2.2 x hq y (by simp)
          rw [oR] at this; omega
        · simp at hq; subst hq; exact hy
    have hap:∀ x∈a,cV p x = false:=by
      intro x hxa
      rw [oR]
      have h5:=ha x hxa
      have h6:=hx x (List.mem_append_left _ hxa)
      omega
    have hpb:∀ y∈b,cV y p = false:=by
      intro y hy
      rw [oR]
      have:=h3 y hy
      omega
    refine List.pairwise_append.2 ⟨List.pairwise_append.2 ⟨hp.1,by simp,fun x hx y hy=>?_⟩,hp.2.1,fun x hx y hy=>?_⟩
    · simp at hy; rw [hy]; exact hap x hx
    · rcases List.mem_append.1 hx with hx | hx
      · exact hp.2.2 x hx y hy
      · simp at hx; subst hx; exact hpb y hy
structure lg (out D:List GPosting) (seat state:Int):Prop where
  perm:out.Perm D
  srt:LK out
  lex:∀ x∈out,x.Seat < seat∨(x.Seat = seat∧x.State≤state)
theorem lg.mono {out D:List GPosting} {s t s' t':Int} (h:lg out D s t) (e:s < s'∨(s = s'∧t≤t')):lg out D s' t' :=
  ⟨h.perm,h.srt,fun x hx=>by have:=h.lex x hx; omega⟩
section
variable (l c:List GFact) (hl:l.length≤40) (hc:c.length≤40)
theorem Nm (seat state:Int) (s:List GSpan) (hs:s.length≤1000):∀ (n i:Nat) (out D:List GPosting),i+n = s.length→lg out D seat state→out.length+n≤1000000 →
    ∃ out',dT l seat state (i:Int) c out s = cm l seat (ae (state+1)) c out'∧lg out' (D++(s.drop i).map fun x=>⟨seat,state,x⟩) seat state:=by
  intro n
  induction n with
  | zero =>
    intro i out D hn hg ho
    have:i = s.length:=by omega
    subst this
    refine ⟨out,by rw [iU,ca,cond_false], ?_⟩
    rw [List.drop_length,List.map_nil,List.append_nil]
    exact hg
  | succ n ih =>
    intro i out D hn hg ho
    have hi:i < s.length:=by omega
    obtain ⟨r,h1,h2,h3⟩:=FC (p:=⟨seat,state,s[i]⟩) hg.srt hg.lex (by omega)
    have hg':lg r (D++[⟨seat,state,s[i]⟩]) seat state:=⟨h2.trans (hg.perm.append_right _),h3,fun x hx=>by
      rcases List.mem_append.1 (h2.mem_iff.1 hx) with hx | hx
      · exact hg.lex x hx
      · simp at hx; subst hx; right; exact ⟨rfl,Int.le_refl _⟩⟩
    have hlen:r.length = out.length+1:=by rw [h2.length_eq]; simp
    obtain ⟨o,e1,e2⟩:=ih (i+1) r _ (by omega) hg' (by omega)
    refine ⟨o, ?_, ?_⟩
    · rw [iU]
      simp only [bH hi,ce,cond_true,aK,Bool.or_true,bq hi,cd hi (by omega)]
      rw [h1,Option.bind_some]
      exact e1
    · rw [List.drop_eq_getElem_cons hi,List.map_cons]
      rw [List.append_assoc] at e2
      exact e2
include hl hc
theorem MN (seat state:Int) (h0:0≤state) (h6:state < 6) (out D:List GPosting) (hg:lg out D seat state) (ho:out.length≤100000) :
    ∃ out',cm l seat state c out = cm l seat (state+1) c out'∧lg out' (D++fJ c (aU l) ⟨seat,state⟩) seat state:=by
  rw [kA,aF h6,cond_true]
  have hd:(aY c ⟨seat,state⟩).length≤40:=Nat.le_trans (wy _ _) hc
  have e:aW l seat state 0 c out [] = aW l seat state (c.length:Int) c out (aY c ⟨seat,state⟩):=by
    refine QC c (fun i s=>aW l seat state i c out s) (xq ⟨seat,state⟩) GFact.Span fun i s hi hs=>?_
    show aW _ _ _ _ _ _ _ = aW _ _ _ _ _ _ _
    rw [iS]
    simp only [bH hi,ce,cond_true,aK,Bool.or_true,bq hi,cd hi (by omega)]
    rw [pG]
    unfold xq
    cases ah c[i].Kind 4 <;> cases ah c[i].Seat seat <;> cases ah c[i].State state <;> rfl
  rw [e,iS,ca,cond_false,mW l (by omega),Option.bind_some,Fw _ _ (by omega),Option.bind_some]
  have hcl:=uW (aY c ⟨seat,state⟩) (aU l)
  obtain ⟨o,e1,e2⟩:=Nm l c seat state (iO (aY c ⟨seat,state⟩) (aU l)) (by omega) _ 0 out D (Nat.zero_add _) hg (by omega)
  rw [al (n:=state+1) (by omega) (by omega)] at e1
  exact ⟨o,e1,by rw [List.drop_zero] at e2; exact e2⟩
theorem Qz (r:Rt):(fJ c (aU l) r).length≤41:=by
  unfold fJ
  rw [List.length_map]
  have:=uW (aY c r) (aU l)
  have:=wy c r
  omega
theorem Pf (seat:Int) (hs0:0≤seat) (hs6:seat < 6):∀ (k:Nat) (state:Int) (out D:List GPosting),state+k = 6→0≤state→lg out D seat state→out.length+41*k≤100000 →
    ∃ out',cm l seat state c out = d8 l (seat+1) c out'∧lg out' (D++(qc seat state k).flatMap (fJ c (aU l))) (seat+1) 0∧out'.length≤out.length+41*k:=by
  intro k
  induction k with
  | zero =>
    intro state out D hk h0 hg ho
    refine ⟨out, ?_, ?_,by omega⟩
    · rw [kA,bw (by omega),cond_false,al (n:=seat+1) (by omega) (by omega)]
    · rw [qc,List.flatMap_nil,List.append_nil]
      exact hg.mono (by omega)
  | succ k ih =>
    intro state out D hk h0 hg ho
    obtain ⟨o,e1,e2⟩:=MN l c hl hc seat state h0 (by omega) out D hg (by omega)
    have hlen:o.length≤out.length+41:=by
      rw [e2.perm.length_eq,List.length_append, ← hg.perm.length_eq]
      have:=Qz l c hl hc ⟨seat,state⟩
      omega
    obtain ⟨o2,f1,f2,f3⟩:=ih (state+1) o _ (by omega) (by omega) (e2.mono (by omega)) (by omega)
    refine ⟨o2,e1.trans f1, ?_,by omega⟩
    rw [qc,List.flatMap_cons, ← List.append_assoc]
    exact f2
theorem Po:∀ (k:Nat) (seat:Int) (out D:List GPosting),seat+k = 6→0≤seat→lg out D seat 0→out.length+246*k≤100000 →
    ∃ out',d8 l seat c out = some out'∧lg out' (D++(lx seat k).flatMap (fJ c (aU l))) 6 0∧out'.length≤out.length+246*k:=by
  intro k
  induction k with
  | zero =>
    intro seat out D hk h0 hg ho
    refine ⟨out, ?_, ?_,by omega⟩
    · rw [k6,bw (by omega),cond_false]
    · rw [lx,List.flatMap_nil,List.append_nil]
      exact hg.mono (by omega)
  | succ k ih =>
    intro seat out D hk h0 hg ho
    obtain ⟨o,e1,e2,e3⟩:=Pf l c hl hc seat h0 (by omega) 6 0 out D (by omega) (by omega) hg (by omega)
    obtain ⟨o2,f1,f2,f3⟩:=ih (seat+1) o _ (by omega) (by omega) e2 (by omega)
    refine ⟨o2, ?_, ?_,by omega⟩
    · rw [k6,aF (by omega),cond_true,e1]
      exact f1
    · rw [lx,List.flatMap_append, ← List.append_assoc]
      exact f2
end
theorem xD (l:List GFact) (hl:l.length≤40):∃ out,mY l = some out∧out.Perm ((lx 0 6).flatMap (fJ (l.filter aI) (aU l)))∧LK out∧out.length≤1476:=by
  rw [yG,kG l (by omega),Option.bind_some]
  have:=List.length_filter_le aI l
  obtain ⟨o,e1,e2,e3⟩:=Po l (l.filter aI) hl (by omega) 6 0 [] [] (by omega) (by omega) ⟨.refl _,by simp,by simp⟩ (by simp)
  exact ⟨o,e1,e2.perm,e2.srt,by simpa using e3⟩
theorem E7 {A B:Type} (f:A→B):∀ (l:List A) (o:List B),l.foldl (fun o x=>o++[f x]) o = o++l.map f
  | [],o=>by simp
  | x :: r,o=>by rw [List.foldl_cons,E7 f r]; simp
theorem PF {n:Nat} {wl:List Int} (hnd:wl.Nodup) (hr:∀ x∈wl,0≤x∧x < (n:Int)) (hlen:wl.length = n):wl.Perm ((List.range n).map fun p:Nat=>(p:Int)):=by
  have hnd2:((List.range n).map fun p:Nat=>(p:Int)).Nodup:=by
    rw [List.nodup_iff_pairwise_ne,List.pairwise_map]
    exact List.Pairwise.imp (fun h e=>h (by omega)) (List.nodup_iff_pairwise_ne.1 List.nodup_range)
  have sub:wl ⊆ (List.range n).map fun p:Nat=>(p:Int):=by
    intro x hx
    have:=hr x hx
    exact List.mem_map.2 ⟨x.toNat,List.mem_range.2 (by omega),by omega⟩
  rw [List.perm_ext_iff_of_nodup hnd hnd2]
  intro a
  refine ⟨fun h=>sub h,fun h=>?_⟩
  by_cases ha:a∈wl
  · exact ha
  · exfalso
    have h1:(a :: wl).Nodup:=List.nodup_cons.2 ⟨ha,hnd⟩
    have h2:(a :: wl) ⊆ (List.range n).map fun p:Nat=>(p:Int):=fun x hx=>by
      rcases List.mem_cons.1 hx with rfl | hx
      · exact h
      · exact sub hx
    have:=h1.length_le_of_subset h2
    simp at this
    omega
theorem Of {n:Nat} {wl:List Int} (hlen:wl.length < n):gN n wl≠[]:=by
  intro h
  have hnd2:((List.range n).map fun p:Nat=>(p:Int)).Nodup:=by
    rw [List.nodup_iff_pairwise_ne,List.pairwise_map]
    exact List.Pairwise.imp (fun h e=>h (by omega)) (List.nodup_iff_pairwise_ne.1 List.nodup_range)
  have sub:((List.range n).map fun p:Nat=>(p:Int)) ⊆ wl:=by
    intro x hx
    obtain ⟨p,hp,rfl⟩:=List.mem_map.1 hx
    rw [List.mem_range] at hp
    by_cases hm:(p:Int)∈wl
    · exact hm
    · have:=nW.2 ⟨hp,hm⟩
      rw [h] at this
      cases this
  have:=hnd2.length_le_of_subset sub
  simp at this
  omega
theorem Oc (l c:List GFact) (hl:l.length≤40) (hc:c.length≤40) (ks:List Rt) (vs:List (List GSpan)) (hk:ks.length≤40) (hv:∀ (p:Nat) (h:p < ks.length),gD vs p [] = aY c ks[p]):∀ (n:Nat) (out:List GPosting) (wl:List Int),
    wl.Nodup→(∀ x∈wl,0≤x∧x < (ks.length:Int))→wl.length+n = ks.length→out.Perm (wl.flatMap fun x=>fJ c (aU l) (gD ks x.toNat (zS .GCompetence_route)))→out.length≤41*wl.length →
    dL l out (ks.length:Int) wl ks vs = some (eC (ks.flatMap (fJ c (aU l)))):=by
  intro n
  induction n with
  | zero =>
    intro out wl hnd hr hlen hp ho
    have hw:=PF hnd hr (by omega)
    have he:gN ks.length wl = []:=by
      cases h:gN ks.length wl with
      | nil=>rfl
      | cons p r =>
        have hm:p∈gN ks.length wl:=by rw [h]; simp
        obtain ⟨h1,h2⟩:=nW.1 hm
        exact absurd (hw.mem_iff.2 (List.mem_map.2 ⟨p,List.mem_range.2 h1,rfl⟩)) h2
    rw [iq,m7,aK,he]
    show (gb (aa (out.length≤4611686018427387903))<|some (eC out)) = _
    rw [aG (by omega)]
    congr 1
    have hp2:out.Perm (ks.flatMap (fJ c (aU l))):=by
      refine hp.trans ((List.Perm.flatMap_right _ hw).trans ?_)
      rw [List.flatMap_map]
      have:(List.range ks.length).flatMap (fun p=>fJ c (aU l) (gD ks ((p:Nat):Int).toNat (zS .GCompetence_route))) = ks.flatMap (fJ c (aU l)):=by
        have e:ks = (List.range ks.length).map fun p=>gD ks ((p:Nat):Int).toNat (zS .GCompetence_route):=by
          apply List.ext_getElem (by simp)
          intro i h1 h2
          rw [List.getElem_map,List.getElem_range,bq h1]
        conv=>rhs; rw [e,List.flatMap_map]
      rw [this]
    refine LI (c:=c) (life:=aU l) hp2 fun a ha=>?_
    obtain ⟨r,_,h⟩:=List.mem_flatMap.1 ha
    exact Jy a h
  | succ n ih =>
    intro out wl hnd hr hlen hp ho
    have hne:=Of (n:=ks.length) (wl:=wl) (by omega)
    rw [iq,m7,aK]
    have:List.isEmpty (gN ks.length wl) = false:=by
      cases h:gN ks.length wl with
      | nil=>exact absurd h hne
      | cons p r=>rfl
    rw [this,cond_false]
    refine tP hne fun p hpm=>?_
    obtain ⟨h1,h2⟩:=nW.1 hpm
    rw [aG rfl,aG (by omega),aG (by omega),jt l (by omega),Option.bind_some]
    have ev:gD vs ((p:Nat):Int).toNat [] = aY c ks[p]:=by
      rw [show ((p:Nat):Int).toNat = p by omega]; exact hv p h1
    rw [ev,bq h1]
    have hd:(aY c ks[p]).length≤40:=Nat.le_trans (wy _ _) hc
    rw [CG _ _ (by omega),Option.bind_some]
    have hcl:=uW (aY c ks[p]) (aU l)
    generalize hr2:iO (aY c ks[p]) (aU l) = r2 at hcl
    have loop:=(tB r2 (fun i o=>bj l (r2.length:Int) i o ks[p] (ks.length:Int) ((p:Int) :: wl) r2 ks vs) (fun (o:List GPosting) s=>o++[(⟨ks[p].seat,ks[p].state,s⟩:GPosting)]) (fun i o=>o.length≤out.length+i) (fun i o hi ho=>⟨by
        show bj _ _ _ _ _ _ _ _ _ _ = bj _ _ _ _ _ _ _ _ _ _
        rw [gM]
        simp only [bH hi,ce,cond_true,aK,Bool.or_true,bq hi,cd hi (by omega)]
        rw [pG],by simp; omega⟩) out (by omega)).1
    refine Eq.trans loop ?_
    show bj _ _ _ _ _ _ _ _ _ _ = _
    rw [gM,ca,cond_false,E7]
    have ep:r2.map (fun s=>(⟨ks[p].seat,ks[p].state,s⟩:GPosting)) = fJ c (aU l) ks[p]:=by unfold fJ; rw [hr2]
    rw [ep]
    have hpl:(fJ c (aU l) ks[p]).length≤41:=by rw [← ep,List.length_map]; omega
    refine ih _ _ (List.nodup_cons.2 ⟨h2,hnd⟩) (fun x hx=>?_) (by simp; omega) ?_ (by simp; omega)
    · rcases List.mem_cons.1 hx with rfl | hx
      · omega
      · exact hr x hx
    · rw [List.flatMap_cons,bq h1]
      exact (List.perm_append_comm).trans (List.Perm.append_left _ hp)
theorem Lo {f:GFact} (h:aI f = true) (hk:f.Kind = 4):(0≤f.Seat∧f.Seat < 6)∧0≤f.State∧f.State < 6:=by
  have hv:cX f = true:=by
    unfold aI at h
    cases hv:cX f with
    | true=>rfl
    | false=>rw [hv] at h; cases h
  have hs:=((o8 f).1 hv).2.2.2.2.2
  rw [hk] at hs
  have b1:cY 4 83 = true:=by decide
  have b2:cY 4 84 = true:=by decide
  have hs1:=hs.1
  have hs2:=hs.2.1
  rw [b1] at hs1
  rw [b2] at hs2
  unfold bG at hs1 hs2
  rw [if_pos rfl,rK] at hs1 hs2
  omega
theorem GY (l:List GFact) (hl:l.length≤40):∃ p,mY l = some p∧dZ l = some p∧p.Perm ((lx 0 6).flatMap (fJ (l.filter aI) (aU l)))∧LK p∧p.length≤1476:=by
  obtain ⟨p,h1,h2,h3,h4⟩:=xD l hl
  refine ⟨p,h1, ?_,h2,h3,h4⟩
  rw [so,j6 l (by omega),Option.bind_some]
  have hcl:=List.length_filter_le aI l
  have hcr:∀ f∈l.filter aI,f.Kind = 4→(0≤f.Seat∧f.Seat < 6)∧0≤f.State∧f.State < 6:=fun f hf hk=>Lo (List.mem_filter.1 hf).2 hk
  generalize l.filter aI = c at hcl hcr h2
  have es:qR (l,c,(c.length:Int),0,[],[]) = some (l,(cE c).1,(cE c).2):=by
    unfold qR
    simp only [m7]
    rw [aF (by omega)]; rfl
  rw [es,Option.bind_some]
  have hk:=Pk c
  have:=Oc l c hl (by omega) (cE c).1 (cE c).2 (by have:=hk.le; omega) hk.val (cE c).1.length [] [] (by simp) (by simp) (by simp) (.refl _) (by simp)
  refine Eq.trans this ?_
  congr 1
  exact EG ((IT hk.nd hk.mem hcr).trans h2.symm) (fun a ha=>by
    obtain ⟨r,_,h⟩:=List.mem_flatMap.1 ha
    exact Jy a h) h3
end Go.Ax
set_option linter.all false
/- The law of a day, function by function; the example of chapter 15; LawUnder. -/
set_option maxRecDepth 100000
namespace Go.Ax
def cQ (s:GSpan) (day:Int):Bool:=bif aa (s.From≤day) then aa (day < s.To) else false
theorem o5 (s:GSpan) (d:Int):fg s d = some (cQ s d):=tD s d
theorem Jo (s:GSpan) (d:Int):tr s d = some (cQ s d):=IS s d
theorem Ie (ks:List Int) (v:Int) (hl:ks.length≤1000000):jn ks v = some (ks.any fun k=>ah v k):=by
  rw [xR,Bp]
  refine (po ks (fun i=>(dm ks v (ks.length:Int) i).bind fun r0=>some (aa (0≤r0))) (fun k=>ah v k) (some true) (some false) ?_ fun i hi=>?_).trans (by cases ks.any _ <;> rfl)
  · show (dm ks v (ks.length:Int) (ks.length:Int)).bind _ = _
    rw [mP,ca]; rfl
  · show (dm ks v (ks.length:Int) (i:Int)).bind _ = if ah v ks[i] = true then _ else (dm ks v (ks.length:Int) _).bind _
    rw [mP]
    simp only [bH hi,ce,cond_true,aK,Bool.or_true,bq hi,cd hi (by omega)]
    cases ah v ks[i] with
    | true=>rw [cond_true,Option.bind_some,aF (by omega)]; rfl
    | false=>rfl
theorem yq (l:List GSpan) (day:Int) (hl:l.length≤1000000):no l day = some (!(aa (day < 0))&&(!(aa (73049≤day))&&l.any fun s=>cQ s day)):=by
  rw [yD,su,vK]
  have:(bJ l day (l.length:Int) 0).bind (fun r0=>some (aa (0≤r0))) = some (l.any fun s=>cQ s day):=by
    refine (po l (fun i=>(bJ l day (l.length:Int) i).bind fun r0=>some (aa (0≤r0))) (fun s=>cQ s day) (some true) (some false) ?_ fun i hi=>?_).trans (by cases l.any _ <;> rfl)
    · show (bJ l day (l.length:Int) (l.length:Int)).bind _ = _
      rw [kz,ca]; rfl
    · show (bJ l day (l.length:Int) (i:Int)).bind _ = if cQ l[i] day = true then _ else (bJ l day (l.length:Int) _).bind _
      rw [kz]
      simp only [bH hi,ce,cond_true,aK,Bool.or_true,bq hi,cd hi (by omega)]
      rw [vS,Option.bind_some]
      show Option.bind (bif cQ l[i] day then (some (i:Int)) else _) _ = _
      cases cQ l[i] day with
      | true=>rw [cond_true,Option.bind_some,aF (by omega)]; rfl
      | false=>rfl
  rw [this]
  cases aa (day < 0) <;> cases aa (73049≤day) <;> rfl
def kW (day:Int) (ks:List Int) (f:GFact):Bool:=(ks.any fun k=>ah f.Kind k)&&cQ f.Span day
theorem tq (x:GCompetence_life) (day:Int) (ks:List Int) (hl:x.facts.length≤1000000) (hk:ks.length≤1000):bK x day ks = some (x.facts.filter (kW day ks)):=by
  rw [sM]
  refine (KL x.facts (fun i out=>bf day ks x.facts (x.facts.length:Int) i out) (kW day ks) fun i out hi ho=>?_).trans ?_
  · show bf _ _ _ _ _ _ = bf _ _ _ _ _ _
    rw [jz]
    simp only [bH hi,ce,cond_true,aK,Bool.or_true,bq hi,cd hi (by omega)]
    rw [Ie _ _ (by omega),Option.bind_some,o5,Option.bind_some,pG]
    unfold kW
    cases (ks.any fun k=>ah x.facts[i].Kind k) <;> cases cQ x.facts[i].Span day <;> rfl
  · show bf _ _ _ _ _ _ = _
    rw [jz,ca]; rfl
theorem vJ (l:List GFact) (hl:l.length≤40) (h:∀ f∈l.filter aI,f.Kind≠4):dZ l = some []:=by
  obtain ⟨p,_,h2,h3,_,_⟩:=GY l hl
  have:(lx 0 6).flatMap (fJ (l.filter aI) (aU l)) = []:=by
    rw [List.flatMap_eq_nil_iff]
    intro r _
    refine H7 ?_
    unfold aY
    rw [List.map_eq_nil_iff,List.filter_eq_nil_iff]
    intro f hf hr
    exact h f hf ((yf _ _).1 hr).1
  rw [this] at h3
  rw [h2,h3.eq_nil]
theorem D3 (d:Int):kg d = some (bif aa (0≤d) then aa (d≤73048) else false):=yB d
theorem Bb (x h:Int):gi x h = some (bif aa (0≤x) then aa (x≤h) else false):=z6 x h
def rY (r:GRules):Prop:=0≤r.From∧r.From≤73048∧0≤r.MinDays∧r.MinDays≤73049∧0≤r.PostingLimit∧r.PostingLimit≤73049∧0≤r.Substantial∧r.Substantial≤100
def Ke (ms:List Int):Prop:=ms.length≤100∧∀ (i:Nat) (hi:i < ms.length),0≤ms[i]∧ms[i]≤5∧∀ h:0 < i,ms[i - 1] < ms[i]
theorem KA (r:GRules) (h:rY r) (hm:Ke r.Members):pW r = some true:=by
  obtain ⟨a1,a2,a3,a4,a5,a6,a7,a8⟩:=h
  obtain ⟨b1,b2⟩:=hm
  rw [B0]
  simp only [D3,Bb,Option.bind_some,aF a1,aF a2,aF a3,aF a4,aF a5,aF a6,aF a7,aF a8,cond_true,Bool.not_true,cond_false]
  refine (po r.Members (fun i=>dn r.Members (r.Members.length:Int) i r) (fun _=>false) none (some true) ?_ fun i hi=>?_).trans (by simp)
  · show dn _ _ _ _ = _
    rw [mJ,ca]; rfl
  · show dn _ _ _ _ = if (false:Bool) = true then none else dn r.Members (r.Members.length:Int) ((i+1:Nat):Int) r
    rw [if_neg (by simp)]
    obtain ⟨c1,c2,c3⟩:=b2 i hi
    rw [mJ]
    simp only [bH hi,ce,cond_true,aK,Bool.or_true,bq hi,cd hi (by omega)]
    rw [Bb,aF c1,aF c2,cond_true,Option.bind_some]
    by_cases h0:0 < i
    · have e:ae ((i:Int) - 1) = ((i - 1:Nat):Int):=by rw [al (by omega) (by omega)]; omega
      rw [e,qb (by simp),qb (by simp; omega),bq (l:=r.Members) (i:=i - 1) (by omega),bw (p:=r.Members[i]≤r.Members[i - 1]) (by have:=c3 h0; omega)]
      cases aa (0 < (i:Int)) <;> simp
    · have:i = 0:=by omega
      subst this
      simp
      rfl
theorem F9 (t:List GRules) (ht:t.length≤8) (h0:0 < t.length) (hf:(gD t 0 (zS .GRules)).From = 0) (h:∀ (i:Nat) (hi:i < t.length),rY t[i]∧Ke t[i].Members∧∀ h:0 < i,t[i - 1].From < t[i].From):mn t = some 0:=by
  rw [Bl,bw (p:=8 < (t.length:Int)) (by omega),cond_false]
  have e:ah (t.length:Int) 0 = false:=ul.2 (by omega)
  rw [e,aF (p:=0 < (t.length:Int)) (by omega),hf,F0.2 rfl]
  show cB _ _ _ _ = _
  refine (po t (fun i=>cB t t (t.length:Int) i) (fun _=>false) none (some 0) ?_ fun i hi=>?_).trans (by simp)
  · show cB _ _ _ _ = _
    rw [lU,ca]; rfl
  · show cB _ _ _ _ = if (false:Bool) = true then none else cB t t (t.length:Int) ((i+1:Nat):Int)
    rw [if_neg (by simp)]
    obtain ⟨c1,c2,c3⟩:=h i hi
    rw [lU]
    simp only [bH hi,ce,cond_true,aK,Bool.or_true,bq hi,cd hi (by omega)]
    rw [KA _ c1 c2,Option.bind_some]
    by_cases h0:0 < i
    · have e:ae ((i:Int) - 1) = ((i - 1:Nat):Int):=by rw [al (by omega) (by omega)]; omega
      rw [e,qb (by simp),qb (by simp; omega),bq (l:=t) (i:=i - 1) (by omega),bw (p:=t[i].From≤t[i - 1].From) (by have:=c3 h0; omega)]
      cases aa (0 < (i:Int)) <;> simp
    · have:i = 0:=by omega
      subst this
      simp
      rfl
def Lb (day:Int) (f:GFact):Bool:=aI f&&(ah f.Kind 5&&cQ f.Span day)
def CY (ok:Bool) (best f:GFact):Bool:=!ok||(aa (best.Span.From < f.Span.From)||(ah f.Span.From best.Span.From&&aa (f.State < best.State)))
def lG (day:Int) (s:Bool × GFact) (f:GFact):Bool × GFact:=bif Lb day f then (bif CY s.1 s.2 f then (true,f) else s) else s
theorem mm (l:List GFact) (day:Int) (hl:l.length≤1000000):dl l day =
    some (bif (bif aa (0≤day) then aa (day≤73048) else false)&&cQ (aU l) day then ((l.foldl (lG day) (false,zS .GFact)).2.State,(l.foldl (lG day) (false,zS .GFact)).1) else (0,false)):=by
  rw [vL,D3,Option.bind_some,jt l hl,Option.bind_some,yq _ _ (by simp),Option.bind_some]
  have e:(!(aa (day < 0))&&(!(aa (73049≤day))&&[aU l].any fun s=>cQ s day)) = ((bif aa (0≤day) then aa (day≤73048) else false)&&cQ (aU l) day):=by
    rw [eQ,List.any_cons,List.any_nil,Bool.or_false]
    have e1:aa (0≤day) = !(aa (day < 0)):=by
      by_cases h:0≤day
      · rw [aF h,bw (p:=day < 0) (by omega)]; rfl
      · rw [bw h,aF (p:=day < 0) (by omega)]; rfl
    have e2:aa (day≤73048) = !(aa (73049≤day)):=by
      by_cases h:73049≤day
      · rw [aF h,bw (p:=day≤73048) (by omega)]; rfl
      · rw [bw h,aF (p:=day≤73048) (by omega)]; rfl
    rw [e1,e2,Bool.and_assoc]
  rw [e]
  have loop:aQ day false l (l.length:Int) 0 (⟨0,0,0,false,0,0,0,(⟨0,0⟩:GSpan),0,0,0,0,0⟩:GFact) = some ((l.foldl (lG day) (false,zS .GFact)).2.State,(l.foldl (lG day) (false,zS .GFact)).1):=by
    refine (tB l (fun i (s:Bool × GFact)=>aQ day s.1 l (l.length:Int) i s.2) (lG day) (fun _ _=>True) (fun i s hi _=>⟨?_,trivial⟩) (false,zS .GFact) trivial).1.trans ?_
    · show aQ _ _ _ _ _ _ = aQ _ _ _ _ _ _
      rw [jX]
      simp only [bH hi,ce,cond_true,aK,Bool.or_true,bq hi,cd hi (by omega)]
      rw [jB,Option.bind_some]
      generalize l[i] = f
      obtain ⟨ok,best⟩:=s
      unfold lG Lb CY cQ
      have e1:aa (day < f.Span.From) = !(aa (f.Span.From≤day)):=by
        by_cases h:f.Span.From≤day
        · rw [aF h,bw (p:=day < f.Span.From) (by omega)]; rfl
        · rw [bw h,aF (p:=day < f.Span.From) (by omega)]; rfl
      have e2:aa (f.Span.To≤day) = !(aa (day < f.Span.To)):=by
        by_cases h:day < f.Span.To
        · rw [aF h,bw (p:=f.Span.To≤day) (by omega)]; rfl
        · rw [bw h,aF (p:=f.Span.To≤day) (by omega)]; rfl
      have e3:bT f.Kind 5 = !(ah f.Kind 5):=rfl
      rw [e1,e2,e3]
      show _ = aQ day _ l (l.length:Int) _ _
      cases aI f <;> cases ah f.Kind 5 <;> cases aa (f.Span.From≤day) <;> cases aa (day < f.Span.To) <;> cases ok <;> cases aa (best.Span.From < f.Span.From) <;> cases ah f.Span.From best.Span.From <;> cases aa (f.State < best.State) <;> rfl
    · show aQ _ _ _ _ _ _ = _
      rw [jX,ca,cond_false]
  rw [loop]
  cases (bif aa (0≤day) then aa (day≤73048) else false) <;> cases cQ (aU l) day <;> rfl
def BQ:GFact:=⟨0,1,1,false,1,5,1,⟨100,200⟩,0,0,0,0,0⟩
def oh:GFact:=⟨0,2,1,false,1,1,1,⟨100,200⟩,2,20,1,0,0⟩
def oc:GFact:=⟨0,3,1,false,1,1,2,⟨100,200⟩,2,80,1,0,0⟩
def Bv:GCompetence_life:=⟨[BQ,oh,oc],aU [BQ,oh,oc],[],[⟨0,0,0,25,[]⟩]⟩
theorem OO:[BQ,oh,oc].filter aI = [BQ,oh,oc]:=by kernel_rfl
theorem Rj:bK Bv 150 [1,2] = some [oh,oc]:=by
  rw [tq _ _ _ (by decide) (by decide)]; kernel_rfl
theorem Q2:bK Bv 150 [1] = some [oh,oc]:=by
  rw [tq _ _ _ (by decide) (by decide)]; kernel_rfl
theorem QW:bK Bv 150 [3] = some []:=by
  rw [tq _ _ _ (by decide) (by decide)]; kernel_rfl
theorem Q5:dl [BQ,oh,oc] 150 = some (1,true):=by
  rw [mm _ _ (by decide)]; kernel_rfl
theorem Pt:iv [oh,oc] = some [2]:=by
  rw [v7]
  refine Eq.trans (b:=dG [oh,oc] 2 1 [2]) (by rw [fX]; kernel_rfl) ?_
  refine Eq.trans (b:=dG [oh,oc] 2 2 [2,2]) (by rw [fX]; kernel_rfl) ?_
  rw [fX]; kernel_rfl
theorem Q6:bA Bv 150 25 = some (2,true):=by
  rw [it,Rj,Option.bind_some]
  refine Eq.trans (b:=bV 150 25 20 2 1 Bv [1] [20] [oh,oc]) (by rw [cn]; kernel_rfl) ?_
  refine Eq.trans (b:=bV 150 25 100 2 2 Bv [1,2] [20,80] [oh,oc]) (by rw [cn]; kernel_rfl) ?_
  rw [cn,Q2]
  show Option.bind (dl [BQ,oh,oc] 150) _ = _
  rw [Q5]
  show Option.bind (iv [oh,oc]) _ = _
  rw [Pt]
  kernel_rfl
theorem RE:qO [⟨0,0,0,25,[]⟩] 150 = some (⟨0,0,0,25,[]⟩,true):=by
  show lO [⟨0,0,0,25,[]⟩] 150 = _
  kernel_rfl
theorem P4:dU Bv 150 0 = some (0,false):=by
  rw [iY,dO]; kernel_rfl
theorem Pu:eR Bv 150 = some (0,false):=by
  rw [jH,QW,Option.bind_some,en]; kernel_rfl
theorem Pw:kN = some true:=by
  rw [DK]
  have e:dQ [BQ,oh,oc] [⟨0,0,0,25,[]⟩] 150 = some (2,3):=by
    have hP:jU [BQ,oh,oc] [⟨0,0,0,25,[]⟩] = some (Bv,true):=by
      rw [lL,j6 _ (by decide),Option.bind_some,OO,jt _ (by decide),Option.bind_some,vJ _ (by decide) (by rw [OO]; decide),Option.bind_some,
        F9 _ (by decide) (by decide) rfl (fun i hi=>by
          have:i = 0:=by simp at hi; omega
          subst this
          exact ⟨by simp [rY],⟨by simp,fun i hi=>by simp at hi⟩,fun h=>by omega⟩)]
      rfl
    rw [qA,hP,Option.bind_some,k5]
    show ((qO [⟨0,0,0,25,[]⟩] 150).bind _).bind _ = _
    rw [RE,Option.bind_some,o5,P4,Pu,Q6]
    kernel_rfl
  show (dQ [BQ,oh,oc] [⟨0,0,0,25,[]⟩] 150).bind _ = _
  rw [e]
  kernel_rfl
theorem LB (n:List Int) (hn:n.length≤9223372036854775807):En BO (kY n 0):=by
  rw [Cj]
  exact .bind (OW n hn) fun y h=>.some h
end Go.Ax
set_option linter.all false
/- The law of a day: rules, postings, civil service, benefits, residence, on both sides. -/
set_option maxRecDepth 100000
namespace Go.Ax
def fO {T:Type} (p:T→Bool) (bt:T→T→Bool) (s:Bool × T) (f:T):Bool × T:=bif p f&&(!s.1||bt s.2 f) then (true,f) else s
theorem qm {T:Type} (p:T→Bool) (bt:T→T→Bool):∀ (l:List T) (s:Bool × T),(l.filter p).foldl (fO (fun _=>true) bt) s = l.foldl (fO p bt) s
  | [],_=>rfl
  | f :: l,s=>by
    rw [List.filter_cons,List.foldl_cons]
    cases h:p f with
    | true =>
      rw [if_pos rfl,List.foldl_cons,qm p bt l]
      unfold fO
      rw [h]
    | false =>
      rw [if_neg (by simp),qm p bt l]
      have:fO p bt s f = s:=by unfold fO; rw [h]; rfl
      rw [this]
def Na {T:Type} (l:List T) (z:T) (p:T→Bool) (i:Nat) (b:Int) (s:Bool × T):Prop:=(b = -1∧s = (false,z))∨(0≤b∧b < (i:Int)∧s = (true,gD l b.toNat z)∧p (gD l b.toNat z) = true)
theorem No {T R:Type} (l:List T) (z:T) (F:Int→Int→Option R) (p:T→Bool) (bt:T→T→Bool)
    (h:∀ (i:Nat) (hi:i < l.length) (b:Int),(b = -1∨(0≤b∧b < (i:Int)))→F (i:Int) b = if (p l[i]&&(aa (b < 0)||bt (gD l b.toNat z) l[i])) = true then F ((i+1:Nat):Int) (i:Int) else F ((i+1:Nat):Int) b) :
    ∃ b:Int,F 0 (-1) = F (l.length:Int) b∧Na l z p l.length b (l.foldl (fO p bt) (false,z)):=by
  have key:∀ (n i:Nat) (b:Int) (s:Bool × T),l.length = i+n→Na l z p i b s→∃ b':Int,F (i:Int) b = F (l.length:Int) b'∧Na l z p l.length b' ((l.drop i).foldl (fO p bt) s):=by
    intro n
    induction n with
    | zero =>
      intro i b s hn hr
      have:i = l.length:=by omega
      subst this
      refine ⟨b,rfl, ?_⟩
      rw [List.drop_length,List.foldl_nil]
      exact hr
    | succ n ih =>
      intro i b s hn hr
      have hi:i < l.length:=by omega
      have e:=h i hi b (by rcases hr with ⟨h1,_⟩ | ⟨h1,h2,_⟩; exact .inl h1; exact .inr ⟨h1,h2⟩)
      rw [List.drop_eq_getElem_cons hi,List.foldl_cons]
      have es:fO p bt s l[i] = if (p l[i]&&(aa (b < 0)||bt (gD l b.toNat z) l[i])) = true then (true,l[i]) else s:=by
        unfold fO
        rcases hr with ⟨h1,h2⟩ | ⟨h1,h2,h3,h4⟩
        · rw [h1,h2,aF (p:=(-1:Int) < 0) (by omega)]
          cases p l[i] <;> simp
        · rw [h3,bw (p:=b < 0) (by omega)]
          cases p l[i] <;> cases bt (gD l b.toNat z) l[i] <;> simp
      rw [es,e]
      by_cases hc:(p l[i]&&(aa (b < 0)||bt (gD l b.toNat z) l[i])) = true
      · rw [if_pos hc,if_pos hc]
        refine ih (i+1) (i:Int) _ (by omega) (.inr ⟨by omega,by omega,by rw [bq hi], ?_⟩)
        rw [bq hi]
        exact (Bool.and_eq_true _ _ ▸ hc).1
      · rw [if_neg hc,if_neg hc]
        refine ih (i+1) b _ (by omega) ?_
        rcases hr with h1 | ⟨h1,h2,h3⟩
        · exact .inl h1
        · exact .inr ⟨h1,by omega,h3⟩
  exact key l.length 0 (-1) (false,z) (by omega) (.inl ⟨rfl,rfl⟩)
def d7 (t:List GRules) (day:Int):GRules × Bool :=
  bif aa (day < 0)||aa (73049≤day) then (zS .GRules,false) else match t.reverse.find? (fun r=>aa (r.From≤day)) with | some r=>(r,true) | none=>(zS .GRules,false)
def J4 (t:List GRules):Prop:=t.length≤1000∧∀ r∈t,r.Members.length≤1000
theorem FK (t:List GRules) (day:Int) (h:J4 t):qO t day = some (d7 t day):=by
  show lO t day = _
  unfold lO d7
  have:t.all (fun r=>aa (r.Members.length≤1000)) = true:=List.all_eq_true.2 fun r hr=>aF (h.2 r hr)
  rw [this,aF h.1]
  show (bif _ then _ else _) = _
  cases (aa (day < 0)||aa (73049≤day)) with
  | true=>rfl
  | false =>
    rw [cond_false,cond_false]
    cases t.reverse.find? (fun r=>aa (r.From≤day)) <;> rfl
def pB (day lim:Int) (p:GPosting):Bool:=cQ p.Span day&&aa (day < p.Span.From+lim)
def CI (l:List GPosting) (day lim:Int):Int × Bool:=match l.find? (pB day lim) with | some p=>(p.Seat,true) | none=>(0,false)
def K7 (l:List GPosting):Prop:=l.length≤1000000∧∀ p∈l,0≤p.Span.From∧p.Span.From≤73049
theorem Jf (x:GCompetence_life) (day lim:Int) (h:K7 x.postings) (hl:0≤lim∧lim≤73049):dU x day lim = some (CI x.postings day lim):=by
  rw [iY]
  unfold CI
  generalize x.postings = l at h
  have hle:=h.1
  have key:∀ (n i:Nat),l.length = i+n→df day lim l (l.length:Int) (i:Int) = some (match (l.drop i).find? (pB day lim) with | some p=>(p.Seat,true) | none=>(0,false)):=by
    intro n
    induction n with
    | zero =>
      intro i hn
      have:i = l.length:=by omega
      subst this
      rw [dO,ca,cond_false,List.drop_length]; rfl
    | succ n ih =>
      intro i hn
      have hi:i < l.length:=by omega
      have hr:=h.2 _ (List.getElem_mem hi)
      rw [dO,List.drop_eq_getElem_cons hi,List.find?_cons]
      simp only [bH hi,ce,cond_true,aK,Bool.or_true,bq hi,cd hi (by omega)]
      rw [ih (i+1) (by omega),o5,Option.bind_some,al (n:=l[i].Span.From+lim) (by omega) (by omega)]
      unfold pB
      cases cQ l[i].Span day <;> cases aa (day < l[i].Span.From+lim) <;> rfl
  exact key l.length 0 (by omega)
def QL (b f:GFact):Bool:=aa (b.Share < f.Share)||(ah f.Share b.Share&&aa (f.State < b.State))
def wF (c:List GFact) (day:Int):Bool × GFact:=c.foldl (fO (kW day [3]) QL) (false,zS .GFact)
theorem Mk (x:GCompetence_life) (day:Int) (hl:x.facts.length≤1000000):eR x day = some ((wF x.facts day).2.State,(wF x.facts day).1):=by
  rw [jH,tq _ _ _ hl (by decide),Option.bind_some]
  unfold wF
  rw [← qm]
  have hle:=List.length_filter_le (kW day [3]) x.facts
  generalize x.facts.filter (kW day [3]) = l at hle
  refine ((tB l (fun i (s:Bool × GFact)=>bc s.1 (l.length:Int) i s.2 l) (fO (fun _=>true) QL) (fun _ _=>True) (fun i s hi _=>⟨?_,trivial⟩) (false,zS .GFact) trivial).1).trans ?_
  · show bc _ _ _ _ _ = bc _ _ _ _ _
    rw [en]
    simp only [bH hi,ce,cond_true,aK,Bool.or_true,bq hi,cd hi (by omega)]
    obtain ⟨ok,best⟩:=s
    unfold fO QL
    cases ok <;> cases aa (best.Share < l[i].Share) <;> cases ah l[i].Share best.Share <;> cases aa (l[i].State < best.State) <;> rfl
  · show bc _ _ _ _ _ = _
    rw [en,ca,cond_false]
def we (day:Int) (b:Int) (f:GFact):Int:=bif kW day [7,8] f&&(aa (b < 0)||aa (f.State < b)) then f.State else b
def tN (c:List GFact) (day:Int):Int:=c.foldl (we day) (-1)
theorem Pd (a b:GFact):fj a b = some (if a.State < b.State then -1 else if b.State < a.State then 1 else 0):=by
  rw [na,Cf,xp,xp]
  simp only [Option.bind_some,F0.2 rfl,cond_false]
  by_cases h1:a.State < b.State
  · rw [aF h1,if_pos h1]; rfl
  · by_cases h2:b.State < a.State
    · rw [bw h1,aF h2,if_neg h1,if_pos h2]; rfl
    · rw [bw h1,bw h2,if_neg h1,if_neg h2]; rfl
theorem vn (day:Int):∀ (l:List GFact) (b:Int),(l.filter (kW day [7,8])).foldl (fun b f=>bif aa (b < 0)||aa (f.State < b) then f.State else b) b = l.foldl (we day) b
  | [],_=>rfl
  | f :: l,b=>by
    rw [List.filter_cons,List.foldl_cons]
    cases h:kW day [7,8] f with
    | true =>
      rw [if_pos rfl,List.foldl_cons,vn day l]
      unfold we
      rw [h,Bool.true_and]
    | false =>
      rw [if_neg (by simp),vn day l]
      have:we day b f = b:=by unfold we; rw [h]; rfl
      rw [this]
theorem IN (x:GCompetence_life) (day:Int) (hl:x.facts.length≤1000000) (hs:∀ f∈x.facts,kW day [7,8] f = true→0≤f.State) :
    gc x day = some (if tN x.facts day < 0 then (0,false) else (tN x.facts day,true)):=by
  rw [oy,tq _ _ _ hl (by decide),Option.bind_some]
  unfold tN
  rw [← vn]
  have hle:=List.length_filter_le (kW day [7,8]) x.facts
  have hs':∀ f∈x.facts.filter (kW day [7,8]),0≤f.State:=fun f hf=>hs f (List.mem_filter.1 hf).1 (List.mem_filter.1 hf).2
  generalize x.facts.filter (kW day [7,8]) = l at hle hs'
  cases l with
  | nil=>rfl
  | cons f r =>
    rw [show ah ((f :: r).length:Int) 0 = false from ul.2 (by simp only [List.length_cons]; omega),cond_false,yw,bw (p:=((f :: r).length:Int) < 1) (by simp only [List.length_cons]; omega),cond_false,aG (by simp only [List.length_cons]; omega)]
    have key:∀ (n i:Nat) (m z:GFact),(f :: r).length = i+n→d9 (f :: r) (i:Int) z m = some (((f :: r).drop i).foldl (fun m x=>if x.State < m.State then x else m) m):=by
      intro n
      induction n with
      | zero =>
        intro i m z hn
        have:i = (f :: r).length:=by omega
        subst this
        rw [kL,ca,cond_false,List.drop_length]; rfl
      | succ n ih =>
        intro i m z hn
        have hi:i < (f :: r).length:=by omega
        rw [kL,List.drop_eq_getElem_cons hi,List.foldl_cons]
        simp only [bH hi,ce,cond_true,aK,Bool.or_true,bq hi,cd hi (by omega)]
        rw [Pd,Option.bind_some]
        by_cases h1:(f :: r)[i].State < m.State
        · rw [if_pos h1,if_pos h1,aF (by omega),cond_true]
          exact ih (i+1) _ _ (by omega)
        · rw [if_neg h1,if_neg h1,bw (by split <;> omega),cond_false]
          exact ih (i+1) _ _ (by omega)
    have hk:=key r.length 1 f (⟨0,0,0,false,0,0,0,(⟨0,0⟩:GSpan),0,0,0,0,0⟩:GFact) (by simp; omega)
    rw [show gD (f :: r) 0 (zS .GFact) = f from rfl,show ((1:Nat):Int) = 1 from rfl] at *
    rw [hk,Option.bind_some]
    have red:∀ (l:List GFact) (m:GFact),0≤m.State→(∀ x∈l,0≤x.State)→(l.foldl (fun m x=>if x.State < m.State then x else m) m).State = l.foldl (fun (b:Int) f=>bif aa (b < 0)||aa (f.State < b) then f.State else b) m.State∧0≤l.foldl (fun (b:Int) f=>bif aa (b < 0)||aa (f.State < b) then f.State else b) m.State:=by
      intro l
      induction l with
      | nil=>intro m hm _; exact ⟨rfl,hm⟩
      | cons y t ih =>
        intro m hm hx
        rw [List.foldl_cons,List.foldl_cons,bw (p:=m.State < 0) (by omega),Bool.false_or]
        by_cases h1:y.State < m.State
        · rw [if_pos h1,aF h1,cond_true]
          exact ih y (hx y (by simp)) fun x h=>hx x (by simp [h])
        · rw [if_neg h1,bw h1,cond_false]
          exact ih m hm fun x h=>hx x (by simp [h])
    obtain ⟨r1,r2⟩:=red r f (hs' f (by simp)) fun x hx=>hs' x (by simp [hx])
    rw [List.foldl_cons,aF (p:=(-1:Int) < 0) (by omega),Bool.true_or,cond_true,if_neg (by omega),show (f :: r).drop 1 = r from rfl,r1]
def Hs (day:Int) (f:GFact):Bool:=ah f.Kind 5&&cQ f.Span day
def LT (b f:GFact):Bool:=aa (b.Span.From < f.Span.From)||(ah f.Span.From b.Span.From&&aa (f.State < b.State))
def oB (c:List GFact) (day:Int):Bool × GFact:=c.foldl (fO (Hs day) LT) (false,zS .GFact)
theorem PM (l:List GFact):(l.filter aI).filter aI = l.filter aI:=by
  rw [List.filter_filter]; congr 1; funext x; cases aI x <;> rfl
theorem Mx (l:List GFact):aU (l.filter aI) = aU l:=by
  unfold aU cU
  rw [PM]
theorem yV (day:Int):∀ (c:List GFact),(∀ f∈c,aI f = true)→∀ s,c.foldl (lG day) s = c.foldl (fO (Hs day) LT) s
  | [],_,_=>rfl
  | f :: c,h,s=>by
    rw [List.foldl_cons,List.foldl_cons,yV day c (fun g hg=>h g (by simp [hg]))]
    congr 1
    unfold lG Lb fO Hs CY LT
    rw [h f (by simp)]
    obtain ⟨ok,best⟩:=s
    cases ah f.Kind 5 <;> cases cQ f.Span day <;> cases ok <;> cases aa (best.Span.From < f.Span.From) <;> cases ah f.Span.From best.Span.From <;> cases aa (f.State < best.State) <;> rfl
theorem Fz (l:List GFact) (day:Int) (hl:l.length≤1000000) (hd:0≤day∧day≤73048) (hd2:cQ (aU l) day = true) :
    dl (l.filter aI) day = some ((oB (l.filter aI) day).2.State,(oB (l.filter aI) day).1):=by
  rw [mm _ _ (Nat.le_trans (List.length_filter_le _ _) hl),Mx,hd2,aF hd.1,aF hd.2,yV day _ fun f hf=>(List.mem_filter.1 hf).2]
  rfl
theorem vM (l:List GFact) (day:Int) (hl:l.length≤1000000):gF l day = some (bif cQ (aU l) day then ((oB (l.filter aI) day).2.State,(oB (l.filter aI) day).1) else (0,false)):=by
  rw [xa,kG l hl,Option.bind_some]
  have hle:=Nat.le_trans (List.length_filter_le aI l) hl
  generalize l.filter aI = c at hle
  cases hd:cQ (aU l) day with
  | false =>
    rw [fZ,mW l hl,Option.bind_some,Jo,hd]
    simp only [Option.bind_some,cond_false,aF (p:=(-1:Int) < 0) (by omega),cond_true]
    cases aa ((0:Int) < (c.length:Int)) <;> rfl
  | true =>
    rw [cond_true]
    unfold oB
    obtain ⟨b,h1,h2⟩:=No c (zS .GFact) (fun i b=>aS l day b i c) (Hs day) LT fun i hi b hb=>by
      show aS _ _ _ _ _ = if _ then aS _ _ _ _ _ else aS _ _ _ _ _
      rw [fZ,mW l hl]
      simp only [bH hi,ce,cond_true,aK,Bool.or_true,bq hi,cd hi (by omega)]
      simp only [Option.bind_some,Jo,hd,cond_true]
      unfold Hs LT
      have e3:bT c[i].Kind 5 = !(ah c[i].Kind 5):=rfl
      rw [e3]
      rcases hb with hb | ⟨hb1,hb2⟩
      · subst hb
        rw [aF (p:=(-1:Int) < 0) (by omega)]
        cases ah c[i].Kind 5 <;> cases cQ c[i].Span day <;> cases ah c[i].Span.From (gD c (-1:Int).toNat (zS .GFact)).Span.From <;> rfl
      · rw [bw (p:=b < 0) (by omega),aF (p:=0≤b) (by omega),aF (p:=b < (c.length:Int)) (by omega)]
        cases ah c[i].Kind 5 <;> cases cQ c[i].Span day <;> cases aa ((gD c b.toNat (zS .GFact)).Span.From < c[i].Span.From) <;> cases ah c[i].Span.From (gD c b.toNat (zS .GFact)).Span.From <;> cases aa (c[i].State < (gD c b.toNat (zS .GFact)).State) <;> rfl
    refine h1.trans ?_
    show aS _ _ _ _ _ = _
    rw [fZ,ca,cond_false]
    rcases h2 with ⟨rfl,e⟩ | ⟨a1,a2,e,_⟩
    · rw [e,aF (p:=(-1:Int) < 0) (by omega),cond_true]; rfl
    · rw [e,bw (p:=b < 0) (by omega),cond_false,aG a1,aG a2]
end Go.Ax
set_option linter.all false
/- The law of a day on both sides, for a given law by activity; rules that are made. -/
set_option maxRecDepth 100000
namespace Go.Ax
noncomputable def H8 (c:List GFact) (post:List GPosting) (lim:Int) (act:Int × Bool) (day:Int):Int × Int :=
  bif (CI post day lim).2 then ((CI post day lim).1,1) else bif (wF c day).1 then ((wF c day).2.State,2) else bif act.2 then (act.1,3) else bif aa (0≤tN c day) then (tN c day,4) else bif (oB c day).1 then ((oB c day).2.State,5) else (-1,0)
theorem K6 {t:List GRules} {day:Int} (h:(d7 t day).2 = true):(0≤day∧day≤73048)∧(d7 t day).1∈t:=by
  unfold d7 at h ⊢
  cases hc:(aa (day < 0)||aa (73049≤day)) with
  | true=>rw [hc] at h; cases h
  | false =>
    rw [hc,cond_false] at h
    rw [Bool.or_eq_false_iff] at hc
    have h1:=mT hc.1
    have h2:=mT hc.2
    rw [cond_false]
    cases hf:t.reverse.find? (fun r=>aa (r.From≤day)) with
    | none=>rw [hf] at h; cases h
    | some r=>exact ⟨by omega,List.mem_reverse.1 (List.mem_of_find?_eq_some hf)⟩
theorem LP {f:GFact} (h:cX f = true) (hb:cY f.Kind 83 = true):0≤f.State∧f.State < 6:=by
  have hs:=((o8 f).1 h).2.2.2.2.2.1
  rw [hb] at hs
  unfold bG at hs
  rw [if_pos rfl,rK] at hs
  omega
theorem Ep {l:List GFact}:∀ f∈l.filter aI,cX f = true:=by
  intro f hf
  have h:=(List.mem_filter.1 hf).2
  unfold aI at h
  cases hv:cX f with
  | true=>rfl
  | false=>rw [hv] at h; cases h
theorem JW {day:Int} {ks:List Int} {f:GFact} (h:kW day ks f = true):f.Kind∈ks:=by
  unfold kW at h
  rw [Bool.and_eq_true,List.any_eq_true] at h
  obtain ⟨⟨k,hk,he⟩,_⟩:=h
  rw [pk.1 he]; exact hk
theorem Kg {c:List GFact} (hc:∀ f∈c,cX f = true) (day:Int):∀ f∈c,kW day [7,8] f = true→0≤f.State:=by
  intro f hf ho
  have hk:=JW ho
  refine (LP (hc f hf) ?_).1
  simp at hk
  rcases hk with e | e <;> rw [e] <;> decide
structure vq (t:List GRules):Prop where
  le:t.length≤8
  ne:0 < t.length
  zero:(gD t 0 (zS .GRules)).From = 0
  ok:∀ (i:Nat) (hi:i < t.length),rY t[i]∧Ke t[i].Members∧∀ h:0 < i,t[i - 1].From < t[i].From
theorem vq.mem {t:List GRules} (h:vq t) {r:GRules} (hr:r∈t):rY r∧Ke r.Members:=by
  obtain ⟨i,hi,rfl⟩:=List.getElem_of_mem hr
  exact ⟨(h.ok i hi).1,(h.ok i hi).2.1⟩
theorem vq.small {t:List GRules} (h:vq t):J4 t:=⟨by have:=h.le; omega,fun r hr=>by have:=(h.mem hr).2.1; omega⟩
theorem vq.check {t:List GRules} (h:vq t):mn t = some 0:=F9 t h.le h.ne h.zero h.ok
theorem H5 (l:List GFact) (hl:l.length≤40) (t:List GRules) (ht:vq t) (p:List GPosting) (hp:K7 p) (day:Int) (act:Int × Bool)
    (ha:(d7 t day).2 = true→cQ (aU l) day = true→bA ⟨l.filter aI,aU l,p,t⟩ day (d7 t day).1.Substantial = some act) :
    fU ⟨l.filter aI,aU l,p,t⟩ day = some (bif (d7 t day).2&&cQ (aU l) day then H8 (l.filter aI) p (d7 t day).1.PostingLimit act day else (-1,0)):=by
  have hcl:=List.length_filter_le aI l
  rw [k5,FK t day ht.small,Option.bind_some]
  cases h1:(d7 t day).2 with
  | false=>rfl
  | true =>
    rw [o5,Bool.not_true,cond_false,Option.bind_some]
    show (bif !(cQ (aU l) day) then _ else _) = _
    cases h2:cQ (aU l) day with
    | false=>rfl
    | true =>
      obtain ⟨hd,hm⟩:=K6 h1
      obtain ⟨hr,_⟩:=ht.mem hm
      have ha:=ha h1 h2
      generalize d7 t day = rr at hr ha
      obtain ⟨r,b⟩:=rr
      simp only at hr ha ⊢
      rw [Jf _ day r.PostingLimit hp ⟨hr.2.2.2.2.1,hr.2.2.2.2.2.1⟩,Mk _ day (by show (l.filter aI).length≤1000000; omega),ha,IN _ day (by show (l.filter aI).length≤1000000; omega) (Kg Ep day),Fz l day (by omega) hd h2]
      simp only [Option.bind_some,Bool.not_true,cond_false,Bool.and_self,cond_true]
      unfold H8
      by_cases hb:tN (l.filter aI) day < 0
      · rw [if_pos hb,bw (p:=0≤tN (l.filter aI) day) (by omega)]
        cases (CI p day r.PostingLimit).2 <;> cases (wF (l.filter aI) day).1 <;> cases act.2 <;> cases (oB (l.filter aI) day).1 <;> rfl
      · rw [if_neg hb,aF (p:=0≤tN (l.filter aI) day) (by omega)]
        cases (CI p day r.PostingLimit).2 <;> cases (wF (l.filter aI) day).1 <;> cases act.2 <;> cases (oB (l.filter aI) day).1 <;> rfl
theorem IE (l:List GFact) (hl:l.length≤40) (t:List GRules) (ht:vq t) (p:List GPosting) (hp:dZ l = some p) (hr:K7 p) (day:Int) (act:Int × Bool)
    (ha:(d7 t day).2 = true→cQ (aU l) day = true→bA ⟨l.filter aI,aU l,p,t⟩ day (d7 t day).1.Substantial = some act) :
    dQ l t day = some (bif (d7 t day).2&&cQ (aU l) day then H8 (l.filter aI) p (d7 t day).1.PostingLimit act day else (-1,0)):=by
  rw [qA,lL,j6 l (by omega),Option.bind_some,jt l (by omega),Option.bind_some,hp,Option.bind_some,ht.check,Option.bind_some,Option.bind_some,m7]
  show (fU ⟨l.filter aI,aU l,p,t⟩ day).bind _ = _
  rw [H5 l hl t ht p hr day act ha,Option.bind_some]
theorem Pe {t:List GRules} (h:BO t):vq t:=by
  obtain ⟨p,h1,h2,rfl | rfl | rfl⟩:=h
  · refine ⟨by simp [D1],by simp [D1],rfl,fun i hi=>?_⟩
    have:i = 0:=by simp [D1] at hi; omega
    subst this
    exact ⟨by simp [D1,rY]; omega,⟨by simp [D1],fun k hk=>by
      have:k = 0∨k = 1∨k = 2:=by simp [D1] at hk; omega
      rcases this with rfl | rfl | rfl <;> simp [D1]⟩,fun h=>by omega⟩
  · refine ⟨by simp [sC],by simp [sC],rfl,fun i hi=>?_⟩
    have:i = 0∨i = 1:=by simp [sC] at hi; omega
    rcases this with rfl | rfl
    · exact ⟨by simp [sC,rY]; omega,⟨by simp [sC],fun k hk=>by
        have:k = 0∨k = 1:=by simp [sC] at hk; omega
        rcases this with rfl | rfl <;> simp [sC]⟩,fun h=>by omega⟩
    · exact ⟨by simp [sC,rY]; omega,⟨by simp [sC],fun k hk=>by
        have:k = 0∨k = 1∨k = 2:=by simp [sC] at hk; omega
        rcases this with rfl | rfl | rfl <;> simp [sC]⟩,fun h=>by simp [sC]⟩
  · refine ⟨by simp [sE],by simp [sE],rfl,fun i hi=>?_⟩
    have:i = 0∨i = 1:=by simp [sE] at hi; omega
    rcases this with rfl | rfl
    · exact ⟨by simp [sE,rY]; omega,⟨by simp [sE],fun k hk=>by
        have:k = 0∨k = 1∨k = 2:=by simp [sE] at hk; omega
        rcases this with rfl | rfl | rfl <;> simp [sE]⟩,fun h=>by omega⟩
    · exact ⟨by simp [sE,rY]; omega,⟨by simp [sE],fun k hk=>by
        have:k = 0∨k = 1:=by simp [sE] at hk; omega
        rcases this with rfl | rfl <;> simp [sE]⟩,fun h=>by simp [sE]⟩
theorem Lz (n:List Int) (hn:n.length≤9223372036854775807):En vq (kY n 0):=by
  obtain ⟨y,h1,h2⟩:=LB n hn
  exact ⟨y,h1,Pe h2⟩
theorem LD (day:Int) (dense:Bool):En (fun _=>True) (me day dense):=by
  rw [Bk]
  exact En.bif (fun _=>.some trivial) fun _=>En.bif (fun _=>.bind (GB _ 110 (by decide) (by decide)) fun _ _=>.some trivial) fun _=>.bind (GB _ 30000 (by decide) (by decide)) fun _ _=>.some trivial
end Go.Ax
set_option linter.all false
/- LawResidence. -/
set_option maxRecDepth 100000
namespace Go.Ax
theorem Om (a b:Int) (u:ByteArray) (hu:u.size≤1000) (r:GPensionhand_Fact) (t2:GFact):∀ (k:Nat) (i:Int) (f:GFact),(u.size:Int) - i≤k→0≤i→i≤(u.size:Int)→En (fun g:GFact=>g.Kind = f.Kind) (js a b u i r t2 f):=by
  intro k
  induction k with
  | zero=>intro i f hk h0 h1; rw [oe]; exact En.ifd (fun h=>by omega) fun _=>.some rfl
  | succ k ih =>
    intro i f hk h0 h1
    rw [oe]
    simp only [vO]
    refine En.ifd (fun hi=>?_) fun _=>.some rfl
    rw [al (n:=i+1) (by omega) (by omega)]
    refine En.gd h0 (En.gd hi ?_)
    repeat' first
      | exact ih _ _ (by omega) (by omega) (by omega)
      | exact En.some rfl
      | refine jS (by decide) fun _ _ _=>?_
      | refine En.bif (fun _=>?_) (fun _=>?_)
theorem Kd (r:GPensionhand_Fact) (hk:r.Kind = 4):En (fun g:GFact=>g.Kind = 5) (wD r):=by
  have p127:∀ a b t (f:GFact),f.Kind = 5→En (fun g:GFact=>g.Kind = 5) (fw a b r t f):=by
    intro a b t f hf
    rw [yx,mZ,Option.bind_some]
    have:=xF f.Kind
    exact (Om a b _ (by rw [ao]; omega) r t _ 0 f (Int.self_le_toNat _) (by omega) (by omega)).weak fun g h=>h.trans hf
  have e:an 4 14 = some 4:=by rw [vr _ _ (by decide) (by decide)]; rfl
  rw [Ij,hk,e]
  simp only [Option.bind_some,show ae (1+4) = 5 from al (by decide) (by decide),show ah 5 11 = false from rfl,show ah 5 12 = false from rfl,show ah 5 8 = false from rfl,cond_false]
  repeat' first
    | exact p127 _ _ _ _ rfl
    | refine jS (by decide) fun _ _ _=>?_
    | refine En.bind (KO _) fun _ _=>?_
theorem ET (l:List GFact) (k:Int):0≤(cU l k).1∧(cU l k).1≤73048:=by
  unfold cU
  have hv:∀ f∈l.filter aI,cX f = true:=Ep
  generalize l.filter aI = c at hv
  have key:∀ (c:List GFact) (a:Int × Bool),(∀ f∈c,cX f = true)→0≤a.1∧a.1≤73048→0≤(c.foldl (fun a f=>xO k f a) a).1∧(c.foldl (fun a f=>xO k f a) a).1≤73048:=by
    intro c
    induction c with
    | nil=>intro a _ h; exact h
    | cons f r ih =>
      intro a hv h
      rw [List.foldl_cons]
      refine ih _ (fun g hg=>hv g (by simp [hg])) ?_
      have hs:=((o8 f).1 (hv f (by simp))).2.2.2.2.2.2.2.1
      unfold xO
      split
      · show 0≤f.Span.From∧f.Span.From≤73048
        omega
      · exact h
  exact key c (0,false) hv ⟨by simp,by simp⟩
theorem Nr {l:List GFact} {day:Int} (h:cQ (aU l) day = true):0≤day∧day≤73048:=by
  have h1:=ET l 11
  have h2:=ET l 12
  unfold cQ at h
  rw [eQ,Bool.and_eq_true] at h
  have a:=fu h.1
  have b:=fu h.2
  unfold aU at a b
  simp only at a b
  have hd:0≤(if (cU l 12).2 = true then (cU l 12).1 else 73048)∧(if (cU l 12).2 = true then (cU l 12).1 else 73048)≤73048:=by split <;> omega
  generalize (if (cU l 12).2 = true then (cU l 12).1 else 73048) = d at a b hd
  split at a
  · next hc=>rw [if_pos hc] at b; simp only at a b; omega
  · next hc=>rw [if_neg hc] at b; simp only at a b; rw [al (by omega) (by omega)] at b; omega
theorem Pz {t:List GRules} (ht:vq t) {day:Int} (hd:0≤day∧day≤73048):(d7 t day).2 = true:=by
  unfold d7
  rw [bw (p:=day < 0) (by omega),bw (p:=73049≤day) (by omega),Bool.or_false,cond_false]
  cases hf:t.reverse.find? (fun r=>aa (r.From≤day)) with
  | some r=>rfl
  | none =>
    rw [List.find?_eq_none] at hf
    have h0:=ht.ne
    have:=hf t[0] (List.mem_reverse.2 (List.getElem_mem h0))
    have hz:=ht.zero
    rw [show (0:Int) = ((0:Nat):Int) from rfl] at hz
    have e:gD t 0 (zS .GRules) = t[0]:=bq (i:=0) h0
    rw [e] at hz
    exact absurd (aF (p:=t[0].From≤day) (by omega)) this
theorem Fd {T:Type} (p:T→Bool) (bt:T→T→Bool):∀ (l:List T) (s:Bool × T),(∀ f∈l,p f = false)→l.foldl (fO p bt) s = s
  | [],_,_=>rfl
  | f :: l,s,h=>by
    have:fO p bt s f = s:=by unfold fO; rw [h f (by simp)]; rfl
    rw [List.foldl_cons,this]
    exact Fd p bt l s fun g hg=>h g (by simp [hg])
theorem Iw (day:Int):∀ (c:List GFact) (b:Int),(∀ f∈c,kW day [7,8] f = false)→c.foldl (we day) b = b
  | [],_,_=>rfl
  | f :: l,b,h=>by
    have:we day b f = b:=by unfold we; rw [h f (by simp)]; rfl
    rw [List.foldl_cons,this]
    exact Iw day l b fun g hg=>h g (by simp [hg])
theorem On (x:GCompetence_life) (day s:Int) (hl:x.facts.length≤1000000) (h:x.facts.filter (kW day [1,2]) = []):bA x day s = some (0,false):=by
  rw [it,tq _ _ _ hl (by decide),h,Option.bind_some,cn]
  kernel_rfl
theorem N6 {day:Int} {ks:List Int} {f:GFact} (h:f.Kind ∉ ks):kW day ks f = false:=by
  cases hb:kW day ks f with
  | false=>rfl
  | true=>exact absurd (JW hb) h
theorem Fm (a:List GFact) (ha:a.length≤12) (hk:∀ f∈a,f.Kind = 5) (t:List GRules) (ht:vq t) (day:Int) :
    ((dQ a t day).bind fun r3=>(gF a day).bind fun r4=>(kN).bind fun r5=>some (bif r5 then (bif (bif (bif r4.2 then (ah r3.1 r4.1) else false) then (ah r3.2 5) else false) then true else (bif (bif (!r4.2) then (ah r3.1 (-1)) else false) then (ah r3.2 0) else false)) else false)) = some true:=by
  have hc:∀ f∈a.filter aI,f.Kind = 5:=fun f hf=>hk f (List.mem_filter.1 hf).1
  have hle:=List.length_filter_le aI a
  have hno:∀ ks:List Int,5 ∉ ks→∀ f∈a.filter aI,kW day ks f = false:=fun ks h5 f hf=>N6 (by rw [hc f hf]; exact h5)
  have hp:=vJ a (by omega) fun f hf=>by rw [hc f hf]; decide
  have hact:bA ⟨a.filter aI,aU a,[],t⟩ day (d7 t day).1.Substantial = some (0,false) :=
    On _ _ _ (by show (a.filter aI).length≤1000000; omega) (List.filter_eq_nil_iff.2 fun f hf=>by rw [hno [1,2] (by decide) f hf]; simp)
  rw [IE a (by omega) t ht [] hp ⟨by simp,by simp⟩ day (0,false) (fun _ _=>hact),vM a day (by omega),Pw]
  simp only [Option.bind_some,cond_true]
  have hg:∀ lim,H8 (a.filter aI) [] lim (0,false) day = bif (oB (a.filter aI) day).1 then ((oB (a.filter aI) day).2.State,5) else (-1,0):=by
    intro lim
    unfold H8 wF tN
    rw [Fd _ _ _ _ (hno [3] (by decide)),Iw _ _ _ (hno [7,8] (by decide))]
    rfl
  rw [hg]
  cases h1:cQ (aU a) day with
  | false=>rw [Bool.and_false]; rfl
  | true =>
    rw [Pz ht (Nr h1),Bool.and_self,cond_true,cond_true]
    cases (oB (a.filter aI) day).1 with
    | true=>simp only [cond_true,m7]
    | false=>rfl
theorem zM (l:List GPensionhand_Fact) (n:List Int) (day:Int):nM l n day = some true:=by
  rw [sK]
  by_cases hn:60 < (n.length:Int)
  · rw [aF hn]; rfl
  · rw [bw hn,cond_false]
    have fin:∀ a:List GFact,a.length≤12→(∀ f∈a,f.Kind = 5)→((me (ae (BC 64 day 1)) false).bind fun r1=>(kY n 0).bind fun r2=>(dQ a r2 r1).bind fun r3=>(gF a r1).bind fun r4=>(kN).bind fun r5=>some (bif r5 then (bif (bif (bif r4.2 then (ah r3.1 r4.1) else false) then (ah r3.2 5) else false) then true else (bif (bif (!r4.2) then (ah r3.1 (-1)) else false) then (ah r3.2 0) else false)) else false)) = some true:=by
      intro a ha hk
      obtain ⟨d,h1,_⟩:=LD (ae (BC 64 day 1)) false
      obtain ⟨t,h2,h3⟩:=Lz n (by omega)
      rw [h1,Option.bind_some,h2,Option.bind_some]
      exact Fm a ha hk t h3 d
    have key:∀ (k:Nat) (i:Int) (a:List GFact),12 - i≤k→0≤i→i≤12→(a.length:Int)≤i→(∀ f∈a,f.Kind = 5)→dS l n day i a = some true:=by
      intro k
      induction k with
      | zero =>
        intro i a hk h0 hi ha hf
        rw [i6]
        rw [bw (p:=i < 12) (by omega)]
        cases aa (i < (l.length:Int)) <;> exact fin a (by omega) hf
      | succ k ih =>
        intro i a hk h0 hi ha hf
        rw [i6]
        by_cases h1:i < (l.length:Int)
        · by_cases h2:i < 12
          · rw [aF h1,aF h2,cond_true,cond_true,aG h0,aK]
            obtain ⟨g,e1,e2⟩:=Kd (⟨(gD l i.toNat (zS .GPensionhand_Fact)).Issuer,(gD l i.toNat (zS .GPensionhand_Fact)).Number,(gD l i.toNat (zS .GPensionhand_Fact)).Version,(gD l i.toNat (zS .GPensionhand_Fact)).Withdrawn,0,4,(gD l i.toNat (zS .GPensionhand_Fact)).State,(gD l i.toNat (zS .GPensionhand_Fact)).Seat,(gD l i.toNat (zS .GPensionhand_Fact)).From,(gD l i.toNat (zS .GPensionhand_Fact)).Length,(gD l i.toNat (zS .GPensionhand_Fact)).Share,(gD l i.toNat (zS .GPensionhand_Fact)).Amount,(gD l i.toNat (zS .GPensionhand_Fact)).Ref⟩:GPensionhand_Fact) rfl
            rw [e1,Option.bind_some,aG (by omega),aG (by omega),al (n:=i+1) (by omega) (by omega)]
            exact ih _ _ (by omega) (by omega) (by omega) (by simp; omega) fun f hf'=>by
              rcases List.mem_append.1 hf' with h | h
              · exact hf f h
              · simp at h; rw [h]; exact e2
          · rw [bw h2]
            cases aa (i < (l.length:Int)) <;> exact fin a (by omega) hf
        · rw [bw h1,cond_false,cond_false]
          exact fin a (by omega) hf
    exact key 12 0 [] (by omega) (by omega) (by omega) (by simp) (by simp)
end Go.Ax
