import Derived.Test.YtgamnldjlncdlaaGreatZL166
set_option linter.all false
/- A state never claims more than its statute credits. -/
set_option maxRecDepth 100000
namespace Go.Ax
open Go.Proofs
noncomputable def DY (a:List ae) (k:Int) (past:ab):List ab:=da (da (dP a k 1) (fq a)) past
theorem OQ {a:List ae} {s lim r:Int} {past:ab} {d:Int} (h:dD (fR a s past lim r) d):dD (fR a s past 0 r) d:=by
  unfold fR at h ⊢
  split at h
  · rename_i hp
    rw [if_pos hp]
    unfold og at h ⊢
    rw [if_pos rfl]
    split at h
    · exact h
    · have:=IQ h
      rw [(cE _).2.1] at this
      exact this.1
  · exact absurd h dp
theorem aeu {a:List ae} {x:ax} (hx:x.State = 1) {past:ab} {k lim:Int} {d:Int} (h:dD (jm a k x.State past lim) d):dD (DY a k past) d:=by
  unfold jm at h
  unfold DY
  rw [hx] at h
  split at h
  · rename_i hk
    rw [hk, ← Gu]
    rw [(cE _).2.1] at h ⊢
    obtain ⟨h1,h2⟩:=h
    refine ⟨?_,h2⟩
    unfold mD at h1 ⊢
    rw [IO] at h1 ⊢
    obtain ⟨i,hi,hc⟩:=h1
    exact ⟨i,hi,OQ hc⟩
  · unfold og at h
    split at h
    · exact h
    · have:=IQ h
      rw [(cE _).2.1] at this
      exact this.1
theorem Jk (a:List ae) (k s:Int) (past:ab) (lim:Int):df (-1) (jm a k s past lim):=by
  unfold jm
  split
  · exact (cE _).1
  · unfold og
    split
    · exact (fW _ _).1
    · exact zC _ (cE _).1
theorem Um (a:List ae) (s:Int) (past:ab) (lim r:Int) (h0:0 < lim) (N:Nat) (hN:N = 73049):((kI (fR a s past lim r) N:Nat):Int)≤lim:=by
  unfold fR
  split
  · unfold og
    rw [if_neg (by omega)]
    have hn:=(cE (da (da (ka (a.filter cr) s r) (fq a)) past)).1
    rw [I1 N hN (zC lim hn) (by omega)]
    exact Eb lim hn (by omega)
  · have:kI [] N = 0:=yR N fun i _=>rfl
    rw [this]
    show (0:Int)≤lim
    omega
theorem VK (a:List ae) (ha:a.length≤900) (b lim:Int) (h0:0 < lim) (r:List Int) (hr:m7 r) (hm:∀ f∈a,cr f = true→f.Kind = 10→f.Span.From < b→f.Ref∈r) :
    iA (cy (mD a 1 ⟨0,b⟩ lim))≤lim*(r.length:Int):=by
  obtain ⟨N,hN⟩:∃ N:Nat,N = 73049:=⟨73049,rfl⟩
  have c1:=(cE (mD a 1 ⟨0,b⟩ lim)).1
  rw [← I1 N hN c1 (by omega)]
  have c2:kI (cy (mD a 1 ⟨0,b⟩ lim)) N≤kI (mD a 1 ⟨0,b⟩ lim) N:=Wj N fun d _ hd=>by
    rw [(cE _).2.1] at hd
    exact hd.1
  have c3:=MY N lim.toNat (fun (i:Nat)=>fR a 1 ⟨0,b⟩ lim ((i:Int)+1)) (fun i=>decide (0 < (fR a 1 ⟨0,b⟩ lim ((i:Int)+1)).length)) (fun i _=>by
    have:=Um a 1 ⟨0,b⟩ lim ((i:Int)+1) h0 N hN
    omega) (fun i hi=>by
    have hi:=of_decide_eq_false hi
    have:fR a 1 ⟨0,b⟩ lim ((i:Int)+1) = []:=List.eq_nil_of_length_eq_zero (by omega)
    rw [this]
    exact yR N fun i _=>rfl) (List.range 99)
  have c4:((List.range 99).filter fun i:Nat=>decide (0 < (fR a 1 ⟨0,b⟩ lim ((i:Int)+1)).length)).length≤r.length:=by
    have e:(((List.range 99).filter fun i:Nat=>decide (0 < (fR a 1 ⟨0,b⟩ lim ((i:Int)+1)).length)).map fun i:Nat=>(i:Int)+1).length≤r.length:=by
      refine Rf ?_ hr fun x hx=>?_
      · unfold m7
        refine List.Pairwise.map _ (R:=fun i j:Nat=>i < j) (fun i j hij=>by omega) ?_
        exact List.Pairwise.filter _ (List.pairwise_lt_range)
      · obtain ⟨i,hi,rfl⟩:=List.mem_map.1 hx
        have hp:=of_decide_eq_true (List.mem_filter.1 hi).2
        obtain ⟨s,hs⟩:=List.exists_mem_of_length_pos hp
        have hn:df (-1) (fR a 1 ⟨0,b⟩ lim ((i:Int)+1)):=by
          unfold fR
          split
          · unfold og
            split
            · exact (fW _ _).1
            · exact zC _ (cE _).1
          · trivial
        have hsm:=I7 hn s hs
        have hc:dD (fR a 1 ⟨0,b⟩ lim ((i:Int)+1)) s.From:=⟨s,hs,Int.le_refl _,hsm.2.1⟩
        have hc:=OQ hc
        unfold fR at hc
        split at hc
        · unfold og at hc
          rw [if_pos rfl,(fW _ _).2,(fW _ _).2] at hc
          obtain ⟨⟨⟨⟨⟨x,hx,hxd⟩,_⟩,_⟩,h3⟩,_⟩:=hc
          obtain ⟨f,f1,f2,f3,f4,f5,f6⟩:=IU.1 hx
          have hlt:f.Span.From < b:=by
            rw [f6]
            have:=h3.2
            simp only [] at this
            omega
          have:=hm f f1 f2 f3 hlt
          rw [f5] at this
          exact this
        · exact absurd hc dp
    rwa [List.length_map] at e
  have c5:lim.toNat*((List.range 99).filter fun i:Nat=>decide (0 < (fR a 1 ⟨0,b⟩ lim ((i:Int)+1)).length)).length≤lim.toNat*r.length:=Nat.mul_le_mul_left _ c4
  have c6:kI (mD a 1 ⟨0,b⟩ lim) N≤lim.toNat*((List.range 99).filter fun i:Nat=>decide (0 < (fR a 1 ⟨0,b⟩ lim ((i:Int)+1)).length)).length:=c3
  have c7:kI (cy (mD a 1 ⟨0,b⟩ lim)) N≤lim.toNat*r.length:=Nat.le_trans c2 (Nat.le_trans c6 c5)
  have e:((lim.toNat:Nat):Int) = lim:=by omega
  have c8:=Int.ofNat_le.2 c7
  rw [Int.natCast_mul,e] at c8
  exact c8
theorem PS (b:Int) (a:List ae) (c:List ao) (k:Int) (hk:k≤100∧0≤k) (s all:List ab) (lim:Int) (ok:Bool) (most:Int) (x:az) (hs:s.length≤100000)
    (h1:ok = false→s = []) (h2:ok = true→lim = 0→s = all) (h3:ok = true→0 < lim→iA (cy s)≤most) :
    (ff b a c k s all lim ok most x).opt = some (.inl (k+1)):=by
  simp only [ff,jY,oT]
  rw [bu (n:=k+1) (by omega) (by omega)]
  cases ok with
  | false =>
    have:=h1 rfl
    subst this
    rfl
  | true =>
    have e0:(bif (!true) then decide ((0:Int) < (s.length:Int)) else false) = false:=rfl
    by_cases hl:lim = 0
    · have:=h2 rfl hl
      subst this
      have hS:=Fj s (by omega)
      subst hl
      rw [hS]
      refine Eq.trans (aE (fun _=>rfl)) ?_
      refine Eq.trans (aE (fun h=>by simp at h)) ?_
      rfl
    · have hb:(lim == 0) = false:=by simp [hl]
      have hD:=PF s hs
      rw [hb,hD]
      refine Eq.trans (aE (fun h=>by simp at h)) ?_
      refine Eq.trans (aE (fun _=>rfl)) ?_
      by_cases hp:0 < lim
      · have:=h3 rfl hp
        have hm:decide (most < (some (iA (cy s))).getD 0) = false:=decide_eq_false (by rw [oY]; omega)
        rw [decide_eq_true hp,hm]
        rfl
      · rw [decide_eq_false hp]
        rfl
theorem Wu (a:List ae) (ha:a.length≤900) (b:Int) (x:az) (hx:DA ⟨1,x⟩) (k r:Int) (hkr:(k,r)∈kr) (hR:iz k = some r) :
    (gT b a (md a [] ⟨0,b⟩ ⟨1,x⟩) k x).opt = some (.inl (k+1)):=by
  have hk:k≤100∧0≤k∧r≠0:=by
    have:(k,r) = (6,2)∨(k,r) = (9,3)∨(k,r) = (7,4)∨(k,r) = (8,5)∨(k,r) = (10,6)∨(k,r) = (5,7):=by simpa [kr] using hkr
    simp only [Prod.mk.injEq] at this
    omega
  simp only [gT,oT]
  have hpa:=adC a ⟨1,x⟩ ⟨0,b⟩ (k,r) hkr
  simp only [] at hpa
  have hpl:=Yk a ⟨1,x⟩ ⟨0,b⟩ (k,r)
  have hal:=Qn a [] ⟨0,b⟩ ⟨1,x⟩
  rw [hR,Option.bind_some,PG _ 1 r (by omega) (by rw [hpa]; omega),Option.bind_some,hpa,LS a k 1 (by omega),Option.bind_some]
  have hcl:=iD (dP a k 1) (fq a)
  rw [F3 _ _ (by omega),Option.bind_some]
  have hall:=iD (da (dP a k 1) (fq a)) ⟨0,b⟩
  have hms:=(cE (mC a ⟨1,x⟩ ⟨0,b⟩ (k,r))).2.2
  have hsub:∀ d,dD (cy (mC a ⟨1,x⟩ ⟨0,b⟩ (k,r))) d→dD (DY a k ⟨0,b⟩) d:=fun d hd=>by
    rw [(cE _).2.1] at hd
    have hd:=hd.1
    unfold mC at hd
    split at hd
    · exact aeu (x:=⟨1,x⟩) rfl hd
    · exact absurd hd dp
  rw [show da (da (dP a k 1) (fq a)) ⟨0,b⟩ = DY a k ⟨0,b⟩ from rfl] at hall ⊢
  rw [Ok _ _ (by omega) (by omega) hsub,Option.bind_some,show decide ((0:Int) < (([]:List ab).length:Int)) = false from rfl,cond_false]
  have hll:=Yl b a (md a [] ⟨0,b⟩ ⟨1,x⟩) k (cy (mC a ⟨1,x⟩ ⟨0,b⟩ (k,r))) (DY a k ⟨0,b⟩) x (by have:=hx.1; simp only [] at this; omega) x.Credits.length 0 0 false (by omega)
  have hif:(if (du k x.Credits).2 = true then du k x.Credits else ((0:Int),false)) = du k x.Credits:=by
    cases hc:(du k x.Credits).2 with
    | true=>rw [if_pos rfl]
    | false=>rw [if_neg (by simp),MO hc]
  rw [List.drop_zero,if_neg (by simp),hif] at hll
  show (fixL (cZ b a (md a [] ⟨0,b⟩ ⟨1,x⟩) k (cy (mC a ⟨1,x⟩ ⟨0,b⟩ (k,r))) (DY a k ⟨0,b⟩) x) (k,(0:Int),false,((0:Nat):Int))).bind _ = _
  rw [hll,Option.bind_some]
  show (gP b a (md a [] ⟨0,b⟩ ⟨1,x⟩) k (cy (mC a ⟨1,x⟩ ⟨0,b⟩ (k,r))) (DY a k ⟨0,b⟩) (du k x.Credits).1 (du k x.Credits).2 x).opt = _
  simp only [gP,oT]
  obtain ⟨l1,l2⟩:=Jh k x.Credits hx.2
  have g1:(du k x.Credits).2 = false→cy (mC a ⟨1,x⟩ ⟨0,b⟩ (k,r)) = []:=fun h=>by
    have:mC a ⟨1,x⟩ ⟨0,b⟩ (k,r) = []:=by unfold mC; simp only []; rw [h,if_neg (by simp)]
    rw [this,PO]
  have gD:(du k x.Credits).2 = true→cy (mC a ⟨1,x⟩ ⟨0,b⟩ (k,r)) = jm a k 1 ⟨0,b⟩ (du k x.Credits).1:=fun h=>by
    have:mC a ⟨1,x⟩ ⟨0,b⟩ (k,r) = jm a k 1 ⟨0,b⟩ (du k x.Credits).1:=by unfold mC; simp only []; rw [h,if_pos rfl]
    rw [this,DQ (Jk _ _ _ _ _)]
  have g2:(du k x.Credits).2 = true→(du k x.Credits).1 = 0→cy (mC a ⟨1,x⟩ ⟨0,b⟩ (k,r)) = DY a k ⟨0,b⟩:=fun h h0=>by
    rw [gD h,h0]
    unfold jm DY
    split
    · rename_i hk; rw [Gu,hk]
    · unfold og; rw [if_pos rfl]
  by_cases hk10:k = 10
  · obtain ⟨ch,c1,c2,c3,c4⟩:=QC a (by omega) b
    have hmul:0≤(du k x.Credits).1*(ch.length:Int)∧(du k x.Credits).1*(ch.length:Int)≤1000000*900:=by
      refine ⟨Int.mul_nonneg l1 (by omega), ?_⟩
      exact Int.mul_le_mul l2 (by omega) (by omega) (by omega)
    rw [show (k == 10) = true by simp [hk10],cond_true,c1,Option.bind_some,bu (n:=(du k x.Credits).1*(ch.length:Int)) (by omega) (by omega)]
    refine PS _ _ _ _ ⟨hk.1,hk.2.1⟩ _ _ _ _ _ _ (by omega) g1 g2 fun h hp=>?_
    rw [gD h]
    rw [DQ (Jk _ _ _ _ _)]
    unfold jm
    rw [if_pos hk10]
    exact VK a ha b _ hp ch c2 c4
  · rw [show (k == 10) = false by simp [hk10],cond_false]
    refine PS _ _ _ _ ⟨hk.1,hk.2.1⟩ _ _ _ _ _ _ (by omega) g1 g2 fun h hp=>?_
    rw [gD h,DQ (Jk _ _ _ _ _)]
    unfold jm og
    rw [if_neg hk10,if_neg (by omega)]
    exact Eb _ (cE _).1 (by omega)
theorem al7:iz 5 = some 7∧iz 6 = some 2∧iz 7 = some 4∧iz 8 = some 5∧iz 9 = some 3∧iz 10 = some 6 :=
  ⟨by kernel_rfl,by kernel_rfl,by kernel_rfl,by kernel_rfl,by kernel_rfl,by kernel_rfl⟩
theorem T9 (a:List ae) (ha:a.length≤900) (b:Int) (x:az) (hx:DA ⟨1,x⟩) :
    fixL (dC b a (md a [] ⟨0,b⟩ ⟨1,x⟩) x) (5:Int) = some (.inr ()):=by
  obtain ⟨r5,r6,r7,r8,r9,r10⟩:=al7
  have st:∀ k r:Int,(k,r)∈kr→iz k = some r→k≤10→fixL (dC b a (md a [] ⟨0,b⟩ ⟨1,x⟩) x) k = fixL (dC b a (md a [] ⟨0,b⟩ ⟨1,x⟩) x) (k+1):=fun k r hm hr hk=>by
    rw [bS]
    have:dC b a (md a [] ⟨0,b⟩ ⟨1,x⟩) x k = some (.inl (k+1)):=by
      show (dX b a (md a [] ⟨0,b⟩ ⟨1,x⟩) k x).opt = _
      simp only [dX,oT]
      rw [decide_eq_true hk,cond_true]
      exact Wu a ha b x hx k r hm hr
    rw [this]
    rfl
  refine (st 5 7 (by simp [kr]) r5 (by omega)).trans ?_
  refine (st 6 2 (by simp [kr]) r6 (by omega)).trans ?_
  refine (st 7 4 (by simp [kr]) r7 (by omega)).trans ?_
  refine (st 8 5 (by simp [kr]) r8 (by omega)).trans ?_
  refine (st 9 3 (by simp [kr]) r9 (by omega)).trans ?_
  refine (st 10 6 (by simp [kr]) r10 (by omega)).trans ?_
  rw [bS]
  show ((dX b a (md a [] ⟨0,b⟩ ⟨1,x⟩) 11 x).opt).bind _ = _
  simp only [dX,oT]
  rfl
theorem FS (l) (v) (before:Int):mq l v before = some true:=by
  show (gw l v before).opt = _
  simp only [gw,oT]
  obtain ⟨a,ha,h1⟩:=(Vu l).ends
  obtain ⟨x,hx,h2⟩:=abd v
  have hlim:=ahW h2 1
  have hb:=Int.emod_nonneg before (show (30000:Int)≠0 by omega)
  have hb2:=Int.emod_lt_of_pos before (show (0:Int) < 30000 by omega)
  rw [ha,Option.bind_some,rK before 30000 (by omega),Option.bind_some,if_neg (by omega),bu (n:=20000+before % 30000) (by omega) (by omega)]
  have hx':xN (al.mk v.From v.Mode v.Unit v.Credits v.Series v.Lets v.Ifs v.Pays v.Cuts v.Twist) = some x:=hx
  rw [hx',Option.bind_some]
  obtain ⟨b,hbe,hb0⟩:∃ b:Int,b = 20000+before % 30000∧0≤b∧b≤73049:=⟨_,rfl,by omega,by omega⟩
  rw [← hbe]
  have y4:ki a [] [⟨1,x⟩] b = some (Hp a [] [⟨1,x⟩] ⟨0,b⟩,(0:Int)):=by
    have e1:ki a [] [⟨1,x⟩] b = (jU a [] [⟨1,x⟩] b).opt:=rfl
    rw [e1]
    simp only [jU,oT]
    have e0:(bif decide (b < 0) then true else decide (73049 < b)) = false:=by
      rw [decide_eq_false (show ¬ b < 0 by omega),cond_false,decide_eq_false (show ¬ 73049 < b by omega)]
    rw [e0,cond_false]
    unfold m5
    have o1:fixL (kt a [] [⟨1,x⟩] b) (0:Int) = some (.inr ()):=by
      rw [bS]
      rfl
    have a1:=XN a (by omega) [] (by simp) [⟨1,x⟩] (by simp) (fun z hz=>by rw [List.mem_singleton.1 hz]; exact hlim) ⟨0,b⟩
    rw [o1,Option.bind_some]
    show (fixL (eP a [] [⟨1,x⟩] ⟨0,b⟩) ((0:Int),([]:List ao))).bind _ = _
    rw [a1]
    rfl
  have e2:Hp a [] [⟨1,x⟩] ⟨0,b⟩ = md a [] ⟨0,b⟩ ⟨1,x⟩:=by
    unfold Hp
    rw [List.flatMap_cons,List.flatMap_nil,List.append_nil]
  rw [y4,Option.bind_some,WY,Option.bind_some,e2]
  show (gQ b a (md a [] ⟨0,b⟩ ⟨1,x⟩) x) = _
  unfold gQ
  rw [T9 a (by omega) b x hlim]
  rfl
end Go.Ax
