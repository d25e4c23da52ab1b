import Derived.Test.YtbjfcadcipfolaaGreatZP64
set_option linter.all false
/- Linked chains count as a whole;without one document the earlier ones of its sender count. -/
set_option maxRecDepth 100000
namespace Go.Ax
theorem Og {d:List (List Int)} (h:dG d) (s:Int):(bu s d).Nodup:=by
 rw [List.nodup_iff_pairwise_ne,List.pairwise_iff_getElem]
 intro i j hi hj hij e
 have h1:=(h.link s i hi).1
 have h2:=(h.link s j hj).1
 rw [e] at h1
 omega
theorem KV {d:List (List Int)} (h:dG d):d.Nodup:=by
 rw [List.nodup_iff_pairwise_ne,List.pairwise_iff_getElem]
 intro i j hi hj hij e
 have h1:=Og h (ah d[i]).Sender
 rw [List.nodup_iff_pairwise_ne] at h1
 unfold bu at h1
 rw [List.pairwise_filter,List.pairwise_iff_getElem] at h1
 exact h1 i j hi hj hij (dv _) (by rw [← e];exact dv _) e
theorem At {d:List (List Int)} (h:dG d) {b:List Int} (hb:b∈d):0≤(ah b).Sender∧(ah b).Sender≤2∧1≤(ah b).Number:=by
 have h1:=h.ok b hb
 have h2:=gm.1 ((jt h1.1).1 h1.2).2.2.2.2
 exact ⟨h2.1.1,h.rng b hb,h2.2.1.1⟩
theorem Ln:∀ d:List (List Int),(∀ b∈d,0≤(ah b).Sender∧(ah b).Sender≤5)→(bu 0 d).length+(bu 1 d).length+(bu 2 d).length+(bu 3 d).length+(bu 4 d).length+(bu 5 d).length = d.length
 | [],_=>rfl
 | b :: d,h=>by
  have ih:=Ln d fun c hc=>h c (by simp [hc])
  have hb:=h b (by simp)
  have e:∀ s:Int,(bu s (b :: d)).length = (bu s d).length+if (ah b).Sender = s then 1 else 0:=fun s=>by
   unfold bu
   rw [List.filter_cons]
   by_cases hs:(ah b).Sender = s
   ·rw [if_pos (aZ.2 hs),if_pos hs,List.length_cons]
   ·rw [if_neg (by rw [eJ.2 hs];simp),if_neg hs];rfl
  rw [e,e,e,e,e,e,List.length_cons]
  rcases (by omega:(ah b).Sender = 0∨(ah b).Sender = 1∨(ah b).Sender = 2∨(ah b).Sender = 3∨(ah b).Sender = 4∨(ah b).Sender = 5) with hs | hs | hs | hs | hs | hs <;> rw [hs] <;> simp <;> omega
theorem xd {d m:List (List Int)} (h:dG d) (p:List Int→Prop) (hm:∀ x,x∈m↔x∈d∧p x) (s:Int) {q:Nat} (hq:q≤(bu s d).length) (h1:∀ (i:Nat) (hi:i < q),p ((bu s d)[i]'(by omega))) (h2:∀ hq:q < (bu s d).length, ¬ p (bu s d)[q]):kM (aR m) s = ((bu s d).take q).map ah:=by
 have hl:=h.len
 have hol:=EW s d
 refine Mv (h.link s) hq (by omega) (fun i hi=>?_) ?_
 ·have hlt:i < (bu s d).length:=by omega
  have e:gD (bu s d) i [] = (bu s d)[i]:=jE (List.getElem?_eq_getElem hlt)
  have h5:=pN.1 (List.getElem_mem hlt)
  rw [e,sm h p hm]
  exact ⟨h5.1,h1 i hi,h5.2,(h.link s i hlt).1⟩
 ·cases hb:aR m s ((q:Int)+1) with
  | none=>rfl
  | some b =>
   exfalso
   obtain ⟨g1,g2,g3⟩:=(sm h p hm s _ b).1 hb
   obtain ⟨k1,k2,k3⟩:=(pF h).1 ⟨g1,g3⟩
   have hlt:q < (bu s d).length:=by omega
   have:(bu s d)[q] = b:=by
    rw [← k3,show ((q:Int)+1 - 1).toNat = q by omega]
    exact (jE (List.getElem?_eq_getElem hlt)).symm
   exact h2 hlt (by rw [this];exact g2)
theorem rZ (l:List GPensionlaw31_Raw) (xby:List Int) (out:Int):jv l xby out = some true:=by
 obtain ⟨d,h1,h2,_⟩:=uZ l
 obtain ⟨⟨d1,m⟩,h3,h4,h5⟩:=(xL xby h2.len).2
 have h4:d1 = d:=h4
 subst h4
 have hok:=K8 h5 h2.ok
 obtain ⟨L,ks,vs,g1,hM,_,hK,hk,_⟩:=wz hok h5.1
 have hmem:∀ x,x∈m↔x∈d1∧True:=fun x=>by rw [h5.2 x];simp
 have hlen:∀ s:Int,(kM (aR m) s).length = (bu s d1).length:=fun s=>by
  rw [xd h2 (fun _=>True) hmem s (Nat.le_refl _) (fun _ _=>trivial) (fun hq=>absurd hq (by omega)),List.take_length,List.length_map]
 have h12:=h2.len
 have hol:=fun s:Int=>EW s d1
 rw [ou,h1,Option.bind_some,h3,Option.bind_some]
 dsimp only
 rw [g1,Option.bind_some]
 dsimp only
 rw [Bool.not_true,cond_false,ew,Option.bind_some,Bool.not_true,cond_false]
 have step:∀ (s n:Nat),s < 6→n≤100→bU xby out (n:Int) (s:Int) d1 ks vs = bU xby out ((n+(bu (s:Int) d1).length:Nat):Int) ((s+1:Nat):Int) d1 ks vs:=by
  intro s n hs hn
  have:=hol (s:Int)
  rw [fV,aV (by omega),cond_true,d9 hK hM,Option.bind_some]
  dsimp only
  rw [hlen,ay (n:=(n:Int)+_) (by omega) (by omega),ay (n:=(s:Int)+1) (by omega) (by omega)]
  rfl
 have a0:=hol 0
 have a1:=hol 1
 have a2:=hol 2
 have a3:=hol 3
 have a4:=hol 4
 have a5:=hol 5
 have sum:=Ln d1 fun b hb=>by have:=At h2 hb;omega
 have s0:=step 0 0 (by omega) (by omega)
 have s1:=step 1 (0+(bu 0 d1).length) (by omega) (by omega)
 have s2:=step 2 (0+(bu 0 d1).length+(bu 1 d1).length) (by omega) (by omega)
 have s3:=step 3 (0+(bu 0 d1).length+(bu 1 d1).length+(bu 2 d1).length) (by omega) (by omega)
 have s4:=step 4 (0+(bu 0 d1).length+(bu 1 d1).length+(bu 2 d1).length+(bu 3 d1).length) (by omega) (by omega)
 have s5:=step 5 (0+(bu 0 d1).length+(bu 1 d1).length+(bu 2 d1).length+(bu 3 d1).length+(bu 4 d1).length) (by omega) (by omega)
 have all:=((((s0.trans s1).trans s2).trans s3).trans s4).trans s5
 rw [show ((0+(bu 0 d1).length+(bu 1 d1).length+(bu 2 d1).length+(bu 3 d1).length+(bu 4 d1).length+(bu ((5:Nat):Int) d1).length:Nat)) = d1.length by rw [← sum];simp] at all
 refine Eq.trans all ?_
 rw [fV,bp (by omega),cond_false,bj.2 rfl,cond_false]
 by_cases hz:d1.length = 0
 ·rw [aZ.2 (by omega),cond_true]
 ·have r0:=Int.emod_nonneg out (b:=(d1.length:Int)) (by omega)
  have r1:=Int.emod_lt_of_pos out (b:=(d1.length:Int)) (by omega)
  rw [eJ.2 (by omega),cond_false,bT _ _ (by omega) (by omega),Option.bind_some]
  obtain ⟨j,hj⟩:=Int.eq_ofNat_of_zero_le r0
  rw [hj]
  have hjl:j < d1.length:=by omega
  have hg:gD d1 ((j:Nat):Int).toNat [] = d1[j]:=cz hjl
  have hbo:=h2.ok _ (List.getElem_mem hjl)
  have hbl:=fJ hbo.1 hbo.2
  have hw:ac ((j:Int)+1) = ((j+1:Nat):Int):=by rw [ay (by omega) (by omega)];omega
  have e1:(ak d1 0 ((j:Int) - 0).toNat) = d1.take j:=vh d1
  have e2:(ak d1 ((j+1:Nat):Int).toNat ((d1.length:Int) - ((j+1:Nat):Int)).toNat) = d1.drop (j+1):=by rw [jF d1 (by omega) (by omega),Int.toNat_natCast]
  have l1:(d1.take j).length = j:=by rw [List.length_take];omega
  have l2:(d1.drop (j+1)).length = d1.length - (j+1):=List.length_drop
  rw [hg,nc hbo.1 (by omega),Eu hbo.2,hw,e1,e2,l1,l2,ab (by omega),ab (by omega),Option.bind_some,ab (by omega),ab (by omega),ab (by omega),ab (by omega),ab (by omega),ab (by omega),ab (by omega),ab (by omega),ab (by omega)]
  have hd':∀ x,x∈d1.take j++d1.drop (j+1)↔x∈d1∧x≠d1[j]:=by
   have e0:d1 = d1.take j++d1[j] :: d1.drop (j+1):=by rw [← List.drop_eq_getElem_cons hjl,List.take_append_drop]
   have hnd:=KV h2
   rw [e0,List.nodup_append] at hnd
   obtain ⟨n1,n2,n3⟩:=hnd
   have n4:=(List.nodup_cons.1 n2).1
   intro x
   rw [List.mem_append]
   constructor
   ·rintro (hx | hx)
    ·exact ⟨List.mem_of_mem_take hx,n3 x hx _ (List.mem_cons.2 (.inl rfl))⟩
    ·exact ⟨List.mem_of_mem_drop hx,fun e=>n4 (by rw [← e];exact hx)⟩
   ·rintro ⟨hx,hne⟩
    rw [e0] at hx
    rcases List.mem_append.1 hx with hx | hx
    ·exact .inl hx
    ·exact .inr ((List.mem_cons.1 hx).resolve_left hne)
  obtain ⟨⟨d2,m2⟩,k3,k4,k5⟩:=(xL xby (l:=d1.take j++d1.drop (j+1)) (by rw [List.length_append];omega)).2
  have hok2:gk m2:=fun b hb=>h2.ok b ((hd' b).1 ((k5.2 b).1 hb)).1
  obtain ⟨L2,ks2,vs2,g2,hM2,_,hK2,hk2,_⟩:=wz hok2 k5.1
  rw [k3,Option.bind_some]
  dsimp only
  rw [g2,Option.bind_some]
  dsimp only
  rw [Bool.not_true,cond_false,bj.2 rfl,cond_false]
  have hm2:∀ x,x∈m2↔x∈d1∧x≠d1[j]:=fun x=>by rw [k5.2 x];exact hd' x
  have hrj:=At h2 (List.getElem_mem hjl)
  obtain ⟨c1,c2,c3⟩:=(pF h2).1 ⟨List.getElem_mem hjl,rfl,rfl⟩
  have want:∀ s:Int,((kM (aR m2) s).length:Int) = if s = (ah d1[j]).Sender then (ah d1[j]).Number - 1 else ((bu s d1).length:Int):=by
   intro s
   by_cases hs:s = (ah d1[j]).Sender
   ·subst hs
    have hq:((ah d1[j]).Number - 1).toNat < (bu (ah d1[j]).Sender d1).length:=by omega
    rw [jE (List.getElem?_eq_getElem hq)] at c3
    rw [if_pos rfl,xd h2 (fun x=>x≠d1[j]) hm2 _ (q:=((ah d1[j]).Number - 1).toNat) (by omega) (fun i hi e=>by
     have:=(h2.link (ah d1[j]).Sender i (by omega)).1
     rw [e] at this
     omega) (fun hq hne=>hne c3),List.length_map,List.length_take]
    omega
   ·rw [if_neg hs,xd h2 (fun x=>x≠d1[j]) hm2 _ (Nat.le_refl _) (fun i hi e=>by
     have:=(pN.1 (List.getElem_mem hi)).2
     rw [e] at this
     exact hs this.symm) (fun hq=>absurd hq (by omega)),List.take_length,List.length_map]
  have loop:∀ (k s:Nat),s+k = 6→cw (s:Int) (ah d1[j]) ks vs ks2 vs2 = some true:=by
   intro k
   induction k with
   | zero=>intro s hs;rw [eZ,bp (by omega),cond_false]
   | succ k ih =>
    intro s hs
    rw [eZ,aV (by omega),cond_true,d9 hK hM,Option.bind_some]
    dsimp only
    rw [hlen]
    have fin:∀ w:Int,w = (if (s:Int) = (ah d1[j]).Sender then (ah d1[j]).Number - 1 else ((bu (s:Int) d1).length:Int))→bZ (s:Int) w (ah d1[j]) ks vs ks2 vs2 = some true:=by
     intro w hw
     rw [j9,d9 hK2 hM2,Option.bind_some]
     dsimp only
     rw [want, ← hw,bj.2 rfl,cond_false,ay (by omega) (by omega)]
     exact ih (s+1) (by omega)
    have hnum:=(gm.1 ((jt hbo.1).1 hbo.2).2.2.2.2).2.1
    by_cases he:(s:Int) = (ah d1[j]).Sender
    ·rw [aZ.2 he,cond_true,ay (by omega) (by omega)]
     exact fin _ (by rw [if_pos he])
    ·rw [eJ.2 he,cond_false]
     exact fin _ (by rw [if_neg he])
  exact loop 6 0 rfl
end Go.Ax
