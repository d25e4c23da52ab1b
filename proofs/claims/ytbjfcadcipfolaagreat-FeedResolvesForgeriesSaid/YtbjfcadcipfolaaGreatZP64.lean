import Derived.Test.YtbjfcadcipfolaaGreatZP63
set_option linter.all false
/- What is kept is the least of the documents with a number;chains. -/
set_option maxRecDepth 100000
namespace Go.Ax
def hZ (o:Option (List Int)) (b:List Int):Option (List Int):=match o with
 | none=>some b
 | some a=>if dP a b = true then some a else some b
def n7 (s n:Int) (b:List Int):Bool:=am (ah b).Sender s&&am (ah b).Number n
theorem sO {s n:Int} {b:List Int}:n7 s n b = true↔(ah b).Sender = s∧(ah b).Number = n:=by
 unfold n7
 rw [Bool.and_eq_true,aZ,aZ]
theorem QC {K:ao} {b:List Int} (h:cP b = true) (s n:Int):bK K b s n = if n7 s n b = true then hZ (K s n) b else K s n:=by
 by_cases hk:(ah b).Sender = s∧(ah b).Number = n
 ·rw [if_pos (sO.2 hk)]
  obtain ⟨rfl,rfl⟩:=hk
  unfold bK
  cases ho:K (ah b).Sender (ah b).Number with
  | none=>rw [if_pos (p6 h ho),FE];rfl
  | some o =>
   rw [Fm h ho]
   show _ = if dP o b = true then some o else some b
   cases hle:dP o b with
   | true=>rw [if_pos rfl,if_pos rfl,if_neg (by omega)];exact ho
   | false=>rw [show (if (false = true) then (10:Int) else 0) = 0 from rfl,if_pos rfl];exact FE _ _ _ _
 ·rw [if_neg (fun hh=>hk (sO.1 hh))]
  unfold bK
  split
  ·unfold jo
   rw [if_neg fun e=>hk ⟨e.1.symm,e.2.symm⟩]
  ·rfl
theorem FH:∀ (l:List (List Int)) (K:ao),(∀ b∈l,cP b = true)→∀ s n,(l.foldl bK K) s n = (l.filter (n7 s n)).foldl hZ (K s n)
 | [],_,_,_,_=>rfl
 | b :: l,K,h,s,n=>by
  rw [List.foldl_cons,FH l _ (fun c hc=>h c (by simp [hc])),QC (h b (by simp)),List.filter_cons]
  by_cases hk:n7 s n b = true
  ·rw [if_pos hk,if_pos hk,List.foldl_cons]
  ·rw [if_neg hk,if_neg hk]
theorem Ix (o:Option (List Int)) (b:List Int):∃ m,hZ o b = some m∧(m = b∨o = some m)∧dP m b = true∧∀ a,o = some a→dP m a = true:=by
 cases o with
 | none=>exact ⟨b,rfl, .inl rfl,jL b,fun a h=>by cases h⟩
 | some a =>
  by_cases h:dP a b = true
  ·exact ⟨a,if_pos h, .inr rfl,h,fun c hc=>by injection hc with hc;rw [hc];exact jL c⟩
  ·refine ⟨b,if_neg h, .inl rfl,jL b,fun c hc=>?_⟩
   injection hc with hc
   rw [← hc]
   exact (RQ.1 (by simpa using h)).1
theorem CB:∀ (l:List (List Int)) (o:Option (List Int)),(l.foldl hZ o = none→o = none∧l = [])∧∀ m,l.foldl hZ o = some m→(m∈l∨o = some m)∧(∀ c∈l,dP m c = true)∧∀ a,o = some a→dP m a = true
 | [],o=>⟨fun h=>⟨h,rfl⟩,fun m h=>⟨.inr h,fun c hc=>(by cases hc),fun a ha=>by
   have h:o = some m:=h
   rw [h] at ha;injection ha with ha;rw [ha];exact jL a⟩⟩
 | b :: l,o=>by
  obtain ⟨m0,h1,h2,h3,h4⟩:=Ix o b
  obtain ⟨i1,i2⟩:=CB l (hZ o b)
  rw [List.foldl_cons]
  refine ⟨fun h=>?_,fun m h=>?_⟩
  ·have:=(i1 h).1
   rw [h1] at this
   cases this
  ·obtain ⟨j1,j2,j3⟩:=i2 m h
   have k1:=j3 m0 h1
   refine ⟨?_,fun c hc=>?_,fun a ha=>zP k1 (h4 a ha)⟩
   ·rcases j1 with j1 | j1
    ·exact .inl (by simp [j1])
    ·rw [h1] at j1
     injection j1 with j1
     subst j1
     rcases h2 with h2 | h2
     ·exact .inl (by simp [h2])
     ·exact .inr h2
   ·rcases List.mem_cons.1 hc with rfl | hc
    ·exact zP k1 h3
    ·exact j2 c hc
theorem N5 {l:List (List Int)} (h:gk l) (s n:Int) (b:List Int):aR l s n = some b↔b∈l∧n7 s n b = true∧∀ c∈l,n7 s n c = true→dP b c = true:=by
 have e:=FH l ef (fun b hb=>(h b hb).2) s n
 obtain ⟨i1,i2⟩:=CB (l.filter (n7 s n)) (ef s n)
 have e:aR l s n = (l.filter (n7 s n)).foldl hZ (ef s n):=e
 rw [e]
 constructor
 ·intro hb
  obtain ⟨j1,j2,_⟩:=i2 b hb
  have hm:b∈l.filter (n7 s n):=j1.resolve_right fun hh=>by cases hh
  exact ⟨(List.mem_filter.1 hm).1,(List.mem_filter.1 hm).2,fun c hc hk=>j2 c (List.mem_filter.2 ⟨hc,hk⟩)⟩
 ·rintro ⟨h1,h2,h3⟩
  have hm:b∈l.filter (n7 s n):=List.mem_filter.2 ⟨h1,h2⟩
  cases hr:(l.filter (n7 s n)).foldl hZ (ef s n) with
  | none=>rw [(i1 hr).2] at hm;cases hm
  | some m =>
   obtain ⟨j1,j2,_⟩:=i2 m hr
   have hmm:m∈l.filter (n7 s n):=j1.resolve_right fun hh=>by cases hh
   rw [tH (j2 b hm) (h3 m (List.mem_filter.1 hmm).1 (List.mem_filter.1 hmm).2)]
theorem LP {d:List (List Int)} (h:dG d) {a b:List Int} (ha:a∈d) (hb:b∈d) (e1:(ah a).Sender = (ah b).Sender) (e2:(ah a).Number = (ah b).Number):a = b:=by
 have hl:=h.link (ah b).Sender
 obtain ⟨i,hi,ea⟩:=List.getElem_of_mem (pN.2 ⟨ha,e1⟩)
 obtain ⟨j,hj,eb⟩:=List.getElem_of_mem (pN.2 ⟨hb,rfl⟩)
 have h1:=(hl i hi).1
 have h2:=(hl j hj).1
 rw [ea] at h1
 rw [eb] at h2
 have:i = j:=by omega
 subst this
 exact ea.symm.trans eb
theorem sm {d m:List (List Int)} (h:dG d) (p:List Int→Prop) (hm:∀ x,x∈m↔x∈d∧p x) (s n:Int) (b:List Int):aR m s n = some b↔b∈d∧p b∧(ah b).Sender = s∧(ah b).Number = n:=by
 have hok:gk m:=fun b hb=>h.ok b ((hm b).1 hb).1
 rw [N5 hok,hm,sO]
 constructor
 ·rintro ⟨⟨h1,h2⟩,h3,_⟩
  exact ⟨h1,h2,h3⟩
 ·rintro ⟨h1,h2,h3⟩
  refine ⟨⟨h1,h2⟩,h3,fun c hc hk=>?_⟩
  have hk:=sO.1 hk
  rw [LP h ((hm c).1 hc).1 h1 (hk.1.trans h3.1.symm) (hk.2.trans h3.2.symm)]
  exact jL b
theorem pF {d:List (List Int)} (h:dG d) {s n:Int} {b:List Int}:(b∈d∧(ah b).Sender = s∧(ah b).Number = n)↔1≤n∧n≤((bu s d).length:Int)∧gD (bu s d) (n - 1).toNat [] = b:=by
 have hl:=h.link s
 constructor
 ·rintro ⟨h1,h2,h3⟩
  obtain ⟨i,hi,e⟩:=List.getElem_of_mem (pN.2 ⟨h1,h2⟩)
  have h4:=(hl i hi).1
  rw [e] at h4
  refine ⟨by omega,by omega, ?_⟩
  rw [show (n - 1).toNat = i by omega, ← e]
  exact jE (List.getElem?_eq_getElem hi)
 ·rintro ⟨h1,h2,h3⟩
  have hi:(n - 1).toNat < (bu s d).length:=by omega
  rw [jE (List.getElem?_eq_getElem hi)] at h3
  have h4:=hl _ hi
  have h5:=pN.1 (List.getElem_mem hi)
  rw [h3] at h4 h5
  exact ⟨h5.1,h5.2,by omega⟩
theorem Gu {K:ao} {s:Int} {c:List (List Int)} (hl:AN c) {p:Nat} (hp:p≤c.length) (h:∀ (i:Nat) (hi:i < p),K s ((i:Int)+1) = some (gD c i [])) (h2:K s ((p:Int)+1) = none):∀ (j i k:Nat),i+j = p→j < k→gO K s k (i+1) (if i = 0 then 0 else dV (gD c (i - 1) [])) = ((c.take p).drop i).map ah
 | 0,i,k,hi,hk=>by
  rw [xB (by rw [show ((i+1:Nat):Int) = (p:Int)+1 by omega];exact h2),List.drop_of_length_le (by rw [List.length_take];omega)]
  rfl
 | j+1,i,k+1,hi,hk=>by
  have hip:i < p:=by omega
  have hic:i < c.length:=by omega
  have e:gD c i [] = c[i]:=jE (List.getElem?_eq_getElem hic)
  have hlt:i < (c.take p).length:=by rw [List.length_take];omega
  have hK:K s ((i+1:Nat):Int) = some c[i]:=by
   rw [show ((i+1:Nat):Int) = (i:Int)+1 by omega,h i hip,e]
  rw [Ab hK (hl i hic).2,List.drop_eq_getElem_cons hlt,List.map_cons,List.getElem_take]
  congr 1
  have:=Gu hl hp h h2 j (i+1) k (by omega) (by omega)
  rw [if_neg (by omega),Nat.add_sub_cancel,e] at this
  exact this
theorem Mv {K:ao} {s:Int} {c:List (List Int)} (hl:AN c) {p:Nat} (hp:p≤c.length) (h9:p≤900) (h:∀ (i:Nat) (hi:i < p),K s ((i:Int)+1) = some (gD c i [])) (h2:K s ((p:Int)+1) = none):kM K s = (c.take p).map ah :=
 Gu hl hp h h2 p 0 1000 (by omega) (by omega)
end Go.Ax
