import Derived.Test.YtbjfcadcipfolaaGreatYP63
set_option linter.all false
/- What is kept is the least of the documents with a number;chains. -/
set_option maxRecDepth 100000
namespace Go.Ax
def zf (o:Option (List Int)) (b:List Int):Option (List Int):=match o with
 | none=>some b
 | some a=>if bN a b = true then some a else some b
def wa (s n:Int) (b:List Int):Bool:=ak (ap b).Sender s&&ak (ap b).Number n
theorem Lf {s n:Int} {b:List Int}:wa s n b = true↔(ap b).Sender = s∧(ap b).Number = n:=by
 unfold wa
 rw [Bool.and_eq_true,aY,aY]
theorem Qo {K:ay} {b:List Int} (h:dl b = true) (s n:Int):cz K b s n = if wa s n b = true then zf (K s n) b else K s n:=by
 by_cases hk:(ap b).Sender = s∧(ap b).Number = n
 ·rw [if_pos (Lf.2 hk)]
  obtain ⟨rfl,rfl⟩:=hk
  unfold cz
  cases ho:K (ap b).Sender (ap b).Number with
  | none=>rw [if_pos (vd h ho),Eh];rfl
  | some o =>
   rw [Ew h ho]
   show _ = if bN o b = true then some o else some b
   cases hle:bN o b with
   | true=>rw [if_pos rfl,if_pos rfl,if_neg (by omega)];exact ho
   | false=>rw [show (if (false = true) then (10:Int) else 0) = 0 from rfl,if_pos rfl];exact Eh _ _ _ _
 ·rw [if_neg (fun hh=>hk (Lf.1 hh))]
  unfold cz
  split
  ·unfold jG
   rw [if_neg fun e=>hk ⟨e.1.symm,e.2.symm⟩]
  ·rfl
theorem Kx:∀ (l:List (List Int)) (K:ay),(∀ b∈l,dl b = true)→∀ s n,(l.foldl cz K) s n = (l.filter (wa s n)).foldl zf (K s n)
 | [],_,_,_,_=>rfl
 | b :: l,K,h,s,n=>by
  rw [List.foldl_cons,Kx l _ (fun c hc=>h c (by simp [hc])),Qo (h b (by simp)),List.filter_cons]
  by_cases hk:wa s n b = true
  ·rw [if_pos hk,if_pos hk,List.foldl_cons]
  ·rw [if_neg hk,if_neg hk]
theorem OG (o:Option (List Int)) (b:List Int):∃ m,zf o b = some m∧(m = b∨o = some m)∧bN m b = true∧∀ a,o = some a→bN m a = true:=by
 cases o with
 | none=>exact ⟨b,rfl, .inl rfl,jr b,fun a h=>by cases h⟩
 | some a =>
  by_cases h:bN a b = true
  ·exact ⟨a,if_pos h, .inr rfl,h,fun c hc=>by injection hc with hc;rw [hc];exact jr c⟩
  ·refine ⟨b,if_neg h, .inl rfl,jr b,fun c hc=>?_⟩
   injection hc with hc
   rw [← hc]
   exact (uf.1 (by simpa using h)).1
theorem HS:∀ (l:List (List Int)) (o:Option (List Int)),(l.foldl zf o = none→o = none∧l = [])∧∀ m,l.foldl zf o = some m→(m∈l∨o = some m)∧(∀ c∈l,bN m c = true)∧∀ a,o = some a→bN m a = true
 | [],o=>⟨fun h=>⟨h,rfl⟩,fun m h=>⟨.inr h,fun c hc=>(by cases hc),fun a ha=>by
   have h:o = some m:=h
   rw [h] at ha;injection ha with ha;rw [ha];exact jr a⟩⟩
 | b :: l,o=>by
  obtain ⟨m0,h1,h2,h3,h4⟩:=OG o b
  obtain ⟨i1,i2⟩:=HS l (zf o b)
  rw [List.foldl_cons]
  refine ⟨fun h=>?_,fun m h=>?_⟩
  ·have:=(i1 h).1
   rw [h1] at this
   cases this
  ·obtain ⟨j1,j2,j3⟩:=i2 m h
   have k1:=j3 m0 h1
   refine ⟨?_,fun c hc=>?_,fun a ha=>nm k1 (h4 a ha)⟩
   ·rcases j1 with j1 | j1
    ·exact .inl (by simp [j1])
    ·rw [h1] at j1
     injection j1 with j1
     subst j1
     rcases h2 with h2 | h2
     ·exact .inl (by simp [h2])
     ·exact .inr h2
   ·rcases List.mem_cons.1 hc with rfl | hc
    ·exact nm k1 h3
    ·exact j2 c hc
theorem F7 {l:List (List Int)} (h:mC l) (s n:Int) (b:List Int):dA l s n = some b↔b∈l∧wa s n b = true∧∀ c∈l,wa s n c = true→bN b c = true:=by
 have e:=Kx l dJ (fun b hb=>(h b hb).2) s n
 obtain ⟨i1,i2⟩:=HS (l.filter (wa s n)) (dJ s n)
 have e:dA l s n = (l.filter (wa s n)).foldl zf (dJ s n):=e
 rw [e]
 constructor
 ·intro hb
  obtain ⟨j1,j2,_⟩:=i2 b hb
  have hm:b∈l.filter (wa s n):=j1.resolve_right fun hh=>by cases hh
  exact ⟨(List.mem_filter.1 hm).1,(List.mem_filter.1 hm).2,fun c hc hk=>j2 c (List.mem_filter.2 ⟨hc,hk⟩)⟩
 ·rintro ⟨h1,h2,h3⟩
  have hm:b∈l.filter (wa s n):=List.mem_filter.2 ⟨h1,h2⟩
  cases hr:(l.filter (wa s n)).foldl zf (dJ s n) with
  | none=>rw [(i1 hr).2] at hm;cases hm
  | some m =>
   obtain ⟨j1,j2,_⟩:=i2 m hr
   have hmm:m∈l.filter (wa s n):=j1.resolve_right fun hh=>by cases hh
   rw [mS (j2 b hm) (h3 m (List.mem_filter.1 hmm).1 (List.mem_filter.1 hmm).2)]
theorem Gq {l m:List (List Int)} (hl:mC l) (h:∀ x,x∈m↔x∈l):dA m = dA l:=by
 have hm:mC m:=fun b hb=>hl b ((h b).1 hb)
 funext s n
 have key:∀ b,dA m s n = some b↔dA l s n = some b:=fun b=>by
  rw [F7 hm,F7 hl]
  constructor
  ·rintro ⟨h1,h2,h3⟩
   exact ⟨(h b).1 h1,h2,fun c hc=>h3 c ((h c).2 hc)⟩
  ·rintro ⟨h1,h2,h3⟩
   exact ⟨(h b).2 h1,h2,fun c hc=>h3 c ((h c).1 hc)⟩
 cases hb:dA m s n with
 | some b=>exact ((key b).1 hb).symm
 | none =>
  cases hb':dA l s n with
  | none=>rfl
  | some b=>rw [(key b).2 hb'] at hb;cases hb
theorem I6 {d:List (List Int)} (h:zq d) {s n:Int} {b:List Int}:(b∈d∧(ap b).Sender = s∧(ap b).Number = n)↔1≤n∧n≤((k8 s d).length:Int)∧gD (k8 s d) (n - 1).toNat [] = b:=by
 have hl:=h.link s
 constructor
 ·rintro ⟨h1,h2,h3⟩
  obtain ⟨i,hi,e⟩:=List.getElem_of_mem (EP.2 ⟨h1,h2⟩)
  have h4:=(hl i hi).1
  rw [e] at h4
  refine ⟨by omega,by omega, ?_⟩
  rw [show (n - 1).toNat = i by omega, ← e]
  exact lr (List.getElem?_eq_getElem hi)
 ·rintro ⟨h1,h2,h3⟩
  have hi:(n - 1).toNat < (k8 s d).length:=by omega
  rw [lr (List.getElem?_eq_getElem hi)] at h3
  have h4:=hl _ hi
  have h5:=EP.1 (List.getElem_mem hi)
  rw [h3] at h4 h5
  exact ⟨h5.1,h5.2,by omega⟩
end Go.Ax
