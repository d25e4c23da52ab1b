import Derived.Test.YtbjfcadcipfolaaGreatZP56
set_option linter.all false
/- What counts of the documents that are kept: both texts find the same. -/
set_option maxRecDepth 100000
namespace Go.Ax
theorem ed {K:ao} {ks vs} (h:bg K ks vs) (s n:Int):eU s n ks vs = some ((K s n).getD [],(K s n).isSome,ks,vs):=by
 rw [A0,h.get,h.has]
theorem HG {K:ao} (hK:aS K) (s n:Int):((K s n).getD []).length≤58∧aB ((K s n).getD []):=by
 cases hb:K s n with
 | none=>exact ⟨by simp,pY⟩
 | some b=>exact ⟨(hK.rng hb).2.2.2,(hK _ _ _ hb).1⟩
theorem kW {K:ao} {ks vs} (hK:aS K) (h:bg K ks vs) (s n:Int):jr s n ks vs = some ((K s n).getD [],(K s n).isSome,ks,vs):=by
 rw [Bc,ed h,Option.bind_some]
 show ((gC ((K s n).getD [])).bind fun r1=>_) = _
 rw [ox (by have:=(HG hK s n).1;omega)]
 rfl
theorem AQ {K:ao} {L:List Kd} (h:di K L) (hl:L.length≤1000000000) (s n:Int):∃ i:Nat,dn ⟨L⟩ s n = some ((i:Int),(K s n).isSome)∧∀ b,K s n = some b→i < L.length∧gD L (i:Int).toNat (zS .GPensionref31_kept) = ⟨ah b,b⟩:=by
 obtain ⟨A,B,is,hL,hA,hf,hc⟩:=IZ h hl s n
 refine ⟨A.length, ?_,fun b hb=>?_⟩
 ·rcases hc with ⟨rfl,x,C,_,_,_,e,_⟩ | ⟨rfl,e,_⟩
  ·rw [hf,e];rfl
  ·rw [hf,e];rfl
 ·rcases hc with ⟨rfl,x,C,rfl,_,_,e,e4,_⟩ | ⟨rfl,e,_⟩
  ·have hi:A.length < L.length:=by rw [hL];simp
   refine ⟨hi, ?_⟩
   rw [cz hi]
   simp only [hL,List.getElem_append_right (Nat.le_refl _),Nat.sub_self,List.getElem_cons_zero]
   rw [hb] at e
   injection e with e
   rw [e]
   cases x with
   | mk D B=>simp only at e4 ⊢; rw [e4]
  ·rw [hb] at e;cases e
theorem km {K:ao} {L:List Kd} (hK:aS K) (h:di K L) (hl:L.length≤1000000000) (s n:Int):iy ⟨L⟩ s n = some ((K s n).getD [],(K s n).isSome):=by
 obtain ⟨i,h1,h2⟩:=AQ h hl s n
 rw [Aw,h1,Option.bind_some]
 cases hb:K s n with
 | none=>rfl
 | some b =>
  obtain ⟨h3,h4⟩:=h2 b hb
  have:=(hK.rng hb).2.2.2
  show (gb (aa (0≤(i:Int)))<|gb (aa ((i:Int) < (L.length:Int)))<|gb (aa ((gD L (i:Int).toNat (zS .GPensionref31_kept)).B.length*1≤140737488355328))<|gb (aa ((gD L (i:Int).toNat (zS .GPensionref31_kept)).B.length≤140737488355328))<|some ((gD L (i:Int).toNat (zS .GPensionref31_kept)).B,true)) = _
  rw [h4,ab (by omega),ab (by omega)]
  simp only
  rw [ab (by omega),ab (by omega)]
  rfl
def yz (K:ao) (s:Int):Nat→Nat→Nat
 | 0,p=>p
 | k+1,p=>if (K s ((p:Int)+1)).isSome = true then yz K s k (p+1) else p
def bB (K:ao) (s:Int):Nat:=yz K s 1000 0
theorem qy {K:ao} (hK:aS K) (s:Int) {n:Int} (h:n < 1∨999 < n):K s n = none:=by
 cases hb:K s n with
 | none=>rfl
 | some b=>have:=(hK.rng hb).2.1;omega
theorem GI {K:ao} (hK:aS K) (s:Int):∀ (k p:Nat),p+k = 1000→(∀ n:Nat,1≤n→n≤p→(K s n).isSome = true) →
  (∀ n:Nat,1≤n→n≤yz K s k p→(K s n).isSome = true)∧K s ((yz K s k p:Nat)+1) = none
 | 0,p,hp,h=>⟨h,qy hK s (.inr (by show (999:Int) < (p:Int)+1;omega))⟩
 | k+1,p,hp,h=>by
  unfold yz
  split
  ·next hh =>
   refine GI hK s k (p+1) (by omega) fun n h1 h2=>?_
   by_cases e:n = p+1
   ·subst e;exact hh
   ·exact h n h1 (by omega)
  ·next hh =>
   refine ⟨h, ?_⟩
   cases hb:K s ((p:Int)+1) with
   | none=>rfl
   | some b=>exact absurd (by rw [hb];rfl) hh
theorem nN {K:ao} (hK:aS K) (s:Int):(∀ n:Nat,1≤n→n≤bB K s→(K s n).isSome = true)∧K s ((bB K s:Nat)+1) = none :=
 GI hK s 1000 0 rfl fun n h1 h2=>by omega
theorem l8 {K:ao} (hK:aS K) (s:Int):bB K s≤999:=by
 rcases Nat.lt_or_ge 999 (bB K s) with h | h
 ·have:=(nN hK s).1 (bB K s) (by omega) (Nat.le_refl _)
  rw [qy hK s (.inr (by omega))] at this
  cases this
 ·exact h
theorem G3 {K:ao} (hK:aS K) (s:Int) {p:Nat} (h1:∀ n:Nat,1≤n→n≤p→(K s n).isSome = true) (h2:K s ((p:Int)+1) = none):bB K s = p:=by
 obtain ⟨a,b⟩:=nN hK s
 rcases Nat.lt_trichotomy (bB K s) p with h | h | h
 ·have:=h1 (bB K s+1) (by omega) (by omega)
  rw [show ((bB K s+1:Nat):Int) = (bB K s:Nat)+1 by omega,b] at this
  cases this
 ·exact h
 ·have:=a (p+1) (by omega) (by omega)
  rw [show ((p+1:Nat):Int) = (p:Int)+1 by omega,h2] at this
  cases this
theorem zJ {K:ao} {ks vs} (hK:aS K) (h:bg K ks vs) (s:Int):∀ (k p:Nat),p+k = 1000→fW s (p:Int) ks vs = some ((yz K s k p:Int),ks,vs)
 | 0,p,hp=>by
  rw [lE,ay (by omega) (by omega),ed h,Option.bind_some,qy hK s (.inr (by omega))]
  rfl
 | k+1,p,hp=>by
  rw [lE,ay (by omega) (by omega),ed h,Option.bind_some]
  unfold yz
  cases hb:K s ((p:Int)+1) with
  | none=>rfl
  | some b=>exact zJ hK h s k (p+1) (by omega)
theorem fI {K:ao} {ks vs} (hK:aS K) (h:bg K ks vs) (s:Int):eC s ks vs = some ((bB K s:Int),ks,vs):=by
 rw [yk];exact zJ hK h s 1000 0 rfl
theorem Bq {K:ao} {L:List Kd} (hK:aS K) (h:di K L) (hl:L.length≤1000000000) (s:Int):∀ (k p:Nat),p+k = 1000→fg ⟨L⟩ s (p:Int) = some (yz K s k p:Int)
 | 0,p,hp=>by
  obtain ⟨i,h1,h2⟩:=AQ h hl s ((p:Int)+1)
  rw [kK,ay (by omega) (by omega),h1,Option.bind_some,qy hK s (.inr (by omega))]
  rfl
 | k+1,p,hp=>by
  obtain ⟨i,h1,h2⟩:=AQ h hl s ((p:Int)+1)
  rw [kK,ay (by omega) (by omega),h1,Option.bind_some]
  unfold yz
  cases hb:K s ((p:Int)+1) with
  | none=>rfl
  | some b=>exact Bq hK h hl s k (p+1) (by omega)
theorem fj {K:ao} {L:List Kd} (hK:aS K) (h:di K L) (hl:L.length≤1000000000) (s:Int):cH ⟨L⟩ s = some (bB K s:Int):=by
 rw [wR];exact Bq hK h hl s 1000 0 rfl
def dV (b:List Int):Int:=aC (b.drop (b.length - 4))
theorem nJ {b:List Int} (hb:aB b):0≤dV b∧dV b < 4294967296 :=
 kg (hb.drop _) (n:=4) (by rw [List.length_drop];omega) (by decide)
theorem Bd {b:List Int} (hb:aB b) (hB:b.length≤1000000000000):mO b = some (dV b):=by
 rw [CQ]
 have e:(bif aa (0 < ac ((b.length:Int) - 4)) then ac ((b.length:Int) - 4) else 0) = ((b.length - 4:Nat):Int):=by
  rw [ay (by omega) (by omega)]
  by_cases h:4 < b.length
  ·rw [aV (by omega),cond_true];omega
  ·rw [bp (by omega),cond_false];omega
 rw [e,jF b (by omega) (by omega),Int.toNat_natCast,ab (by omega),ab (by omega),ab (by omega)]
 have hd:(b.drop (b.length - 4)).length≤4:=by rw [List.length_drop];omega
 rw [BP (hb.drop _) (by omega) (Nat.le_refl _) (by omega),Option.bind_some,List.take_of_length_le (Nat.le_refl _)]
 have:=nJ hb
 show some (IntKind.wrap .u32 (dV b)) = _
 rw [fC this.1 this.2]
theorem ES {b:List Int} (hb:aB b) (hB:b.length≤1000000000000):gu b = some (if b.length < 4 then 0 else dV b):=by
 rw [He]
 by_cases h:b.length < 4
 ·rw [aV (by omega),cond_true,if_pos h]
 ·have e:ac ((b.length:Int) - 4) = ((b.length - 4:Nat):Int):=by rw [ay (by omega) (by omega)];omega
  have hd:(b.drop (b.length - 4)).length≤4:=by rw [List.length_drop];omega
  have:=nJ hb
  rw [bp (by omega),cond_false,if_neg h,e,jF b (by omega) (by omega),Int.toNat_natCast,ab (by omega),ab (by omega),ab (by omega),bf (hb.drop _) (by omega),Option.bind_some]
  show some (IntKind.wrap .u32 (dV b)) = _
  rw [fC this.1 this.2]
theorem fU {b:List Int} (hb:aB b) (h4:4≤b.length) (hB:b.length≤1000000000000):gu b = some (dV b):=by
 rw [ES hb hB,if_neg (by omega)]
def gO (K:ao) (s:Int):Nat→Nat→Int→List GDocument
 | 0,_,_=>[]
 | k+1,n,prev=>match K s (n:Int) with
  | none=>[]
  | some b=>if (ah b).Prev = prev then ah b :: gO K s k (n+1) (dV b) else []
def kM (K:ao) (s:Int):List GDocument:=gO K s 1000 1 0
theorem IA (K:ao) (s:Int):∀ (k n:Nat) (prev:Int),(gO K s k n prev).length≤k
 | 0,_,_=>by simp [gO]
 | k+1,n,prev=>by
  unfold gO
  split
  ·simp
  ·split
   ·have:=IA K s k (n+1)
    simp [this]
   ·simp
theorem Eu {b:List Int} (h:cP b = true):pR b = (ah b,0):=by rw [FB,if_pos h]
theorem zZ {K:ao} {ks vs} (hK:aS K) (h:bg K ks vs) (s:Int):∀ (k n:Nat) (prev:Int) (out:List GDocument),n+k = 1001→out.length≤n→dl s prev (n:Int) out ks vs = some (out++gO K s k n prev,ks,vs)
 | 0,n,prev,out,hn,ho=>by
  rw [jy,ed h,Option.bind_some,qy hK s (.inr (by omega))]
  show some (out,ks,vs) = some (out++[],ks,vs)
  rw [List.append_nil]
 | k+1,n,prev,out,hn,ho=>by
  rw [jy,ed h,Option.bind_some]
  unfold gO
  cases hb:K s (n:Int) with
  | none =>
   show some (out,ks,vs) = some (out++[],ks,vs)
   rw [List.append_nil]
  | some b =>
   obtain ⟨h1,h2,_,_⟩:=hK _ _ _ hb
   have hlen:=(hK.rng hb).2.2
   show ((iJ b).bind fun r1=>bif (bif (aQ r1.2 0) then true else (aQ r1.1.Prev prev)) then some (out,ks,vs) else gb (aa (((out.length+1)*56)≤140737488355328))<|gb (aa ((out.length+1)≤140737488355328))<|(mO b).bind fun r2=>dl s r2 (ac ((n:Int)+1)) (out++[r1.1]) ks vs) = some (out++(if (ah b).Prev = prev then ah b :: gO K s k (n+1) (dV b) else []),ks,vs)
   rw [pm h1 (by omega),Option.bind_some,Eu h2]
   simp only
   rw [bj.2 rfl,cond_false]
   by_cases hp:(ah b).Prev = prev
   ·rw [bj.2 hp,cond_false,ab (by omega),ab (by omega),Bd h1 (by omega),Option.bind_some,if_pos hp,ay (by omega) (by omega)]
    have:=zZ hK h s k (n+1) (dV b) (out++[ah b]) (by omega) (by simp;omega)
    rw [show ((n+1:Nat):Int) = (n:Int)+1 by omega] at this
    rw [this,List.append_assoc]
    rfl
   ·rw [bS.2 hp,cond_true,if_neg hp,List.append_nil]
theorem kT {K:ao} {ks vs} (hK:aS K) (h:bg K ks vs) (s:Int):gn s ks vs = some (kM K s,ks,vs):=by
 rw [uC]
 exact zZ hK h s 1000 1 0 [] rfl (by simp)
theorem d9 {K:ao} {ks vs} (hK:aS K) (h:bg K ks vs) (s:Int):d6 s ks vs = some (((kM K s).length:Int),ks,vs):=by
 rw [Bi,kT hK h];rfl
theorem xB {K:ao} {s:Int} {n:Nat} (h:K s (n:Int) = none) (k:Nat) (prev:Int):gO K s k n prev = []:=by
 cases k with
 | zero=>rfl
 | succ k=>unfold gO;rw [h]
theorem K4 {K:ao} {L:List Kd} (hK:aS K) (h:di K L) (hl:L.length≤1000000000) (s:Int):∀ (k n:Nat) (prev:Int) (out:List GDocument),n+k = 1001→1≤n→n≤bB K s+1→out.length≤n →
  dW s prev (bB K s:Int) (n:Int) ⟨L⟩ out = some (⟨L⟩,out++gO K s k n prev)∧dg ⟨L⟩ s prev (bB K s:Int) (n:Int) out = some (out++gO K s k n prev):=by
 intro k
 induction k with
 | zero =>
  intro n prev out hn h1 _ ho
  have hp:=l8 hK s
  rw [dh,cM,bp (by omega),cond_false,cond_false]
  simp [gO]
 | succ k ih =>
  intro n prev out hn h1 hnl ho
  by_cases hnp:n≤bB K s
  ·have hs:=(nN hK s).1 n h1 hnp
   cases hb:K s (n:Int) with
   | none=>rw [hb] at hs;cases hs
   | some b =>
    obtain ⟨g1,g2,_,_⟩:=hK _ _ _ hb
    have hlen:=(hK.rng hb).2.2
    obtain ⟨i,f1,f2⟩:=AQ h hl s (n:Int)
    obtain ⟨f3,f4⟩:=f2 b hb
    have hbl:(ah b).Body.length≤58:=by
     have:=Ca (ah b)
     rw [((jt g1).1 g2).2.2.2.1] at this
     omega
    have e:gO K s (k+1) n prev = if (ah b).Prev = prev then ah b :: gO K s k (n+1) (dV b) else []:=by
     show (match K s (n:Int) with | none=>[] | some b=>if (ah b).Prev = prev then ah b :: gO K s k (n+1) (dV b) else []) = _
     rw [hb]
    rw [e]
    by_cases hp:(ah b).Prev = prev
    ·obtain ⟨i1,i2⟩:=ih (n+1) (dV b) (out++[ah b]) (by omega) (by omega) (by omega) (by simp;omega)
     rw [if_pos hp]
     refine ⟨?_, ?_⟩
     ·rw [dh,aV (by omega),cond_true,f1,Option.bind_some]
      simp only
      rw [f4,ab (by omega),ab (by omega)]
      simp only
      rw [bj.2 hp,cond_false,ab (by omega),ab (by omega),fU g1 (by omega) (by omega),Option.bind_some,ab (by omega),ab (by omega),ab (by omega),ab (by omega),ay (by omega) (by omega),show (n:Int)+1 = ((n+1:Nat):Int) by omega,i1,List.append_assoc]
      rfl
     ·rw [cM,aV (by omega),cond_true,f1,Option.bind_some]
      simp only
      rw [f4,ab (by omega),ab (by omega)]
      simp only
      rw [bj.2 hp,cond_false,ab (by omega),ab (by omega),fU g1 (by omega) (by omega),Option.bind_some,ab (by omega),ab (by omega),ab (by omega),ab (by omega),ay (by omega) (by omega),show (n:Int)+1 = ((n+1:Nat):Int) by omega,i2,List.append_assoc]
      rfl
    ·rw [if_neg hp,List.append_nil]
     refine ⟨?_, ?_⟩
     ·rw [dh,aV (by omega),cond_true,f1,Option.bind_some]
      simp only
      rw [f4,ab (by omega),ab (by omega)]
      simp only
      rw [bS.2 hp,cond_true]
     ·rw [cM,aV (by omega),cond_true,f1,Option.bind_some]
      simp only
      rw [f4,ab (by omega),ab (by omega)]
      simp only
      rw [bS.2 hp,cond_true]
  ·rw [dh,cM,bp (by omega),cond_false,cond_false]
   have:gO K s (k+1) n prev = []:=by
    refine xB ?_ _ _
    rw [show n = bB K s+1 by omega]
    exact (nN hK s).2
   rw [this,List.append_nil]
   exact ⟨rfl,rfl⟩
theorem kB {K:ao} {L:List Kd} (hK:aS K) (h:di K L) (hl:L.length≤1000000000) (s:Int):jl s ⟨L⟩ = some (⟨L⟩,kM K s)∧gJ ⟨L⟩ s = some (kM K s):=by
 rw [tu,qD,fj hK h hl,Option.bind_some,Option.bind_some]
 exact K4 hK h hl s 1000 1 0 [] rfl (by omega) (by omega) (by simp)
theorem yQ {K:ao} {L:List Kd} (hK:aS K) (h:di K L) (hl:L.length≤1000000000) (s:Int):oJ ⟨L⟩ s = some ((kM K s).length:Int):=by
 rw [Ay,(kB hK h hl s).2];rfl
def yt (b:List Int):List Int:=b.drop (b.length - 4)
def lS (K:ao) (s:Int) (p:Nat):List Int:=(List.range p).flatMap fun (i:Nat)=>yt ((K s ((i:Int)+1)).getD [])
def eu (K:ao) (s:Int) (p:Nat):Int:=iL (lS K s p)
theorem sB (K:ao) (s:Int) (p:Nat):lS K s (p+1) = lS K s p++yt ((K s ((p:Int)+1)).getD []):=by
 unfold lS
 rw [List.range_succ,List.flatMap_append]
 simp
theorem Ou (b:List Int):(yt b).length≤4:=by unfold yt;rw [List.length_drop];omega
theorem qE (K:ao) (s:Int):∀ p:Nat,(lS K s p).length≤4*p
 | 0=>by simp [lS]
 | p+1=>by
  rw [sB,List.length_append]
  have:=qE K s p
  have:=Ou ((K s ((p:Int)+1)).getD [])
  omega
theorem Ch {K:ao} (hK:aS K) (s:Int):∀ p:Nat,aB (lS K s p)
 | 0=>pY
 | p+1=>by
  rw [sB]
  exact bF.2 ⟨Ch hK s p,(HG hK s _).2.drop _⟩
theorem zn {K:ao} {ks vs} (hK:aS K) (h:bg K ks vs) (s:Int) {p:Nat} (hp:p≤bB K s):∀ (k n:Nat),n+k = p→fK s (p:Int) ((n:Int)+1) (lS K s n) ks vs = some (eu K s p,ks,vs)
 | 0,n,hn=>by
  have:=qE K s n
  have:=l8 hK s
  rw [kX,bp (by omega),cond_false,jm (Ch hK s n) (by omega),Option.bind_some,show n = p by omega]
  rfl
 | k+1,n,hn=>by
  have hs:=(nN hK s).1 (n+1) (by omega) (by omega)
  have h9:=l8 hK s
  have htl:=qE K s n
  rw [show ((n+1:Nat):Int) = (n:Int)+1 by omega] at hs
  cases hb:K s ((n:Int)+1) with
  | none=>rw [hb] at hs;cases hs
  | some b =>
   have hlen:=(hK.rng hb).2.2
   have e:ac ((b.length:Int) - 4) = ((b.length - 4:Nat):Int):=by rw [ay (by omega) (by omega)];omega
   have hd:(b.drop (b.length - 4)).length = 4:=by rw [List.length_drop];omega
   rw [kX,aV (by omega),cond_true,show eU s ((n:Int)+1) ks vs = some (b,true,ks,vs) by rw [ed h,hb];rfl,Option.bind_some,e]
   dsimp only
   rw [jF b (by omega) (by omega),Int.toNat_natCast,hd,ab (by omega),ab (by omega),ab (by omega),ab (by omega),ab (by omega),ay (by omega) (by omega)]
   have:=zn hK h s hp k (n+1) (by omega)
   rw [sB,hb,show ((n+1:Nat):Int) = (n:Int)+1 by omega] at this
   exact this
theorem nk {K:ao} {ks vs} (hK:aS K) (h:bg K ks vs) (s:Int) {p:Nat} (hp:p≤bB K s):gg s (p:Int) ks vs = some (eu K s p,ks,vs):=by
 rw [xU]
 exact zn hK h s hp p 0 (by omega)
theorem Br {K:ao} {L:List Kd} (hK:aS K) (h:di K L) (hl:L.length≤1000000000) (s:Int) {p:Nat} (hp:p≤bB K s):∀ (k n:Nat),n+k = p→fc ⟨L⟩ s (p:Int) ((n:Int)+1) (lS K s n) = some (eu K s p)
 | 0,n,hn=>by
  have:=qE K s n
  have:=l8 hK s
  rw [kD,bp (by omega),cond_false,qz (Ch hK s n) (by omega),Option.bind_some,show n = p by omega]
  rfl
 | k+1,n,hn=>by
  have hs:=(nN hK s).1 (n+1) (by omega) (by omega)
  have h9:=l8 hK s
  have htl:=qE K s n
  rw [show ((n+1:Nat):Int) = (n:Int)+1 by omega] at hs
  cases hb:K s ((n:Int)+1) with
  | none=>rw [hb] at hs;cases hs
  | some b =>
   have hlen:=(hK.rng hb).2.2
   have hbo:=(hK _ _ _ hb).1
   have hd:(b.drop (b.length - 4)).length = 4:=by rw [List.length_drop];omega
   have hr:=nJ hbo
   have hbig:au (dV b) 4 = yt b:=by
    have:=iQ (hbo.drop (b.length - 4))
    rw [hd] at this
    exact this
   rw [kD,aV (by omega),cond_true,km hK h hl,Option.bind_some,hb]
   simp only [Option.getD_some]
   rw [fU hbo (by omega) (by omega),Option.bind_some,ay (by omega) (by omega),L3,Option.bind_some,aA,ab (by omega),ab (by omega),ay (by omega) (by omega),hbig]
   have:=Br hK h hl s hp k (n+1) (by omega)
   rw [sB,hb,show ((n+1:Nat):Int) = (n:Int)+1 by omega] at this
   exact this
theorem mz {K:ao} {L:List Kd} (hK:aS K) (h:di K L) (hl:L.length≤1000000000) (s:Int) {p:Nat} (hp:p≤bB K s):ee ⟨L⟩ s (p:Int) = some (eu K s p):=by
 rw [wk]
 exact Br hK h hl s hp p 0 (by omega)
def mX (K:ao) (s:Int):List Int:=au (bB K s) 2++au (eu K s (bB K s)) 4
def aG (K:ao):List Int:=73 :: (List.range 6).flatMap fun (s:Nat)=>mX K (s:Int)
theorem O7 (K:ao) (s:Int):(mX K s).length = 6:=by simp [mX,aA]
theorem tO (K:ao):∀ n:Nat,((List.range n).flatMap fun (s:Nat)=>mX K (s:Int)).length = 6*n
 | 0=>rfl
 | n+1=>by rw [List.range_succ,List.flatMap_append,List.length_append,tO K n];simp [O7];omega
theorem MF {p:Nat}:[IntKind.wrap .u8 (Int.fdiv (p:Int) 256),IntKind.wrap .u8 (p:Int)] = au p 2:=by
 rw [oQ,oQ,Int.fdiv_eq_ediv_of_nonneg _ (by omega)]
 simp [au]
theorem My {c:Int}:[IntKind.wrap .u8 (Int.fdiv c 16777216),IntKind.wrap .u8 (Int.fdiv c 65536),IntKind.wrap .u8 (Int.fdiv c 256),IntKind.wrap .u8 c] = au c 4:=by
 rw [oQ,oQ,oQ,oQ,Int.fdiv_eq_ediv_of_nonneg _ (by omega),Int.fdiv_eq_ediv_of_nonneg _ (by omega),Int.fdiv_eq_ediv_of_nonneg _ (by omega)]
 simp [au]
theorem zY {K:ao} {ks vs} (hK:aS K) (h:bg K ks vs):∀ (k n:Nat),n+k = 6→en (n:Int) (73 :: (List.range n).flatMap fun (s:Nat)=>mX K (s:Int)) ks vs = some (aG K,ks,vs)
 | 0,n,hn=>by
  rw [jz,bp (by omega),cond_false,show n = 6 by omega]
  rfl
 | k+1,n,hn=>by
  have hl:(73 :: (List.range n).flatMap fun (s:Nat)=>mX K (s:Int)).length = 6*n+1:=by rw [List.length_cons,tO]
  rw [jz,aV (by omega),cond_true,fI hK h,Option.bind_some]
  simp only
  rw [nk hK h _ (Nat.le_refl _),Option.bind_some]
  simp only
  rw [hl,ab (by omega),ab (by omega),ay (by omega) (by omega)]
  have:=zY hK h k (n+1) (by omega)
  rw [List.range_succ,List.flatMap_append,show ((n+1:Nat):Int) = (n:Int)+1 by omega] at this
  rw [← this]
  congr 1
  rw [List.cons_append]
  congr 1
  congr 1
  rw [List.flatMap_cons,List.flatMap_nil,List.append_nil]
  unfold mX
  rw [← MF, ← My]
  rfl
theorem aH {K:ao} {ks vs} (hK:aS K) (h:bg K ks vs):aL ks vs = some (aG K,ks,vs):=by
 rw [uh]
 exact zY hK h 6 0 rfl
theorem Bn {K:ao} {L:List Kd} (hK:aS K) (h:di K L) (hl:L.length≤1000000000):∀ (k n:Nat),n+k = 6→eh ⟨L⟩ (n:Int) (73 :: (List.range n).flatMap fun (s:Nat)=>mX K (s:Int)) = some (aG K)
 | 0,n,hn=>by
  rw [ji,bp (by omega),cond_false,show n = 6 by omega]
  rfl
 | k+1,n,hn=>by
  have hl2:(73 :: (List.range n).flatMap fun (s:Nat)=>mX K (s:Int)).length = 6*n+1:=by rw [List.length_cons,tO]
  have hr:=tM (lS K (n:Int) (bB K (n:Int)))
  have hr2:0≤eu K (n:Int) (bB K (n:Int))∧eu K (n:Int) (bB K (n:Int)) < 4294967296:=hr
  rw [ji,aV (by omega),cond_true,fj hK h hl,Option.bind_some,BY,Option.bind_some,mz hK h hl _ (Nat.le_refl _),Option.bind_some,ay (by omega) (by omega),L3,Option.bind_some,
   m4 _ (by simp only [List.flatten_cons,List.flatten_nil,List.length_append,List.length_nil,aA,hl2];omega) (by simp),Option.bind_some,ay (by omega) (by omega)]
  have:=Bn hK h hl k (n+1) (by omega)
  rw [List.range_succ,List.flatMap_append,show ((n+1:Nat):Int) = (n:Int)+1 by omega] at this
  rw [← this]
  congr 1
theorem sJ {K:ao} {L:List Kd} (hK:aS K) (h:di K L) (hl:L.length≤1000000000):js ⟨L⟩ = some (aG K):=by
 rw [sZ]
 exact Bn hK h hl 6 0 rfl
theorem JZ (K:ao):(aG K).length = 37:=by unfold aG;rw [List.length_cons,tO]
theorem fM (K:ao):aB (aG K):=by
 unfold aG
 refine dY.2 ⟨by omega,fun x hx=>?_⟩
 obtain ⟨s,_,hs⟩:=List.mem_flatMap.1 hx
 exact bF.2 ⟨be _ _,be _ _⟩ x hs
end Go.Ax
set_option linter.all false
/- The numbers of a sender's documents, and what another feed lacks: both texts find the same. -/
set_option maxRecDepth 100000
namespace Go.Ax
theorem JR {a b:List Int} (ha:a.Pairwise (· < ·)) (hb:b.Pairwise (· < ·)) (h:∀ x,x∈a↔x∈b):a = b :=
 List.Perm.eq_of_pairwise (le:=fun x y=>x < y) (fun x y _ _ h1 h2=>by omega) ha hb ((List.perm_ext_iff_of_nodup (ha.imp fun h=>Int.ne_of_lt h) (hb.imp fun h=>Int.ne_of_lt h)).2 h)
theorem Oc {k:List Int} (h:k.Nodup):(jc k).Pairwise (· < ·):=by
 have h1:=rt k
 have h2:(jc k).Nodup:=(qp k).nodup_iff.2 h
 exact (h1.and h2).imp fun ⟨a,b⟩=>by omega
theorem Ir (n:Nat):((List.range n).map fun p:Nat=>(p:Int)).Nodup:=by
 rw [List.nodup_iff_pairwise_ne,List.pairwise_map]
 exact List.Pairwise.imp (fun h e=>h (by omega)) (List.nodup_iff_pairwise_ne.1 List.nodup_range)
theorem Ll {n:Nat} {wl:List Int} (hnd:wl.Nodup) (hr:∀ x∈wl,0≤x∧x < (n:Int)) (hlen:wl.length = n):wl.Perm ((List.range n).map fun p:Nat=>(p:Int)):=by
 have sub:wl ⊆ (List.range n).map fun p:Nat=>(p:Int):=by
  intro x hx
  have:=hr x hx
  exact List.mem_map.2 ⟨x.toNat,List.mem_range.2 (by omega),by omega⟩
 rw [List.perm_ext_iff_of_nodup hnd (Ir n)]
 intro a
 refine ⟨fun h=>sub h,fun h=>?_⟩
 by_cases ha:a∈wl
 ·exact ha
 ·exfalso
  have h1:(a :: wl).Nodup:=List.nodup_cons.2 ⟨ha,hnd⟩
  have h2:(a :: wl) ⊆ (List.range n).map fun p:Nat=>(p:Int):=fun x hx=>by
   rcases List.mem_cons.1 hx with rfl | hx
   ·exact h
   ·exact sub hx
  have:=h1.length_le_of_subset h2
  simp at this
  omega
theorem Jy {n:Nat} {wl:List Int} (hlen:wl.length < n):iW n wl≠[]:=by
 intro h
 have sub:((List.range n).map fun p:Nat=>(p:Int)) ⊆ wl:=by
  intro x hx
  obtain ⟨p,hp,rfl⟩:=List.mem_map.1 hx
  rw [List.mem_range] at hp
  by_cases hm:(p:Int)∈wl
  ·exact hm
  ·have:=nH.2 ⟨hp,hm⟩
   rw [h] at this
   cases this
 have:=(Ir n).length_le_of_subset sub
 simp at this
 omega
theorem HV {n:Nat} {wl:List Int} (hw:wl.Perm ((List.range n).map fun p:Nat=>(p:Int))):iW n wl = []:=by
 cases h:iW n wl with
 | nil=>rfl
 | cons p r =>
  have hm:p∈iW n wl:=by rw [h];simp
  obtain ⟨h1,h2⟩:=nH.1 hm
  exact absurd (hw.mem_iff.2 (List.mem_map.2 ⟨p,List.mem_range.2 h1,rfl⟩)) h2
theorem P7 {T:Type} {l:List T} (h:l≠[]):l.isEmpty = false:=by
 cases l with
 | nil=>exact absurd rfl h
 | cons x r=>rfl
theorem Nu {T:Type} (l:List T) (z:T):l = (List.range l.length).map fun p=>gD l ((p:Nat):Int).toNat z:=by
 apply List.ext_getElem (by simp)
 intro i h1 h2
 rw [List.getElem_map,List.getElem_range,cz h1]
def bi (K:ao) (s:Int):List Int:=((List.range 999).filter fun i:Nat=>(K s ((i:Int)+1)).isSome).map fun i:Nat=>(i:Int)+1
theorem bX {K:ao} (hK:aS K) (s n:Int):n∈bi K s↔(K s n).isSome = true:=by
 unfold bi
 rw [List.mem_map]
 constructor
 ·rintro ⟨i,hi,rfl⟩
  exact (List.mem_filter.1 hi).2
 ·intro h
  cases hb:K s n with
  | none=>rw [hb] at h;cases h
  | some b =>
   have:=(hK.rng hb).2.1
   refine ⟨(n - 1).toNat,List.mem_filter.2 ⟨List.mem_range.2 (by omega), ?_⟩,by omega⟩
   rw [show (((n - 1).toNat:Nat):Int)+1 = n by omega]
   exact h
theorem qJ (K:ao) (s:Int):(bi K s).Pairwise (· < ·):=by
 unfold bi
 rw [List.pairwise_map]
 exact (List.pairwise_lt_range.filter _).imp fun h=>by omega
theorem uL (K:ao) (s:Int):(bi K s).length≤999:=by
 unfold bi
 rw [List.length_map]
 have:=List.length_filter_le (fun i:Nat=>(K s ((i:Int)+1)).isSome) (List.range 999)
 rw [List.length_range] at this
 exact this
def E9 (s:Int) (ks:List Fk) (x:Int):List Int:=if (gD ks x.toNat (zS .GFeed_key)).sender = s then [(gD ks x.toNat (zS .GFeed_key)).number] else []
theorem NK {K:ao} {ks:List Fk} {vs:List (List Int)} (hK:aS K) (h:bg K ks vs) (hk:ks.length≤100000) (s:Int):∀ (n:Nat) (out:List Int) (wl:List Int),
  wl.Nodup→(∀ x∈wl,0≤x∧x < (ks.length:Int))→wl.length+n = ks.length→out.Perm (wl.flatMap (E9 s ks))→out.length≤wl.length →
  dC s out (ks.length:Int) wl ks vs = some (bi K s,ks,vs):=by
 intro n
 induction n with
 | zero =>
  intro out wl hnd hr hlen hp ho
  have hw:=Ll hnd hr (by omega)
  rw [j6,dv,ap,HV hw]
  show (gb (aa (out.length≤1000000))<|some (jc out,ks,vs)) = _
  rw [ab (by omega)]
  congr 1
  congr 1
  have hp2:out.Perm (ks.flatMap fun k=>if k.sender = s then [k.number] else []):=by
   refine hp.trans ((List.Perm.flatMap_right _ hw).trans ?_)
   rw [List.flatMap_map]
   have:(List.range ks.length).flatMap (fun p:Nat=>E9 s ks (p:Int)) = ks.flatMap fun k=>if k.sender = s then [k.number] else []:=by
    conv=>rhs;rw [Nu ks (zS .GFeed_key),List.flatMap_map]
    rfl
   rw [this]
  have e:(ks.flatMap fun k=>if k.sender = s then [k.number] else []) = (ks.filter fun k=>am k.sender s).map fun k=>k.number:=by
   rw [← oC]
   congr 1
   funext k
   by_cases hks:k.sender = s
   ·rw [if_pos hks,if_pos (aZ.2 hks)]
   ·rw [if_neg hks,if_neg (by rw [eJ.2 hks];simp)]
  rw [e] at hp2
  have hnd2:((ks.filter fun k=>am k.sender s).map fun k=>k.number).Nodup:=by
   rw [List.nodup_iff_pairwise_ne,List.pairwise_map]
   have h1:(ks.filter fun k=>am k.sender s).Pairwise (·≠·):=(List.nodup_iff_pairwise_ne.1 h.nd).filter _
   refine h1.imp_of_mem fun {a b} ha hb hne he=>hne ?_
   have e1:=aZ.1 (List.mem_filter.1 ha).2
   have e2:=aZ.1 (List.mem_filter.1 hb).2
   cases a with
   | mk a1 a2=>cases b with
    | mk b1 b2=>simp only at e1 e2 he;rw [e1,e2,he]
  refine JR (Oc (hp2.nodup_iff.2 hnd2)) (qJ K s) fun z=>?_
  rw [(qp out).mem_iff,hp2.mem_iff,bX hK,List.mem_map, ← h.has,AC]
  constructor
  ·rintro ⟨k,hk,rfl⟩
   obtain ⟨k1,k2⟩:=List.mem_filter.1 hk
   have e1:=aZ.1 k2
   cases k with
   | mk a b=>simp only at e1 k1 ⊢; rw [← e1];exact k1
  ·intro hm
   exact ⟨_,List.mem_filter.2 ⟨hm,dv s⟩,rfl⟩
 | succ n ih =>
  intro out wl hnd hr hlen hp ho
  have hne:=Jy (n:=ks.length) (wl:=wl) (by omega)
  rw [j6,dv,ap,P7 hne,cond_false]
  refine tg hne fun p hpm=>?_
  obtain ⟨h1,h2⟩:=nH.1 hpm
  have hnd3:((p:Int) :: wl).Nodup:=List.nodup_cons.2 ⟨h2,hnd⟩
  have hr3:∀ x∈(p:Int) :: wl,0≤x∧x < (ks.length:Int):=fun x hx=>by
   rcases List.mem_cons.1 hx with rfl | hx
   ·omega
   ·exact hr x hx
  rw [ab rfl,ab (by omega),ab (by omega)]
  by_cases hs:(gD ks ((p:Nat):Int).toNat (zS .GFeed_key)).sender = s
  ·rw [aZ.2 hs,cond_true,ab (by omega),ab (by omega)]
   refine ih _ _ hnd3 hr3 (by simp;omega) ?_ (by simp;omega)
   rw [List.flatMap_cons]
   have e1:E9 s ks (p:Int) = [(gD ks ((p:Nat):Int).toNat (zS .GFeed_key)).number]:=by unfold E9;rw [if_pos hs]
   rw [e1]
   exact (List.perm_append_comm).trans (List.Perm.append_left _ hp)
  ·rw [eJ.2 hs,cond_false]
   refine ih _ _ hnd3 hr3 (by simp;omega) ?_ (by simp;omega)
   rw [List.flatMap_cons]
   have e1:E9 s ks (p:Int) = []:=by unfold E9;rw [if_neg hs]
   rw [e1]
   exact hp
theorem iO {K:ao} {ks:List Fk} {vs:List (List Int)} (hK:aS K) (h:bg K ks vs) (hk:ks.length≤100000) (s:Int):fF s ks vs = some (bi K s,ks,vs):=by
 rw [wC]
 exact NK hK h hk s ks.length [] [] (by simp) (fun x hx=>by cases hx) (by simp) (by simp) (by simp)
def mV (K:ao) (s n:Int):Kd:=⟨ah ((K s n).getD []),(K s n).getD []⟩
def xS (K:ao):List Kd:=(List.range 6).flatMap fun s:Nat=>(bi K (s:Int)).map (mV K (s:Int))
theorem k9 {K:ao} (hK:aS K) {s n:Int} (h:(K s n).isSome = true):(mV K s n).D.Sender = s∧(mV K s n).D.Number = n:=by
 unfold mV
 cases hb:K s n with
 | none=>rw [hb] at h;cases h
 | some b=>exact ⟨(hK _ _ _ hb).2.2.1,(hK _ _ _ hb).2.2.2⟩
theorem LW {K:ao} {L:List Kd} (hK:aS K) (h:di K L):L = xS K:=by
 have s2:(xS K).Pairwise fun x y=>iz x.D.Sender x.D.Number y.D.Sender y.D.Number:=by
  unfold xS
  rw [List.pairwise_flatMap]
  refine ⟨fun s _=>?_, ?_⟩
  ·rw [List.pairwise_map]
   refine (qJ K s).imp_of_mem fun {a b} ha hb hab=>?_
   have e1:=k9 hK ((bX hK _ _).1 ha)
   have e2:=k9 hK ((bX hK _ _).1 hb)
   rw [e1.1,e1.2,e2.1,e2.2]
   exact .inr ⟨rfl,hab⟩
  ·refine List.pairwise_lt_range.imp fun {a b} hab x hx y hy=>?_
   obtain ⟨m,hm,rfl⟩:=List.mem_map.1 hx
   obtain ⟨n,hn,rfl⟩:=List.mem_map.1 hy
   have e1:=k9 hK ((bX hK _ _).1 hm)
   have e2:=k9 hK ((bX hK _ _).1 hn)
   rw [e1.1,e1.2,e2.1,e2.2]
   exact .inl (by omega)
 have nd:∀ {l:List Kd},(l.Pairwise fun x y=>iz x.D.Sender x.D.Number y.D.Sender y.D.Number)→l.Nodup:=fun hl=>by
  rw [List.nodup_iff_pairwise_ne]
  exact hl.imp fun hxy e=>by subst e;unfold iz at hxy;omega
 refine List.Perm.eq_of_pairwise (le:=fun x y=>iz x.D.Sender x.D.Number y.D.Sender y.D.Number) (fun x y _ _ h1 h2=>by unfold iz at *; omega) h.srt s2 ((List.perm_ext_iff_of_nodup (nd h.srt) (nd s2)).2 fun x=>?_)
 constructor
 ·intro hx
  obtain ⟨v1,v2⟩:=h.val x hx
  have hr:=(hK.rng v1).1
  refine List.mem_flatMap.2 ⟨x.D.Sender.toNat,List.mem_range.2 (by omega),List.mem_map.2 ⟨x.D.Number,(bX hK _ _).2 ?_, ?_⟩⟩
  ·rw [show ((x.D.Sender.toNat:Nat):Int) = x.D.Sender by omega,v1];rfl
  ·rw [show ((x.D.Sender.toNat:Nat):Int) = x.D.Sender by omega]
   unfold mV
   rw [v1]
   cases x with
   | mk D B=>simp only [Option.getD_some] at v2 ⊢; rw [← v2]
 ·intro hx
  obtain ⟨s,hs,hx⟩:=List.mem_flatMap.1 hx
  obtain ⟨n,hn,rfl⟩:=List.mem_map.1 hx
  have hn:=(bX hK _ _).1 hn
  cases hb:K (s:Int) n with
  | none=>rw [hb] at hn;cases hn
  | some b =>
   obtain ⟨y,hy,e1,e2⟩:=h.mem _ _ _ hb
   obtain ⟨v1,v2⟩:=h.val y hy
   rw [e1,e2,hb] at v1
   injection v1 with v1
   have:mV K (s:Int) n = y:=by
    unfold mV
    rw [hb]
    cases y with
    | mk D B=>simp only [Option.getD_some] at v1 v2 ⊢; rw [v2,v1]
   rw [this]
   exact hy
theorem OT {v x:Int} (k:Nat) {m:Int} (hm:m = 2 ^ k) (h0:0≤v) (h1:v*m+x < 4294967296) (h2:0≤x) (h3:x < m):IntKind.wrap .u32 (tB 32 (v*m) x) = v*m+x:=by
 obtain ⟨a,rfl⟩:=Int.eq_ofNat_of_zero_le h0
 obtain ⟨c,rfl⟩:=Int.eq_ofNat_of_zero_le h2
 have hmn:m = ((2 ^ k:Nat):Int):=by rw [hm];simp
 subst hmn
 have e0:(a:Int)*((2 ^ k:Nat):Int) = ((a*2 ^ k:Nat):Int):=by simp
 rw [e0] at h1 ⊢
 have hc:c < 2 ^ k:=by omega
 have e:tB 32 ((a*2 ^ k:Nat):Int) (c:Int) = ((a*2 ^ k+c:Nat):Int):=by
  show ((BitVec.ofInt 32 ((a*2 ^ k:Nat):Int) ||| BitVec.ofInt 32 (c:Int)).toNat:Int) = _
  have e1:(BitVec.ofInt 32 ((a*2 ^ k:Nat):Int)).toNat = a <<< k:=by
   rw [BitVec.toNat_ofInt,Nat.shiftLeft_eq]
   omega
  have e2:(BitVec.ofInt 32 (c:Int)).toNat = c:=by
   rw [BitVec.toNat_ofInt]
   omega
  rw [BitVec.toNat_or,e1,e2, ← Nat.shiftLeft_add_eq_or_of_lt hc,Nat.shiftLeft_eq]
 rw [e,fC (by omega) (by omega)]
 omega
theorem sP {b:List Int} {o n i:Nat} (hi:i < n):gD (ak b o n) i 0 = gD b (o+i) 0:=by
 unfold ak
 show ((b.drop o).take n).getD i 0 = b.getD (o+i) 0
 rw [List.getD_eq_getElem?_getD,List.getD_eq_getElem?_getD,List.getElem?_take,if_pos hi,List.getElem?_drop]
theorem Sm {b:List Int} {o:Nat} (h:o+2≤b.length):aC (ak b o 2) = gD b o 0*256+gD b (o+1) 0:=by
 have e:ak b o 2 = [gD b o 0,gD b (o+1) 0]:=by
  have h1:=List.drop_eq_getElem_cons (l:=b) (i:=o) (by omega)
  have h2:=List.drop_eq_getElem_cons (l:=b) (i:=o+1) (by omega)
  unfold ak
  rw [h1,h2,List.take_succ_cons,List.take_succ_cons,List.take_zero]
  congr 1
  ·exact (jE (List.getElem?_eq_getElem _)).symm
  ·congr 1
   exact (jE (List.getElem?_eq_getElem _)).symm
 rw [e]
 simp [aC,tK]
theorem Se {b:List Int} {o:Nat} (h:o+4≤b.length):aC (ak b o 4) = ((gD b o 0*256+gD b (o+1) 0)*256+gD b (o+2) 0)*256+gD b (o+3) 0:=by
 have e:ak b o 4 = [gD b o 0,gD b (o+1) 0,gD b (o+2) 0,gD b (o+3) 0]:=by
  have h1:=List.drop_eq_getElem_cons (l:=b) (i:=o) (by omega)
  have h2:=List.drop_eq_getElem_cons (l:=b) (i:=o+1) (by omega)
  have h3:=List.drop_eq_getElem_cons (l:=b) (i:=o+1+1) (by omega)
  have h4:=List.drop_eq_getElem_cons (l:=b) (i:=o+1+1+1) (by omega)
  unfold ak
  rw [h1,h2,h3,h4,List.take_succ_cons,List.take_succ_cons,List.take_succ_cons,List.take_succ_cons,List.take_zero]
  congr 1
  ·exact (jE (List.getElem?_eq_getElem _)).symm
  ·congr 1
   ·exact (jE (List.getElem?_eq_getElem _)).symm
   ·congr 1
    ·exact (jE (List.getElem?_eq_getElem _)).symm
    ·congr 1
     exact (jE (List.getElem?_eq_getElem _)).symm
 rw [e]
 simp [aC,tK]
def pI (inv:List Int) (s:Nat):Int:=aC (ak inv (1+6*s) 2)
def cI (inv:List Int) (s:Nat):Int:=aC (ak inv (3+6*s) 4)
theorem H8 {inv:List Int} (hb:aB inv) (s:Nat):0≤pI inv s∧pI inv s < 65536:=kg (hb.sub _ 2) (n:=2) cm (by decide)
theorem Rn {inv:List Int} (hb:aB inv) (s:Nat):0≤cI inv s∧cI inv s < 4294967296:=kg (hb.sub _ 4) (n:=4) cm (by decide)
theorem wy {inv:List Int} (hb:aB inv) (hl:inv.length = 37) {s:Nat} (hs:s < 6):rW inv (s:Int) = some (pI inv s,cI inv s):=by
 rw [Hg,ay (n:=6*(s:Int)) (by omega) (by omega),ay (n:=1+6*(s:Int)) (by omega) (by omega),show (1+6*(s:Int)).toNat = 1+6*s by omega,show ((inv.length:Int) - (1+6*(s:Int))).toNat = 36 - 6*s by omega]
 have hsl:(ak inv (1+6*s) (36 - 6*s)).length = 36 - 6*s:=by unfold ak;rw [List.length_take,List.length_drop];omega
 rw [hsl,ab (by omega),ab (by omega),ab (by omega),ab (by omega),ab (by omega),ab (by omega),ab (by omega),ab (by omega),ab (by omega),
  sP (by omega),sP (by omega),sP (by omega),sP (by omega),sP (by omega),sP (by omega)]
 have g0:=hb.gD (1+6*s+0)
 have g1:=hb.gD (1+6*s+1)
 have g2:=hb.gD (1+6*s+2)
 have g3:=hb.gD (1+6*s+3)
 have g4:=hb.gD (1+6*s+4)
 have g5:=hb.gD (1+6*s+5)
 have e2:pI inv s = gD inv (1+6*s+0) 0*256+gD inv (1+6*s+1) 0:=Sm (by omega)
 have e4:cI inv s = ((gD inv (1+6*s+2) 0*256+gD inv (1+6*s+3) 0)*256+gD inv (1+6*s+4) 0)*256+gD inv (1+6*s+5) 0:=by
  unfold cI
  rw [Se (by omega),show 3+6*s = 1+6*s+2 by omega]
 rw [e2,e4]
 generalize gD inv (1+6*s+0) 0 = x0 at *
 generalize gD inv (1+6*s+1) 0 = x1 at *
 generalize gD inv (1+6*s+2) 0 = x2 at *
 generalize gD inv (1+6*s+3) 0 = x3 at *
 generalize gD inv (1+6*s+4) 0 = x4 at *
 generalize gD inv (1+6*s+5) 0 = x5 at *
 rw [ay (n:=x0) (by omega) (by omega),LV g0.1 (by omega) g1.1 g1.2,fC (n:=x2) g2.1 (by omega),fC (n:=x3) g3.1 (by omega),fC (n:=x4) g4.1 (by omega),fC (n:=x5) g5.1 (by omega),fC (n:=x2*16777216) (by omega) (by omega),fC (n:=x3*65536) (by omega) (by omega),fC (n:=x4*256) (by omega) (by omega),
  OT 24 (by decide) g2.1 (by omega) (by omega) (by omega),show x2*16777216+x3*65536 = (x2*256+x3)*65536 by omega,OT 16 (by decide) (by omega) (by omega) (by omega) (by omega),show (x2*256+x3)*65536+x4*256 = ((x2*256+x3)*256+x4)*256 by omega,OT 8 (by decide) (by omega) (by omega) (by omega) (by omega)]
def vS (K:ao) (inv:List Int) (s:Nat):Bool:=aa (pI inv s≤(bB K (s:Int):Int))&&aQ (eu K (s:Int) (pI inv s).toNat) (cI inv s)
def dM (K:ao) (inv:List Int) (s:Nat) (n:Int):Bool:=aa (pI inv s < n)||vS K inv s
def kz (K:ao) (inv:List Int) (s:Nat):List (List Int):=((bi K (s:Int)).filter (dM K inv s)).map fun n=>(K (s:Int) n).getD []
def ct (K:ao) (inv:List Int):List (List Int):=(List.range 6).flatMap (kz K inv)
def Gr (inv:List Int):Bool:=(List.range 6).all fun s=>aa (pI inv s≤999)
theorem wP {inv:List Int}:Gr inv = true↔∀ s < 6,pI inv s≤999:=by
 unfold Gr
 rw [List.all_eq_true]
 constructor
 ·exact fun h s hs=>lO (h s (List.mem_range.2 hs))
 ·exact fun h s hs=>aV (h s (List.mem_range.1 hs))
def zC (inv:List Int):Bool:=am (inv.length:Int) 37&&(am (gD inv 0 0) 73&&Gr inv)
def kC (K:ao) (inv:List Int):List (List Int) × Int:=if zC inv = true then (ct K inv,0) else ([],11)
theorem OH (K:ao) (inv:List Int) (s:Nat):(kz K inv s).length≤999:=by
 unfold kz
 rw [List.length_map]
 exact Nat.le_trans (List.length_filter_le _ _) (uL K s)
theorem tA (K:ao) (inv:List Int):∀ n:Nat,((List.range n).flatMap (kz K inv)).length≤999*n
 | 0=>by simp
 | n+1=>by
  rw [List.range_succ,List.flatMap_append,List.length_append]
  have:=tA K inv n
  have:=OH K inv n
  rw [List.flatMap_cons,List.flatMap_nil,List.append_nil]
  omega
theorem KD {K:ao} {ks vs} (hK:aS K) (h:bg K ks vs) (inv:List Int) {s:Nat} (hs:s < 6) (d:Bool) (hd:d = vS K inv s) (o0:List (List Int)) (ho:o0.length≤10000) :
  aO inv (s:Int) (pI inv s) d (s:Int) ((bi K (s:Int)).length:Int) 0 o0 (bi K (s:Int)) ks vs = dF inv ((s+1:Nat):Int) (o0++kz K inv s) ks vs:=by
 have hn:=uL K (s:Int)
 have loop:=(xH (bi K (s:Int)) (fun i o=>aO inv (s:Int) (pI inv s) d (s:Int) ((bi K (s:Int)).length:Int) i o (bi K (s:Int)) ks vs) (fun o n=>o++if dM K inv s n = true then [(K (s:Int) n).getD []] else []) (fun i o=>o.length≤10000+i) (fun i o hi ho=>⟨by
   show aO _ _ _ _ _ _ _ _ _ _ _ = aO _ _ _ _ _ _ _ _ _ _ _
   rw [iR]
   simp only [dj hi,bH,cond_true,ap,Bool.or_true,cz hi,co hi (by omega)]
   rw [Dg,hd]
   cases hw:dM K inv s (bi K (s:Int))[i] with
   | true =>
    rw [show (aa (pI inv s < (bi K (s:Int))[i])||vS K inv s) = true from hw,cond_true,kW hK h,Option.bind_some,ab (by omega),ab (by omega),if_pos rfl]
   | false =>
    rw [show (aa (pI inv s < (bi K (s:Int))[i])||vS K inv s) = false from hw,cond_false,if_neg (by simp),List.append_nil],by split <;> simp <;> omega⟩) o0 (by omega)).1
 refine Eq.trans loop ?_
 show aO _ _ _ _ _ _ _ _ _ _ _ = _
 rw [iR,cJ,cond_false,ay (by omega) (by omega)]
 have e:∀ (m:List Int) (o:List (List Int)),m.foldl (fun o n=>o++if dM K inv s n = true then [(K (s:Int) n).getD []] else []) o = o++(m.filter (dM K inv s)).map fun n=>(K (s:Int) n).getD []:=by
  intro m
  induction m with
  | nil=>intro o;simp
  | cons x m ih =>
   intro o
   rw [List.foldl_cons,ih,List.filter_cons]
   split <;> simp
 rw [e]
 rfl
theorem yI {K:ao} {ks vs} (hK:aS K) (h:bg K ks vs) (hk:ks.length≤100000) {inv:List Int} (hb:aB inv) (hl:inv.length = 37):∀ (k n:Nat),n+k = 6→dF inv (n:Int) ((List.range n).flatMap (kz K inv)) ks vs = some (ct K inv,0,ks,vs)
 | 0,n,hn=>by
  rw [jW,bp (by omega),cond_false,show n = 6 by omega]
  rfl
 | k+1,n,hn=>by
  have hr:=H8 hb n
  have hp9:=l8 hK (n:Int)
  have hml:=tA K inv n
  have step:∀ d,d = vS K inv n→aO inv (n:Int) (pI inv n) d (n:Int) ((bi K (n:Int)).length:Int) 0 ((List.range n).flatMap (kz K inv)) (bi K (n:Int)) ks vs = some (ct K inv,0,ks,vs):=by
   intro d hd
   rw [KD hK h inv (by omega) d hd _ (by omega)]
   have:=yI hK h hk hb hl k (n+1) (by omega)
   rw [List.range_succ,List.flatMap_append,List.flatMap_cons,List.flatMap_nil,List.append_nil] at this
   exact this
  rw [jW,aV (by omega),cond_true,wy hb hl (by omega),Option.bind_some,fI hK h,Option.bind_some]
  dsimp only
  by_cases hp:pI inv n≤(bB K (n:Int):Int)
  ·have e:pI inv n = ((pI inv n).toNat:Int):=by omega
   have e2:gg (n:Int) (pI inv n) ks vs = some (eu K (n:Int) (pI inv n).toNat,ks,vs):=by
    rw [e]
    have:=nk hK h (n:Int) (p:=(pI inv n).toNat) (by omega)
    rw [this]
    congr 2
   rw [aV hp,cond_true,e2,Option.bind_some]
   dsimp only
   rw [iO hK h hk,Option.bind_some]
   exact step _ (by unfold vS;rw [aV hp,Bool.true_and])
  ·rw [bp hp,cond_false,iO hK h hk,Option.bind_some]
   exact step _ (by unfold vS;rw [bp hp,Bool.false_and])
theorem wu {K:ao} {ks vs} (hK:aS K) (h:bg K ks vs) (hk:ks.length≤100000) {inv:List Int} (hb:aB inv) (hl:inv.length = 37):∀ (k n:Nat),n+k = 6→(∀ s < n,pI inv s≤999) →
  eG inv (n:Int) ks vs = some (if Gr inv = true then (ct K inv,0,ks,vs) else ([],11,ks,vs))
 | 0,n,hn,hs=>by
  rw [j7,bp (by omega),cond_false,if_pos (wP.2 (by rw [show 6 = n by omega];exact hs))]
  exact yI hK h hk hb hl 6 0 rfl
 | k+1,n,hn,hs=>by
  rw [j7,aV (by omega),cond_true,wy hb hl (by omega),Option.bind_some]
  dsimp only
  by_cases hp:pI inv n≤999
  ·rw [bp (by omega),cond_false,ay (by omega) (by omega)]
   have:=wu hK h hk hb hl k (n+1) (by omega) (fun s h1=>by
    by_cases e:s = n
    ·rw [e];exact hp
    ·exact hs s (by omega))
   rw [show ((n+1:Nat):Int) = (n:Int)+1 by omega] at this
   exact this
  ·rw [aV (by omega),cond_true,if_neg fun hh=>hp (wP.1 hh n (by omega))]
theorem FK {inv:List Int} (hl:inv.length = 37) (h0:gD inv 0 0 = 73):zC inv = Gr inv:=by
 unfold zC
 rw [aZ.2 (show (inv.length:Int) = 37 by omega),aZ.2 h0,Bool.true_and,Bool.true_and]
theorem bO {K:ao} {ks vs} (hK:aS K) (h:bg K ks vs) (hk:ks.length≤100000) {inv:List Int} (hb:aB inv):bN inv ks vs = some ((kC K inv).1,(kC K inv).2,ks,vs):=by
 rw [wB,Bool.or_true,ap]
 unfold kC
 by_cases hl:inv.length = 37
 ·rw [i7 (by rw [aV (by omega),Bool.or_true]),bj.2 (by omega),cond_false]
  by_cases h0:gD inv 0 0 = 73
  ·rw [bj.2 h0,cond_false]
   have:=wu hK h hk hb hl 6 0 rfl (fun s hs=>by omega)
   rw [show ((0:Nat):Int) = 0 from rfl] at this
   rw [this]
   rw [FK hl h0]
   cases Gr inv <;> rfl
  ·rw [bS.2 h0,cond_true,if_neg]
   unfold zC
   rw [eJ.2 h0];simp
 ·rw [i7 (by rw [bS.2 (by omega)];rfl),bS.2 (by omega),cond_true,cond_true,if_neg]
  unfold zC
  rw [eJ.2 (by omega)];simp
end Go.Ax
