import Derived.Test.YtbjfcadcipfolaaGreatYP56
set_option linter.all false
/- What counts of the documents that are kept: both texts find the same. -/
set_option maxRecDepth 100000
namespace Go.Ax
theorem dG {K:ay} {ks vs} (h:bI K ks vs) (s n:Int):em s n ks vs = some ((K s n).getD [],(K s n).isSome,ks,vs):=by
 rw [AA,h.get,h.has]
theorem MX {K:ay} (hK:bL K) (s n:Int):((K s n).getD []).length≤58∧aG ((K s n).getD []):=by
 cases hb:K s n with
 | none=>exact ⟨by simp,pl⟩
 | some b=>exact ⟨(hK.rng hb).2.2.2,(hK _ _ _ hb).1⟩
theorem y5 {K:ay} {ks vs} (hK:bL K) (h:bI K ks vs) (s n:Int):o4 s n ks vs = some ((K s n).getD [],(K s n).isSome,ks,vs):=by
 rw [As,dG h,Option.bind_some]
 show ((fN ((K s n).getD [])).bind fun r1=>_) = _
 rw [nX (by have:=(MX hK s n).1;omega)]
 rfl
theorem EZ {K:ay} {L:List Kd} (h:fe K L) (hl:L.length≤1000000000) (s n:Int):∃ i:Nat,dD ⟨L⟩ s n = some ((i:Int),(K s n).isSome)∧∀ b,K s n = some b→i < L.length∧gD L (i:Int).toNat (zS .GPensionref31_kept) = ⟨ap b,b⟩:=by
 obtain ⟨A,B,is,hL,hA,hf,hc⟩:=IW h hl s n
 refine ⟨A.length, ?_,fun b hb=>?_⟩
 ·rcases hc with ⟨rfl,x,C,_,_,_,e,_⟩ | ⟨rfl,e,_⟩
  ·rw [hf,e];rfl
  ·rw [hf,e];rfl
 ·rcases hc with ⟨rfl,x,C,rfl,_,_,e,e4,_⟩ | ⟨rfl,e,_⟩
  ·have hi:A.length < L.length:=by rw [hL];simp
   refine ⟨hi, ?_⟩
   rw [cd hi]
   simp only [hL,List.getElem_append_right (Nat.le_refl _),Nat.sub_self,List.getElem_cons_zero]
   rw [hb] at e
   injection e with e
   rw [e]
   cases x with
   | mk D B=>simp only at e4 ⊢; rw [e4]
  ·rw [hb] at e;cases e
def xF (K:ay) (s:Int):Nat→Nat→Nat
 | 0,p=>p
 | k+1,p=>if (K s ((p:Int)+1)).isSome = true then xF K s k (p+1) else p
def dU (K:ay) (s:Int):Nat:=xF K s 1000 0
theorem qA {K:ay} (hK:bL K) (s:Int) {n:Int} (h:n < 1∨999 < n):K s n = none:=by
 cases hb:K s n with
 | none=>rfl
 | some b=>have:=(hK.rng hb).2.1;omega
theorem Gc {K:ay} (hK:bL K) (s:Int):∀ (k p:Nat),p+k = 1000→(∀ n:Nat,1≤n→n≤p→(K s n).isSome = true) →
  (∀ n:Nat,1≤n→n≤xF K s k p→(K s n).isSome = true)∧K s ((xF K s k p:Nat)+1) = none
 | 0,p,hp,h=>⟨h,qA hK s (.inr (by show (999:Int) < (p:Int)+1;omega))⟩
 | k+1,p,hp,h=>by
  unfold xF
  split
  ·next hh =>
   refine Gc hK s k (p+1) (by omega) fun n h1 h2=>?_
   by_cases e:n = p+1
   ·subst e;exact hh
   ·exact h n h1 (by omega)
  ·next hh =>
   refine ⟨h, ?_⟩
   cases hb:K s ((p:Int)+1) with
   | none=>rfl
   | some b=>exact absurd (by rw [hb];rfl) hh
theorem qr {K:ay} (hK:bL K) (s:Int):(∀ n:Nat,1≤n→n≤dU K s→(K s n).isSome = true)∧K s ((dU K s:Nat)+1) = none :=
 Gc hK s 1000 0 rfl fun n h1 h2=>by omega
theorem rW {K:ay} (hK:bL K) (s:Int):dU K s≤999:=by
 rcases Nat.lt_or_ge 999 (dU K s) with h | h
 ·have:=(qr hK s).1 (dU K s) (by omega) (Nat.le_refl _)
  rw [qA hK s (.inr (by omega))] at this
  cases this
 ·exact h
theorem FW {K:ay} (hK:bL K) (s:Int) {p:Nat} (h1:∀ n:Nat,1≤n→n≤p→(K s n).isSome = true) (h2:K s ((p:Int)+1) = none):dU K s = p:=by
 obtain ⟨a,b⟩:=qr hK s
 rcases Nat.lt_trichotomy (dU K s) p with h | h | h
 ·have:=h1 (dU K s+1) (by omega) (by omega)
  rw [show ((dU K s+1:Nat):Int) = (dU K s:Nat)+1 by omega,b] at this
  cases this
 ·exact h
 ·have:=a (p+1) (by omega) (by omega)
  rw [show ((p+1:Nat):Int) = (p:Int)+1 by omega,h2] at this
  cases this
theorem yy {K:ay} {ks vs} (hK:bL K) (h:bI K ks vs) (s:Int):∀ (k p:Nat),p+k = 1000→fc s (p:Int) ks vs = some ((xF K s k p:Int),ks,vs)
 | 0,p,hp=>by
  rw [kV,aA (by omega) (by omega),dG h,Option.bind_some,qA hK s (.inr (by omega))]
  rfl
 | k+1,p,hp=>by
  rw [kV,aA (by omega) (by omega),dG h,Option.bind_some]
  unfold xF
  cases hb:K s ((p:Int)+1) with
  | none=>rfl
  | some b=>exact yy hK h s k (p+1) (by omega)
theorem iS {K:ay} {ks vs} (hK:bL K) (h:bI K ks vs) (s:Int):fB s ks vs = some ((dU K s:Int),ks,vs):=by
 rw [wx];exact yy hK h s 1000 0 rfl
theorem AR {K:ay} {L:List Kd} (hK:bL K) (h:fe K L) (hl:L.length≤1000000000) (s:Int):∀ (k p:Nat),p+k = 1000→eD ⟨L⟩ s (p:Int) = some (xF K s k p:Int)
 | 0,p,hp=>by
  obtain ⟨i,h1,h2⟩:=EZ h hl s ((p:Int)+1)
  rw [kh,aA (by omega) (by omega),h1,Option.bind_some,qA hK s (.inr (by omega))]
  rfl
 | k+1,p,hp=>by
  obtain ⟨i,h1,h2⟩:=EZ h hl s ((p:Int)+1)
  rw [kh,aA (by omega) (by omega),h1,Option.bind_some]
  unfold xF
  cases hb:K s ((p:Int)+1) with
  | none=>rfl
  | some b=>exact AR hK h hl s k (p+1) (by omega)
theorem uU {K:ay} {L:List Kd} (hK:bL K) (h:fe K L) (hl:L.length≤1000000000) (s:Int):gM ⟨L⟩ s = some (dU K s:Int):=by
 rw [vw];exact AR hK h hl s 1000 0 rfl
def dS (b:List Int):Int:=aC (b.drop (b.length - 4))
theorem qm {b:List Int} (hb:aG b):0≤dS b∧dS b < 4294967296 :=
 lF (hb.drop _) (n:=4) (by rw [List.length_drop];omega) (by decide)
theorem Ao {b:List Int} (hb:aG b) (hB:b.length≤1000000000000):mz b = some (dS b):=by
 rw [BZ]
 have e:(bif aa (0 < ac ((b.length:Int) - 4)) then ac ((b.length:Int) - 4) else 0) = ((b.length - 4:Nat):Int):=by
  rw [aA (by omega) (by omega)]
  by_cases h:4 < b.length
  ·rw [aT (by omega),cond_true];omega
  ·rw [aX (by omega),cond_false];omega
 rw [e,jI b (by omega) (by omega),Int.toNat_natCast,ab (by omega),ab (by omega),ab (by omega)]
 have hd:(b.drop (b.length - 4)).length≤4:=by rw [List.length_drop];omega
 rw [Bt (hb.drop _) (by omega) (Nat.le_refl _) (by omega),Option.bind_some,List.take_of_length_le (Nat.le_refl _)]
 have:=qm hb
 show some (IntKind.wrap .u32 (dS b)) = _
 rw [fw this.1 this.2]
theorem Fg {b:List Int} (hb:aG b) (hB:b.length≤1000000000000):iv b = some (if b.length < 4 then 0 else dS b):=by
 rw [GI]
 by_cases h:b.length < 4
 ·rw [aT (by omega),cond_true,if_pos h]
 ·have e:ac ((b.length:Int) - 4) = ((b.length - 4:Nat):Int):=by rw [aA (by omega) (by omega)];omega
  have hd:(b.drop (b.length - 4)).length≤4:=by rw [List.length_drop];omega
  have:=qm hb
  rw [aX (by omega),cond_false,if_neg h,e,jI b (by omega) (by omega),Int.toNat_natCast,ab (by omega),ab (by omega),ab (by omega),bE (hb.drop _) (by omega),Option.bind_some]
  show some (IntKind.wrap .u32 (dS b)) = _
  rw [fw this.1 this.2]
theorem iy {b:List Int} (hb:aG b) (h4:4≤b.length) (hB:b.length≤1000000000000):iv b = some (dS b):=by
 rw [Fg hb hB,if_neg (by omega)]
def gE (K:ay) (s:Int):Nat→Nat→Int→List GDocument
 | 0,_,_=>[]
 | k+1,n,prev=>match K s (n:Int) with
  | none=>[]
  | some b=>if (ap b).Prev = prev then ap b :: gE K s k (n+1) (dS b) else []
def eZ (K:ay) (s:Int):List GDocument:=gE K s 1000 1 0
theorem JS (K:ay) (s:Int):∀ (k n:Nat) (prev:Int),(gE K s k n prev).length≤k
 | 0,_,_=>by simp [gE]
 | k+1,n,prev=>by
  unfold gE
  split
  ·simp
  ·split
   ·have:=JS K s k (n+1)
    simp [this]
   ·simp
theorem Qc {b:List Int} (h:dl b = true):pe b = (ap b,0):=by rw [EF,if_pos h]
theorem yT {K:ay} {ks vs} (hK:bL K) (h:bI K ks vs) (s:Int):∀ (k n:Nat) (prev:Int) (out:List GDocument),n+k = 1001→out.length≤n→cX s prev (n:Int) out ks vs = some (out++gE K s k n prev,ks,vs)
 | 0,n,prev,out,hn,ho=>by
  rw [jk,dG h,Option.bind_some,qA hK s (.inr (by omega))]
  show some (out,ks,vs) = some (out++[],ks,vs)
  rw [List.append_nil]
 | k+1,n,prev,out,hn,ho=>by
  rw [jk,dG h,Option.bind_some]
  unfold gE
  cases hb:K s (n:Int) with
  | none =>
   show some (out,ks,vs) = some (out++[],ks,vs)
   rw [List.append_nil]
  | some b =>
   obtain ⟨h1,h2,_,_⟩:=hK _ _ _ hb
   have hlen:=(hK.rng hb).2.2
   show ((iA b).bind fun r1=>bif (bif (aV r1.2 0) then true else (aV r1.1.Prev prev)) then some (out,ks,vs) else gb (aa (((out.length+1)*56)≤140737488355328))<|gb (aa ((out.length+1)≤140737488355328))<|(mz b).bind fun r2=>cX s r2 (ac ((n:Int)+1)) (out++[r1.1]) ks vs) = some (out++(if (ap b).Prev = prev then ap b :: gE K s k (n+1) (dS b) else []),ks,vs)
   rw [oS h1 (by omega),Option.bind_some,Qc h2]
   simp only
   rw [bQ.2 rfl,cond_false]
   by_cases hp:(ap b).Prev = prev
   ·rw [bQ.2 hp,cond_false,ab (by omega),ab (by omega),Ao h1 (by omega),Option.bind_some,if_pos hp,aA (by omega) (by omega)]
    have:=yT hK h s k (n+1) (dS b) (out++[ap b]) (by omega) (by simp;omega)
    rw [show ((n+1:Nat):Int) = (n:Int)+1 by omega] at this
    rw [this,List.append_assoc]
    rfl
   ·rw [bS.2 hp,cond_true,if_neg hp,List.append_nil]
theorem gg {K:ay} {ks vs} (hK:bL K) (h:bI K ks vs) (s:Int):dP s ks vs = some (eZ K s,ks,vs):=by
 rw [tu]
 exact yT hK h s 1000 1 0 [] rfl (by simp)
theorem qa {K:ay} {ks vs} (hK:bL K) (h:bI K ks vs) (s:Int):lQ s ks vs = some (((eZ K s).length:Int),ks,vs):=by
 rw [Az,gg hK h];rfl
theorem Cg {K:ay} {s:Int} {n:Nat} (h:K s (n:Int) = none) (k:Nat) (prev:Int):gE K s k n prev = []:=by
 cases k with
 | zero=>rfl
 | succ k=>unfold gE;rw [h]
theorem Kr {K:ay} {L:List Kd} (hK:bL K) (h:fe K L) (hl:L.length≤1000000000) (s:Int):∀ (k n:Nat) (prev:Int) (out:List GDocument),n+k = 1001→1≤n→n≤dU K s+1→out.length≤n →
  dB s prev (dU K s:Int) (n:Int) ⟨L⟩ out = some (⟨L⟩,out++gE K s k n prev)∧cP ⟨L⟩ s prev (dU K s:Int) (n:Int) out = some (out++gE K s k n prev):=by
 intro k
 induction k with
 | zero =>
  intro n prev out hn h1 _ ho
  have hp:=rW hK s
  rw [cQ,cn,aX (by omega),cond_false,cond_false]
  simp [gE]
 | succ k ih =>
  intro n prev out hn h1 hnl ho
  by_cases hnp:n≤dU K s
  ·have hs:=(qr hK s).1 n h1 hnp
   cases hb:K s (n:Int) with
   | none=>rw [hb] at hs;cases hs
   | some b =>
    obtain ⟨g1,g2,_,_⟩:=hK _ _ _ hb
    have hlen:=(hK.rng hb).2.2
    obtain ⟨i,f1,f2⟩:=EZ h hl s (n:Int)
    obtain ⟨f3,f4⟩:=f2 b hb
    have hbl:(ap b).Body.length≤58:=by
     have:=Bu (ap b)
     rw [((k7 g1).1 g2).2.2.2.1] at this
     omega
    have e:gE K s (k+1) n prev = if (ap b).Prev = prev then ap b :: gE K s k (n+1) (dS b) else []:=by
     show (match K s (n:Int) with | none=>[] | some b=>if (ap b).Prev = prev then ap b :: gE K s k (n+1) (dS b) else []) = _
     rw [hb]
    rw [e]
    by_cases hp:(ap b).Prev = prev
    ·obtain ⟨i1,i2⟩:=ih (n+1) (dS b) (out++[ap b]) (by omega) (by omega) (by omega) (by simp;omega)
     rw [if_pos hp]
     refine ⟨?_, ?_⟩
     ·rw [cQ,aT (by omega),cond_true,f1,Option.bind_some]
      simp only
      rw [f4,ab (by omega),ab (by omega)]
      simp only
      rw [bQ.2 hp,cond_false,ab (by omega),ab (by omega),iy g1 (by omega) (by omega),Option.bind_some,ab (by omega),ab (by omega),ab (by omega),ab (by omega),aA (by omega) (by omega),show (n:Int)+1 = ((n+1:Nat):Int) by omega,i1,List.append_assoc]
      rfl
     ·rw [cn,aT (by omega),cond_true,f1,Option.bind_some]
      simp only
      rw [f4,ab (by omega),ab (by omega)]
      simp only
      rw [bQ.2 hp,cond_false,ab (by omega),ab (by omega),iy g1 (by omega) (by omega),Option.bind_some,ab (by omega),ab (by omega),ab (by omega),ab (by omega),aA (by omega) (by omega),show (n:Int)+1 = ((n+1:Nat):Int) by omega,i2,List.append_assoc]
      rfl
    ·rw [if_neg hp,List.append_nil]
     refine ⟨?_, ?_⟩
     ·rw [cQ,aT (by omega),cond_true,f1,Option.bind_some]
      simp only
      rw [f4,ab (by omega),ab (by omega)]
      simp only
      rw [bS.2 hp,cond_true]
     ·rw [cn,aT (by omega),cond_true,f1,Option.bind_some]
      simp only
      rw [f4,ab (by omega),ab (by omega)]
      simp only
      rw [bS.2 hp,cond_true]
  ·rw [cQ,cn,aX (by omega),cond_false,cond_false]
   have:gE K s (k+1) n prev = []:=by
    refine Cg ?_ _ _
    rw [show n = dU K s+1 by omega]
    exact (qr hK s).2
   rw [this,List.append_nil]
   exact ⟨rfl,rfl⟩
theorem ro {K:ay} {L:List Kd} (hK:bL K) (h:fe K L) (hl:L.length≤1000000000) (s:Int):iZ s ⟨L⟩ = some (⟨L⟩,eZ K s)∧fW ⟨L⟩ s = some (eZ K s):=by
 rw [sm,qh,uU hK h hl,Option.bind_some,Option.bind_some]
 exact Kr hK h hl s 1000 1 0 [] rfl (by omega) (by omega) (by simp)
def GZ (b:List Int):List Int:=b.drop (b.length - 4)
def uw (K:ay) (s:Int) (p:Nat):List Int:=(List.range p).flatMap fun (i:Nat)=>GZ ((K s ((i:Int)+1)).getD [])
def Eb (K:ay) (s:Int) (p:Nat):Int:=kL (uw K s p)
theorem xD (K:ay) (s:Int) (p:Nat):uw K s (p+1) = uw K s p++GZ ((K s ((p:Int)+1)).getD []):=by
 unfold uw
 rw [List.range_succ,List.flatMap_append]
 simp
theorem NF (b:List Int):(GZ b).length≤4:=by unfold GZ;rw [List.length_drop];omega
theorem yN (K:ay) (s:Int):∀ p:Nat,(uw K s p).length≤4*p
 | 0=>by simp [uw]
 | p+1=>by
  rw [xD,List.length_append]
  have:=yN K s p
  have:=NF ((K s ((p:Int)+1)).getD [])
  omega
theorem IU {K:ay} (hK:bL K) (s:Int):∀ p:Nat,aG (uw K s p)
 | 0=>pl
 | p+1=>by
  rw [xD]
  exact bC.2 ⟨IU hK s p,(MX hK s _).2.drop _⟩
theorem yL {K:ay} {ks vs} (hK:bL K) (h:bI K ks vs) (s:Int) {p:Nat} (hp:p≤dU K s):∀ (k n:Nat),n+k = p→ff s (p:Int) ((n:Int)+1) (uw K s n) ks vs = some (Eb K s p,ks,vs)
 | 0,n,hn=>by
  have:=yN K s n
  have:=rW hK s
  rw [kG,aX (by omega),cond_false,iV (IU hK s n) (by omega),Option.bind_some,show n = p by omega]
  rfl
 | k+1,n,hn=>by
  have hs:=(qr hK s).1 (n+1) (by omega) (by omega)
  have h9:=rW hK s
  have htl:=yN K s n
  rw [show ((n+1:Nat):Int) = (n:Int)+1 by omega] at hs
  cases hb:K s ((n:Int)+1) with
  | none=>rw [hb] at hs;cases hs
  | some b =>
   have hlen:=(hK.rng hb).2.2
   have e:ac ((b.length:Int) - 4) = ((b.length - 4:Nat):Int):=by rw [aA (by omega) (by omega)];omega
   have hd:(b.drop (b.length - 4)).length = 4:=by rw [List.length_drop];omega
   rw [kG,aT (by omega),cond_true,show em s ((n:Int)+1) ks vs = some (b,true,ks,vs) by rw [dG h,hb];rfl,Option.bind_some,e]
   dsimp only
   rw [jI b (by omega) (by omega),Int.toNat_natCast,hd,ab (by omega),ab (by omega),ab (by omega),ab (by omega),ab (by omega),aA (by omega) (by omega)]
   have:=yL hK h s hp k (n+1) (by omega)
   rw [xD,hb,show ((n+1:Nat):Int) = (n:Int)+1 by omega] at this
   exact this
theorem nb {K:ay} {ks vs} (hK:bL K) (h:bI K ks vs) (s:Int) {p:Nat} (hp:p≤dU K s):fo s (p:Int) ks vs = some (Eb K s p,ks,vs):=by
 rw [wM]
 exact yL hK h s hp p 0 (by omega)
def uE (K:ay) (s:Int):List Int:=am (dU K s) 2++am (Eb K s (dU K s)) 4
def mM (K:ay):List Int:=73 :: (List.range 6).flatMap fun (s:Nat)=>uE K (s:Int)
theorem O6 (K:ay) (s:Int):(uE K s).length = 6:=by simp [uE,av]
theorem xH (K:ay):∀ n:Nat,((List.range n).flatMap fun (s:Nat)=>uE K (s:Int)).length = 6*n
 | 0=>rfl
 | n+1=>by rw [List.range_succ,List.flatMap_append,List.length_append,xH K n];simp [O6];omega
theorem Mi {p:Nat}:[IntKind.wrap .u8 (Int.fdiv (p:Int) 256),IntKind.wrap .u8 (p:Int)] = am p 2:=by
 rw [n9,n9,Int.fdiv_eq_ediv_of_nonneg _ (by omega)]
 simp [am]
theorem L6 {c:Int}:[IntKind.wrap .u8 (Int.fdiv c 16777216),IntKind.wrap .u8 (Int.fdiv c 65536),IntKind.wrap .u8 (Int.fdiv c 256),IntKind.wrap .u8 c] = am c 4:=by
 rw [n9,n9,n9,n9,Int.fdiv_eq_ediv_of_nonneg _ (by omega),Int.fdiv_eq_ediv_of_nonneg _ (by omega),Int.fdiv_eq_ediv_of_nonneg _ (by omega)]
 simp [am]
theorem zk {K:ay} {ks vs} (hK:bL K) (h:bI K ks vs):∀ (k n:Nat),n+k = 6→dV (n:Int) (73 :: (List.range n).flatMap fun (s:Nat)=>uE K (s:Int)) ks vs = some (mM K,ks,vs)
 | 0,n,hn=>by
  rw [jn,aX (by omega),cond_false,show n = 6 by omega]
  rfl
 | k+1,n,hn=>by
  have hl:(73 :: (List.range n).flatMap fun (s:Nat)=>uE K (s:Int)).length = 6*n+1:=by rw [List.length_cons,xH]
  rw [jn,aT (by omega),cond_true,iS hK h,Option.bind_some]
  simp only
  rw [nb hK h _ (Nat.le_refl _),Option.bind_some]
  simp only
  rw [hl,ab (by omega),ab (by omega),aA (by omega) (by omega)]
  have:=zk hK h k (n+1) (by omega)
  rw [List.range_succ,List.flatMap_append,show ((n+1:Nat):Int) = (n:Int)+1 by omega] at this
  rw [← this]
  congr 1
  rw [List.cons_append]
  congr 1
  congr 1
  rw [List.flatMap_cons,List.flatMap_nil,List.append_nil]
  unfold uE
  rw [← Mi, ← L6]
  rfl
theorem dM {K:ay} {ks vs} (hK:bL K) (h:bI K ks vs):db ks vs = some (mM K,ks,vs):=by
 rw [tB]
 exact zk hK h 6 0 rfl
theorem Is (K:ay):(mM K).length = 37:=by unfold mM;rw [List.length_cons,xH]
theorem EV (K:ay):aG (mM K):=by
 unfold mM
 refine cT.2 ⟨by omega,fun x hx=>?_⟩
 obtain ⟨s,_,hs⟩:=List.mem_flatMap.1 hx
 exact bC.2 ⟨aW _ _,aW _ _⟩ x hs
end Go.Ax
set_option linter.all false
/- The numbers of a sender's documents, and what another feed lacks: both texts find the same. -/
set_option maxRecDepth 100000
namespace Go.Ax
theorem Iq {a b:List Int} (ha:a.Pairwise (· < ·)) (hb:b.Pairwise (· < ·)) (h:∀ x,x∈a↔x∈b):a = b :=
 List.Perm.eq_of_pairwise (le:=fun x y=>x < y) (fun x y _ _ h1 h2=>by omega) ha hb ((List.perm_ext_iff_of_nodup (ha.imp fun h=>Int.ne_of_lt h) (hb.imp fun h=>Int.ne_of_lt h)).2 h)
theorem NS {k:List Int} (h:k.Nodup):(jf k).Pairwise (· < ·):=by
 have h1:=qH k
 have h2:(jf k).Nodup:=(pO k).nodup_iff.2 h
 exact (h1.and h2).imp fun ⟨a,b⟩=>by omega
theorem HC (n:Nat):((List.range n).map fun p:Nat=>(p:Int)).Nodup:=by
 rw [List.nodup_iff_pairwise_ne,List.pairwise_map]
 exact List.Pairwise.imp (fun h e=>h (by omega)) (List.nodup_iff_pairwise_ne.1 List.nodup_range)
theorem KJ {n:Nat} {wl:List Int} (hnd:wl.Nodup) (hr:∀ x∈wl,0≤x∧x < (n:Int)) (hlen:wl.length = n):wl.Perm ((List.range n).map fun p:Nat=>(p:Int)):=by
 have sub:wl ⊆ (List.range n).map fun p:Nat=>(p:Int):=by
  intro x hx
  have:=hr x hx
  exact List.mem_map.2 ⟨x.toNat,List.mem_range.2 (by omega),by omega⟩
 rw [List.perm_ext_iff_of_nodup hnd (HC n)]
 intro a
 refine ⟨fun h=>sub h,fun h=>?_⟩
 by_cases ha:a∈wl
 ·exact ha
 ·exfalso
  have h1:(a :: wl).Nodup:=List.nodup_cons.2 ⟨ha,hnd⟩
  have h2:(a :: wl) ⊆ (List.range n).map fun p:Nat=>(p:Int):=fun x hx=>by
   rcases List.mem_cons.1 hx with rfl | hx
   ·exact h
   ·exact sub hx
  have:=h1.length_le_of_subset h2
  simp at this
  omega
theorem I1 {n:Nat} {wl:List Int} (hlen:wl.length < n):iL n wl≠[]:=by
 intro h
 have sub:((List.range n).map fun p:Nat=>(p:Int)) ⊆ wl:=by
  intro x hx
  obtain ⟨p,hp,rfl⟩:=List.mem_map.1 hx
  rw [List.mem_range] at hp
  by_cases hm:(p:Int)∈wl
  ·exact hm
  ·have:=nk.2 ⟨hp,hm⟩
   rw [h] at this
   cases this
 have:=(HC n).length_le_of_subset sub
 simp at this
 omega
theorem I7 {n:Nat} {wl:List Int} (hw:wl.Perm ((List.range n).map fun p:Nat=>(p:Int))):iL n wl = []:=by
 cases h:iL n wl with
 | nil=>rfl
 | cons p r =>
  have hm:p∈iL n wl:=by rw [h];simp
  obtain ⟨h1,h2⟩:=nk.1 hm
  exact absurd (hw.mem_iff.2 (List.mem_map.2 ⟨p,List.mem_range.2 h1,rfl⟩)) h2
theorem PA {T:Type} {l:List T} (h:l≠[]):l.isEmpty = false:=by
 cases l with
 | nil=>exact absurd rfl h
 | cons x r=>rfl
theorem M2 {T:Type} (l:List T) (z:T):l = (List.range l.length).map fun p=>gD l ((p:Nat):Int).toNat z:=by
 apply List.ext_getElem (by simp)
 intro i h1 h2
 rw [List.getElem_map,List.getElem_range,cd h1]
def eH (K:ay) (s:Int):List Int:=((List.range 999).filter fun i:Nat=>(K s ((i:Int)+1)).isSome).map fun i:Nat=>(i:Int)+1
theorem y9 {K:ay} (hK:bL K) (s n:Int):n∈eH K s↔(K s n).isSome = true:=by
 unfold eH
 rw [List.mem_map]
 constructor
 ·rintro ⟨i,hi,rfl⟩
  exact (List.mem_filter.1 hi).2
 ·intro h
  cases hb:K s n with
  | none=>rw [hb] at h;cases h
  | some b =>
   have:=(hK.rng hb).2.1
   refine ⟨(n - 1).toNat,List.mem_filter.2 ⟨List.mem_range.2 (by omega), ?_⟩,by omega⟩
   rw [show (((n - 1).toNat:Nat):Int)+1 = n by omega]
   exact h
theorem FE (K:ay) (s:Int):(eH K s).Pairwise (· < ·):=by
 unfold eH
 rw [List.pairwise_map]
 exact (List.pairwise_lt_range.filter _).imp fun h=>by omega
theorem F6 (K:ay) (s:Int):(eH K s).length≤999:=by
 unfold eH
 rw [List.length_map]
 have:=List.length_filter_le (fun i:Nat=>(K s ((i:Int)+1)).isSome) (List.range 999)
 rw [List.length_range] at this
 exact this
def Ey (s:Int) (ks:List Fk) (x:Int):List Int:=if (gD ks x.toNat (zS .GFeed_key)).sender = s then [(gD ks x.toNat (zS .GFeed_key)).number] else []
theorem N8 {K:ay} {ks:List Fk} {vs:List (List Int)} (hK:bL K) (h:bI K ks vs) (hk:ks.length≤100000) (s:Int):∀ (n:Nat) (out:List Int) (wl:List Int),
  wl.Nodup→(∀ x∈wl,0≤x∧x < (ks.length:Int))→wl.length+n = ks.length→out.Perm (wl.flatMap (Ey s ks))→out.length≤wl.length →
  dh s out (ks.length:Int) wl ks vs = some (eH K s,ks,vs):=by
 intro n
 induction n with
 | zero =>
  intro out wl hnd hr hlen hp ho
  have hw:=KJ hnd hr (by omega)
  rw [jV,gn,an,I7 hw]
  show (gb (aa (out.length≤1000000))<|some (jf out,ks,vs)) = _
  rw [ab (by omega)]
  congr 1
  congr 1
  have hp2:out.Perm (ks.flatMap fun k=>if k.sender = s then [k.number] else []):=by
   refine hp.trans ((List.Perm.flatMap_right _ hw).trans ?_)
   rw [List.flatMap_map]
   have:(List.range ks.length).flatMap (fun p:Nat=>Ey s ks (p:Int)) = ks.flatMap fun k=>if k.sender = s then [k.number] else []:=by
    conv=>rhs;rw [M2 ks (zS .GFeed_key),List.flatMap_map]
    rfl
   rw [this]
  have e:(ks.flatMap fun k=>if k.sender = s then [k.number] else []) = (ks.filter fun k=>ak k.sender s).map fun k=>k.number:=by
   rw [← uo]
   congr 1
   funext k
   by_cases hks:k.sender = s
   ·rw [if_pos hks,if_pos (aY.2 hks)]
   ·rw [if_neg hks,if_neg (by rw [eF.2 hks];simp)]
  rw [e] at hp2
  have hnd2:((ks.filter fun k=>ak k.sender s).map fun k=>k.number).Nodup:=by
   rw [List.nodup_iff_pairwise_ne,List.pairwise_map]
   have h1:(ks.filter fun k=>ak k.sender s).Pairwise (·≠·):=(List.nodup_iff_pairwise_ne.1 h.nd).filter _
   refine h1.imp_of_mem fun {a b} ha hb hne he=>hne ?_
   have e1:=aY.1 (List.mem_filter.1 ha).2
   have e2:=aY.1 (List.mem_filter.1 hb).2
   cases a with
   | mk a1 a2=>cases b with
    | mk b1 b2=>simp only at e1 e2 he;rw [e1,e2,he]
  refine Iq (NS (hp2.nodup_iff.2 hnd2)) (FE K s) fun z=>?_
  rw [(pO out).mem_iff,hp2.mem_iff,y9 hK,List.mem_map, ← h.has,Ad]
  constructor
  ·rintro ⟨k,hk,rfl⟩
   obtain ⟨k1,k2⟩:=List.mem_filter.1 hk
   have e1:=aY.1 k2
   cases k with
   | mk a b=>simp only at e1 k1 ⊢; rw [← e1];exact k1
  ·intro hm
   exact ⟨_,List.mem_filter.2 ⟨hm,gn s⟩,rfl⟩
 | succ n ih =>
  intro out wl hnd hr hlen hp ho
  have hne:=I1 (n:=ks.length) (wl:=wl) (by omega)
  rw [jV,gn,an,PA hne,cond_false]
  refine td hne fun p hpm=>?_
  obtain ⟨h1,h2⟩:=nk.1 hpm
  have hnd3:((p:Int) :: wl).Nodup:=List.nodup_cons.2 ⟨h2,hnd⟩
  have hr3:∀ x∈(p:Int) :: wl,0≤x∧x < (ks.length:Int):=fun x hx=>by
   rcases List.mem_cons.1 hx with rfl | hx
   ·omega
   ·exact hr x hx
  rw [ab rfl,ab (by omega),ab (by omega)]
  by_cases hs:(gD ks ((p:Nat):Int).toNat (zS .GFeed_key)).sender = s
  ·rw [aY.2 hs,cond_true,ab (by omega),ab (by omega)]
   refine ih _ _ hnd3 hr3 (by simp;omega) ?_ (by simp;omega)
   rw [List.flatMap_cons]
   have e1:Ey s ks (p:Int) = [(gD ks ((p:Nat):Int).toNat (zS .GFeed_key)).number]:=by unfold Ey;rw [if_pos hs]
   rw [e1]
   exact (List.perm_append_comm).trans (List.Perm.append_left _ hp)
  ·rw [eF.2 hs,cond_false]
   refine ih _ _ hnd3 hr3 (by simp;omega) ?_ (by simp;omega)
   rw [List.flatMap_cons]
   have e1:Ey s ks (p:Int) = []:=by unfold Ey;rw [if_neg hs]
   rw [e1]
   exact hp
theorem me {K:ay} {ks:List Fk} {vs:List (List Int)} (hK:bL K) (h:bI K ks vs) (hk:ks.length≤100000) (s:Int):gY s ks vs = some (eH K s,ks,vs):=by
 rw [vp]
 exact N8 hK h hk s ks.length [] [] (by simp) (fun x hx=>by cases hx) (by simp) (by simp) (by simp)
theorem O7 {v x:Int} (k:Nat) {m:Int} (hm:m = 2 ^ k) (h0:0≤v) (h1:v*m+x < 4294967296) (h2:0≤x) (h3:x < m):IntKind.wrap .u32 (s6 32 (v*m) x) = v*m+x:=by
 obtain ⟨a,rfl⟩:=Int.eq_ofNat_of_zero_le h0
 obtain ⟨c,rfl⟩:=Int.eq_ofNat_of_zero_le h2
 have hmn:m = ((2 ^ k:Nat):Int):=by rw [hm];simp
 subst hmn
 have e0:(a:Int)*((2 ^ k:Nat):Int) = ((a*2 ^ k:Nat):Int):=by simp
 rw [e0] at h1 ⊢
 have hc:c < 2 ^ k:=by omega
 have e:s6 32 ((a*2 ^ k:Nat):Int) (c:Int) = ((a*2 ^ k+c:Nat):Int):=by
  show ((BitVec.ofInt 32 ((a*2 ^ k:Nat):Int) ||| BitVec.ofInt 32 (c:Int)).toNat:Int) = _
  have e1:(BitVec.ofInt 32 ((a*2 ^ k:Nat):Int)).toNat = a <<< k:=by
   rw [BitVec.toNat_ofInt,Nat.shiftLeft_eq]
   omega
  have e2:(BitVec.ofInt 32 (c:Int)).toNat = c:=by
   rw [BitVec.toNat_ofInt]
   omega
  rw [BitVec.toNat_or,e1,e2, ← Nat.shiftLeft_add_eq_or_of_lt hc,Nat.shiftLeft_eq]
 rw [e,fw (by omega) (by omega)]
 omega
theorem sh {b:List Int} {o n i:Nat} (hi:i < n):gD (af b o n) i 0 = gD b (o+i) 0:=by
 unfold af
 show ((b.drop o).take n).getD i 0 = b.getD (o+i) 0
 rw [List.getD_eq_getElem?_getD,List.getD_eq_getElem?_getD,List.getElem?_take,if_pos hi,List.getElem?_drop]
theorem RT {b:List Int} {o:Nat} (h:o+2≤b.length):aC (af b o 2) = gD b o 0*256+gD b (o+1) 0:=by
 have e:af b o 2 = [gD b o 0,gD b (o+1) 0]:=by
  have h1:=List.drop_eq_getElem_cons (l:=b) (i:=o) (by omega)
  have h2:=List.drop_eq_getElem_cons (l:=b) (i:=o+1) (by omega)
  unfold af
  rw [h1,h2,List.take_succ_cons,List.take_succ_cons,List.take_zero]
  congr 1
  ·exact (lr (List.getElem?_eq_getElem _)).symm
  ·congr 1
   exact (lr (List.getElem?_eq_getElem _)).symm
 rw [e]
 simp [aC,s9]
theorem RQ {b:List Int} {o:Nat} (h:o+4≤b.length):aC (af b o 4) = ((gD b o 0*256+gD b (o+1) 0)*256+gD b (o+2) 0)*256+gD b (o+3) 0:=by
 have e:af b o 4 = [gD b o 0,gD b (o+1) 0,gD b (o+2) 0,gD b (o+3) 0]:=by
  have h1:=List.drop_eq_getElem_cons (l:=b) (i:=o) (by omega)
  have h2:=List.drop_eq_getElem_cons (l:=b) (i:=o+1) (by omega)
  have h3:=List.drop_eq_getElem_cons (l:=b) (i:=o+1+1) (by omega)
  have h4:=List.drop_eq_getElem_cons (l:=b) (i:=o+1+1+1) (by omega)
  unfold af
  rw [h1,h2,h3,h4,List.take_succ_cons,List.take_succ_cons,List.take_succ_cons,List.take_succ_cons,List.take_zero]
  congr 1
  ·exact (lr (List.getElem?_eq_getElem _)).symm
  ·congr 1
   ·exact (lr (List.getElem?_eq_getElem _)).symm
   ·congr 1
    ·exact (lr (List.getElem?_eq_getElem _)).symm
    ·congr 1
     exact (lr (List.getElem?_eq_getElem _)).symm
 rw [e]
 simp [aC,s9]
def pI (inv:List Int) (s:Nat):Int:=aC (af inv (1+6*s) 2)
def cI (inv:List Int) (s:Nat):Int:=aC (af inv (3+6*s) 4)
theorem Rp {inv:List Int} (hb:aG inv) (s:Nat):0≤pI inv s∧pI inv s < 65536:=lF (hb.sub _ 2) (n:=2) cN (by decide)
theorem vW {inv:List Int} (hb:aG inv) (hl:inv.length = 37) {s:Nat} (hs:s < 6):rS inv (s:Int) = some (pI inv s,cI inv s):=by
 rw [Gv,aA (n:=6*(s:Int)) (by omega) (by omega),aA (n:=1+6*(s:Int)) (by omega) (by omega),show (1+6*(s:Int)).toNat = 1+6*s by omega,show ((inv.length:Int) - (1+6*(s:Int))).toNat = 36 - 6*s by omega]
 have hsl:(af inv (1+6*s) (36 - 6*s)).length = 36 - 6*s:=by unfold af;rw [List.length_take,List.length_drop];omega
 rw [hsl,ab (by omega),ab (by omega),ab (by omega),ab (by omega),ab (by omega),ab (by omega),ab (by omega),ab (by omega),ab (by omega),
  sh (by omega),sh (by omega),sh (by omega),sh (by omega),sh (by omega),sh (by omega)]
 have g0:=hb.gD (1+6*s+0)
 have g1:=hb.gD (1+6*s+1)
 have g2:=hb.gD (1+6*s+2)
 have g3:=hb.gD (1+6*s+3)
 have g4:=hb.gD (1+6*s+4)
 have g5:=hb.gD (1+6*s+5)
 have e2:pI inv s = gD inv (1+6*s+0) 0*256+gD inv (1+6*s+1) 0:=RT (by omega)
 have e4:cI inv s = ((gD inv (1+6*s+2) 0*256+gD inv (1+6*s+3) 0)*256+gD inv (1+6*s+4) 0)*256+gD inv (1+6*s+5) 0:=by
  unfold cI
  rw [RQ (by omega),show 3+6*s = 1+6*s+2 by omega]
 rw [e2,e4]
 generalize gD inv (1+6*s+0) 0 = x0 at *
 generalize gD inv (1+6*s+1) 0 = x1 at *
 generalize gD inv (1+6*s+2) 0 = x2 at *
 generalize gD inv (1+6*s+3) 0 = x3 at *
 generalize gD inv (1+6*s+4) 0 = x4 at *
 generalize gD inv (1+6*s+5) 0 = x5 at *
 rw [aA (n:=x0) (by omega) (by omega),KO g0.1 (by omega) g1.1 g1.2,fw (n:=x2) g2.1 (by omega),fw (n:=x3) g3.1 (by omega),fw (n:=x4) g4.1 (by omega),fw (n:=x5) g5.1 (by omega),fw (n:=x2*16777216) (by omega) (by omega),fw (n:=x3*65536) (by omega) (by omega),fw (n:=x4*256) (by omega) (by omega),
  O7 24 (by decide) g2.1 (by omega) (by omega) (by omega),show x2*16777216+x3*65536 = (x2*256+x3)*65536 by omega,O7 16 (by decide) (by omega) (by omega) (by omega) (by omega),show (x2*256+x3)*65536+x4*256 = ((x2*256+x3)*256+x4)*256 by omega,O7 8 (by decide) (by omega) (by omega) (by omega) (by omega)]
def B6 (K:ay) (inv:List Int) (s:Nat):Bool:=aa (pI inv s≤(dU K (s:Int):Int))&&aV (Eb K (s:Int) (pI inv s).toNat) (cI inv s)
def wr (K:ay) (inv:List Int) (s:Nat) (n:Int):Bool:=aa (pI inv s < n)||B6 K inv s
def nL (K:ay) (inv:List Int) (s:Nat):List (List Int):=((eH K (s:Int)).filter (wr K inv s)).map fun n=>(K (s:Int) n).getD []
def Cr (K:ay) (inv:List Int):List (List Int):=(List.range 6).flatMap (nL K inv)
def Ln (inv:List Int):Bool:=(List.range 6).all fun s=>aa (pI inv s≤999)
theorem DT {inv:List Int}:Ln inv = true↔∀ s < 6,pI inv s≤999:=by
 unfold Ln
 rw [List.all_eq_true]
 constructor
 ·exact fun h s hs=>vC (h s (List.mem_range.2 hs))
 ·exact fun h s hs=>aT (h s (List.mem_range.1 hs))
def EX (inv:List Int):Bool:=ak (inv.length:Int) 37&&(ak (gD inv 0 0) 73&&Ln inv)
def C6 (K:ay) (inv:List Int):List (List Int) × Int:=if EX inv = true then (Cr K inv,0) else ([],11)
theorem M6 (K:ay) (inv:List Int) (s:Nat):(nL K inv s).length≤999:=by
 unfold nL
 rw [List.length_map]
 exact Nat.le_trans (List.length_filter_le _ _) (F6 K s)
theorem JJ (K:ay) (inv:List Int):∀ n:Nat,((List.range n).flatMap (nL K inv)).length≤999*n
 | 0=>by simp
 | n+1=>by
  rw [List.range_succ,List.flatMap_append,List.length_append]
  have:=JJ K inv n
  have:=M6 K inv n
  rw [List.flatMap_cons,List.flatMap_nil,List.append_nil]
  omega
theorem JV {K:ay} {ks vs} (hK:bL K) (h:bI K ks vs) (inv:List Int) {s:Nat} (hs:s < 6) (d:Bool) (hd:d = B6 K inv s) (o0:List (List Int)) (ho:o0.length≤10000) :
  aM inv (s:Int) (pI inv s) d (s:Int) ((eH K (s:Int)).length:Int) 0 o0 (eH K (s:Int)) ks vs = dg inv ((s+1:Nat):Int) (o0++nL K inv s) ks vs:=by
 have hn:=F6 K (s:Int)
 have loop:=(Dj (eH K (s:Int)) (fun i o=>aM inv (s:Int) (pI inv s) d (s:Int) ((eH K (s:Int)).length:Int) i o (eH K (s:Int)) ks vs) (fun o n=>o++if wr K inv s n = true then [(K (s:Int) n).getD []] else []) (fun i o=>o.length≤10000+i) (fun i o hi ho=>⟨by
   show aM _ _ _ _ _ _ _ _ _ _ _ = aM _ _ _ _ _ _ _ _ _ _ _
   rw [iI]
   simp only [cA hi,bu,cond_true,an,Bool.or_true,cd hi,bW hi (by omega)]
   rw [De,hd]
   cases hw:wr K inv s (eH K (s:Int))[i] with
   | true =>
    rw [show (aa (pI inv s < (eH K (s:Int))[i])||B6 K inv s) = true from hw,cond_true,y5 hK h,Option.bind_some,ab (by omega),ab (by omega),if_pos rfl]
   | false =>
    rw [show (aa (pI inv s < (eH K (s:Int))[i])||B6 K inv s) = false from hw,cond_false,if_neg (by simp),List.append_nil],by split <;> simp <;> omega⟩) o0 (by omega)).1
 refine Eq.trans loop ?_
 show aM _ _ _ _ _ _ _ _ _ _ _ = _
 rw [iI,cV,cond_false,aA (by omega) (by omega)]
 have e:∀ (m:List Int) (o:List (List Int)),m.foldl (fun o n=>o++if wr K inv s n = true then [(K (s:Int) n).getD []] else []) o = o++(m.filter (wr K inv s)).map fun n=>(K (s:Int) n).getD []:=by
  intro m
  induction m with
  | nil=>intro o;simp
  | cons x m ih =>
   intro o
   rw [List.foldl_cons,ih,List.filter_cons]
   split <;> simp
 rw [e]
 rfl
theorem xR {K:ay} {ks vs} (hK:bL K) (h:bI K ks vs) (hk:ks.length≤100000) {inv:List Int} (hb:aG inv) (hl:inv.length = 37):∀ (k n:Nat),n+k = 6→dg inv (n:Int) ((List.range n).flatMap (nL K inv)) ks vs = some (Cr K inv,0,ks,vs)
 | 0,n,hn=>by
  rw [jR,aX (by omega),cond_false,show n = 6 by omega]
  rfl
 | k+1,n,hn=>by
  have hr:=Rp hb n
  have hp9:=rW hK (n:Int)
  have hml:=JJ K inv n
  have step:∀ d,d = B6 K inv n→aM inv (n:Int) (pI inv n) d (n:Int) ((eH K (n:Int)).length:Int) 0 ((List.range n).flatMap (nL K inv)) (eH K (n:Int)) ks vs = some (Cr K inv,0,ks,vs):=by
   intro d hd
   rw [JV hK h inv (by omega) d hd _ (by omega)]
   have:=xR hK h hk hb hl k (n+1) (by omega)
   rw [List.range_succ,List.flatMap_append,List.flatMap_cons,List.flatMap_nil,List.append_nil] at this
   exact this
  rw [jR,aT (by omega),cond_true,vW hb hl (by omega),Option.bind_some,iS hK h,Option.bind_some]
  dsimp only
  by_cases hp:pI inv n≤(dU K (n:Int):Int)
  ·have e:pI inv n = ((pI inv n).toNat:Int):=by omega
   have e2:fo (n:Int) (pI inv n) ks vs = some (Eb K (n:Int) (pI inv n).toNat,ks,vs):=by
    rw [e]
    have:=nb hK h (n:Int) (p:=(pI inv n).toNat) (by omega)
    rw [this]
    congr 2
   rw [aT hp,cond_true,e2,Option.bind_some]
   dsimp only
   rw [me hK h hk,Option.bind_some]
   exact step _ (by unfold B6;rw [aT hp,Bool.true_and])
  ·rw [aX hp,cond_false,me hK h hk,Option.bind_some]
   exact step _ (by unfold B6;rw [aX hp,Bool.false_and])
theorem v7 {K:ay} {ks vs} (hK:bL K) (h:bI K ks vs) (hk:ks.length≤100000) {inv:List Int} (hb:aG inv) (hl:inv.length = 37):∀ (k n:Nat),n+k = 6→(∀ s < n,pI inv s≤999) →
  d9 inv (n:Int) ks vs = some (if Ln inv = true then (Cr K inv,0,ks,vs) else ([],11,ks,vs))
 | 0,n,hn,hs=>by
  rw [jP,aX (by omega),cond_false,if_pos (DT.2 (by rw [show 6 = n by omega];exact hs))]
  exact xR hK h hk hb hl 6 0 rfl
 | k+1,n,hn,hs=>by
  rw [jP,aT (by omega),cond_true,vW hb hl (by omega),Option.bind_some]
  dsimp only
  by_cases hp:pI inv n≤999
  ·rw [aX (by omega),cond_false,aA (by omega) (by omega)]
   have:=v7 hK h hk hb hl k (n+1) (by omega) (fun s h1=>by
    by_cases e:s = n
    ·rw [e];exact hp
    ·exact hs s (by omega))
   rw [show ((n+1:Nat):Int) = (n:Int)+1 by omega] at this
   exact this
  ·rw [aT (by omega),cond_true,if_neg fun hh=>hp (DT.1 hh n (by omega))]
theorem KT {inv:List Int} (hl:inv.length = 37) (h0:gD inv 0 0 = 73):EX inv = Ln inv:=by
 unfold EX
 rw [aY.2 (show (inv.length:Int) = 37 by omega),aY.2 h0,Bool.true_and,Bool.true_and]
theorem uW {K:ay} {ks vs} (hK:bL K) (h:bI K ks vs) (hk:ks.length≤100000) {inv:List Int} (hb:aG inv):lh inv ks vs = some ((C6 K inv).1,(C6 K inv).2,ks,vs):=by
 rw [vJ,Bool.or_true,an]
 unfold C6
 by_cases hl:inv.length = 37
 ·rw [oo (by rw [aT (by omega),Bool.or_true]),bQ.2 (by omega),cond_false]
  by_cases h0:gD inv 0 0 = 73
  ·rw [bQ.2 h0,cond_false]
   have:=v7 hK h hk hb hl 6 0 rfl (fun s hs=>by omega)
   rw [show ((0:Nat):Int) = 0 from rfl] at this
   rw [this]
   rw [KT hl h0]
   cases Ln inv <;> rfl
  ·rw [bS.2 h0,cond_true,if_neg]
   unfold EX
   rw [eF.2 h0];simp
 ·rw [oo (by rw [bS.2 (by omega)];rfl),bS.2 (by omega),cond_true,cond_true,if_neg]
  unfold EX
  rw [eF.2 (by omega)];simp
end Go.Ax
