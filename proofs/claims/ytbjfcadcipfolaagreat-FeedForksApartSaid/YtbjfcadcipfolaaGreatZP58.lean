import Derived.Test.YtbjfcadcipfolaaGreatZP56
set_option linter.all false
/- What counts of the documents that are kept: both texts find the same. -/
set_option maxRecDepth 100000
namespace Go.Ax
theorem dh {K:av} {ks vs} (h:bw K ks vs) (s n:Int):dI s n ks vs = some ((K s n).getD [],(K s n).isSome,ks,vs):=by
 rw [w5,h.get,h.has]
theorem Kc {K:av} (hK:bz K) (s n:Int):((K s n).getD []).length≤58∧aA ((K s n).getD []):=by
 cases hb:K s n with
 | none=>exact ⟨by simp,mL⟩
 | some b=>exact ⟨(hK.rng hb).2.2.2,(hK _ _ _ hb).1⟩
theorem nN {K:av} {ks vs} (hK:bz K) (h:bw K ks vs) (s n:Int):ki s n ks vs = some ((K s n).isSome,(K s n).getD [],ks,vs):=by
 rw [xd,dh h,Option.bind_some]
 show ((fc ((K s n).getD [])).bind fun r1=>_) = _
 rw [mt (by have:=(Kc hK s n).1;omega)]
 rfl
theorem wN {K:av} {L:List Kd} (h:cK K L) (hl:L.length≤1000000000) (s n:Int):∃ i:Nat,cF ⟨L⟩ s n = some ((i:Int),(K s n).isSome)∧∀ b,K s n = some b→i < L.length∧gD L (i:Int).toNat (zS .GPensionref31_kept) = ⟨an b,b⟩:=by
 obtain ⟨A,B,is,hL,hA,hf,hc⟩:=FC h hl s n
 refine ⟨A.length, ?_,fun b hb=>?_⟩
 ·rcases hc with ⟨rfl,x,C,_,_,_,e,_⟩ | ⟨rfl,e,_⟩
  ·rw [hf,e];rfl
  ·rw [hf,e];rfl
 ·rcases hc with ⟨rfl,x,C,rfl,_,_,e,e4,_⟩ | ⟨rfl,e,_⟩
  ·have hi:A.length < L.length:=by rw [hL];simp
   refine ⟨hi, ?_⟩
   rw [eH hi]
   simp only [hL,List.getElem_append_right (Nat.le_refl _),Nat.sub_self,List.getElem_cons_zero]
   rw [hb] at e
   injection e with e
   rw [e]
   cases x with
   | mk D B=>simp only at e4 ⊢; rw [e4]
  ·rw [hb] at e;cases e
theorem uP {K:av} {L:List Kd} (hK:bz K) (h:cK K L) (hl:L.length≤1000000000) (s n:Int):mg ⟨L⟩ s n = some ((K s n).getD [],(K s n).isSome):=by
 obtain ⟨i,h1,h2⟩:=wN h hl s n
 rw [u9,h1,Option.bind_some]
 cases hb:K s n with
 | none=>rfl
 | some b =>
  obtain ⟨h3,h4⟩:=h2 b hb
  have:=(hK.rng hb).2.2.2
  show (gb (aa (0≤(i:Int)))<|gb (aa ((i:Int) < (L.length:Int)))<|gb (aa ((gD L (i:Int).toNat (zS .GPensionref31_kept)).B.length*1≤140737488355328))<|gb (aa ((gD L (i:Int).toNat (zS .GPensionref31_kept)).B.length≤140737488355328))<|some ((gD L (i:Int).toNat (zS .GPensionref31_kept)).B,true)) = _
  rw [h4,ac (by omega),ac (by omega)]
  simp only
  rw [ac (by omega),ac (by omega)]
  rfl
def s5 (K:av) (s:Int):Nat→Nat→Nat
 | 0,p=>p
 | k+1,p=>if (K s ((p:Int)+1)).isSome = true then s5 K s k (p+1) else p
def cJ (K:av) (s:Int):Nat:=s5 K s 1000 0
theorem n9 {K:av} (hK:bz K) (s:Int) {n:Int} (h:n < 1∨999 < n):K s n = none:=by
 cases hb:K s n with
 | none=>rfl
 | some b=>have:=(hK.rng hb).2.1;omega
theorem Cz {K:av} (hK:bz K) (s:Int):∀ (k p:Nat),p+k = 1000→(∀ n:Nat,1≤n→n≤p→(K s n).isSome = true) →
  (∀ n:Nat,1≤n→n≤s5 K s k p→(K s n).isSome = true)∧K s ((s5 K s k p:Nat)+1) = none
 | 0,p,hp,h=>⟨h,n9 hK s (.inr (by show (999:Int) < (p:Int)+1;omega))⟩
 | k+1,p,hp,h=>by
  unfold s5
  split
  ·next hh =>
   refine Cz hK s k (p+1) (by omega) fun n h1 h2=>?_
   by_cases e:n = p+1
   ·subst e;exact hh
   ·exact h n h1 (by omega)
  ·next hh =>
   refine ⟨h, ?_⟩
   cases hb:K s ((p:Int)+1) with
   | none=>rfl
   | some b=>exact absurd (by rw [hb];rfl) hh
theorem lF {K:av} (hK:bz K) (s:Int):(∀ n:Nat,1≤n→n≤cJ K s→(K s n).isSome = true)∧K s ((cJ K s:Nat)+1) = none :=
 Cz hK s 1000 0 rfl fun n h1 h2=>by omega
theorem lg {K:av} (hK:bz K) (s:Int):cJ K s≤999:=by
 rcases Nat.lt_or_ge 999 (cJ K s) with h | h
 ·have:=(lF hK s).1 (cJ K s) (by omega) (Nat.le_refl _)
  rw [n9 hK s (.inr (by omega))] at this
  cases this
 ·exact h
theorem CO {K:av} (hK:bz K) (s:Int) {p:Nat} (h1:∀ n:Nat,1≤n→n≤p→(K s n).isSome = true) (h2:K s ((p:Int)+1) = none):cJ K s = p:=by
 obtain ⟨a,b⟩:=lF hK s
 rcases Nat.lt_trichotomy (cJ K s) p with h | h | h
 ·have:=h1 (cJ K s+1) (by omega) (by omega)
  rw [show ((cJ K s+1:Nat):Int) = (cJ K s:Nat)+1 by omega,b] at this
  cases this
 ·exact h
 ·have:=a (p+1) (by omega) (by omega)
  rw [show ((p+1:Nat):Int) = (p:Int)+1 by omega,h2] at this
  cases this
theorem u5 {K:av} {ks vs} (hK:bz K) (h:bw K ks vs) (s:Int):∀ (k p:Nat),p+k = 1000→ez s (p:Int) ks vs = some ((s5 K s k p:Int),ks,vs)
 | 0,p,hp=>by
  rw [jD,aD (by omega) (by omega),dh h,Option.bind_some,n9 hK s (.inr (by omega))]
  rfl
 | k+1,p,hp=>by
  rw [jD,aD (by omega) (by omega),dh h,Option.bind_some]
  unfold s5
  cases hb:K s ((p:Int)+1) with
  | none=>rfl
  | some b=>exact u5 hK h s k (p+1) (by omega)
theorem eE {K:av} {ks vs} (hK:bz K) (h:bw K ks vs) (s:Int):dC s ks vs = some ((cJ K s:Int),ks,vs):=by
 rw [tO];exact u5 hK h s 1000 0 rfl
theorem xF {K:av} {L:List Kd} (hK:bz K) (h:cK K L) (hl:L.length≤1000000000) (s:Int):∀ (k p:Nat),p+k = 1000→dW ⟨L⟩ s (p:Int) = some (s5 K s k p:Int)
 | 0,p,hp=>by
  obtain ⟨i,h1,h2⟩:=wN h hl s ((p:Int)+1)
  rw [iX,aD (by omega) (by omega),h1,Option.bind_some,n9 hK s (.inr (by omega))]
  rfl
 | k+1,p,hp=>by
  obtain ⟨i,h1,h2⟩:=wN h hl s ((p:Int)+1)
  rw [iX,aD (by omega) (by omega),h1,Option.bind_some]
  unfold s5
  cases hb:K s ((p:Int)+1) with
  | none=>rfl
  | some b=>exact xF hK h hl s k (p+1) (by omega)
theorem gm {K:av} {L:List Kd} (hK:bz K) (h:cK K L) (hl:L.length≤1000000000) (s:Int):df ⟨L⟩ s = some (cJ K s:Int):=by
 rw [sk];exact xF hK h hl s 1000 0 rfl
def dl (b:List Int):Int:=ax (b.drop (b.length - 4))
theorem nC {b:List Int} (hb:aA b):0≤dl b∧dl b < 4294967296 :=
 j6 (hb.drop _) (n:=4) (by rw [List.length_drop];omega) (by decide)
theorem oL {b:List Int} (hb:aA b) (hB:b.length≤1000000000000):iK b = some (dl b):=by
 rw [yk]
 have e:(bif aa (0 < ae ((b.length:Int) - 4)) then ae ((b.length:Int) - 4) else 0) = ((b.length - 4:Nat):Int):=by
  rw [aD (by omega) (by omega)]
  by_cases h:4 < b.length
  ·rw [bf (by omega),cond_true];omega
  ·rw [bJ (by omega),cond_false];omega
 rw [e,kU b (by omega) (by omega),Int.toNat_natCast,ac (by omega),ac (by omega),ac (by omega)]
 have hd:(b.drop (b.length - 4)).length≤4:=by rw [List.length_drop];omega
 rw [yL (hb.drop _) (by omega) (Nat.le_refl _) (by omega),Option.bind_some,List.take_of_length_le (Nat.le_refl _)]
 have:=nC hb
 show some (IntKind.wrap .u32 (dl b)) = _
 rw [eT this.1 this.2]
theorem B0 {b:List Int} (hb:aA b) (hB:b.length≤1000000000000):fW b = some (if b.length < 4 then 0 else dl b):=by
 rw [C8]
 by_cases h:b.length < 4
 ·rw [bf (by omega),cond_true,if_pos h]
 ·have e:ae ((b.length:Int) - 4) = ((b.length - 4:Nat):Int):=by rw [aD (by omega) (by omega)];omega
  have hd:(b.drop (b.length - 4)).length≤4:=by rw [List.length_drop];omega
  have:=nC hb
  rw [bJ (by omega),cond_false,if_neg h,e,kU b (by omega) (by omega),Int.toNat_natCast,ac (by omega),ac (by omega),ac (by omega),bt (hb.drop _) (by omega),Option.bind_some]
  show some (IntKind.wrap .u32 (dl b)) = _
  rw [eT this.1 this.2]
theorem fN {b:List Int} (hb:aA b) (h4:4≤b.length) (hB:b.length≤1000000000000):fW b = some (dl b):=by
 rw [B0 hb hB,if_neg (by omega)]
def fG (K:av) (s:Int):Nat→Nat→Int→List GDocument
 | 0,_,_=>[]
 | k+1,n,prev=>match K s (n:Int) with
  | none=>[]
  | some b=>if (an b).Prev = prev then an b :: fG K s k (n+1) (dl b) else []
def nt (K:av) (s:Int):List GDocument:=fG K s 1000 1 0
theorem E7 (K:av) (s:Int):∀ (k n:Nat) (prev:Int),(fG K s k n prev).length≤k
 | 0,_,_=>by simp [fG]
 | k+1,n,prev=>by
  unfold fG
  split
  ·simp
  ·split
   ·have:=E7 K s k (n+1)
    simp [this]
   ·simp
theorem LX {b:List Int} (h:cZ b = true):k8 b = (an b,0):=by rw [BU,if_pos h]
theorem vT {K:av} {ks vs} (hK:bz K) (h:bw K ks vs) (s:Int):∀ (k n:Nat) (prev:Int) (out:List GDocument),n+k = 1001→out.length≤n→cG s prev (n:Int) out ks vs = some (out++fG K s k n prev,ks,vs)
 | 0,n,prev,out,hn,ho=>by
  rw [hU,dh h,Option.bind_some,n9 hK s (.inr (by omega))]
  show some (out,ks,vs) = some (out++[],ks,vs)
  rw [List.append_nil]
 | k+1,n,prev,out,hn,ho=>by
  rw [hU,dh h,Option.bind_some]
  unfold fG
  cases hb:K s (n:Int) with
  | none =>
   show some (out,ks,vs) = some (out++[],ks,vs)
   rw [List.append_nil]
  | some b =>
   obtain ⟨h1,h2,_,_⟩:=hK _ _ _ hb
   have hlen:=(hK.rng hb).2.2
   show ((eo b).bind fun r1=>bif (bif (aT r1.2 0) then true else (aT r1.1.Prev prev)) then some (out,ks,vs) else gb (aa (((out.length+1)*56)≤140737488355328))<|gb (aa ((out.length+1)≤140737488355328))<|(iK b).bind fun r2=>cG s r2 (ae ((n:Int)+1)) (out++[r1.1]) ks vs) = some (out++(if (an b).Prev = prev then an b :: fG K s k (n+1) (dl b) else []),ks,vs)
   rw [iU h1 (by omega),Option.bind_some,LX h2]
   simp only
   rw [bW.2 rfl,cond_false]
   by_cases hp:(an b).Prev = prev
   ·rw [bW.2 hp,cond_false,ac (by omega),ac (by omega),oL h1 (by omega),Option.bind_some,if_pos hp,aD (by omega) (by omega)]
    have:=vT hK h s k (n+1) (dl b) (out++[an b]) (by omega) (by simp;omega)
    rw [show ((n+1:Nat):Int) = (n:Int)+1 by omega] at this
    rw [this,List.append_assoc]
    rfl
   ·rw [bT.2 hp,cond_true,if_neg hp,List.append_nil]
theorem jL {K:av} {ks vs} (hK:bz K) (h:bw K ks vs) (s:Int):eV s ks vs = some (nt K s,ks,vs):=by
 rw [qj]
 exact vT hK h s 1000 1 0 [] rfl (by simp)
theorem jk {K:av} {ks vs} (hK:bz K) (h:bw K ks vs) (s:Int):gU s ks vs = some (((nt K s).length:Int),ks,vs):=by
 rw [xg,jL hK h];rfl
theorem yd {K:av} {s:Int} {n:Nat} (h:K s (n:Int) = none) (k:Nat) (prev:Int):fG K s k n prev = []:=by
 cases k with
 | zero=>rfl
 | succ k=>unfold fG;rw [h]
theorem GB {K:av} {L:List Kd} (hK:bz K) (h:cK K L) (hl:L.length≤1000000000) (s:Int):∀ (k n:Nat) (prev:Int) (out:List GDocument),n+k = 1001→1≤n→n≤cJ K s+1→out.length≤n →
  cW s prev (cJ K s:Int) (n:Int) ⟨L⟩ out = some (⟨L⟩,out++fG K s k n prev)∧cz ⟨L⟩ s prev (cJ K s:Int) (n:Int) out = some (out++fG K s k n prev):=by
 intro k
 induction k with
 | zero =>
  intro n prev out hn h1 _ ho
  have hp:=lg hK s
  rw [cw,bV,bJ (by omega),cond_false,cond_false]
  simp [fG]
 | succ k ih =>
  intro n prev out hn h1 hnl ho
  by_cases hnp:n≤cJ K s
  ·have hs:=(lF hK s).1 n h1 hnp
   cases hb:K s (n:Int) with
   | none=>rw [hb] at hs;cases hs
   | some b =>
    obtain ⟨g1,g2,_,_⟩:=hK _ _ _ hb
    have hlen:=(hK.rng hb).2.2
    obtain ⟨i,f1,f2⟩:=wN h hl s (n:Int)
    obtain ⟨f3,f4⟩:=f2 b hb
    have hbl:(an b).Body.length≤58:=by
     have:=yj (an b)
     rw [((lI g1).1 g2).2.2.2.1] at this
     omega
    have e:fG K s (k+1) n prev = if (an b).Prev = prev then an b :: fG K s k (n+1) (dl b) else []:=by
     show (match K s (n:Int) with | none=>[] | some b=>if (an b).Prev = prev then an b :: fG K s k (n+1) (dl b) else []) = _
     rw [hb]
    rw [e]
    by_cases hp:(an b).Prev = prev
    ·obtain ⟨i1,i2⟩:=ih (n+1) (dl b) (out++[an b]) (by omega) (by omega) (by omega) (by simp;omega)
     rw [if_pos hp]
     refine ⟨?_, ?_⟩
     ·rw [cw,bf (by omega),cond_true,f1,Option.bind_some]
      simp only
      rw [f4,ac (by omega),ac (by omega)]
      simp only
      rw [bW.2 hp,cond_false,ac (by omega),ac (by omega),fN g1 (by omega) (by omega),Option.bind_some,ac (by omega),ac (by omega),ac (by omega),ac (by omega),aD (by omega) (by omega),show (n:Int)+1 = ((n+1:Nat):Int) by omega,i1,List.append_assoc]
      rfl
     ·rw [bV,bf (by omega),cond_true,f1,Option.bind_some]
      simp only
      rw [f4,ac (by omega),ac (by omega)]
      simp only
      rw [bW.2 hp,cond_false,ac (by omega),ac (by omega),fN g1 (by omega) (by omega),Option.bind_some,ac (by omega),ac (by omega),ac (by omega),ac (by omega),aD (by omega) (by omega),show (n:Int)+1 = ((n+1:Nat):Int) by omega,i2,List.append_assoc]
      rfl
    ·rw [if_neg hp,List.append_nil]
     refine ⟨?_, ?_⟩
     ·rw [cw,bf (by omega),cond_true,f1,Option.bind_some]
      simp only
      rw [f4,ac (by omega),ac (by omega)]
      simp only
      rw [bT.2 hp,cond_true]
     ·rw [bV,bf (by omega),cond_true,f1,Option.bind_some]
      simp only
      rw [f4,ac (by omega),ac (by omega)]
      simp only
      rw [bT.2 hp,cond_true]
  ·rw [cw,bV,bJ (by omega),cond_false,cond_false]
   have:fG K s (k+1) n prev = []:=by
    refine yd ?_ _ _
    rw [show n = cJ K s+1 by omega]
    exact (lF hK s).2
   rw [this,List.append_nil]
   exact ⟨rfl,rfl⟩
theorem jf {K:av} {L:List Kd} (hK:bz K) (h:cK K L) (hl:L.length≤1000000000) (s:Int):gI s ⟨L⟩ = some (⟨L⟩,nt K s)∧fA ⟨L⟩ s = some (nt K s):=by
 rw [pQ,nF,gm hK h hl,Option.bind_some,Option.bind_some]
 exact GB hK h hl s 1000 1 0 [] rfl (by omega) (by omega) (by simp)
theorem uN {K:av} {L:List Kd} (hK:bz K) (h:cK K L) (hl:L.length≤1000000000) (s:Int):mv ⟨L⟩ s = some ((nt K s).length:Int):=by
 rw [vP,(jf hK h hl s).2];rfl
def zB (b:List Int):List Int:=b.drop (b.length - 4)
def nm (K:av) (s:Int) (p:Nat):List Int:=(List.range p).flatMap fun (i:Nat)=>zB ((K s ((i:Int)+1)).getD [])
def rQ (K:av) (s:Int) (p:Nat):Int:=jz (nm K s p)
theorem oM (K:av) (s:Int) (p:Nat):nm K s (p+1) = nm K s p++zB ((K s ((p:Int)+1)).getD []):=by
 unfold nm
 rw [List.range_succ,List.flatMap_append]
 simp
theorem Jz (b:List Int):(zB b).length≤4:=by unfold zB;rw [List.length_drop];omega
theorem nM (K:av) (s:Int):∀ p:Nat,(nm K s p).length≤4*p
 | 0=>by simp [nm]
 | p+1=>by
  rw [oM,List.length_append]
  have:=nM K s p
  have:=Jz ((K s ((p:Int)+1)).getD [])
  omega
theorem yE {K:av} (hK:bz K) (s:Int):∀ p:Nat,aA (nm K s p)
 | 0=>mL
 | p+1=>by
  rw [oM]
  exact bi.2 ⟨yE hK s p,(Kc hK s _).2.drop _⟩
theorem wq {K:av} {ks vs} (hK:bz K) (h:bw K ks vs) (s:Int) {p:Nat} (hp:p≤cJ K s):∀ (k n:Nat),n+k = p→et s (p:Int) ((n:Int)+1) (nm K s n) ks vs = some (rQ K s p,ks,vs)
 | 0,n,hn=>by
  have:=nM K s n
  have:=lg hK s
  rw [jm,bJ (by omega),cond_false,gT (yE hK s n) (by omega),Option.bind_some,show n = p by omega]
  rfl
 | k+1,n,hn=>by
  have hs:=(lF hK s).1 (n+1) (by omega) (by omega)
  have h9:=lg hK s
  have htl:=nM K s n
  rw [show ((n+1:Nat):Int) = (n:Int)+1 by omega] at hs
  cases hb:K s ((n:Int)+1) with
  | none=>rw [hb] at hs;cases hs
  | some b =>
   have hlen:=(hK.rng hb).2.2
   have e:ae ((b.length:Int) - 4) = ((b.length - 4:Nat):Int):=by rw [aD (by omega) (by omega)];omega
   have hd:(b.drop (b.length - 4)).length = 4:=by rw [List.length_drop];omega
   rw [jm,bf (by omega),cond_true,show dI s ((n:Int)+1) ks vs = some (b,true,ks,vs) by rw [dh h,hb];rfl,Option.bind_some,e]
   dsimp only
   rw [kU b (by omega) (by omega),Int.toNat_natCast,hd,ac (by omega),ac (by omega),ac (by omega),ac (by omega),ac (by omega),aD (by omega) (by omega)]
   have:=wq hK h s hp k (n+1) (by omega)
   rw [oM,hb,show ((n+1:Nat):Int) = (n:Int)+1 by omega] at this
   exact this
theorem lv {K:av} {ks vs} (hK:bz K) (h:bw K ks vs) (s:Int) {p:Nat} (hp:p≤cJ K s):eM s (p:Int) ks vs = some (rQ K s p,ks,vs):=by
 rw [sX]
 exact wq hK h s hp p 0 (by omega)
theorem xy {K:av} {L:List Kd} (hK:bz K) (h:cK K L) (hl:L.length≤1000000000) (s:Int) {p:Nat} (hp:p≤cJ K s):∀ (k n:Nat),n+k = p→dV ⟨L⟩ s (p:Int) ((n:Int)+1) (nm K s n) = some (rQ K s p)
 | 0,n,hn=>by
  have:=nM K s n
  have:=lg hK s
  rw [iZ,bJ (by omega),cond_false,nO (yE hK s n) (by omega),Option.bind_some,show n = p by omega]
  rfl
 | k+1,n,hn=>by
  have hs:=(lF hK s).1 (n+1) (by omega) (by omega)
  have h9:=lg hK s
  have htl:=nM K s n
  rw [show ((n+1:Nat):Int) = (n:Int)+1 by omega] at hs
  cases hb:K s ((n:Int)+1) with
  | none=>rw [hb] at hs;cases hs
  | some b =>
   have hlen:=(hK.rng hb).2.2
   have hbo:=(hK _ _ _ hb).1
   have hd:(b.drop (b.length - 4)).length = 4:=by rw [List.length_drop];omega
   have hr:=nC hbo
   have hbig:aq (dl b) 4 = zB b:=by
    have:=jr (hbo.drop (b.length - 4))
    rw [hd] at this
    exact this
   rw [iZ,bf (by omega),cond_true,uP hK h hl,Option.bind_some,hb]
   simp only [Option.getD_some]
   rw [fN hbo (by omega) (by omega),Option.bind_some,aD (by omega) (by omega),HH,Option.bind_some,ay,ac (by omega),ac (by omega),aD (by omega) (by omega),hbig]
   have:=xy hK h hl s hp k (n+1) (by omega)
   rw [oM,hb,show ((n+1:Nat):Int) = (n:Int)+1 by omega] at this
   exact this
theorem rA {K:av} {L:List Kd} (hK:bz K) (h:cK K L) (hl:L.length≤1000000000) (s:Int) {p:Nat} (hp:p≤cJ K s):jF ⟨L⟩ s (p:Int) = some (rQ K s p):=by
 rw [sN]
 exact xy hK h hl s hp p 0 (by omega)
def oq (K:av) (s:Int):List Int:=aq (cJ K s) 2++aq (rQ K s (cJ K s)) 4
def ju (K:av):List Int:=73 :: (List.range 6).flatMap fun (s:Nat)=>oq K (s:Int)
theorem KR (K:av) (s:Int):(oq K s).length = 6:=by simp [oq,ay]
theorem pO (K:av):∀ n:Nat,((List.range n).flatMap fun (s:Nat)=>oq K (s:Int)).length = 6*n
 | 0=>rfl
 | n+1=>by rw [List.range_succ,List.flatMap_append,List.length_append,pO K n];simp [KR];omega
theorem Ih {p:Nat}:[IntKind.wrap .u8 (Int.fdiv (p:Int) 256),IntKind.wrap .u8 (p:Int)] = aq p 2:=by
 rw [mu,mu,Int.fdiv_eq_ediv_of_nonneg _ (by omega)]
 simp [aq]
theorem HU {c:Int}:[IntKind.wrap .u8 (Int.fdiv c 16777216),IntKind.wrap .u8 (Int.fdiv c 65536),IntKind.wrap .u8 (Int.fdiv c 256),IntKind.wrap .u8 c] = aq c 4:=by
 rw [mu,mu,mu,mu,Int.fdiv_eq_ediv_of_nonneg _ (by omega),Int.fdiv_eq_ediv_of_nonneg _ (by omega),Int.fdiv_eq_ediv_of_nonneg _ (by omega)]
 simp [aq]
theorem vf {K:av} {ks vs} (hK:bz K) (h:bw K ks vs):∀ (k n:Nat),n+k = 6→du (n:Int) (73 :: (List.range n).flatMap fun (s:Nat)=>oq K (s:Int)) ks vs = some (ju K,ks,vs)
 | 0,n,hn=>by
  rw [hZ,bJ (by omega),cond_false,show n = 6 by omega]
  rfl
 | k+1,n,hn=>by
  have hl:(73 :: (List.range n).flatMap fun (s:Nat)=>oq K (s:Int)).length = 6*n+1:=by rw [List.length_cons,pO]
  rw [hZ,bf (by omega),cond_true,eE hK h,Option.bind_some]
  simp only
  rw [lv hK h _ (Nat.le_refl _),Option.bind_some]
  simp only
  rw [hl,ac (by omega),ac (by omega),aD (by omega) (by omega)]
  have:=vf hK h k (n+1) (by omega)
  rw [List.range_succ,List.flatMap_append,show ((n+1:Nat):Int) = (n:Int)+1 by omega] at this
  rw [← this]
  congr 1
  rw [List.cons_append]
  congr 1
  congr 1
  rw [List.flatMap_cons,List.flatMap_nil,List.append_nil]
  unfold oq
  rw [← Ih, ← HU]
  rfl
theorem fp {K:av} {ks vs} (hK:bz K) (h:bw K ks vs):dn ks vs = some (ju K,ks,vs):=by
 rw [qp]
 exact vf hK h 6 0 rfl
theorem xI {K:av} {L:List Kd} (hK:bz K) (h:cK K L) (hl:L.length≤1000000000):∀ (k n:Nat),n+k = 6→dj ⟨L⟩ (n:Int) (73 :: (List.range n).flatMap fun (s:Nat)=>oq K (s:Int)) = some (ju K)
 | 0,n,hn=>by
  rw [gY,bJ (by omega),cond_false,show n = 6 by omega]
  rfl
 | k+1,n,hn=>by
  have hl2:(73 :: (List.range n).flatMap fun (s:Nat)=>oq K (s:Int)).length = 6*n+1:=by rw [List.length_cons,pO]
  have hr:=tT (nm K (n:Int) (cJ K (n:Int)))
  have hr2:0≤rQ K (n:Int) (cJ K (n:Int))∧rQ K (n:Int) (cJ K (n:Int)) < 4294967296:=hr
  rw [gY,bf (by omega),cond_true,gm hK h hl,Option.bind_some,xU,Option.bind_some,rA hK h hl _ (Nat.le_refl _),Option.bind_some,aD (by omega) (by omega),HH,Option.bind_some,
   kX _ (by simp only [List.flatten_cons,List.flatten_nil,List.length_append,List.length_nil,ay,hl2];omega) (by simp),Option.bind_some,aD (by omega) (by omega)]
  have:=xI hK h hl k (n+1) (by omega)
  rw [List.range_succ,List.flatMap_append,show ((n+1:Nat):Int) = (n:Int)+1 by omega] at this
  rw [← this]
  congr 1
theorem o6 {K:av} {L:List Kd} (hK:bz K) (h:cK K L) (hl:L.length≤1000000000):gG ⟨L⟩ = some (ju K):=by
 rw [qb]
 exact xI hK h hl 6 0 rfl
theorem DF (K:av):(ju K).length = 37:=by unfold ju;rw [List.length_cons,pO]
theorem BF (K:av):aA (ju K):=by
 unfold ju
 refine cY.2 ⟨by omega,fun x hx=>?_⟩
 obtain ⟨s,_,hs⟩:=List.mem_flatMap.1 hx
 exact bi.2 ⟨aS _ _,aS _ _⟩ x hs
end Go.Ax
set_option linter.all false
/- The numbers of a sender's documents, and what another feed lacks: both texts find the same. -/
set_option maxRecDepth 100000
namespace Go.Ax
theorem EL {a b:List Int} (ha:a.Pairwise (· < ·)) (hb:b.Pairwise (· < ·)) (h:∀ x,x∈a↔x∈b):a = b :=
 List.Perm.eq_of_pairwise (le:=fun x y=>x < y) (fun x y _ _ h1 h2=>by omega) ha hb ((List.perm_ext_iff_of_nodup (ha.imp fun h=>Int.ne_of_lt h) (hb.imp fun h=>Int.ne_of_lt h)).2 h)
theorem Je {k:List Int} (h:k.Nodup):(gH k).Pairwise (· < ·):=by
 have h1:=oz k
 have h2:(gH k).Nodup:=(nz k).nodup_iff.2 h
 exact (h1.and h2).imp fun ⟨a,b⟩=>by omega
theorem DG (n:Nat):((List.range n).map fun p:Nat=>(p:Int)).Nodup:=by
 rw [List.nodup_iff_pairwise_ne,List.pairwise_map]
 exact List.Pairwise.imp (fun h e=>h (by omega)) (List.nodup_iff_pairwise_ne.1 List.nodup_range)
theorem Hf {n:Nat} {wl:List Int} (hnd:wl.Nodup) (hr:∀ x∈wl,0≤x∧x < (n:Int)) (hlen:wl.length = n):wl.Perm ((List.range n).map fun p:Nat=>(p:Int)):=by
 have sub:wl ⊆ (List.range n).map fun p:Nat=>(p:Int):=by
  intro x hx
  have:=hr x hx
  exact List.mem_map.2 ⟨x.toNat,List.mem_range.2 (by omega),by omega⟩
 rw [List.perm_ext_iff_of_nodup hnd (DG n)]
 intro a
 refine ⟨fun h=>sub h,fun h=>?_⟩
 by_cases ha:a∈wl
 ·exact ha
 ·exfalso
  have h1:(a :: wl).Nodup:=List.nodup_cons.2 ⟨ha,hnd⟩
  have h2:(a :: wl) ⊆ (List.range n).map fun p:Nat=>(p:Int):=fun x hx=>by
   rcases List.mem_cons.1 hx with rfl | hx
   ·exact h
   ·exact sub hx
  have:=h1.length_le_of_subset h2
  simp at this
  omega
theorem FE {n:Nat} {wl:List Int} (hlen:wl.length < n):gF n wl≠[]:=by
 intro h
 have sub:((List.range n).map fun p:Nat=>(p:Int)) ⊆ wl:=by
  intro x hx
  obtain ⟨p,hp,rfl⟩:=List.mem_map.1 hx
  rw [List.mem_range] at hp
  by_cases hm:(p:Int)∈wl
  ·exact hm
  ·have:=ln.2 ⟨hp,hm⟩
   rw [h] at this
   cases this
 have:=(DG n).length_le_of_subset sub
 simp at this
 omega
theorem EK {n:Nat} {wl:List Int} (hw:wl.Perm ((List.range n).map fun p:Nat=>(p:Int))):gF n wl = []:=by
 cases h:gF n wl with
 | nil=>rfl
 | cons p r =>
  have hm:p∈gF n wl:=by rw [h];simp
  obtain ⟨h1,h2⟩:=ln.1 hm
  exact absurd (hw.mem_iff.2 (List.mem_map.2 ⟨p,List.mem_range.2 h1,rfl⟩)) h2
theorem LF {T:Type} {l:List T} (h:l≠[]):l.isEmpty = false:=by
 cases l with
 | nil=>exact absurd rfl h
 | cons x r=>rfl
theorem IZ {T:Type} (l:List T) (z:T):l = (List.range l.length).map fun p=>gD l ((p:Nat):Int).toNat z:=by
 apply List.ext_getElem (by simp)
 intro i h1 h2
 rw [List.getElem_map,List.getElem_range,eH h1]
def aX (K:av) (s:Int):List Int:=((List.range 999).filter fun i:Nat=>(K s ((i:Int)+1)).isSome).map fun i:Nat=>(i:Int)+1
theorem dE {K:av} (hK:bz K) (s n:Int):n∈aX K s↔(K s n).isSome = true:=by
 unfold aX
 rw [List.mem_map]
 constructor
 ·rintro ⟨i,hi,rfl⟩
  exact (List.mem_filter.1 hi).2
 ·intro h
  cases hb:K s n with
  | none=>rw [hb] at h;cases h
  | some b =>
   have:=(hK.rng hb).2.1
   refine ⟨(n - 1).toNat,List.mem_filter.2 ⟨List.mem_range.2 (by omega), ?_⟩,by omega⟩
   rw [show (((n - 1).toNat:Nat):Int)+1 = n by omega]
   exact h
theorem qM (K:av) (s:Int):(aX K s).Pairwise (· < ·):=by
 unfold aX
 rw [List.pairwise_map]
 exact (List.pairwise_lt_range.filter _).imp fun h=>by omega
theorem qL (K:av) (s:Int):(aX K s).length≤999:=by
 unfold aX
 rw [List.length_map]
 have:=List.length_filter_le (fun i:Nat=>(K s ((i:Int)+1)).isSome) (List.range 999)
 rw [List.length_range] at this
 exact this
def AZ (s:Int) (ks:List Fk) (x:Int):List Int:=if (gD ks x.toNat (zS .GFeed_key)).sender = s then [(gD ks x.toNat (zS .GFeed_key)).number] else []
theorem Jw {K:av} {ks:List Fk} {vs:List (List Int)} (hK:bz K) (h:bw K ks vs) (hk:ks.length≤100000) (s:Int):∀ (n:Nat) (out:List Int) (wl:List Int),
  wl.Nodup→(∀ x∈wl,0≤x∧x < (ks.length:Int))→wl.length+n = ks.length→out.Perm (wl.flatMap (AZ s ks))→out.length≤wl.length →
  cN s out (ks.length:Int) wl ks vs = some (aX K s,ks,vs):=by
 intro n
 induction n with
 | zero =>
  intro out wl hnd hr hlen hp ho
  have hw:=Hf hnd hr (by omega)
  rw [iA,fx,aF,EK hw]
  show (gb (aa (out.length≤1000000))<|some (gH out,ks,vs)) = _
  rw [ac (by omega)]
  congr 1
  congr 1
  have hp2:out.Perm (ks.flatMap fun k=>if k.sender = s then [k.number] else []):=by
   refine hp.trans ((List.Perm.flatMap_right _ hw).trans ?_)
   rw [List.flatMap_map]
   have:(List.range ks.length).flatMap (fun p:Nat=>AZ s ks (p:Int)) = ks.flatMap fun k=>if k.sender = s then [k.number] else []:=by
    conv=>rhs;rw [IZ ks (zS .GFeed_key),List.flatMap_map]
    rfl
   rw [this]
  have e:(ks.flatMap fun k=>if k.sender = s then [k.number] else []) = (ks.filter fun k=>ak k.sender s).map fun k=>k.number:=by
   rw [← md]
   congr 1
   funext k
   by_cases hks:k.sender = s
   ·rw [if_pos hks,if_pos (aZ.2 hks)]
   ·rw [if_neg hks,if_neg (by rw [gz.2 hks];simp)]
  rw [e] at hp2
  have hnd2:((ks.filter fun k=>ak k.sender s).map fun k=>k.number).Nodup:=by
   rw [List.nodup_iff_pairwise_ne,List.pairwise_map]
   have h1:(ks.filter fun k=>ak k.sender s).Pairwise (·≠·):=(List.nodup_iff_pairwise_ne.1 h.nd).filter _
   refine h1.imp_of_mem fun {a b} ha hb hne he=>hne ?_
   have e1:=aZ.1 (List.mem_filter.1 ha).2
   have e2:=aZ.1 (List.mem_filter.1 hb).2
   cases a with
   | mk a1 a2=>cases b with
    | mk b1 b2=>simp only at e1 e2 he;rw [e1,e2,he]
  refine EL (Je (hp2.nodup_iff.2 hnd2)) (qM K s) fun z=>?_
  rw [(nz out).mem_iff,hp2.mem_iff,dE hK,List.mem_map, ← h.has,wS]
  constructor
  ·rintro ⟨k,hk,rfl⟩
   obtain ⟨k1,k2⟩:=List.mem_filter.1 hk
   have e1:=aZ.1 k2
   cases k with
   | mk a b=>simp only at e1 k1 ⊢; rw [← e1];exact k1
  ·intro hm
   exact ⟨_,List.mem_filter.2 ⟨hm,fx s⟩,rfl⟩
 | succ n ih =>
  intro out wl hnd hr hlen hp ho
  have hne:=FE (n:=ks.length) (wl:=wl) (by omega)
  rw [iA,fx,aF,LF hne,cond_false]
  refine pU hne fun p hpm=>?_
  obtain ⟨h1,h2⟩:=ln.1 hpm
  have hnd3:((p:Int) :: wl).Nodup:=List.nodup_cons.2 ⟨h2,hnd⟩
  have hr3:∀ x∈(p:Int) :: wl,0≤x∧x < (ks.length:Int):=fun x hx=>by
   rcases List.mem_cons.1 hx with rfl | hx
   ·omega
   ·exact hr x hx
  rw [ac rfl,ac (by omega),ac (by omega)]
  by_cases hs:(gD ks ((p:Nat):Int).toNat (zS .GFeed_key)).sender = s
  ·rw [aZ.2 hs,cond_true,ac (by omega),ac (by omega)]
   refine ih _ _ hnd3 hr3 (by simp;omega) ?_ (by simp;omega)
   rw [List.flatMap_cons]
   have e1:AZ s ks (p:Int) = [(gD ks ((p:Nat):Int).toNat (zS .GFeed_key)).number]:=by unfold AZ;rw [if_pos hs]
   rw [e1]
   exact (List.perm_append_comm).trans (List.Perm.append_left _ hp)
  ·rw [gz.2 hs,cond_false]
   refine ih _ _ hnd3 hr3 (by simp;omega) ?_ (by simp;omega)
   rw [List.flatMap_cons]
   have e1:AZ s ks (p:Int) = []:=by unfold AZ;rw [if_neg hs]
   rw [e1]
   exact hp
theorem gk {K:av} {ks:List Fk} {vs:List (List Int)} (hK:bz K) (h:bw K ks vs) (hk:ks.length≤100000) (s:Int):d9 s ks vs = some (aX K s,ks,vs):=by
 rw [sq]
 exact Jw hK h hk s ks.length [] [] (by simp) (fun x hx=>by cases hx) (by simp) (by simp) (by simp)
def ow (K:av) (s n:Int):Kd:=⟨an ((K s n).getD []),(K s n).getD []⟩
def Ai (K:av):List Kd:=(List.range 6).flatMap fun s:Nat=>(aX K (s:Int)).map (ow K (s:Int))
theorem pA {K:av} (hK:bz K) {s n:Int} (h:(K s n).isSome = true):(ow K s n).D.Sender = s∧(ow K s n).D.Number = n:=by
 unfold ow
 cases hb:K s n with
 | none=>rw [hb] at h;cases h
 | some b=>exact ⟨(hK _ _ _ hb).2.2.1,(hK _ _ _ hb).2.2.2⟩
theorem Mi {K:av} {L:List Kd} (hK:bz K) (h:cK K L):L = Ai K:=by
 have s2:(Ai K).Pairwise fun x y=>hY x.D.Sender x.D.Number y.D.Sender y.D.Number:=by
  unfold Ai
  rw [List.pairwise_flatMap]
  refine ⟨fun s _=>?_, ?_⟩
  ·rw [List.pairwise_map]
   refine (qM K s).imp_of_mem fun {a b} ha hb hab=>?_
   have e1:=pA hK ((dE hK _ _).1 ha)
   have e2:=pA hK ((dE hK _ _).1 hb)
   rw [e1.1,e1.2,e2.1,e2.2]
   exact .inr ⟨rfl,hab⟩
  ·refine List.pairwise_lt_range.imp fun {a b} hab x hx y hy=>?_
   obtain ⟨m,hm,rfl⟩:=List.mem_map.1 hx
   obtain ⟨n,hn,rfl⟩:=List.mem_map.1 hy
   have e1:=pA hK ((dE hK _ _).1 hm)
   have e2:=pA hK ((dE hK _ _).1 hn)
   rw [e1.1,e1.2,e2.1,e2.2]
   exact .inl (by omega)
 have nd:∀ {l:List Kd},(l.Pairwise fun x y=>hY x.D.Sender x.D.Number y.D.Sender y.D.Number)→l.Nodup:=fun hl=>by
  rw [List.nodup_iff_pairwise_ne]
  exact hl.imp fun hxy e=>by subst e;unfold hY at hxy;omega
 refine List.Perm.eq_of_pairwise (le:=fun x y=>hY x.D.Sender x.D.Number y.D.Sender y.D.Number) (fun x y _ _ h1 h2=>by unfold hY at *; omega) h.srt s2 ((List.perm_ext_iff_of_nodup (nd h.srt) (nd s2)).2 fun x=>?_)
 constructor
 ·intro hx
  obtain ⟨v1,v2⟩:=h.val x hx
  have hr:=(hK.rng v1).1
  refine List.mem_flatMap.2 ⟨x.D.Sender.toNat,List.mem_range.2 (by omega),List.mem_map.2 ⟨x.D.Number,(dE hK _ _).2 ?_, ?_⟩⟩
  ·rw [show ((x.D.Sender.toNat:Nat):Int) = x.D.Sender by omega,v1];rfl
  ·rw [show ((x.D.Sender.toNat:Nat):Int) = x.D.Sender by omega]
   unfold ow
   rw [v1]
   cases x with
   | mk D B=>simp only [Option.getD_some] at v2 ⊢; rw [← v2]
 ·intro hx
  obtain ⟨s,hs,hx⟩:=List.mem_flatMap.1 hx
  obtain ⟨n,hn,rfl⟩:=List.mem_map.1 hx
  have hn:=(dE hK _ _).1 hn
  cases hb:K (s:Int) n with
  | none=>rw [hb] at hn;cases hn
  | some b =>
   obtain ⟨y,hy,e1,e2⟩:=h.mem _ _ _ hb
   obtain ⟨v1,v2⟩:=h.val y hy
   rw [e1,e2,hb] at v1
   injection v1 with v1
   have:ow K (s:Int) n = y:=by
    unfold ow
    rw [hb]
    cases y with
    | mk D B=>simp only [Option.getD_some] at v1 v2 ⊢; rw [v2,v1]
   rw [this]
   exact hy
theorem Lh {v x:Int} (k:Nat) {m:Int} (hm:m = 2 ^ k) (h0:0≤v) (h1:v*m+x < 4294967296) (h2:0≤x) (h3:x < m):IntKind.wrap .u32 (p9 32 (v*m) x) = v*m+x:=by
 obtain ⟨a,rfl⟩:=Int.eq_ofNat_of_zero_le h0
 obtain ⟨c,rfl⟩:=Int.eq_ofNat_of_zero_le h2
 have hmn:m = ((2 ^ k:Nat):Int):=by rw [hm];simp
 subst hmn
 have e0:(a:Int)*((2 ^ k:Nat):Int) = ((a*2 ^ k:Nat):Int):=by simp
 rw [e0] at h1 ⊢
 have hc:c < 2 ^ k:=by omega
 have e:p9 32 ((a*2 ^ k:Nat):Int) (c:Int) = ((a*2 ^ k+c:Nat):Int):=by
  show ((BitVec.ofInt 32 ((a*2 ^ k:Nat):Int) ||| BitVec.ofInt 32 (c:Int)).toNat:Int) = _
  have e1:(BitVec.ofInt 32 ((a*2 ^ k:Nat):Int)).toNat = a <<< k:=by
   rw [BitVec.toNat_ofInt,Nat.shiftLeft_eq]
   omega
  have e2:(BitVec.ofInt 32 (c:Int)).toNat = c:=by
   rw [BitVec.toNat_ofInt]
   omega
  rw [BitVec.toNat_or,e1,e2, ← Nat.shiftLeft_add_eq_or_of_lt hc,Nat.shiftLeft_eq]
 rw [e,eT (by omega) (by omega)]
 omega
theorem pl {b:List Int} {o n i:Nat} (hi:i < n):gD (aj b o n) i 0 = gD b (o+i) 0:=by
 unfold aj
 show ((b.drop o).take n).getD i 0 = b.getD (o+i) 0
 rw [List.getD_eq_getElem?_getD,List.getD_eq_getElem?_getD,List.getElem?_take,if_pos hi,List.getElem?_drop]
theorem NO {b:List Int} {o:Nat} (h:o+2≤b.length):ax (aj b o 2) = gD b o 0*256+gD b (o+1) 0:=by
 have e:aj b o 2 = [gD b o 0,gD b (o+1) 0]:=by
  have h1:=List.drop_eq_getElem_cons (l:=b) (i:=o) (by omega)
  have h2:=List.drop_eq_getElem_cons (l:=b) (i:=o+1) (by omega)
  unfold aj
  rw [h1,h2,List.take_succ_cons,List.take_succ_cons,List.take_zero]
  congr 1
  ·exact (lX (List.getElem?_eq_getElem _)).symm
  ·congr 1
   exact (lX (List.getElem?_eq_getElem _)).symm
 rw [e]
 simp [ax,pZ]
theorem NY {b:List Int} {o:Nat} (h:o+4≤b.length):ax (aj b o 4) = ((gD b o 0*256+gD b (o+1) 0)*256+gD b (o+2) 0)*256+gD b (o+3) 0:=by
 have e:aj b o 4 = [gD b o 0,gD b (o+1) 0,gD b (o+2) 0,gD b (o+3) 0]:=by
  have h1:=List.drop_eq_getElem_cons (l:=b) (i:=o) (by omega)
  have h2:=List.drop_eq_getElem_cons (l:=b) (i:=o+1) (by omega)
  have h3:=List.drop_eq_getElem_cons (l:=b) (i:=o+1+1) (by omega)
  have h4:=List.drop_eq_getElem_cons (l:=b) (i:=o+1+1+1) (by omega)
  unfold aj
  rw [h1,h2,h3,h4,List.take_succ_cons,List.take_succ_cons,List.take_succ_cons,List.take_succ_cons,List.take_zero]
  congr 1
  ·exact (lX (List.getElem?_eq_getElem _)).symm
  ·congr 1
   ·exact (lX (List.getElem?_eq_getElem _)).symm
   ·congr 1
    ·exact (lX (List.getElem?_eq_getElem _)).symm
    ·congr 1
     exact (lX (List.getElem?_eq_getElem _)).symm
 rw [e]
 simp [ax,pZ]
def pI (inv:List Int) (s:Nat):Int:=ax (aj inv (1+6*s) 2)
def cI (inv:List Int) (s:Nat):Int:=ax (aj inv (3+6*s) 4)
theorem ML {inv:List Int} (hb:aA inv) (s:Nat):0≤pI inv s∧pI inv s < 65536:=j6 (hb.sub _ 2) (n:=2) ct (by decide)
theorem so {inv:List Int} (hb:aA inv) (hl:inv.length = 37) {s:Nat} (hs:s < 6):oS inv (s:Int) = some (pI inv s,cI inv s):=by
 rw [C7,aD (n:=6*(s:Int)) (by omega) (by omega),aD (n:=1+6*(s:Int)) (by omega) (by omega),show (1+6*(s:Int)).toNat = 1+6*s by omega,show ((inv.length:Int) - (1+6*(s:Int))).toNat = 36 - 6*s by omega]
 have hsl:(aj inv (1+6*s) (36 - 6*s)).length = 36 - 6*s:=by unfold aj;rw [List.length_take,List.length_drop];omega
 rw [hsl,ac (by omega),ac (by omega),ac (by omega),ac (by omega),ac (by omega),ac (by omega),ac (by omega),ac (by omega),ac (by omega),
  pl (by omega),pl (by omega),pl (by omega),pl (by omega),pl (by omega),pl (by omega)]
 have g0:=hb.gD (1+6*s+0)
 have g1:=hb.gD (1+6*s+1)
 have g2:=hb.gD (1+6*s+2)
 have g3:=hb.gD (1+6*s+3)
 have g4:=hb.gD (1+6*s+4)
 have g5:=hb.gD (1+6*s+5)
 have e2:pI inv s = gD inv (1+6*s+0) 0*256+gD inv (1+6*s+1) 0:=NO (by omega)
 have e4:cI inv s = ((gD inv (1+6*s+2) 0*256+gD inv (1+6*s+3) 0)*256+gD inv (1+6*s+4) 0)*256+gD inv (1+6*s+5) 0:=by
  unfold cI
  rw [NY (by omega),show 3+6*s = 1+6*s+2 by omega]
 rw [e2,e4]
 generalize gD inv (1+6*s+0) 0 = x0 at *
 generalize gD inv (1+6*s+1) 0 = x1 at *
 generalize gD inv (1+6*s+2) 0 = x2 at *
 generalize gD inv (1+6*s+3) 0 = x3 at *
 generalize gD inv (1+6*s+4) 0 = x4 at *
 generalize gD inv (1+6*s+5) 0 = x5 at *
 rw [aD (n:=x0) (by omega) (by omega),Hm g0.1 (by omega) g1.1 g1.2,eT (n:=x2) g2.1 (by omega),eT (n:=x3) g3.1 (by omega),eT (n:=x4) g4.1 (by omega),eT (n:=x5) g5.1 (by omega),eT (n:=x2*16777216) (by omega) (by omega),eT (n:=x3*65536) (by omega) (by omega),eT (n:=x4*256) (by omega) (by omega),
  Lh 24 (by decide) g2.1 (by omega) (by omega) (by omega),show x2*16777216+x3*65536 = (x2*256+x3)*65536 by omega,Lh 16 (by decide) (by omega) (by omega) (by omega) (by omega),show (x2*256+x3)*65536+x4*256 = ((x2*256+x3)*256+x4)*256 by omega,Lh 8 (by decide) (by omega) (by omega) (by omega) (by omega)]
def yr (K:av) (inv:List Int) (s:Nat):Bool:=aa (pI inv s≤(cJ K (s:Int):Int))&&aT (rQ K (s:Int) (pI inv s).toNat) (cI inv s)
def tB (K:av) (inv:List Int) (s:Nat) (n:Int):Bool:=aa (pI inv s < n)||yr K inv s
def lQ (K:av) (inv:List Int) (s:Nat):List (List Int):=((aX K (s:Int)).filter (tB K inv s)).map fun n=>(K (s:Int) n).getD []
def zo (K:av) (inv:List Int):List (List Int):=(List.range 6).flatMap (lQ K inv)
def Hg (inv:List Int):Bool:=(List.range 6).all fun s=>aa (pI inv s≤999)
theorem Bd {inv:List Int}:Hg inv = true↔∀ s < 6,pI inv s≤999:=by
 unfold Hg
 rw [List.all_eq_true]
 constructor
 ·exact fun h s hs=>rU (h s (List.mem_range.2 hs))
 ·exact fun h s hs=>bf (h s (List.mem_range.1 hs))
def Bv (inv:List Int):Bool:=ak (inv.length:Int) 37&&(ak (gD inv 0 0) 73&&Hg inv)
def zd (K:av) (inv:List Int):List (List Int) × Int:=if Bv inv = true then (zo K inv,0) else ([],11)
theorem JO (K:av) (inv:List Int) (s:Nat):(lQ K inv s).length≤999:=by
 unfold lQ
 rw [List.length_map]
 exact Nat.le_trans (List.length_filter_le _ _) (qL K s)
theorem E9 (K:av) (inv:List Int):∀ n:Nat,((List.range n).flatMap (lQ K inv)).length≤999*n
 | 0=>by simp
 | n+1=>by
  rw [List.range_succ,List.flatMap_append,List.length_append]
  have:=E9 K inv n
  have:=JO K inv n
  rw [List.flatMap_cons,List.flatMap_nil,List.append_nil]
  omega
theorem Gt {K:av} {ks vs} (hK:bz K) (h:bw K ks vs) (inv:List Int) {s:Nat} (hs:s < 6) (d:Bool) (hd:d = yr K inv s) (o0:List (List Int)) (ho:o0.length≤10000) :
  aK inv (s:Int) (pI inv s) d (s:Int) ((aX K (s:Int)).length:Int) 0 o0 (aX K (s:Int)) ks vs = cM inv ((s+1:Nat):Int) (o0++lQ K inv s) ks vs:=by
 have hn:=qL K (s:Int)
 have loop:=(wJ (aX K (s:Int)) (fun i o=>aK inv (s:Int) (pI inv s) d (s:Int) ((aX K (s:Int)).length:Int) i o (aX K (s:Int)) ks vs) (fun o n=>o++if tB K inv s n = true then [(K (s:Int) n).getD []] else []) (fun i o=>o.length≤10000+i) (fun i o hi ho=>⟨by
   show aK _ _ _ _ _ _ _ _ _ _ _ = aK _ _ _ _ _ _ _ _ _ _ _
   rw [gu]
   simp only [eD hi,cu,cond_true,aF,Bool.or_true,eH hi,di hi (by omega)]
   rw [zC,hd]
   cases hw:tB K inv s (aX K (s:Int))[i] with
   | true =>
    rw [show (aa (pI inv s < (aX K (s:Int))[i])||yr K inv s) = true from hw,cond_true,nN hK h,Option.bind_some,ac (by omega),ac (by omega),if_pos rfl]
   | false =>
    rw [show (aa (pI inv s < (aX K (s:Int))[i])||yr K inv s) = false from hw,cond_false,if_neg (by simp),List.append_nil],by split <;> simp <;> omega⟩) o0 (by omega)).1
 refine Eq.trans loop ?_
 show aK _ _ _ _ _ _ _ _ _ _ _ = _
 rw [gu,dq,cond_false,aD (by omega) (by omega)]
 have e:∀ (m:List Int) (o:List (List Int)),m.foldl (fun o n=>o++if tB K inv s n = true then [(K (s:Int) n).getD []] else []) o = o++(m.filter (tB K inv s)).map fun n=>(K (s:Int) n).getD []:=by
  intro m
  induction m with
  | nil=>intro o;simp
  | cons x m ih =>
   intro o
   rw [List.foldl_cons,ih,List.filter_cons]
   split <;> simp
 rw [e]
 rfl
theorem uz {K:av} {ks vs} (hK:bz K) (h:bw K ks vs) (hk:ks.length≤100000) {inv:List Int} (hb:aA inv) (hl:inv.length = 37):∀ (k n:Nat),n+k = 6→cM inv (n:Int) ((List.range n).flatMap (lQ K inv)) ks vs = some (zo K inv,0,ks,vs)
 | 0,n,hn=>by
  rw [iD,bJ (by omega),cond_false,show n = 6 by omega]
  rfl
 | k+1,n,hn=>by
  have hr:=ML hb n
  have hp9:=lg hK (n:Int)
  have hml:=E9 K inv n
  have step:∀ d,d = yr K inv n→aK inv (n:Int) (pI inv n) d (n:Int) ((aX K (n:Int)).length:Int) 0 ((List.range n).flatMap (lQ K inv)) (aX K (n:Int)) ks vs = some (zo K inv,0,ks,vs):=by
   intro d hd
   rw [Gt hK h inv (by omega) d hd _ (by omega)]
   have:=uz hK h hk hb hl k (n+1) (by omega)
   rw [List.range_succ,List.flatMap_append,List.flatMap_cons,List.flatMap_nil,List.append_nil] at this
   exact this
  rw [iD,bf (by omega),cond_true,so hb hl (by omega),Option.bind_some,eE hK h,Option.bind_some]
  dsimp only
  by_cases hp:pI inv n≤(cJ K (n:Int):Int)
  ·have e:pI inv n = ((pI inv n).toNat:Int):=by omega
   have e2:eM (n:Int) (pI inv n) ks vs = some (rQ K (n:Int) (pI inv n).toNat,ks,vs):=by
    rw [e]
    have:=lv hK h (n:Int) (p:=(pI inv n).toNat) (by omega)
    rw [this]
    congr 2
   rw [bf hp,cond_true,e2,Option.bind_some]
   dsimp only
   rw [gk hK h hk,Option.bind_some]
   exact step _ (by unfold yr;rw [bf hp,Bool.true_and])
  ·rw [bJ hp,cond_false,gk hK h hk,Option.bind_some]
   exact step _ (by unfold yr;rw [bJ hp,Bool.false_and])
theorem sD {K:av} {ks vs} (hK:bz K) (h:bw K ks vs) (hk:ks.length≤100000) {inv:List Int} (hb:aA inv) (hl:inv.length = 37):∀ (k n:Nat),n+k = 6→(∀ s < n,pI inv s≤999) →
  dG inv (n:Int) ks vs = some (if Hg inv = true then (zo K inv,0,ks,vs) else ([],11,ks,vs))
 | 0,n,hn,hs=>by
  rw [iJ,bJ (by omega),cond_false,if_pos (Bd.2 (by rw [show 6 = n by omega];exact hs))]
  exact uz hK h hk hb hl 6 0 rfl
 | k+1,n,hn,hs=>by
  rw [iJ,bf (by omega),cond_true,so hb hl (by omega),Option.bind_some]
  dsimp only
  by_cases hp:pI inv n≤999
  ·rw [bJ (by omega),cond_false,aD (by omega) (by omega)]
   have:=sD hK h hk hb hl k (n+1) (by omega) (fun s h1=>by
    by_cases e:s = n
    ·rw [e];exact hp
    ·exact hs s (by omega))
   rw [show ((n+1:Nat):Int) = (n:Int)+1 by omega] at this
   exact this
  ·rw [bf (by omega),cond_true,if_neg fun hh=>hp (Bd.1 hh n (by omega))]
theorem GR {inv:List Int} (hl:inv.length = 37) (h0:gD inv 0 0 = 73):Bv inv = Hg inv:=by
 unfold Bv
 rw [aZ.2 (show (inv.length:Int) = 37 by omega),aZ.2 h0,Bool.true_and,Bool.true_and]
theorem rr {K:av} {ks vs} (hK:bz K) (h:bw K ks vs) (hk:ks.length≤100000) {inv:List Int} (hb:aA inv):jE inv ks vs = some ((zd K inv).1,(zd K inv).2,ks,vs):=by
 rw [sm,Bool.or_true,aF]
 unfold zd
 by_cases hl:inv.length = 37
 ·rw [jv (by rw [bf (by omega),Bool.or_true]),bW.2 (by omega),cond_false]
  by_cases h0:gD inv 0 0 = 73
  ·rw [bW.2 h0,cond_false]
   have:=sD hK h hk hb hl 6 0 rfl (fun s hs=>by omega)
   rw [show ((0:Nat):Int) = 0 from rfl] at this
   rw [this]
   rw [GR hl h0]
   cases Hg inv <;> rfl
  ·rw [bT.2 h0,cond_true,if_neg]
   unfold Bv
   rw [gz.2 h0];simp
 ·rw [jv (by rw [bT.2 (by omega)];rfl),bT.2 (by omega),cond_true,cond_true,if_neg]
  unfold Bv
  rw [gz.2 (by omega)];simp
end Go.Ax
