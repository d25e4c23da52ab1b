import Derived.Test.YtbjfcadcipfolaaGreatZP62
import Derived.Test.YtbjfcadcipfolaaGreatZT
set_option linter.all false
/- What is kept is the least of the documents with a number;chains. -/
set_option maxRecDepth 100000
namespace Go.Ax
theorem Fc {d:List (List Int)} (h:sG d) {s n:Int} {b:List Int}:(b∈d∧(an b).Sender = s∧(an b).Number = n)↔1≤n∧n≤((jp s d).length:Int)∧gD (jp s d) (n - 1).toNat [] = b:=by
 have hl:=h.link s
 constructor
 ·rintro ⟨h1,h2,h3⟩
  obtain ⟨i,hi,e⟩:=List.getElem_of_mem (A8.2 ⟨h1,h2⟩)
  have h4:=(hl i hi).1
  rw [e] at h4
  refine ⟨by omega,by omega, ?_⟩
  rw [show (n - 1).toNat = i by omega, ← e]
  exact lX (List.getElem?_eq_getElem hi)
 ·rintro ⟨h1,h2,h3⟩
  have hi:(n - 1).toNat < (jp s d).length:=by omega
  rw [lX (List.getElem?_eq_getElem hi)] at h3
  have h4:=hl _ hi
  have h5:=A8.1 (List.getElem_mem hi)
  rw [h3] at h4 h5
  exact ⟨h5.1,h5.2,by omega⟩
end Go.Ax
set_option linter.all false
/- Linked chains count as a whole;without one document the earlier ones of its sender count. -/
set_option maxRecDepth 100000
namespace Go.Ax
end Go.Ax
set_option linter.all false
/- What one feed adds of what the other one sends;forged chains agree after two exchanges. -/
set_option maxRecDepth 100000
namespace Go.Ax
def D4 (K:av) (s:Int) (a:Nat):Prop:=∀ n:Int,(K s n).isSome = true↔1≤n∧n≤(a:Int)
theorem KZ {T:Type} {o:Option T} (h:¬ o.isSome = true):o = none:=by
 cases o with
 | none=>rfl
 | some x=>exact absurd rfl h
theorem D4.pre {K:av} {s:Int} {a:Nat} (h:D4 K s a) (hK:bz K):cJ K s = a :=
 CO hK s (fun n h1 h2=>(h _).2 ⟨by omega,by omega⟩) (KZ fun hh=>by have:=(h _).1 hh;omega)
theorem vI (l:List GPensionlaw31_Raw):∃ d L ks vs,jo l = some d∧lT d = some (true,d,⟨L⟩,ks,vs)∧sG d∧bw (o5 d) ks vs∧cK (o5 d) L∧bz (o5 d)∧ks.length≤24∧L.length≤24:=by
 obtain ⟨d,h1,h2,_⟩:=IW l
 have:=h2.len
 obtain ⟨L,ks,vs,g1,g2,g3,g4,g5,g6⟩:=MC h2.ok (by omega)
 exact ⟨d,L,ks,vs,h1,g1,h2,g2,g3,g4,g5,g6⟩
end Go.Ax
set_option linter.all false
/- Two feeds that know initial parts of the same chains know the same after an exchange. -/
set_option maxRecDepth 100000
namespace Go.Ax
structure LC (d:List (List Int)) (na:Int→Int) (K:av):Prop where
  val:∀ s n b,K s n = some b↔b∈d∧(an b).Number≤na (an b).Sender∧(an b).Sender = s∧(an b).Number = n
theorem LC.len {d:List (List Int)} {na:Int→Int} {K:av} (h:LC d na K) (hd:sG d) (s:Int):∃ a:Nat,D4 K s a:=by
 refine ⟨(min (na s) ((jp s d).length:Int)).toNat,fun n=>?_⟩
 constructor
 ·intro hs
  cases hb:K s n with
  | none=>rw [hb] at hs;cases hs
  | some b =>
   obtain ⟨h1,h2,h3,h4⟩:=(h.val s n b).1 hb
   obtain ⟨h5,h6,_⟩:=(Fc hd).1 ⟨h1,h3,h4⟩
   rw [h3,h4] at h2
   omega
 ·intro hn
  have h5:1≤n∧n≤((jp s d).length:Int)∧n≤na s:=by omega
  obtain ⟨h1,h2,h3⟩:=(Fc hd).2 ⟨h5.1,h5.2.1,rfl⟩
  rw [(h.val s n _).2 ⟨h1,by rw [h2,h3];exact h5.2.2,h2,h3⟩]
  rfl
end Go.Ax
set_option linter.all false
/- Both feeds answer all questions alike;what is no document is rejected. -/
set_option maxRecDepth 100000
namespace Go.Ax
def lZ (n:Int):GSpan:=⟨n,n+1⟩
noncomputable def sH (K:av) (s:Int):List GSpan:=((aX K s).map lZ).foldl eG []
theorem F3 (K:av) (s:Int):∀ n∈aX K s,1≤n∧n≤999:=fun n hn=>by
 unfold aX at hn
 obtain ⟨i,hi,rfl⟩:=List.mem_map.1 hn
 have:=List.mem_range.1 (List.mem_filter.1 hi).1
 omega
theorem Ck (K:av) (s:Int):qU ((aX K s).map lZ) = sH K s:=by
 have hr:=F3 K s
 have ok:∀ x∈(aX K s).map lZ,0≤x.From∧x.From < x.To∧x.To≤73049:=fun x hx=>by
  obtain ⟨n,hn,rfl⟩:=List.mem_map.1 hx
  have:=hr n hn
  unfold lZ
  simp only
  omega
 have asc:((aX K s).map lZ).Pairwise fun a b=>a.From≤b.From:=by
  rw [List.pairwise_map]
  exact (qM K s).imp fun h=>by unfold lZ;simp only;omega
 obtain ⟨f1,f2,_⟩:=wj _ [] trivial (fun x hx=>by simp at hx) asc ok
 obtain ⟨g1,g2,_⟩:=EF ((aX K s).map lZ)
 refine CW g1 f1 fun d=>?_
 unfold sH
 rw [g2,f2]
 constructor
 ·rintro ⟨h,_⟩;exact .inr h
 ·rintro (h | ⟨x,hx,h⟩)
  ·exact (jX h).elim
  ·have:=ok x hx
   exact ⟨⟨x,hx,h⟩,by omega,by omega⟩
theorem ry {K:av} {ks vs} (hK:bz K) (h:bw K ks vs) (hk:ks.length≤100000) (s:Int):jO s ks vs = some (sH K s,ks,vs):=by
 have hn:=qL K s
 have hr:=F3 K s
 rw [rS,gk hK h hk,Option.bind_some]
 dsimp only
 have loop:=LD (aX K s) (fun i out=>bE ((aX K s).length:Int) i out (aX K s) ks vs) (fun n=>[lZ n]) 1 (fun x _=>by simp) (fun i out hi ho=>by
  show bE _ _ _ _ _ _ = bE _ _ _ _ _ _
  have:=hr _ (List.getElem_mem hi)
  rw [ja]
  simp only [eD hi,cu,cond_true,aF,Bool.or_true,eH hi,di hi (by omega)]
  rw [ac (by omega),ac (by omega),aD (by omega) (by omega)]
  rfl)
 refine Eq.trans loop ?_
 show bE _ _ _ _ _ _ = _
 have e:((aX K s).flatMap fun n=>[lZ n]) = (aX K s).map lZ:=by
  generalize aX K s = l
  induction l with
  | nil=>rfl
  | cons x l ih=>rw [List.flatMap_cons,ih];rfl
 rw [ja,dq,cond_false,e,Bp _ (by rw [List.length_map];omega),Option.bind_some,Ck]
theorem Ja {L:List Kd} {s:Int} {i:Nat} (hi:i < L.length) (hl:L.length≤100000) {out:List GSpan} (ho:out.length≤i) (hn:L[i].D.Sender = s→1≤L[i].D.Number∧L[i].D.Number≤999∧∀ y∈out,y.To≤L[i].D.Number) :
  aP ⟨L⟩ s (i:Int) out = aP ⟨L⟩ s ((i+1:Nat):Int) (if L[i].D.Sender = s then eG out (lZ L[i].D.Number) else out):=by
 rw [iH]
 dsimp only
 rw [eD hi,cond_true,cu,aF,aF,eH hi,di hi (by omega)]
 by_cases hs:L[i].D.Sender = s
 ·obtain ⟨h1,h2,h3⟩:=hn hs
  rw [bW.2 hs,cond_false,if_pos hs]
  rcases lU out with rfl | ⟨p,x,rfl⟩
  ·rw [aD (n:=L[i].D.Number+1) (by omega) (by omega)]
   rfl
  ·have hx:=h3 x (by simp)
   have hlen:(p++[x]).length = p.length+1:=by simp
   rw [l7,GT p x (by omega),Int.toNat_natCast,Be,Ed,bf (p:=(0:Int) < ((p++[x]).length:Int)) (by omega),jv (by rw [cu,Bool.or_true]),jv (by rw [bf (by omega),Bool.or_true]),cond_true]
   by_cases he:x.To = L[i].D.Number
   ·rw [aZ.2 he,cond_true,cu,aF,ac (by omega),aF,ac (by omega),if_pos (by unfold lZ;simp only;omega),aD (by omega) (by omega),if_pos (by unfold lZ;simp only;omega)]
    show aP _ _ _ (p++[⟨x.From,x.To+1⟩]) = aP _ _ _ (p++[⟨x.From,L[i].D.Number+1⟩])
    rw [he]
   ·rw [gz.2 he,cond_false,ac (by omega),ac (by omega),if_neg (by unfold lZ;simp only;omega),aD (by omega) (by omega)]
    rfl
 ·rw [bT.2 hs,cond_true,if_neg hs]
theorem Ky {out:List GSpan} {n:Int} (h:∀ y∈out,y.To≤n):∀ y∈eG out (lZ n),y.To≤n+1:=by
 intro y hy
 rcases lU out with rfl | ⟨p,x,rfl⟩
 ·rw [qV,List.mem_singleton] at hy
  rw [hy];exact Int.le_refl _
 ·have hx:=h x (by simp)
  rw [l7] at hy
  split at hy
  ·rcases List.mem_append.1 hy with hy | hy
   ·have:=h y (by simp [hy]);omega
   ·rw [List.mem_singleton] at hy
    rw [hy]
    simp only
    split
    ·exact Int.le_refl _
    ·omega
  ·rcases List.mem_append.1 hy with hy | hy
   ·have:=h y hy;omega
   ·rw [List.mem_singleton] at hy
    rw [hy];exact Int.le_refl _
theorem Bh {A T:Type} (p:T→Bool) (g:A→T→A):∀ (l:List T) (a:A),l.foldl (fun a x=>if p x = true then g a x else a) a = (l.filter p).foldl g a
 | [],a=>rfl
 | x :: l,a=>by
  rw [List.foldl_cons,List.filter_cons]
  split
  ·rw [List.foldl_cons,Bh p g l]
  ·rw [Bh p g l]
theorem IY {K:av} (hK:bz K) {s:Nat} (hs:s < 6):((Ai K).filter fun x=>ak x.D.Sender (s:Int)).map (fun x=>x.D.Number) = aX K (s:Int):=by
 have key:∀ l:List Nat,l.Nodup→(((l.flatMap fun t:Nat=>(aX K (t:Int)).map (ow K (t:Int))).filter fun x=>ak x.D.Sender (s:Int)).map fun x=>x.D.Number) = if s∈l then aX K (s:Int) else []:=by
  intro l
  induction l with
  | nil=>intro _;rfl
  | cons t l ih =>
   intro hnd
   obtain ⟨h1,h2⟩:=List.nodup_cons.1 hnd
   rw [List.flatMap_cons,List.filter_append,List.map_append,ih h2]
   have e1:(((aX K (t:Int)).map (ow K (t:Int))).filter fun x=>ak x.D.Sender (s:Int)).map (fun x=>x.D.Number) = if t = s then aX K (s:Int) else []:=by
    rw [List.filter_map,List.map_map]
    by_cases hts:t = s
    ·subst hts
     rw [if_pos rfl]
     have:(aX K (t:Int)).filter ((fun x:Kd=>ak x.D.Sender (t:Int)) ∘ ow K (t:Int)) = aX K (t:Int):=by
      rw [List.filter_eq_self]
      intro n hn
      exact aZ.2 (pA hK ((dE hK _ _).1 hn)).1
     rw [this]
     conv=>rhs;rw [← List.map_id (aX K (t:Int))]
     refine List.map_congr_left fun n hn=>?_
     exact (pA hK ((dE hK _ _).1 hn)).2
    ·rw [if_neg hts]
     have:(aX K (t:Int)).filter ((fun x:Kd=>ak x.D.Sender (s:Int)) ∘ ow K (t:Int)) = []:=by
      rw [List.filter_eq_nil_iff]
      intro n hn
      have:=(pA hK ((dE hK _ _).1 hn)).1
      show ¬ ak (ow K (t:Int) n).D.Sender (s:Int) = true
      rw [this,aZ]
      omega
     rw [this]
     rfl
   rw [e1]
   by_cases hts:t = s
   ·subst hts
    rw [if_pos rfl,if_neg h1,if_pos (by simp),List.append_nil]
   ·rw [if_neg hts,List.nil_append]
    by_cases hsl:s∈l
    ·rw [if_pos hsl,if_pos (by simp [hsl])]
    ·rw [if_neg hsl,if_neg (by simp [hsl];omega)]
 unfold Ai
 rw [key _ List.nodup_range,if_pos (List.mem_range.2 hs)]
theorem qi {K:av} {L:List Kd} (hK:bz K) (h:cK K L) (hl:L.length≤100000) {s:Nat} (hs:s < 6):iP ⟨L⟩ (s:Int) = some (sH K (s:Int)):=by
 rw [rt]
 have rng:∀ x∈L,1≤x.D.Number∧x.D.Number≤999:=fun x hx=>(hK.rng (h.val x hx).1).2.1
 have loop:=(wJ L (fun i out=>aP ⟨L⟩ (s:Int) i out) (fun out x=>if ak x.D.Sender (s:Int) = true then eG out (lZ x.D.Number) else out) (fun i out=>out.length≤i∧∀ y∈out, ∀ j (hj:j < L.length),i≤j→L[j].D.Sender = (s:Int)→y.To≤L[j].D.Number) (fun i out hi ho=>by
  obtain ⟨ho1,ho2⟩:=ho
  have r:=rng _ (List.getElem_mem hi)
  have step:=Ja (s:=(s:Int)) hi hl ho1 (fun hse=>⟨r.1,r.2,fun y hy=>ho2 y hy i hi (Nat.le_refl _) hse⟩)
  by_cases hse:L[i].D.Sender = (s:Int)
  ·rw [if_pos hse] at step
   rw [if_pos (aZ.2 hse)]
   refine ⟨step,by have:=CL out (lZ L[i].D.Number);omega,fun y hy j hj hij hje=>?_⟩
   have h1:=Ky (fun y hy=>ho2 y hy i hi (Nat.le_refl _) hse) y hy
   have h2:=(List.pairwise_iff_getElem.1 h.srt) i j hi hj (by omega)
   rw [hse,hje] at h2
   unfold hY at h2
   omega
  ·rw [if_neg hse] at step
   rw [if_neg (by rw [aZ];exact hse)]
   exact ⟨step,by omega,fun y hy j hj hij hje=>ho2 y hy j hj (by omega) hje⟩) [] ⟨by simp,fun y hy=>by cases hy⟩).1
 refine Eq.trans loop ?_
 show aP _ _ _ _ = _
 rw [iH]
 show (bif aa ((L.length:Int) < (L.length:Int)) then _ else _) = _
 rw [dq,cond_false,Bh (fun x:Kd=>ak x.D.Sender (s:Int)) (fun out x=>eG out (lZ x.D.Number))]
 unfold sH
 rw [← IY hK hs,Mi hK h,List.map_map,List.foldl_map]
 rfl
theorem AJ (a:List GSpan) (hl:a.length≤100000):sT a a = some true:=by
 rw [Dq,bW.2 rfl,cond_false]
 refine (AB a (fun i=>dK a a i) (fun _=>false) none (some true) ?_ fun i hi=>?_).trans (by simp)
 ·show dK _ _ _ = _
  rw [oH,dq];rfl
 ·show dK _ _ _ = if (false:Bool) = true then none else dK a a ((i+1:Nat):Int)
  rw [if_neg (by simp),oH]
  simp only [eD hi,cu,cond_true,aF,Bool.or_true,eH hi,di hi (by omega)]
  simp only [fx,Bool.and_self,Bool.not_true,cond_false]
theorem HG (K:av) (s:Int):(sH K s).length≤999:=by
 have h:=(EF ((aX K s).map lZ)).2.2
 rw [Ck,List.length_map] at h
 exact Nat.le_trans h (qL K s)
theorem G8 {K:av} (hK:bz K) (s:Int):∀ (k n:Nat) (prev:Int), ∀ d∈fG K s k n prev,aA d.Body
 | 0,_,_,d,hd=>by cases hd
 | k+1,n,prev,d,hd=>by
  unfold fG at hd
  split at hd
  ·cases hd
  ·next b hb =>
   split at hd
   ·rcases List.mem_cons.1 hd with rfl | hd
    ·exact (xM (hK _ _ _ hb).1).1
    ·exact G8 hK s k (n+1) _ d hd
   ·cases hd
theorem AQ {d:GDocument} (h:aA d.Body):sQ d d = some true:=by
 rw [Dn,fx,cond_true,fx,cond_true,fx,cond_true,fx,cond_true,mm h h,decide_eq_true rfl]
 rfl
theorem AH {K:av} {L:List Kd} {ks vs} (hK:bz K) (h:cK K L) (hM:bw K ks vs) (hl:L.length≤100000) (hk:ks.length≤100000):tD ⟨L⟩ ks vs = some (true,⟨L⟩,ks,vs):=by
 rw [Dt]
 have key:∀ (k s:Nat),s+k = 6→jW (s:Int) ⟨L⟩ ks vs = some (true,⟨L⟩,ks,vs):=by
  intro k
  induction k with
  | zero =>
   intro s hs
   rw [oK,bJ (by omega),cond_false,fp hK hM,Option.bind_some]
   dsimp only
   rw [o6 hK h (by omega),Option.bind_some,mm (BF _) (BF _),decide_eq_true rfl,Option.bind_some]
  | succ k ih =>
   intro s hs
   have hd:=E7 K (s:Int) 1000 1 0
   have hd:(nt K (s:Int)).length≤1000:=hd
   rw [oK,bf (by omega),cond_true,jL hK hM,Option.bind_some,(jf hK h (by omega) (s:Int)).1,Option.bind_some]
   dsimp only
   rw [jk hK hM,Option.bind_some,uN hK h (by omega),Option.bind_some]
   dsimp only
   rw [bW.2 rfl,cond_false,eE hK hM,Option.bind_some,gm hK h (by omega),Option.bind_some]
   dsimp only
   rw [bW.2 rfl,cond_false,ry hK hM hk,Option.bind_some,qi hK h hl (by omega),Option.bind_some]
   dsimp only
   rw [AJ _ (by have:=HG K (s:Int);omega),Option.bind_some,Bool.not_true,cond_false,cond_false]
   generalize hdk:nt K (s:Int) = D at *
   have hbo:∀ d∈D,aA d.Body:=by rw [← hdk];exact G8 hK (s:Int) 1000 1 0
   have fin:∀ (t28 t29 t31 t32:Int) (t33:Bool) (t37 t40:Int) (t42 t43:Bool) (t47 t49:Int) (t50:Bool) (x y:List GSpan),cE (s:Int) 0 t28 t29 t31 t32 t33 t37 t40 t42 t43 t47 t49 t50 ⟨L⟩ D D x y ks vs = some (true,⟨L⟩,ks,vs):=by
    intro t28 t29 t31 t32 t33 t37 t40 t42 t43 t47 t49 t50 x y
    refine (AB D (fun i=>cE (s:Int) i t28 t29 t31 t32 t33 t37 t40 t42 t43 t47 t49 t50 ⟨L⟩ D D x y ks vs) (fun _=>false) none (some (true,⟨L⟩,ks,vs)) ?_ fun i hi=>?_).trans (by simp)
    ·show cE _ _ _ _ _ _ _ _ _ _ _ _ _ _ _ _ _ _ _ _ _ = _
     rw [mF,dq,cond_false,aD (by omega) (by omega)]
     exact ih (s+1) (by omega)
    ·rw [if_neg (by simp)]
     show cE _ _ _ _ _ _ _ _ _ _ _ _ _ _ _ _ _ _ _ _ _ = cE _ _ _ _ _ _ _ _ _ _ _ _ _ _ _ _ _ _ _ _ _
     rw [mF]
     simp only [eD hi,cu,cond_true,aF,Bool.or_true,eH hi,di hi (by omega)]
     rw [AQ (hbo _ (List.getElem_mem hi)),Option.bind_some,Bool.not_true,cond_false]
   exact fin _ _ _ _ _ _ _ _ _ _ _ _ _ _
 exact key 6 0 rfl
end Go.Ax
set_option linter.all false
/- A copy and its original are independent;what was handed out is new. -/
set_option maxRecDepth 100000
namespace Go.Ax
open Go.Proofs Go.Proofs.YtbjfcadcipfolaaGreat
theorem G2 {f:FuncId} {fi:FI} {r:List FI} {b:List Int} {a:HP fi.ins.tys} {y:HP fi.out.tys} {out:gW} (hl:bK Tb.fs f = some (fi :: r)) (hg:fi.out.isGen = false) (hr:uH fi [.c (.sl (.i .u8) b)] = some a) (hX:Xc Tb fi a = some y) (ho:fi.out.out y = out):pJ Tb.P f b out:=by
 have hm:=FM LJ al f
 unfold dN at hm
 rw [hl] at hm
 simp only [yl,hg,cond_false] at hm
 subst ho
 intro ok w x hx hlt
 refine hm ok w [x] [.c (.sl (.i .u8) b)] true (fi.out.out y) ⟨rfl,fun i v d hv hd=>?_⟩ hlt (by simp [fB,hr,hX]) rfl
 match i with
 | 0=>simp at hv hd;subst hv hd;exact .c _ _ hx
 | i+1=>simp at hv
theorem Lu {b:List Int} {d:GDocument} {e:Int} (h:eo b = some (d,e)):pJ Tryz.prog 56 b (.new (.tup [encV (.st .GDocument) d,i64 e])) :=
 G2 (fi:=f56) (r:=[]) (a:=b) (y:=(d,e)) (by kernel_rfl) (by kernel_rfl) (by kernel_rfl) h (by kernel_rfl)
theorem I5 {b:List Int} {n:Int} (h:iK b = some n):pJ Tryz.prog 79 b (.new (.c (.lit (.int .u32 n)))) :=
 G2 (fi:=f79) (r:=[]) (a:=b) (y:=n) (by kernel_rfl) (by kernel_rfl) (by kernel_rfl) h (by kernel_rfl)
theorem Mw {K:av} {ks vs} (hK:bz K) (h:bw K ks vs) (s:Int):JJ Tryz.prog 56 79 s ks vs:=by
 refine ⟨fun v hv=>?_,fun n hn=>?_⟩
 ·obtain ⟨p,hp,rfl⟩:=List.getElem_of_mem hv
  have hk:=h.val p (by rw [h.len];exact hp)
  rw [show gD vs p [] = vs[p] from by rw [gD,List.getD_eq_getElem?_getD,List.getElem?_eq_getElem hp];rfl] at hk
  have hb:=(hK _ _ _ hk).1
  have hl:=(hK.rng hk).2.2.2
  refine ⟨⟨(k8 vs[p]).1,(k8 vs[p]).2,Lu (iU hb (by omega))⟩,_,I5 (oL hb (by omega))⟩
 ·show dS kF ks ⟨s,n⟩ = false
  rw [h.has]
  cases hk:K s n with
  | none=>rfl
  | some b=>have:=(hK.rng hk).2.1;omega
theorem Kg {K:av} {ks vs} (hK:bz K) (h:bw K ks vs) (s:Int) (r:GPensionref31_Feeds):oR (s,r,ks,vs) = some (s,r,ks,vs):=by
 unfold oR HB
 exact if_pos (Mw hK h s)
theorem IX {K:av} {L:List Kd} {ks vs} (hK:bz K) (h:cK K L) (hM:bw K ks vs) (hl:L.length≤100000) (hk:ks.length≤100000):∀ (k s:Nat),s+k = 6→ca (s:Int) ⟨L⟩ ks vs = some true:=by
 intro k
 induction k with
 | zero =>
  intro s hs
  rw [gw,bJ (by omega),cond_false,AH hK h hM hl hk]
  rfl
 | succ k ih =>
  intro s hs
  rw [gw,bf (by omega),cond_true,nN hK hM,Option.bind_some]
  dsimp only
  rw [Kg hK hM,Option.bind_some]
  dsimp only
  rw [aD (by omega) (by omega),show ((s:Int)+1) = ((s+1:Nat):Int) by omega,ih (s+1) (by omega)]
  cases hc:(bif (K (s:Int) 1).isSome then aa (0 < (((K (s:Int) 1).getD []).length:Int)) else false) with
  | false=>rfl
  | true =>
   rw [cond_true]
   cases hi:(K (s:Int) 1).isSome with
   | false=>rw [hi] at hc;cases hc
   | true =>
    rw [hi,cond_true] at hc
    rw [ac (rU hc)]
theorem KE {K:av} {L:List Kd} {ks vs} (hK:bz K) (h:cK K L) (hM:bw K ks vs) (hl:L.length≤100000) (hk:ks.length≤100000) {c:List (List Int)} (hc:zf c) (hcl:c.length≤10000):∀ (m i:Nat) (B:av) (k2:List Fk) (v2:List (List Int)),c.length = i+m→bz B→bw B k2 v2 →
  cX (i:Int) ⟨L⟩ c ks vs k2 v2 = some true:=by
 intro m
 induction m with
 | zero =>
  intro i B k2 v2 hi hB hM2
  rw [gv,bJ (by omega),cond_false]
  exact IX hK h hM hl hk 6 0 rfl
 | succ m ih =>
  intro i B k2 v2 hi hB hM2
  have hil:i < c.length:=by omega
  rw [gv,bf (by omega),cond_true,ac (by omega),show ∀ o:Option Bool,gb true o = o from fun o=>rfl]
  have hg:gD c (i:Int).toNat [] = c[i]:=eH hil
  have hb:=hc _ (List.getElem_mem hil)
  obtain ⟨k3,v3,h1,h2,h3⟩:=gc hB hM2 hb.1 (by have:=(mT hb.1 hb.2).2;omega)
  rw [hg,h1,Option.bind_some]
  dsimp only
  rw [aD (by omega) (by omega)]
  exact ih (i+1) _ k3 v3 (by omega) (sB hB hb.1) h2
theorem u6 (l k:List GPensionlaw31_Raw):lM l k = some true:=by
 obtain ⟨d,L,ks,vs,h1,h2,h3,hM,hL,hK,hk,hl⟩:=vI l
 obtain ⟨c,L2,ks2,vs2,g1,g2,g3,_⟩:=vI k
 obtain ⟨r,e1,e2⟩:=tF hK hK hM hM
 have hr:r = true:=e2.2 rfl
 subst hr
 rw [qv,h1,Option.bind_some,h2,Option.bind_some,zb,wc]
 simp only [Option.bind_some,Bool.not_true,cond_false]
 rw [e1]
 simp only [Option.bind_some,Bool.not_true,cond_false]
 rw [g1,Option.bind_some]
 exact KE hK hL hM (by omega) (by omega) g3.ok (by have:=g3.len;omega) c.length 0 _ ks vs (by omega) hK hM
end Go.Ax
