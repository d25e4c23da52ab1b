import Derived.Test.YtbjfcadcipfolaaGreatZP54
set_option linter.all false
/- The order of byte strings;maps of documents by their keys. -/
set_option maxRecDepth 100000
namespace Go.Ax
def mC:List Int→List Int→Bool
 | [],_=>true
 | _ :: _,[]=>false
 | x :: a,y :: b=>aa (x < y)||(ak x y&&mC a b)
theorem yg {x y:Int} {a b:List Int}:mC (x :: a) (y :: b) = true↔x < y∨(x = y∧mC a b = true):=by
 show (aa (x < y)||(ak x y&&mC a b)) = true↔_
 rw [Bool.or_eq_true,Bool.and_eq_true,aZ]
 simp [aa]
theorem DM:∀ a:List Int,mC a a = true
 | []=>rfl
 | x :: a=>yg.2 (.inr ⟨rfl,DM a⟩)
theorem DD {x:Int} (h:0≤x∧x < 256):(UInt8.ofNat x.toNat).toNat = x.toNat:=by
 simp [Nat.mod_eq_of_lt (show x.toNat < 256 by omega)]
theorem Ag {x y:Int} (hx:0≤x∧x < 256) (hy:0≤y∧y < 256):UInt8.ofNat x.toNat < UInt8.ofNat y.toNat↔x < y:=by
 rw [UInt8.lt_iff_toNat_lt,DD hx,DD hy]
 omega
theorem Nl {x y:Int} (hx:0≤x∧x < 256) (hy:0≤y∧y < 256):(UInt8.ofNat x.toNat = UInt8.ofNat y.toNat)↔x = y:=by
 constructor
 ·intro h
  have:=congrArg UInt8.toNat h
  rw [DD hx,DD hy] at this
  omega
 ·rintro rfl;rfl
theorem ta:∀ {a b:List Int},aA a→aA b→(fm a b≤0↔mC a b = true)
 | [],[],_,_=>by simp [fm,Lib.compareBytes,mC]
 | [],_ :: _,_,_=>by simp [fm,Lib.compareBytes,mC]
 | _ :: _,[],_,_=>by simp [fm,Lib.compareBytes,mC]
 | x :: a,y :: b,ha,hb=>by
  obtain ⟨hx,ha⟩:=cY.1 ha
  obtain ⟨hy,hb⟩:=cY.1 hb
  have ih:=ta ha hb
  rw [yg]
  unfold fm at ih ⊢
  simp only [List.map_cons,Lib.compareBytes]
  by_cases h:x < y
  ·rw [if_pos ((Ag hx hy).2 h)]
   simp [h]
  ·rw [if_neg (fun e=>h ((Ag hx hy).1 e))]
   by_cases h':y < x
   ·rw [if_pos ((Ag hy hx).2 h')]
    constructor
    ·intro e;omega
    ·rintro (e | ⟨e,_⟩) <;> omega
   ·rw [if_neg (fun e=>h' ((Ag hy hx).1 e))]
    have:x = y:=by omega
    rw [ih]
    constructor
    ·intro e;exact .inr ⟨this,e⟩
    ·rintro (e | ⟨_,e⟩)
     ·omega
     ·exact e
theorem vY:∀ {a b:List Int},aA a→aA b→(Op.bytesLess (a.map fun x=>UInt8.ofNat x.toNat) (b.map fun x=>UInt8.ofNat x.toNat) = true↔mC a b = true∧a≠b)
 | [],[],_,_=>by simp [Op.bytesLess,mC]
 | [],_ :: _,_,_=>by simp [Op.bytesLess,mC]
 | _ :: _,[],_,_=>by simp [Op.bytesLess,mC]
 | x :: a,y :: b,ha,hb=>by
  obtain ⟨hx,ha⟩:=cY.1 ha
  obtain ⟨hy,hb⟩:=cY.1 hb
  have ih:=vY ha hb
  simp only [List.map_cons,Op.bytesLess,Bool.or_eq_true,Bool.and_eq_true,decide_eq_true_eq,beq_iff_eq]
  rw [Ag hx hy,Nl hx hy,ih,yg]
  constructor
  ·rintro (h | ⟨rfl,h,hne⟩)
   ·exact ⟨.inl h,fun e=>by injection e with e1 e2;omega⟩
   ·exact ⟨.inr ⟨rfl,h⟩,fun e=>by injection e with e1 e2;exact hne e2⟩
  ·rintro ⟨h | ⟨rfl,h⟩,hne⟩
   ·exact .inl h
   ·exact .inr ⟨rfl,h,fun e=>hne (by rw [e])⟩
theorem xf (a b:List Int):iC a b = some (fm a b):=by rw [xT];rfl
theorem Lv {a b:List Int} (ha:aA a) (hb:aA b):(Op.bytesLess (ByteArray.toList (bg a)) (ByteArray.toList (bg b))||lP (bg a) (bg b)) = mC a b:=by
 rw [og ha hb]
 have e:∀ l:List Int,ByteArray.toList (bg l) = l.map fun x=>UInt8.ofNat x.toNat:=fun l=>by
  rw [ByteArray.toList_eq];rfl
 rw [e,e,Bool.eq_iff_iff,Bool.or_eq_true,vY ha hb,decide_eq_true_iff]
 constructor
 ·rintro (h | rfl)
  ·exact h.1
  ·exact DM _
 ·intro h
  by_cases hab:a = b
  ·exact .inr hab
  ·exact .inl ⟨h,hab⟩
abbrev Fk:=GFeed_key
abbrev kF:Ty:=.st .GFeed_key
theorem LN (x k:Fk):qK kF x k = true↔x = k:=by
 have e:qK kF x k = (ak x.sender k.sender&&ak x.number k.number):=(zV (s:=.GFeed_key) rfl x k).trans rfl
 rw [e,Bool.and_eq_true]
 obtain ⟨a,b⟩:=x
 obtain ⟨c,d⟩:=k
 simp [ak]
theorem tE:∀ (ks:List Fk) (k:Fk),(be kF ks k = ks.length∧k ∉ ks)∨(be kF ks k < ks.length∧ks[be kF ks k]? = some k)
 | [],k=>.inl ⟨rfl,by simp⟩
 | x :: r,k=>by
  have e:be kF (x :: r) k = bif qK kF x k then 0 else be kF r k+1:=rfl
  cases h:qK kF x k with
  | true =>
   rw [h,cond_true] at e
   have:=(LN x k).1 h
   subst this
   exact .inr ⟨by rw [e];simp,by rw [e];rfl⟩
  | false =>
   rw [h,cond_false] at e
   have hne:x≠k:=fun h'=>by rw [(LN x k).2 h'] at h;cases h
   rw [e]
   rcases tE r k with ⟨h1,h2⟩ | ⟨h1,h2⟩
   ·exact .inl ⟨by rw [h1];rfl,fun hm=>by rcases List.mem_cons.1 hm with h' | h'; exact hne h'.symm;exact h2 h'⟩
   ·exact .inr ⟨by simp;omega,by rw [List.getElem?_cons_succ];exact h2⟩
theorem wS (ks:List Fk) (r:Fk):dS kF ks r = true↔r∈ks:=by
 unfold dS
 rw [Nat.blt_eq]
 rcases tE ks r with ⟨h,hn⟩ | ⟨h1,h2⟩
 ·exact ⟨fun h'=>by have h'':be kF ks r < ks.length:=h'; have h3:be kF ks r = ks.length:=h;omega,fun h'=>absurd h' hn⟩
 ·exact ⟨fun _=>List.mem_of_getElem? h2,fun _=>h1⟩
abbrev av:=Int→Int→Option (List Int)
def iR (K:av) (s n:Int) (b:List Int):av:=fun s' n'=>if s' = s∧n' = n then some b else K s' n'
theorem LW (K:av) (s n:Int) (b:List Int):iR K s n b s n = some b:=if_pos ⟨rfl,rfl⟩
structure bw (K:av) (ks:List Fk) (vs:List (List Int)):Prop where
  len:ks.length = vs.length
  nd:ks.Nodup
  val:∀ (p:Nat) (h:p < ks.length),K ks[p].sender ks[p].number = some (gD vs p [])
  mem:∀ s n b,K s n = some b→(⟨s,n⟩:Fk)∈ks
theorem bw.has {K:av} {ks vs} (h:bw K ks vs) (s n:Int):dS kF ks ⟨s,n⟩ = (K s n).isSome:=by
 rw [Bool.eq_iff_iff,wS]
 constructor
 ·intro hm
  obtain ⟨p,hp,e⟩:=List.getElem_of_mem hm
  have:=h.val p hp
  rw [e] at this
  rw [this];rfl
 ·intro hk
  cases hb:K s n with
  | none=>rw [hb] at hk;cases hk
  | some b=>exact h.mem s n b hb
theorem bw.get {K:av} {ks vs} (h:bw K ks vs) (s n:Int):k5 kF ks vs ⟨s,n⟩ ([]:List Int) = (K s n).getD []:=by
 unfold k5
 rcases tE ks ⟨s,n⟩ with ⟨h1,h2⟩ | ⟨h1,h2⟩
 ·cases hb:K s n with
  | some b=>exact absurd (h.mem s n b hb) h2
  | none =>
   rw [List.getD_eq_getElem?_getD,List.getElem?_eq_none (by have:=h.len;omega)]
 ·have e:=h.val _ h1
  rw [List.getElem?_eq_getElem h1] at h2
  injection h2 with h2
  rw [h2] at e
  rw [e]
  rfl
theorem bw.put {K:av} {ks vs} (h:bw K ks vs) (s n:Int) (b:List Int):bw (iR K s n b) (fY kF ks ⟨s,n⟩) (ji kF ks vs ⟨s,n⟩ b)∧(fY kF ks ⟨s,n⟩).length≤ks.length+1:=by
 unfold fY ji
 have hlen:=h.len
 cases hm:dS kF ks ⟨s,n⟩ with
 | true =>
  have hin:=(wS ks ⟨s,n⟩).1 hm
  rcases tE ks ⟨s,n⟩ with ⟨h1,h2⟩ | ⟨h1,h2⟩
  ·exact absurd hin h2
  ·rw [cond_true,cond_true]
   rw [List.getElem?_eq_getElem h1] at h2
   injection h2 with h2
   refine ⟨⟨by rw [List.length_set];exact hlen,h.nd,fun p hp=>?_,fun s' n' b' hb=>?_⟩,by omega⟩
   ·unfold iR gD
    rw [List.getD_eq_getElem?_getD,List.getElem?_set]
    by_cases hpe:be kF ks ⟨s,n⟩ = p
    ·subst hpe
     rw [h2,if_pos ⟨rfl,rfl⟩,if_pos rfl,if_pos (by omega)];rfl
    ·rw [if_neg hpe,if_neg, ← List.getD_eq_getElem?_getD]
     ·exact h.val p hp
     ·rintro ⟨e1,e2⟩
      apply hpe
      have e:ks[p] = (⟨s,n⟩:Fk):=by
       cases hq:ks[p] with
       | mk a c=>rw [hq] at e1 e2;simp only at e1 e2;rw [e1,e2]
      exact (List.getElem_inj h.nd).1 (h2.trans e.symm)
   ·unfold iR at hb
    split at hb
    ·next e=>rw [e.1,e.2];exact hin
    ·exact h.mem s' n' b' hb
 | false =>
  have hno:(⟨s,n⟩:Fk) ∉ ks:=fun hh=>by rw [(wS ks _).2 hh] at hm;cases hm
  rw [cond_false,cond_false]
  refine ⟨⟨by simp [hlen], ?_,fun p hp=>?_,fun s' n' b' hb=>?_⟩,by simp⟩
  ·rw [List.nodup_append]
   exact ⟨h.nd,by simp,fun a ha c hc e=>hno (by rw [List.mem_singleton] at hc;rw [← hc, ← e];exact ha)⟩
  ·rw [List.length_append,List.length_singleton] at hp
   unfold iR gD
   by_cases hpe:p < ks.length
   ·rw [List.getElem_append_left hpe,List.getD_eq_getElem?_getD,List.getElem?_append_left (by omega), ← List.getD_eq_getElem?_getD,if_neg]
    ·exact h.val p hpe
    ·rintro ⟨e1,e2⟩
     apply hno
     have e:ks[p] = (⟨s,n⟩:Fk):=by
      cases hq:ks[p] with
      | mk a c=>rw [hq] at e1 e2;simp only at e1 e2;rw [e1,e2]
     rw [← e]
     exact List.getElem_mem hpe
   ·have:p = ks.length:=by omega
    subst this
    rw [List.getElem_append_right (Nat.le_refl _),List.getD_eq_getElem?_getD,List.getElem?_append_right (by omega)]
    simp [hlen]
  ·unfold iR at hb
   split at hb
   ·next e=>rw [e.1,e.2];simp
   ·exact List.mem_append_left _ (h.mem s' n' b' hb)
theorem bw.nil:bw (fun _ _=>none) [] []:=⟨rfl,List.nodup_nil,fun p h=>absurd h (by simp),fun s n b h=>by cases h⟩
end Go.Ax
set_option linter.all false
/- Documents are added to a map and to a sorted list: both keep the same. -/
set_option maxRecDepth 100000
namespace Go.Ax
theorem mT {b:List Int} (hb:aA b) (h:cZ b = true):15≤b.length∧b.length≤58:=by
 obtain ⟨h1,_,_,h2,h3⟩:=(lI hb).1 h
 have:=yj (an b)
 have hl:=C1 (xM hb).1 (ij.1 h3).2.2.2
 rw [h2] at this
 omega
def bz (K:av):Prop:=∀ s n b,K s n = some b→aA b∧cZ b = true∧(an b).Sender = s∧(an b).Number = n
theorem bz.rng {K:av} (h:bz K) {s n:Int} {b:List Int} (hb:K s n = some b):(0≤s∧s≤5)∧(1≤n∧n≤999)∧15≤b.length∧b.length≤58:=by
 obtain ⟨h1,h2,rfl,rfl⟩:=h s n b hb
 have h3:=ij.1 ((lI h1).1 h2).2.2.2.2
 exact ⟨h3.1,h3.2.1,mT h1 h2⟩
def mN (K:av) (b:List Int):Int:=if cZ b = true then (match K (an b).Sender (an b).Number with
 | some o=>if mC o b = true then 10 else 0
 | none=>0) else 11
def cT (K:av) (b:List Int):av:=if mN K b = 0 then iR K (an b).Sender (an b).Number b else K
theorem vd {K:av} {b:List Int} (h:cZ b = false):mN K b = 11:=by unfold mN;rw [h,if_neg (by simp)]
theorem wU {K:av} {b:List Int} (h:cZ b = true) (h2:K (an b).Sender (an b).Number = none):mN K b = 0:=by unfold mN;rw [if_pos h,h2]
theorem GX {K:av} {b o:List Int} (h:cZ b = true) (h2:K (an b).Sender (an b).Number = some o):mN K b = if mC o b = true then 10 else 0:=by unfold mN;rw [if_pos h,h2]
theorem sB {K:av} (hK:bz K) {b:List Int} (hb:aA b):bz (cT K b):=by
 unfold cT
 split
 ·next he =>
  have hd:cZ b = true:=by
   cases hd:cZ b with
   | true=>rfl
   | false=>rw [vd hd] at he;cases he
  intro s n c hc
  unfold iR at hc
  split at hc
  ·next e =>
   injection hc with hc
   subst hc
   exact ⟨hb,hd,e.1.symm,e.2.symm⟩
  ·exact hK s n c hc
 ·exact hK
theorem BU (b:List Int):k8 b = if cZ b = true then (an b,0) else (AI,11):=rfl
theorem gc {K:av} {ks vs} (hK:bz K) (h:bw K ks vs) {b:List Int} (hb:aA b) (hB:b.length≤140737488355328):∃ ks' vs',fj b ks vs = some (mN K b,ks',vs')∧bw (cT K b) ks' vs'∧ks'.length≤ks.length+1:=by
 rw [w7,iU hb hB,Option.bind_some,BU]
 cases hd:cZ b with
 | false =>
  rw [if_neg (by simp)]
  refine ⟨ks,vs, ?_, ?_,by omega⟩
  ·rw [vd hd];rfl
  ·unfold cT;rw [vd hd,if_neg (by omega)];exact h
 | true =>
  rw [if_pos rfl]
  show ∃ ks' vs',(bif dS kF ks ⟨(an b).Sender,(an b).Number⟩ then (iC (k5 kF ks vs ⟨(an b).Sender,(an b).Number⟩ []) b).bind fun r1=>bif aa (r1≤0) then some (10,ks,vs) else (fc b).bind fun r2=>some (0,fY kF ks ⟨(an b).Sender,(an b).Number⟩,ji kF ks vs ⟨(an b).Sender,(an b).Number⟩ r2)
   else (fc b).bind fun r3=>some (0,fY kF ks ⟨(an b).Sender,(an b).Number⟩,ji kF ks vs ⟨(an b).Sender,(an b).Number⟩ r3)) = _∧_
  rw [h.has,h.get,mt hB,Option.bind_some]
  have hput:=h.put (an b).Sender (an b).Number b
  cases ho:K (an b).Sender (an b).Number with
  | none =>
   have e0:=wU hd ho
   refine ⟨fY kF ks ⟨(an b).Sender,(an b).Number⟩,ji kF ks vs ⟨(an b).Sender,(an b).Number⟩ b, ?_, ?_,hput.2⟩
   ·rw [e0];rfl
   ·unfold cT;rw [if_pos e0];exact hput.1
  | some o =>
   have e0:=GX hd ho
   have hob:=(hK _ _ _ ho).1
   show ∃ ks' vs',((iC o b).bind fun r1=>bif aa (r1≤0) then some (10,ks,vs) else some (0,fY kF ks ⟨(an b).Sender,(an b).Number⟩,ji kF ks vs ⟨(an b).Sender,(an b).Number⟩ b)) = _∧_
   rw [xf,Option.bind_some]
   cases hle:mC o b with
   | true =>
    rw [hle,if_pos rfl] at e0
    refine ⟨ks,vs, ?_, ?_,by omega⟩
    ·rw [bf ((ta hob hb).2 hle),e0];rfl
    ·unfold cT;rw [if_neg (by rw [e0];omega)];exact h
   | false =>
    rw [hle,if_neg (by simp)] at e0
    refine ⟨fY kF ks ⟨(an b).Sender,(an b).Number⟩,ji kF ks vs ⟨(an b).Sender,(an b).Number⟩ b, ?_, ?_,hput.2⟩
    ·rw [bJ (fun hh=>by rw [(ta hob hb).1 hh] at hle;cases hle),e0];rfl
    ·unfold cT;rw [if_pos e0];exact hput.1
abbrev Kd:=GPensionref31_kept
def hY (s n s' n':Int):Prop:=s < s'∨(s = s'∧n < n')
structure cK (K:av) (L:List Kd):Prop where
  srt:L.Pairwise fun x y=>hY x.D.Sender x.D.Number y.D.Sender y.D.Number
  val:∀ x∈L,K x.D.Sender x.D.Number = some x.B∧x.D = an x.B
  mem:∀ s n b,K s n = some b→∃ x∈L,x.D.Sender = s∧x.D.Number = n
theorem Cn (s n:Int):∀ (B A:List Kd),(A++B).length≤1000000000→(∀ x∈A,hY x.D.Sender x.D.Number s n) →
  ∃ A' B' is,A++B = A'++B'∧(∀ x∈A',hY x.D.Sender x.D.Number s n)∧(is = true→∃ x C,B' = x :: C∧x.D.Sender = s∧x.D.Number = n)∧(is = false→∀ x C,B' = x :: C→hY s n x.D.Sender x.D.Number)∧cL ⟨A++B⟩ s n (A.length:Int) = some ((A'.length:Int),is)
 | [],A,hl,hA=>by
  refine ⟨A,[],false,rfl,hA,fun h=>(by cases h),fun _ x C h=>(by cases h), ?_⟩
  rw [kn,List.append_nil]
  show (bif aa ((A.length:Int) < (A.length:Int)) then _ else some ((A.length:Int),false)) = _
  rw [dq,cond_false]
 | x :: B,A,hl,hA=>by
  have hi:A.length < (A++x :: B).length:=by simp
  have hg:gD (A++x :: B) (A.length:Int).toNat (zS .GPensionref31_kept) = x:=by rw [eH hi];simp
  have hl':A.length < 1000000000:=by simp at hl;omega
  have step:cL ⟨A++x :: B⟩ s n (A.length:Int) = (bif (ak x.D.Sender s&&ak x.D.Number n) then some ((A.length:Int),true) else bif (aa (s < x.D.Sender)||(ak x.D.Sender s&&aa (n < x.D.Number))) then some ((A.length:Int),false) else cL ⟨A++x :: B⟩ s n ((A.length+1:Nat):Int)):=by
   rw [kn]
   show (bif aa ((A.length:Int) < ((A++x :: B).length:Int)) then gb (aa (0≤(A.length:Int))) (gb (aa ((A.length:Int) < ((A++x :: B).length:Int))) _) else _) = _
   rw [eD hi,cond_true,cu,aF,aF]
   show (bif (bif (ak (gD (A++x :: B) (A.length:Int).toNat (zS .GPensionref31_kept)).D.Sender s) then (ak (gD (A++x :: B) (A.length:Int).toNat (zS .GPensionref31_kept)).D.Number n) else false) then _ else bif (bif aa (s < (gD (A++x :: B) (A.length:Int).toNat (zS .GPensionref31_kept)).D.Sender) then true else (bif (ak (gD (A++x :: B) (A.length:Int).toNat (zS .GPensionref31_kept)).D.Sender s) then aa (n < (gD (A++x :: B) (A.length:Int).toNat (zS .GPensionref31_kept)).D.Number) else false)) then _ else _) = _
   rw [hg,dM,dM,zC,di hi (by simp at hl ⊢; omega)]
  rw [step]
  by_cases e1:x.D.Sender = s∧x.D.Number = n
  ·rw [aZ.2 e1.1,aZ.2 e1.2]
   exact ⟨A,x :: B,true,rfl,hA,fun _=>⟨x,B,rfl,e1⟩,fun h=>(by cases h),rfl⟩
  ·have hc:(ak x.D.Sender s&&ak x.D.Number n) = false:=by
    rw [Bool.eq_false_iff]
    intro h
    rw [Bool.and_eq_true,aZ,aZ] at h
    exact e1 h
   rw [hc,cond_false]
   by_cases e2:hY s n x.D.Sender x.D.Number
   ·have hc2:(aa (s < x.D.Sender)||(ak x.D.Sender s&&aa (n < x.D.Number))) = true:=by
     rw [Bool.or_eq_true,Bool.and_eq_true,aZ]
     rcases e2 with h | h
     ·exact .inl (bf h)
     ·exact .inr ⟨h.1.symm,bf h.2⟩
    rw [hc2,cond_true]
    exact ⟨A,x :: B,false,rfl,hA,fun h=>(by cases h),fun _ y C h=>(by injection h with h1 h2;rw [← h1];exact e2),rfl⟩
   ·have hc2:(aa (s < x.D.Sender)||(ak x.D.Sender s&&aa (n < x.D.Number))) = false:=by
     rw [Bool.eq_false_iff]
     intro h
     rw [Bool.or_eq_true,Bool.and_eq_true,aZ] at h
     apply e2
     rcases h with h | h
     ·exact .inl (rU h)
     ·exact .inr ⟨h.1.symm,rU h.2⟩
    rw [hc2,cond_false]
    have hx:hY x.D.Sender x.D.Number s n:=by
     unfold hY at e2 ⊢
     omega
    have:=Cn s n B (A++[x]) (by simpa using hl) (fun y hy=>by
     rcases List.mem_append.1 hy with hy | hy
     ·exact hA y hy
     ·rw [List.mem_singleton] at hy;rw [hy];exact hx)
    rw [show A++[x]++B = A++x :: B by simp,show (A++[x]).length = A.length+1 by simp] at this
    exact this
theorem FC {K:av} {L:List Kd} (h:cK K L) (hl:L.length≤1000000000) (s n:Int) :
  ∃ A B is,L = A++B∧(∀ x∈A,hY x.D.Sender x.D.Number s n)∧cF ⟨L⟩ s n = some ((A.length:Int),is) ∧
   ((is = true∧∃ x C,B = x :: C∧x.D.Sender = s∧x.D.Number = n∧K s n = some x.B∧x.D = an x.B∧(∀ y∈C,hY s n y.D.Sender y.D.Number))∨(is = false∧K s n = none∧∀ y∈B,hY s n y.D.Sender y.D.Number)):=by
 obtain ⟨A,B,is,h1,h2,h3,h4,h5⟩:=Cn s n L [] (by simpa using hl) (fun x hx=>by cases hx)
 rw [List.nil_append] at h1 h5
 refine ⟨A,B,is,h1,h2,by rw [uX];exact h5, ?_⟩
 have hs:=h.srt
 rw [h1] at hs
 have hsB:=(List.pairwise_append.1 hs).2.1
 cases his:is with
 | true =>
  obtain ⟨x,C,hB,e1,e2⟩:=h3 his
  refine .inl ⟨rfl,x,C,hB,e1,e2, ?_⟩
  have hx:=h.val x (by rw [h1,hB];simp)
  rw [e1,e2] at hx
  refine ⟨hx.1,hx.2,fun y hy=>?_⟩
  rw [hB] at hsB
  have:=List.rel_of_pairwise_cons hsB hy
  rw [e1,e2] at this
  exact this
 | false =>
  have hgt:∀ y∈B,hY s n y.D.Sender y.D.Number:=by
   intro y hy
   cases hB:B with
   | nil=>rw [hB] at hy;cases hy
   | cons x C =>
    have hx:=h4 his x C hB
    rw [hB] at hy hsB
    rcases List.mem_cons.1 hy with rfl | hy
    ·exact hx
    ·have:=List.rel_of_pairwise_cons hsB hy
     unfold hY at *
     omega
  refine .inr ⟨rfl, ?_,hgt⟩
  cases hk:K s n with
  | none=>rfl
  | some b =>
   exfalso
   obtain ⟨x,hx,e1,e2⟩:=h.mem s n b hk
   rw [h1] at hx
   rcases List.mem_append.1 hx with hx | hx
   ·have:=h2 x hx;unfold hY at this;omega
   ·have:=hgt x hx;unfold hY at this;omega
theorem JN {T:Type} (b:List T) {n:Nat}:aj b 0 ((n:Int) - 0).toNat = b.take n:=by
 unfold aj;rw [List.drop_zero,show ((n:Int) - 0).toNat = n by omega]
theorem ER {A C:List Kd} {b:List Int} {d:GDocument} {L:List Kd} {r:Nat} (hL:L = A++C∧r = A.length∨∃ x,L = A++x :: C∧r = A.length+1) (hl:L.length≤1000000) (hb:b.length≤1000000) :
  eY b (A.length:Int) (r:Int) ⟨L⟩ d = some (0,⟨A++⟨d,b⟩ :: C⟩):=by
 have h1:A.length≤L.length∧r≤L.length∧L.take A.length = A∧L.drop r = C∧C.length≤L.length:=by
  rcases hL with ⟨rfl,rfl⟩ | ⟨x,rfl,rfl⟩
  ·refine ⟨by simp,by simp,by simp,by simp,by simp⟩
  ·refine ⟨by simp,by simp,by simp, ?_,by simp;omega⟩
   rw [← List.drop_drop,List.drop_left,List.drop_one,List.tail_cons]
 obtain ⟨h1,h2,h3,h4,h5⟩:=h1
 rw [qn]
 simp only
 rw [JN,h3,kU L (by omega) (by omega),Int.toNat_natCast,h4]
 have h6:(A++[(⟨d,b⟩:Kd)]).length = A.length+1:=by simp
 rw [h6,ac (by omega),ac (by omega),ac (by omega),ac (by omega),ac (by omega),ac (by omega),ac (by omega),ac (by omega),ac (by omega),ac (by omega),ac (by omega),ac (by omega),ac (by omega)]
 simp
theorem FL {K:av} {A C:List Kd} {b:List Int} {s n:Int} (hs:(an b).Sender = s) (hn:(an b).Number = n) (hA:∀ x∈A,hY x.D.Sender x.D.Number s n) (hC:∀ x∈C,hY s n x.D.Sender x.D.Number) {L:List Kd} (h:cK K L)
  (hL:L = A++C∨∃ x,L = A++x :: C∧x.D.Sender = s∧x.D.Number = n):cK (iR K s n b) (A++⟨an b,b⟩ :: C):=by
 have sub:∀ x∈A++C,x∈L:=by
  intro x hx
  rcases hL with rfl | ⟨y,rfl,_⟩
  ·exact hx
  ·rcases List.mem_append.1 hx with hx | hx <;> simp [hx]
 have hAC:(A++C).Pairwise fun x y=>hY x.D.Sender x.D.Number y.D.Sender y.D.Number:=by
  rcases hL with rfl | ⟨y,rfl,_⟩
  ·exact h.srt
  ·exact h.srt.sublist (List.Sublist.append (List.Sublist.refl _) (List.sublist_cons_self _ _))
 obtain ⟨p1,p2,p3⟩:=List.pairwise_append.1 hAC
 refine ⟨?_,fun x hx=>?_,fun s' n' b' hb'=>?_⟩
 ·rw [List.pairwise_append]
  refine ⟨p1,List.pairwise_cons.2 ⟨fun y hy=>by rw [hs,hn];exact hC y hy,p2⟩,fun x hx y hy=>?_⟩
  rcases List.mem_cons.1 hy with rfl | hy
  ·show hY _ _ (an b).Sender (an b).Number
   rw [hs,hn];exact hA x hx
  ·exact p3 x hx y hy
 ·rcases List.mem_append.1 hx with hx | hx
  ·have:=hA x hx
   unfold iR
   rw [if_neg (by unfold hY at this;omega)]
   exact h.val x (sub x (by simp [hx]))
  ·rcases List.mem_cons.1 hx with rfl | hx
   ·refine ⟨?_,rfl⟩
    show iR K s n b (an b).Sender (an b).Number = some b
    rw [hs,hn];exact LW _ _ _ _
   ·have:=hC x hx
    unfold iR
    rw [if_neg (by unfold hY at this;omega)]
    exact h.val x (sub x (by simp [hx]))
 ·unfold iR at hb'
  split at hb'
  ·next e=>exact ⟨⟨an b,b⟩,by simp,by rw [e.1];exact hs,by rw [e.2];exact hn⟩
  ·next e =>
   obtain ⟨x,hx,e1,e2⟩:=h.mem s' n' b' hb'
   refine ⟨x, ?_,e1,e2⟩
   rcases hL with rfl | ⟨y,rfl,h5,h6⟩
   ·rcases List.mem_append.1 hx with hx | hx <;> simp [hx]
   ·rcases List.mem_append.1 hx with hx | hx
    ·simp [hx]
    ·rcases List.mem_cons.1 hx with rfl | hx
     ·exact absurd ⟨by rw [← e1];exact h5,by rw [← e2];exact h6⟩ e
     ·simp [hx]
theorem uV {K:av} {L:List Kd} (hK:bz K) (h:cK K L) (hl:L.length≤1000000) {b:List Int} (hb:aA b) (hB:b.length≤9223372036854775807):∃ L',mf b ⟨L⟩ = some (mN K b,⟨L'⟩)∧cK (cT K b) L'∧L'.length≤L.length+1:=by
 rw [u7,yx hb hB,Option.bind_some,BU]
 cases hd:cZ b with
 | false =>
  rw [if_neg (by simp)]
  refine ⟨L, ?_, ?_,by omega⟩
  ·rw [vd hd];rfl
  ·unfold cT;rw [vd hd,if_neg (by omega)];exact h
 | true =>
  have hlen:=mT hb hd
  rw [if_pos rfl]
  obtain ⟨A,B,is,hL,hA,hf,hc⟩:=FC h (by omega) (an b).Sender (an b).Number
  simp only
  rw [bW.2 rfl,cond_false,hf,Option.bind_some]
  rcases hc with ⟨rfl,x,C,rfl,e1,e2,e3,e4,e5⟩ | ⟨rfl,e3,e5⟩
  ·have hi:A.length < L.length:=by rw [hL];simp
   have hg:gD L (A.length:Int).toNat (zS .GPensionref31_kept) = x:=by rw [eH hi];simp [hL]
   have e0:=GX hd e3
   have hob:=(hK _ _ _ e3).1
   simp only
   rw [hg,Lv hob hb,jv (by rw [cu];rfl),jv (by rw [eD hi];rfl),cond_true]
   cases hle:mC x.B b with
   | true =>
    rw [hle,if_pos rfl] at e0
    refine ⟨L, ?_, ?_,by omega⟩
    ·rw [e0];rfl
    ·unfold cT;rw [if_neg (by rw [e0];omega)];exact h
   | false =>
    rw [hle,if_neg (by simp)] at e0
    rw [cond_false,cond_true,di hi (by omega),ER (.inr ⟨x,hL,rfl⟩) hl (by omega)]
    refine ⟨_,by rw [e0], ?_,by rw [hL];simp⟩
    unfold cT
    rw [if_pos e0]
    exact FL rfl rfl hA e5 h (.inr ⟨x,hL,e1,e2⟩)
  ·have e0:=wU hd e3
   simp only
   rw [Bool.false_and,Bool.not_false,Bool.true_or,Bool.true_or,aF,aF,cond_false,cond_false,cond_false,ER (.inl ⟨hL,rfl⟩) hl (by omega)]
   refine ⟨_,by rw [e0], ?_,by rw [hL];simp;omega⟩
   unfold cT
   rw [if_pos e0]
   exact FL rfl rfl hA e5 h (.inl hL)
def ew:av:=fun _ _=>none
theorem kZ:bz ew:=fun s n b h=>by cases h
theorem vr:bw ew [] []:=bw.nil
theorem HT:cK ew []:=⟨List.Pairwise.nil,fun x h=>(by cases h),fun s n b h=>by cases h⟩
def o5 (l:List (List Int)):av:=l.foldl cT ew
def DB (l:List (List Int)):Prop:=∀ b∈l,aA b∧b.length≤1000000
theorem Lm {l:List (List Int)} (hl:∀ b∈l,aA b):∀ {K:av},bz K→bz (l.foldl cT K):=by
 induction l with
 | nil=>exact fun h=>h
 | cons b l ih =>
  intro K h
  rw [List.foldl_cons]
  exact ih (fun c hc=>hl c (by simp [hc])) (sB h (hl b (by simp)))
theorem Li {l:List (List Int)} (hl:DB l):bz (o5 l):=Lm (fun b hb=>(hl b hb).1) kZ
theorem JZ (l:List (List Int)) (hl:DB l) (hn:l.length≤100000):∀ (m i:Nat) (K:av) (L:List Kd) (ks:List Fk) (vs:List (List Int)),l.length = i+m→bz K→bw K ks vs→cK K L→ks.length≤i→L.length≤i →
  ∃ L' ks' vs',gR (i:Int) l ⟨L⟩ ks vs = some (true,l,⟨L'⟩,ks',vs')∧bw ((l.drop i).foldl cT K) ks' vs'∧cK ((l.drop i).foldl cT K) L'∧ks'.length≤l.length∧L'.length≤l.length:=by
 intro m
 induction m with
 | zero =>
  intro i K L ks vs hi hK hM hL h1 h2
  have hi:i = l.length:=by omega
  subst hi
  refine ⟨L,ks,vs, ?_,by simpa using hM,by simpa using hL,h1,h2⟩
  rw [oE,dq,cond_false]
 | succ m ih =>
  intro i K L ks vs hi hK hM hL h1 h2
  have hlt:i < l.length:=by omega
  have hb:=hl _ (List.getElem_mem hlt)
  obtain ⟨ks1,vs1,a1,a2,a3⟩:=gc hK hM hb.1 (by have:=hb.2;omega)
  obtain ⟨L1,b1,b2,b3⟩:=uV hK hL (by omega) hb.1 (by have:=hb.2;omega)
  rw [List.drop_eq_getElem_cons hlt,List.foldl_cons]
  obtain ⟨L',ks',vs',c1,c2⟩:=ih (i+1) (cT K l[i]) L1 ks1 vs1 (by omega) (sB hK hb.1) a2 b2 (by omega) (by omega)
  refine ⟨L',ks',vs', ?_,c2⟩
  rw [oE,eD hlt,cond_true,cu,aF,aF,eH hlt,a1,Option.bind_some,aF,aF,b1,Option.bind_some]
  show (bif aT (mN K l[i]) (mN K l[i]) then _ else gR (ae ((i:Int)+1)) l ⟨L1⟩ ks1 vs1) = _
  rw [bW.2 rfl,cond_false,di hlt (by omega)]
  exact c1
theorem Bb {l:List (List Int)} (hl:DB l) (hn:l.length≤100000):∃ L ks vs,lT l = some (true,l,⟨L⟩,ks,vs)∧bw (o5 l) ks vs∧cK (o5 l) L∧ks.length≤l.length∧L.length≤l.length:=by
 rw [Db,xK,Option.bind_some]
 exact JZ l hl hn l.length 0 ew [] [] [] (by omega) kZ vr HT (by simp) (by simp)
end Go.Ax
