import Derived.Test.YtbjfcadcipfolaaGreatZP54
set_option linter.all false
/- The order of byte strings;maps of documents by their keys. -/
set_option maxRecDepth 100000
namespace Go.Ax
def dP:List Int→List Int→Bool
 | [],_=>true
 | _ :: _,[]=>false
 | x :: a,y :: b=>aa (x < y)||(am x y&&dP a b)
theorem dX {x y:Int} {a b:List Int}:dP (x :: a) (y :: b) = true↔x < y∨(x = y∧dP a b = true):=by
 show (aa (x < y)||(am x y&&dP a b)) = true↔_
 rw [Bool.or_eq_true,Bool.and_eq_true,aZ]
 simp [aa]
theorem jL:∀ a:List Int,dP a a = true
 | []=>rfl
 | x :: a=>dX.2 (.inr ⟨rfl,jL a⟩)
theorem zP:∀ {a b c:List Int},dP a b = true→dP b c = true→dP a c = true
 | [],_,_,_,_=>rfl
 | _ :: _,[],_,h,_=>by cases h
 | _ :: _,_ :: _,[],_,h=>by cases h
 | x :: a,y :: b,z :: c,h,h'=>by
  rcases dX.1 h with h1 | ⟨rfl,h1⟩ <;> rcases dX.1 h' with h2 | ⟨rfl,h2⟩
  ·exact dX.2 (.inl (by omega))
  ·exact dX.2 (.inl h1)
  ·exact dX.2 (.inl h2)
  ·exact dX.2 (.inr ⟨rfl,zP h1 h2⟩)
theorem tH:∀ {a b:List Int},dP a b = true→dP b a = true→a = b
 | [],[],_,_=>rfl
 | [],_ :: _,_,h=>by cases h
 | _ :: _,[],h,_=>by cases h
 | x :: a,y :: b,h,h'=>by
  rcases dX.1 h with h1 | ⟨rfl,h1⟩ <;> rcases dX.1 h' with h2 | ⟨e,h2⟩
  ·omega
  ·omega
  ·omega
  ·rw [tH h1 h2]
theorem Ar:∀ (a b:List Int),dP a b = true∨dP b a = true
 | [],_=>.inl rfl
 | _ :: _,[]=>.inr rfl
 | x :: a,y :: b=>by
  rcases Int.lt_trichotomy x y with h | rfl | h
  ·exact .inl (dX.2 (.inl h))
  ·rcases Ar a b with h | h
   ·exact .inl (dX.2 (.inr ⟨rfl,h⟩))
   ·exact .inr (dX.2 (.inr ⟨rfl,h⟩))
  ·exact .inr (dX.2 (.inl h))
theorem RQ {a b:List Int}:dP a b = false↔dP b a = true∧a≠b:=by
 constructor
 ·intro h
  refine ⟨(Ar b a).resolve_right fun h'=>(by rw [h] at h'; cases h'), ?_⟩
  rintro rfl
  rw [jL] at h
  cases h
 ·rintro ⟨h,hne⟩
  cases hh:dP a b with
  | false=>rfl
  | true=>exact absurd (tH hh h) hne
theorem Hv {x:Int} (h:0≤x∧x < 256):(UInt8.ofNat x.toNat).toNat = x.toNat:=by
 simp [Nat.mod_eq_of_lt (show x.toNat < 256 by omega)]
theorem Dl {x y:Int} (hx:0≤x∧x < 256) (hy:0≤y∧y < 256):UInt8.ofNat x.toNat < UInt8.ofNat y.toNat↔x < y:=by
 rw [UInt8.lt_iff_toNat_lt,Hv hx,Hv hy]
 omega
theorem RM {x y:Int} (hx:0≤x∧x < 256) (hy:0≤y∧y < 256):(UInt8.ofNat x.toNat = UInt8.ofNat y.toNat)↔x = y:=by
 constructor
 ·intro h
  have:=congrArg UInt8.toNat h
  rw [Hv hx,Hv hy] at this
  omega
 ·rintro rfl;rfl
theorem xi:∀ {a b:List Int},aB a→aB b→(gK a b≤0↔dP a b = true)
 | [],[],_,_=>by simp [gK,Lib.compareBytes,dP]
 | [],_ :: _,_,_=>by simp [gK,Lib.compareBytes,dP]
 | _ :: _,[],_,_=>by simp [gK,Lib.compareBytes,dP]
 | x :: a,y :: b,ha,hb=>by
  obtain ⟨hx,ha⟩:=dY.1 ha
  obtain ⟨hy,hb⟩:=dY.1 hb
  have ih:=xi ha hb
  rw [dX]
  unfold gK at ih ⊢
  simp only [List.map_cons,Lib.compareBytes]
  by_cases h:x < y
  ·rw [if_pos ((Dl hx hy).2 h)]
   simp [h]
  ·rw [if_neg (fun e=>h ((Dl hx hy).1 e))]
   by_cases h':y < x
   ·rw [if_pos ((Dl hy hx).2 h')]
    constructor
    ·intro e;omega
    ·rintro (e | ⟨e,_⟩) <;> omega
   ·rw [if_neg (fun e=>h' ((Dl hy hx).1 e))]
    have:x = y:=by omega
    rw [ih]
    constructor
    ·intro e;exact .inr ⟨this,e⟩
    ·rintro (e | ⟨_,e⟩)
     ·omega
     ·exact e
theorem zd:∀ {a b:List Int},aB a→aB b→(Op.bytesLess (a.map fun x=>UInt8.ofNat x.toNat) (b.map fun x=>UInt8.ofNat x.toNat) = true↔dP a b = true∧a≠b)
 | [],[],_,_=>by simp [Op.bytesLess,dP]
 | [],_ :: _,_,_=>by simp [Op.bytesLess,dP]
 | _ :: _,[],_,_=>by simp [Op.bytesLess,dP]
 | x :: a,y :: b,ha,hb=>by
  obtain ⟨hx,ha⟩:=dY.1 ha
  obtain ⟨hy,hb⟩:=dY.1 hb
  have ih:=zd ha hb
  simp only [List.map_cons,Op.bytesLess,Bool.or_eq_true,Bool.and_eq_true,decide_eq_true_eq,beq_iff_eq]
  rw [Dl hx hy,RM hx hy,ih,dX]
  constructor
  ·rintro (h | ⟨rfl,h,hne⟩)
   ·exact ⟨.inl h,fun e=>by injection e with e1 e2;omega⟩
   ·exact ⟨.inr ⟨rfl,h⟩,fun e=>by injection e with e1 e2;exact hne e2⟩
  ·rintro ⟨h | ⟨rfl,h⟩,hne⟩
   ·exact .inl h
   ·exact .inr ⟨rfl,h,fun e=>hne (by rw [e])⟩
theorem Be (a b:List Int):kd a b = some (gK a b):=by rw [CX];rfl
theorem PG {a b:List Int} (ha:aB a) (hb:aB b):(Op.bytesLess (ByteArray.toList (bz a)) (ByteArray.toList (bz b))||ot (bz a) (bz b)) = dP a b:=by
 rw [qx ha hb]
 have e:∀ l:List Int,ByteArray.toList (bz l) = l.map fun x=>UInt8.ofNat x.toNat:=fun l=>by
  rw [ByteArray.toList_eq];rfl
 rw [e,e,Bool.eq_iff_iff,Bool.or_eq_true,zd ha hb,decide_eq_true_iff]
 constructor
 ·rintro (h | rfl)
  ·exact h.1
  ·exact jL _
 ·intro h
  by_cases hab:a = b
  ·exact .inr hab
  ·exact .inl ⟨h,hab⟩
abbrev Fk:=GFeed_key
abbrev kF:Ty:=.st .GFeed_key
theorem Qe (x k:Fk):uS kF x k = true↔x = k:=by
 have e:uS kF x k = (am x.sender k.sender&&am x.number k.number):=(Dj (s:=.GFeed_key) rfl x k).trans rfl
 rw [e,Bool.and_eq_true]
 obtain ⟨a,b⟩:=x
 obtain ⟨c,d⟩:=k
 simp [am]
theorem xa:∀ (ks:List Fk) (k:Fk),(bA kF ks k = ks.length∧k ∉ ks)∨(bA kF ks k < ks.length∧ks[bA kF ks k]? = some k)
 | [],k=>.inl ⟨rfl,by simp⟩
 | x :: r,k=>by
  have e:bA kF (x :: r) k = bif uS kF x k then 0 else bA kF r k+1:=rfl
  cases h:uS kF x k with
  | true =>
   rw [h,cond_true] at e
   have:=(Qe x k).1 h
   subst this
   exact .inr ⟨by rw [e];simp,by rw [e];rfl⟩
  | false =>
   rw [h,cond_false] at e
   have hne:x≠k:=fun h'=>by rw [(Qe x k).2 h'] at h;cases h
   rw [e]
   rcases xa r k with ⟨h1,h2⟩ | ⟨h1,h2⟩
   ·exact .inl ⟨by rw [h1];rfl,fun hm=>by rcases List.mem_cons.1 hm with h' | h'; exact hne h'.symm;exact h2 h'⟩
   ·exact .inr ⟨by simp;omega,by rw [List.getElem?_cons_succ];exact h2⟩
theorem AC (ks:List Fk) (r:Fk):jM kF ks r = true↔r∈ks:=by
 unfold jM
 rw [Nat.blt_eq]
 rcases xa ks r with ⟨h,hn⟩ | ⟨h1,h2⟩
 ·exact ⟨fun h'=>by have h'':bA kF ks r < ks.length:=h'; have h3:bA kF ks r = ks.length:=h;omega,fun h'=>absurd h' hn⟩
 ·exact ⟨fun _=>List.mem_of_getElem? h2,fun _=>h1⟩
abbrev ao:=Int→Int→Option (List Int)
def jo (K:ao) (s n:Int) (b:List Int):ao:=fun s' n'=>if s' = s∧n' = n then some b else K s' n'
theorem FE (K:ao) (s n:Int) (b:List Int):jo K s n b s n = some b:=if_pos ⟨rfl,rfl⟩
structure bg (K:ao) (ks:List Fk) (vs:List (List Int)):Prop where
  len:ks.length = vs.length
  nd:ks.Nodup
  val:∀ (p:Nat) (h:p < ks.length),K ks[p].sender ks[p].number = some (gD vs p [])
  mem:∀ s n b,K s n = some b→(⟨s,n⟩:Fk)∈ks
theorem bg.has {K:ao} {ks vs} (h:bg K ks vs) (s n:Int):jM kF ks ⟨s,n⟩ = (K s n).isSome:=by
 rw [Bool.eq_iff_iff,AC]
 constructor
 ·intro hm
  obtain ⟨p,hp,e⟩:=List.getElem_of_mem hm
  have:=h.val p hp
  rw [e] at this
  rw [this];rfl
 ·intro hk
  cases hb:K s n with
  | none=>rw [hb] at hk;cases hk
  | some b=>exact h.mem s n b hb
theorem bg.get {K:ao} {ks vs} (h:bg K ks vs) (s n:Int):mR kF ks vs ⟨s,n⟩ ([]:List Int) = (K s n).getD []:=by
 unfold mR
 rcases xa ks ⟨s,n⟩ with ⟨h1,h2⟩ | ⟨h1,h2⟩
 ·cases hb:K s n with
  | some b=>exact absurd (h.mem s n b hb) h2
  | none =>
   rw [List.getD_eq_getElem?_getD,List.getElem?_eq_none (by have:=h.len;omega)]
 ·have e:=h.val _ h1
  rw [List.getElem?_eq_getElem h1] at h2
  injection h2 with h2
  rw [h2] at e
  rw [e]
  rfl
theorem bg.put {K:ao} {ks vs} (h:bg K ks vs) (s n:Int) (b:List Int):bg (jo K s n b) (il kF ks ⟨s,n⟩) (kA kF ks vs ⟨s,n⟩ b)∧(il kF ks ⟨s,n⟩).length≤ks.length+1:=by
 unfold il kA
 have hlen:=h.len
 cases hm:jM kF ks ⟨s,n⟩ with
 | true =>
  have hin:=(AC ks ⟨s,n⟩).1 hm
  rcases xa ks ⟨s,n⟩ with ⟨h1,h2⟩ | ⟨h1,h2⟩
  ·exact absurd hin h2
  ·rw [cond_true,cond_true]
   rw [List.getElem?_eq_getElem h1] at h2
   injection h2 with h2
   refine ⟨⟨by rw [List.length_set];exact hlen,h.nd,fun p hp=>?_,fun s' n' b' hb=>?_⟩,by omega⟩
   ·unfold jo gD
    rw [List.getD_eq_getElem?_getD,List.getElem?_set]
    by_cases hpe:bA kF ks ⟨s,n⟩ = p
    ·subst hpe
     rw [h2,if_pos ⟨rfl,rfl⟩,if_pos rfl,if_pos (by omega)];rfl
    ·rw [if_neg hpe,if_neg, ← List.getD_eq_getElem?_getD]
     ·exact h.val p hp
     ·rintro ⟨e1,e2⟩
      apply hpe
      have e:ks[p] = (⟨s,n⟩:Fk):=by
       cases hq:ks[p] with
       | mk a c=>rw [hq] at e1 e2;simp only at e1 e2;rw [e1,e2]
      exact (List.getElem_inj h.nd).1 (h2.trans e.symm)
   ·unfold jo at hb
    split at hb
    ·next e=>rw [e.1,e.2];exact hin
    ·exact h.mem s' n' b' hb
 | false =>
  have hno:(⟨s,n⟩:Fk) ∉ ks:=fun hh=>by rw [(AC ks _).2 hh] at hm;cases hm
  rw [cond_false,cond_false]
  refine ⟨⟨by simp [hlen], ?_,fun p hp=>?_,fun s' n' b' hb=>?_⟩,by simp⟩
  ·rw [List.nodup_append]
   exact ⟨h.nd,by simp,fun a ha c hc e=>hno (by rw [List.mem_singleton] at hc;rw [← hc, ← e];exact ha)⟩
  ·rw [List.length_append,List.length_singleton] at hp
   unfold jo gD
   by_cases hpe:p < ks.length
   ·rw [List.getElem_append_left hpe,List.getD_eq_getElem?_getD,List.getElem?_append_left (by omega), ← List.getD_eq_getElem?_getD,if_neg]
    ·exact h.val p hpe
    ·rintro ⟨e1,e2⟩
     apply hno
     have e:ks[p] = (⟨s,n⟩:Fk):=by
      cases hq:ks[p] with
      | mk a c=>rw [hq] at e1 e2;simp only at e1 e2;rw [e1,e2]
     rw [← e]
     exact List.getElem_mem hpe
   ·have:p = ks.length:=by omega
    subst this
    rw [List.getElem_append_right (Nat.le_refl _),List.getD_eq_getElem?_getD,List.getElem?_append_right (by omega)]
    simp [hlen]
  ·unfold jo at hb
   split at hb
   ·next e=>rw [e.1,e.2];simp
   ·exact List.mem_append_left _ (h.mem s' n' b' hb)
theorem bg.nil:bg (fun _ _=>none) [] []:=⟨rfl,List.nodup_nil,fun p h=>absurd h (by simp),fun s n b h=>by cases h⟩
end Go.Ax
set_option linter.all false
/- Documents are added to a map and to a sorted list: both keep the same. -/
set_option maxRecDepth 100000
namespace Go.Ax
theorem fJ {b:List Int} (hb:aB b) (h:cP b = true):15≤b.length∧b.length≤58:=by
 obtain ⟨h1,_,_,h2,h3⟩:=(jt hb).1 h
 have:=Ca (ah b)
 have hl:=GR (BR hb).1 (gm.1 h3).2.2.2
 rw [h2] at this
 omega
def aS (K:ao):Prop:=∀ s n b,K s n = some b→aB b∧cP b = true∧(ah b).Sender = s∧(ah b).Number = n
theorem aS.rng {K:ao} (h:aS K) {s n:Int} {b:List Int} (hb:K s n = some b):(0≤s∧s≤5)∧(1≤n∧n≤999)∧15≤b.length∧b.length≤58:=by
 obtain ⟨h1,h2,rfl,rfl⟩:=h s n b hb
 have h3:=gm.1 ((jt h1).1 h2).2.2.2.2
 exact ⟨h3.1,h3.2.1,fJ h1 h2⟩
def pW (K:ao) (b:List Int):Int:=if cP b = true then (match K (ah b).Sender (ah b).Number with
 | some o=>if dP o b = true then 10 else 0
 | none=>0) else 11
def bK (K:ao) (b:List Int):ao:=if pW K b = 0 then jo K (ah b).Sender (ah b).Number b else K
theorem tX {K:ao} {b:List Int} (h:cP b = false):pW K b = 11:=by unfold pW;rw [h,if_neg (by simp)]
theorem p6 {K:ao} {b:List Int} (h:cP b = true) (h2:K (ah b).Sender (ah b).Number = none):pW K b = 0:=by unfold pW;rw [if_pos h,h2]
theorem Fm {K:ao} {b o:List Int} (h:cP b = true) (h2:K (ah b).Sender (ah b).Number = some o):pW K b = if dP o b = true then 10 else 0:=by unfold pW;rw [if_pos h,h2]
theorem lZ {K:ao} (hK:aS K) {b:List Int} (hb:aB b):aS (bK K b):=by
 unfold bK
 split
 ·next he =>
  have hd:cP b = true:=by
   cases hd:cP b with
   | true=>rfl
   | false=>rw [tX hd] at he;cases he
  intro s n c hc
  unfold jo at hc
  split at hc
  ·next e =>
   injection hc with hc
   subst hc
   exact ⟨hb,hd,e.1.symm,e.2.symm⟩
  ·exact hK s n c hc
 ·exact hK
theorem FB (b:List Int):pR b = if cP b = true then (ah b,0) else (EE,11):=rfl
theorem cc {K:ao} {ks vs} (hK:aS K) (h:bg K ks vs) {b:List Int} (hb:aB b) (hB:b.length≤140737488355328):∃ ks' vs',cD b ks vs = some (pW K b,ks',vs')∧bg (bK K b) ks' vs'∧ks'.length≤ks.length+1:=by
 rw [AZ,pm hb hB,Option.bind_some,FB]
 cases hd:cP b with
 | false =>
  rw [if_neg (by simp)]
  refine ⟨ks,vs, ?_, ?_,by omega⟩
  ·rw [tX hd];rfl
  ·unfold bK;rw [tX hd,if_neg (by omega)];exact h
 | true =>
  rw [if_pos rfl]
  show ∃ ks' vs',(bif jM kF ks ⟨(ah b).Sender,(ah b).Number⟩ then (kd (mR kF ks vs ⟨(ah b).Sender,(ah b).Number⟩ []) b).bind fun r1=>bif aa (r1≤0) then some (10,ks,vs) else (gC b).bind fun r2=>some (0,il kF ks ⟨(ah b).Sender,(ah b).Number⟩,kA kF ks vs ⟨(ah b).Sender,(ah b).Number⟩ r2)
   else (gC b).bind fun r3=>some (0,il kF ks ⟨(ah b).Sender,(ah b).Number⟩,kA kF ks vs ⟨(ah b).Sender,(ah b).Number⟩ r3)) = _∧_
  rw [h.has,h.get,ox hB,Option.bind_some]
  have hput:=h.put (ah b).Sender (ah b).Number b
  cases ho:K (ah b).Sender (ah b).Number with
  | none =>
   have e0:=p6 hd ho
   refine ⟨il kF ks ⟨(ah b).Sender,(ah b).Number⟩,kA kF ks vs ⟨(ah b).Sender,(ah b).Number⟩ b, ?_, ?_,hput.2⟩
   ·rw [e0];rfl
   ·unfold bK;rw [if_pos e0];exact hput.1
  | some o =>
   have e0:=Fm hd ho
   have hob:=(hK _ _ _ ho).1
   show ∃ ks' vs',((kd o b).bind fun r1=>bif aa (r1≤0) then some (10,ks,vs) else some (0,il kF ks ⟨(ah b).Sender,(ah b).Number⟩,kA kF ks vs ⟨(ah b).Sender,(ah b).Number⟩ b)) = _∧_
   rw [Be,Option.bind_some]
   cases hle:dP o b with
   | true =>
    rw [hle,if_pos rfl] at e0
    refine ⟨ks,vs, ?_, ?_,by omega⟩
    ·rw [aV ((xi hob hb).2 hle),e0];rfl
    ·unfold bK;rw [if_neg (by rw [e0];omega)];exact h
   | false =>
    rw [hle,if_neg (by simp)] at e0
    refine ⟨il kF ks ⟨(ah b).Sender,(ah b).Number⟩,kA kF ks vs ⟨(ah b).Sender,(ah b).Number⟩ b, ?_, ?_,hput.2⟩
    ·rw [bp (fun hh=>by rw [(xi hob hb).1 hh] at hle;cases hle),e0];rfl
    ·unfold bK;rw [if_pos e0];exact hput.1
abbrev Kd:=GPensionref31_kept
def iz (s n s' n':Int):Prop:=s < s'∨(s = s'∧n < n')
structure di (K:ao) (L:List Kd):Prop where
  srt:L.Pairwise fun x y=>iz x.D.Sender x.D.Number y.D.Sender y.D.Number
  val:∀ x∈L,K x.D.Sender x.D.Number = some x.B∧x.D = ah x.B
  mem:∀ s n b,K s n = some b→∃ x∈L,x.D.Sender = s∧x.D.Number = n
theorem G4 (s n:Int):∀ (B A:List Kd),(A++B).length≤1000000000→(∀ x∈A,iz x.D.Sender x.D.Number s n) →
  ∃ A' B' is,A++B = A'++B'∧(∀ x∈A',iz x.D.Sender x.D.Number s n)∧(is = true→∃ x C,B' = x :: C∧x.D.Sender = s∧x.D.Number = n)∧(is = false→∀ x C,B' = x :: C→iz s n x.D.Sender x.D.Number)∧dB ⟨A++B⟩ s n (A.length:Int) = some ((A'.length:Int),is)
 | [],A,hl,hA=>by
  refine ⟨A,[],false,rfl,hA,fun h=>(by cases h),fun _ x C h=>(by cases h), ?_⟩
  rw [mg,List.append_nil]
  show (bif aa ((A.length:Int) < (A.length:Int)) then _ else some ((A.length:Int),false)) = _
  rw [cJ,cond_false]
 | x :: B,A,hl,hA=>by
  have hi:A.length < (A++x :: B).length:=by simp
  have hg:gD (A++x :: B) (A.length:Int).toNat (zS .GPensionref31_kept) = x:=by rw [cz hi];simp
  have hl':A.length < 1000000000:=by simp at hl;omega
  have step:dB ⟨A++x :: B⟩ s n (A.length:Int) = (bif (am x.D.Sender s&&am x.D.Number n) then some ((A.length:Int),true) else bif (aa (s < x.D.Sender)||(am x.D.Sender s&&aa (n < x.D.Number))) then some ((A.length:Int),false) else dB ⟨A++x :: B⟩ s n ((A.length+1:Nat):Int)):=by
   rw [mg]
   show (bif aa ((A.length:Int) < ((A++x :: B).length:Int)) then gb (aa (0≤(A.length:Int))) (gb (aa ((A.length:Int) < ((A++x :: B).length:Int))) _) else _) = _
   rw [dj hi,cond_true,bH,ap,ap]
   show (bif (bif (am (gD (A++x :: B) (A.length:Int).toNat (zS .GPensionref31_kept)).D.Sender s) then (am (gD (A++x :: B) (A.length:Int).toNat (zS .GPensionref31_kept)).D.Number n) else false) then _ else bif (bif aa (s < (gD (A++x :: B) (A.length:Int).toNat (zS .GPensionref31_kept)).D.Sender) then true else (bif (am (gD (A++x :: B) (A.length:Int).toNat (zS .GPensionref31_kept)).D.Sender s) then aa (n < (gD (A++x :: B) (A.length:Int).toNat (zS .GPensionref31_kept)).D.Number) else false)) then _ else _) = _
   rw [hg,dS,dS,Dg,co hi (by simp at hl ⊢; omega)]
  rw [step]
  by_cases e1:x.D.Sender = s∧x.D.Number = n
  ·rw [aZ.2 e1.1,aZ.2 e1.2]
   exact ⟨A,x :: B,true,rfl,hA,fun _=>⟨x,B,rfl,e1⟩,fun h=>(by cases h),rfl⟩
  ·have hc:(am x.D.Sender s&&am x.D.Number n) = false:=by
    rw [Bool.eq_false_iff]
    intro h
    rw [Bool.and_eq_true,aZ,aZ] at h
    exact e1 h
   rw [hc,cond_false]
   by_cases e2:iz s n x.D.Sender x.D.Number
   ·have hc2:(aa (s < x.D.Sender)||(am x.D.Sender s&&aa (n < x.D.Number))) = true:=by
     rw [Bool.or_eq_true,Bool.and_eq_true,aZ]
     rcases e2 with h | h
     ·exact .inl (aV h)
     ·exact .inr ⟨h.1.symm,aV h.2⟩
    rw [hc2,cond_true]
    exact ⟨A,x :: B,false,rfl,hA,fun h=>(by cases h),fun _ y C h=>(by injection h with h1 h2;rw [← h1];exact e2),rfl⟩
   ·have hc2:(aa (s < x.D.Sender)||(am x.D.Sender s&&aa (n < x.D.Number))) = false:=by
     rw [Bool.eq_false_iff]
     intro h
     rw [Bool.or_eq_true,Bool.and_eq_true,aZ] at h
     apply e2
     rcases h with h | h
     ·exact .inl (lO h)
     ·exact .inr ⟨h.1.symm,lO h.2⟩
    rw [hc2,cond_false]
    have hx:iz x.D.Sender x.D.Number s n:=by
     unfold iz at e2 ⊢
     omega
    have:=G4 s n B (A++[x]) (by simpa using hl) (fun y hy=>by
     rcases List.mem_append.1 hy with hy | hy
     ·exact hA y hy
     ·rw [List.mem_singleton] at hy;rw [hy];exact hx)
    rw [show A++[x]++B = A++x :: B by simp,show (A++[x]).length = A.length+1 by simp] at this
    exact this
theorem IZ {K:ao} {L:List Kd} (h:di K L) (hl:L.length≤1000000000) (s n:Int) :
  ∃ A B is,L = A++B∧(∀ x∈A,iz x.D.Sender x.D.Number s n)∧dn ⟨L⟩ s n = some ((A.length:Int),is) ∧
   ((is = true∧∃ x C,B = x :: C∧x.D.Sender = s∧x.D.Number = n∧K s n = some x.B∧x.D = ah x.B∧(∀ y∈C,iz s n y.D.Sender y.D.Number))∨(is = false∧K s n = none∧∀ y∈B,iz s n y.D.Sender y.D.Number)):=by
 obtain ⟨A,B,is,h1,h2,h3,h4,h5⟩:=G4 s n L [] (by simpa using hl) (fun x hx=>by cases hx)
 rw [List.nil_append] at h1 h5
 refine ⟨A,B,is,h1,h2,by rw [yX];exact h5, ?_⟩
 have hs:=h.srt
 rw [h1] at hs
 have hsB:=(List.pairwise_append.1 hs).2.1
 cases his:is with
 | true =>
  obtain ⟨x,C,hB,e1,e2⟩:=h3 his
  refine .inl ⟨rfl,x,C,hB,e1,e2, ?_⟩
  have hx:=h.val x (by rw [h1,hB];simp)
  rw [e1,e2] at hx
  refine ⟨hx.1,hx.2,fun y hy=>?_⟩
  rw [hB] at hsB
  have:=List.rel_of_pairwise_cons hsB hy
  rw [e1,e2] at this
  exact this
 | false =>
  have hgt:∀ y∈B,iz s n y.D.Sender y.D.Number:=by
   intro y hy
   cases hB:B with
   | nil=>rw [hB] at hy;cases hy
   | cons x C =>
    have hx:=h4 his x C hB
    rw [hB] at hy hsB
    rcases List.mem_cons.1 hy with rfl | hy
    ·exact hx
    ·have:=List.rel_of_pairwise_cons hsB hy
     unfold iz at *
     omega
  refine .inr ⟨rfl, ?_,hgt⟩
  cases hk:K s n with
  | none=>rfl
  | some b =>
   exfalso
   obtain ⟨x,hx,e1,e2⟩:=h.mem s n b hk
   rw [h1] at hx
   rcases List.mem_append.1 hx with hx | hx
   ·have:=h2 x hx;unfold iz at this;omega
   ·have:=hgt x hx;unfold iz at this;omega
theorem vh {T:Type} (b:List T) {n:Nat}:ak b 0 ((n:Int) - 0).toNat = b.take n:=by
 unfold ak;rw [List.drop_zero,show ((n:Int) - 0).toNat = n by omega]
theorem JB {A C:List Kd} {b:List Int} {d:GDocument} {L:List Kd} {r:Nat} (hL:L = A++C∧r = A.length∨∃ x,L = A++x :: C∧r = A.length+1) (hl:L.length≤1000000) (hb:b.length≤1000000) :
  gv b (A.length:Int) (r:Int) ⟨L⟩ d = some (0,⟨A++⟨d,b⟩ :: C⟩):=by
 have h1:A.length≤L.length∧r≤L.length∧L.take A.length = A∧L.drop r = C∧C.length≤L.length:=by
  rcases hL with ⟨rfl,rfl⟩ | ⟨x,rfl,rfl⟩
  ·refine ⟨by simp,by simp,by simp,by simp,by simp⟩
  ·refine ⟨by simp,by simp,by simp, ?_,by simp;omega⟩
   rw [← List.drop_drop,List.drop_left,List.drop_one,List.tail_cons]
 obtain ⟨h1,h2,h3,h4,h5⟩:=h1
 rw [uq]
 simp only
 rw [vh,h3,jF L (by omega) (by omega),Int.toNat_natCast,h4]
 have h6:(A++[(⟨d,b⟩:Kd)]).length = A.length+1:=by simp
 rw [h6,ab (by omega),ab (by omega),ab (by omega),ab (by omega),ab (by omega),ab (by omega),ab (by omega),ab (by omega),ab (by omega),ab (by omega),ab (by omega),ab (by omega),ab (by omega)]
 simp
theorem HI {K:ao} {A C:List Kd} {b:List Int} {s n:Int} (hs:(ah b).Sender = s) (hn:(ah b).Number = n) (hA:∀ x∈A,iz x.D.Sender x.D.Number s n) (hC:∀ x∈C,iz s n x.D.Sender x.D.Number) {L:List Kd} (h:di K L)
  (hL:L = A++C∨∃ x,L = A++x :: C∧x.D.Sender = s∧x.D.Number = n):di (jo K s n b) (A++⟨ah b,b⟩ :: C):=by
 have sub:∀ x∈A++C,x∈L:=by
  intro x hx
  rcases hL with rfl | ⟨y,rfl,_⟩
  ·exact hx
  ·rcases List.mem_append.1 hx with hx | hx <;> simp [hx]
 have hAC:(A++C).Pairwise fun x y=>iz x.D.Sender x.D.Number y.D.Sender y.D.Number:=by
  rcases hL with rfl | ⟨y,rfl,_⟩
  ·exact h.srt
  ·exact h.srt.sublist (List.Sublist.append (List.Sublist.refl _) (List.sublist_cons_self _ _))
 obtain ⟨p1,p2,p3⟩:=List.pairwise_append.1 hAC
 refine ⟨?_,fun x hx=>?_,fun s' n' b' hb'=>?_⟩
 ·rw [List.pairwise_append]
  refine ⟨p1,List.pairwise_cons.2 ⟨fun y hy=>by rw [hs,hn];exact hC y hy,p2⟩,fun x hx y hy=>?_⟩
  rcases List.mem_cons.1 hy with rfl | hy
  ·show iz _ _ (ah b).Sender (ah b).Number
   rw [hs,hn];exact hA x hx
  ·exact p3 x hx y hy
 ·rcases List.mem_append.1 hx with hx | hx
  ·have:=hA x hx
   unfold jo
   rw [if_neg (by unfold iz at this;omega)]
   exact h.val x (sub x (by simp [hx]))
  ·rcases List.mem_cons.1 hx with rfl | hx
   ·refine ⟨?_,rfl⟩
    show jo K s n b (ah b).Sender (ah b).Number = some b
    rw [hs,hn];exact FE _ _ _ _
   ·have:=hC x hx
    unfold jo
    rw [if_neg (by unfold iz at this;omega)]
    exact h.val x (sub x (by simp [hx]))
 ·unfold jo at hb'
  split at hb'
  ·next e=>exact ⟨⟨ah b,b⟩,by simp,by rw [e.1];exact hs,by rw [e.2];exact hn⟩
  ·next e =>
   obtain ⟨x,hx,e1,e2⟩:=h.mem s' n' b' hb'
   refine ⟨x, ?_,e1,e2⟩
   rcases hL with rfl | ⟨y,rfl,h5,h6⟩
   ·rcases List.mem_append.1 hx with hx | hx <;> simp [hx]
   ·rcases List.mem_append.1 hx with hx | hx
    ·simp [hx]
    ·rcases List.mem_cons.1 hx with rfl | hx
     ·exact absurd ⟨by rw [← e1];exact h5,by rw [← e2];exact h6⟩ e
     ·simp [hx]
theorem pu {K:ao} {L:List Kd} (hK:aS K) (h:di K L) (hl:L.length≤1000000) {b:List Int} (hb:aB b) (hB:b.length≤9223372036854775807):∃ L',ky b ⟨L⟩ = some (pW K b,⟨L'⟩)∧di (bK K b) L'∧L'.length≤L.length+1:=by
 rw [y5,nc hb hB,Option.bind_some,FB]
 cases hd:cP b with
 | false =>
  rw [if_neg (by simp)]
  refine ⟨L, ?_, ?_,by omega⟩
  ·rw [tX hd];rfl
  ·unfold bK;rw [tX hd,if_neg (by omega)];exact h
 | true =>
  have hlen:=fJ hb hd
  rw [if_pos rfl]
  obtain ⟨A,B,is,hL,hA,hf,hc⟩:=IZ h (by omega) (ah b).Sender (ah b).Number
  simp only
  rw [bj.2 rfl,cond_false,hf,Option.bind_some]
  rcases hc with ⟨rfl,x,C,rfl,e1,e2,e3,e4,e5⟩ | ⟨rfl,e3,e5⟩
  ·have hi:A.length < L.length:=by rw [hL];simp
   have hg:gD L (A.length:Int).toNat (zS .GPensionref31_kept) = x:=by rw [cz hi];simp [hL]
   have e0:=Fm hd e3
   have hob:=(hK _ _ _ e3).1
   simp only
   rw [hg,PG hob hb,i7 (by rw [bH];rfl),i7 (by rw [dj hi];rfl),cond_true]
   cases hle:dP x.B b with
   | true =>
    rw [hle,if_pos rfl] at e0
    refine ⟨L, ?_, ?_,by omega⟩
    ·rw [e0];rfl
    ·unfold bK;rw [if_neg (by rw [e0];omega)];exact h
   | false =>
    rw [hle,if_neg (by simp)] at e0
    rw [cond_false,cond_true,co hi (by omega),JB (.inr ⟨x,hL,rfl⟩) hl (by omega)]
    refine ⟨_,by rw [e0], ?_,by rw [hL];simp⟩
    unfold bK
    rw [if_pos e0]
    exact HI rfl rfl hA e5 h (.inr ⟨x,hL,e1,e2⟩)
  ·have e0:=p6 hd e3
   simp only
   rw [Bool.false_and,Bool.not_false,Bool.true_or,Bool.true_or,ap,ap,cond_false,cond_false,cond_false,JB (.inl ⟨hL,rfl⟩) hl (by omega)]
   refine ⟨_,by rw [e0], ?_,by rw [hL];simp;omega⟩
   unfold bK
   rw [if_pos e0]
   exact HI rfl rfl hA e5 h (.inl hL)
def ef:ao:=fun _ _=>none
theorem mQ:aS ef:=fun s n b h=>by cases h
theorem zR:bg ef [] []:=bg.nil
theorem Mx:di ef []:=⟨List.Pairwise.nil,fun x h=>(by cases h),fun s n b h=>by cases h⟩
def aR (l:List (List Int)):ao:=l.foldl bK ef
def HA (l:List (List Int)):Prop:=∀ b∈l,aB b∧b.length≤1000000
theorem Ki {l:List (List Int)} (hl:∀ b∈l,aB b):∀ {K:ao},aS K→aS (l.foldl bK K):=by
 induction l with
 | nil=>exact fun h=>h
 | cons b l ih =>
  intro K h
  rw [List.foldl_cons]
  exact ih (fun c hc=>hl c (by simp [hc])) (lZ h (hl b (by simp)))
theorem P4 {l:List (List Int)} (hl:HA l):aS (aR l):=Ki (fun b hb=>(hl b hb).1) mQ
theorem OI (l:List (List Int)) (hl:HA l) (hn:l.length≤100000):∀ (m i:Nat) (K:ao) (L:List Kd) (ks:List Fk) (vs:List (List Int)),l.length = i+m→aS K→bg K ks vs→di K L→ks.length≤i→L.length≤i →
  ∃ L' ks' vs',ja (i:Int) l ⟨L⟩ ks vs = some (true,l,⟨L'⟩,ks',vs')∧bg ((l.drop i).foldl bK K) ks' vs'∧di ((l.drop i).foldl bK K) L'∧ks'.length≤l.length∧L'.length≤l.length:=by
 intro m
 induction m with
 | zero =>
  intro i K L ks vs hi hK hM hL h1 h2
  have hi:i = l.length:=by omega
  subst hi
  refine ⟨L,ks,vs, ?_,by simpa using hM,by simpa using hL,h1,h2⟩
  rw [rO,cJ,cond_false]
 | succ m ih =>
  intro i K L ks vs hi hK hM hL h1 h2
  have hlt:i < l.length:=by omega
  have hb:=hl _ (List.getElem_mem hlt)
  obtain ⟨ks1,vs1,a1,a2,a3⟩:=cc hK hM hb.1 (by have:=hb.2;omega)
  obtain ⟨L1,b1,b2,b3⟩:=pu hK hL (by omega) hb.1 (by have:=hb.2;omega)
  rw [List.drop_eq_getElem_cons hlt,List.foldl_cons]
  obtain ⟨L',ks',vs',c1,c2⟩:=ih (i+1) (bK K l[i]) L1 ks1 vs1 (by omega) (lZ hK hb.1) a2 b2 (by omega) (by omega)
  refine ⟨L',ks',vs', ?_,c2⟩
  rw [rO,dj hlt,cond_true,bH,ap,ap,cz hlt,a1,Option.bind_some,ap,ap,b1,Option.bind_some]
  show (bif aQ (pW K l[i]) (pW K l[i]) then _ else ja (ac ((i:Int)+1)) l ⟨L1⟩ ks1 vs1) = _
  rw [bj.2 rfl,cond_false,co hlt (by omega)]
  exact c1
theorem Fa {l:List (List Int)} (hl:HA l) (hn:l.length≤100000):∃ L ks vs,cB l = some (true,l,⟨L⟩,ks,vs)∧bg (aR l) ks vs∧di (aR l) L∧ks.length≤l.length∧L.length≤l.length:=by
 rw [Hq,BG,Option.bind_some]
 exact OI l hl hn l.length 0 ef [] [] [] (by omega) mQ zR Mx (by simp) (by simp)
end Go.Ax
