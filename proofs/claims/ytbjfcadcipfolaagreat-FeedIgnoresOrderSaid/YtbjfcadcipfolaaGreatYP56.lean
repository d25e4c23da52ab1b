import Derived.Test.YtbjfcadcipfolaaGreatYP54
set_option linter.all false
/- The order of byte strings;maps of documents by their keys. -/
set_option maxRecDepth 100000
namespace Go.Ax
def bN:List Int→List Int→Bool
 | [],_=>true
 | _ :: _,[]=>false
 | x :: a,y :: b=>aa (x < y)||(ak x y&&bN a b)
theorem dC {x y:Int} {a b:List Int}:bN (x :: a) (y :: b) = true↔x < y∨(x = y∧bN a b = true):=by
 show (aa (x < y)||(ak x y&&bN a b)) = true↔_
 rw [Bool.or_eq_true,Bool.and_eq_true,aY]
 simp [aa]
theorem jr:∀ a:List Int,bN a a = true
 | []=>rfl
 | x :: a=>dC.2 (.inr ⟨rfl,jr a⟩)
theorem nm:∀ {a b c:List Int},bN a b = true→bN b c = true→bN a c = true
 | [],_,_,_,_=>rfl
 | _ :: _,[],_,h,_=>by cases h
 | _ :: _,_ :: _,[],_,h=>by cases h
 | x :: a,y :: b,z :: c,h,h'=>by
  rcases dC.1 h with h1 | ⟨rfl,h1⟩ <;> rcases dC.1 h' with h2 | ⟨rfl,h2⟩
  ·exact dC.2 (.inl (by omega))
  ·exact dC.2 (.inl h1)
  ·exact dC.2 (.inl h2)
  ·exact dC.2 (.inr ⟨rfl,nm h1 h2⟩)
theorem mS:∀ {a b:List Int},bN a b = true→bN b a = true→a = b
 | [],[],_,_=>rfl
 | [],_ :: _,_,h=>by cases h
 | _ :: _,[],h,_=>by cases h
 | x :: a,y :: b,h,h'=>by
  rcases dC.1 h with h1 | ⟨rfl,h1⟩ <;> rcases dC.1 h' with h2 | ⟨e,h2⟩
  ·omega
  ·omega
  ·omega
  ·rw [mS h1 h2]
theorem FG:∀ (a b:List Int),bN a b = true∨bN b a = true
 | [],_=>.inl rfl
 | _ :: _,[]=>.inr rfl
 | x :: a,y :: b=>by
  rcases Int.lt_trichotomy x y with h | rfl | h
  ·exact .inl (dC.2 (.inl h))
  ·rcases FG a b with h | h
   ·exact .inl (dC.2 (.inr ⟨rfl,h⟩))
   ·exact .inr (dC.2 (.inr ⟨rfl,h⟩))
  ·exact .inr (dC.2 (.inl h))
theorem uf {a b:List Int}:bN a b = false↔bN b a = true∧a≠b:=by
 constructor
 ·intro h
  refine ⟨(FG b a).resolve_right fun h'=>(by rw [h] at h'; cases h'), ?_⟩
  rintro rfl
  rw [jr] at h
  cases h
 ·rintro ⟨h,hne⟩
  cases hh:bN a b with
  | false=>rfl
  | true=>exact absurd (mS hh h) hne
theorem GW {x:Int} (h:0≤x∧x < 256):(UInt8.ofNat x.toNat).toNat = x.toNat:=by
 simp [Nat.mod_eq_of_lt (show x.toNat < 256 by omega)]
theorem rO {x y:Int} (hx:0≤x∧x < 256) (hy:0≤y∧y < 256):UInt8.ofNat x.toNat < UInt8.ofNat y.toNat↔x < y:=by
 rw [UInt8.lt_iff_toNat_lt,GW hx,GW hy]
 omega
theorem Rq {x y:Int} (hx:0≤x∧x < 256) (hy:0≤y∧y < 256):(UInt8.ofNat x.toNat = UInt8.ofNat y.toNat)↔x = y:=by
 constructor
 ·intro h
  have:=congrArg UInt8.toNat h
  rw [GW hx,GW hy] at this
  omega
 ·rintro rfl;rfl
theorem wV:∀ {a b:List Int},aG a→aG b→(dm a b≤0↔bN a b = true)
 | [],[],_,_=>by simp [dm,Lib.compareBytes,bN]
 | [],_ :: _,_,_=>by simp [dm,Lib.compareBytes,bN]
 | _ :: _,[],_,_=>by simp [dm,Lib.compareBytes,bN]
 | x :: a,y :: b,ha,hb=>by
  obtain ⟨hx,ha⟩:=cT.1 ha
  obtain ⟨hy,hb⟩:=cT.1 hb
  have ih:=wV ha hb
  rw [dC]
  unfold dm at ih ⊢
  simp only [List.map_cons,Lib.compareBytes]
  by_cases h:x < y
  ·rw [if_pos ((rO hx hy).2 h)]
   simp [h]
  ·rw [if_neg (fun e=>h ((rO hx hy).1 e))]
   by_cases h':y < x
   ·rw [if_pos ((rO hy hx).2 h')]
    constructor
    ·intro e;omega
    ·rintro (e | ⟨e,_⟩) <;> omega
   ·rw [if_neg (fun e=>h' ((rO hy hx).1 e))]
    have:x = y:=by omega
    rw [ih]
    constructor
    ·intro e;exact .inr ⟨this,e⟩
    ·rintro (e | ⟨_,e⟩)
     ·omega
     ·exact e
theorem sY:∀ {a b:List Int},aG a→aG b→(Op.bytesLess (a.map fun x=>UInt8.ofNat x.toNat) (b.map fun x=>UInt8.ofNat x.toNat) = true↔bN a b = true∧a≠b)
 | [],[],_,_=>by simp [Op.bytesLess,bN]
 | [],_ :: _,_,_=>by simp [Op.bytesLess,bN]
 | _ :: _,[],_,_=>by simp [Op.bytesLess,bN]
 | x :: a,y :: b,ha,hb=>by
  obtain ⟨hx,ha⟩:=cT.1 ha
  obtain ⟨hy,hb⟩:=cT.1 hb
  have ih:=sY ha hb
  simp only [List.map_cons,Op.bytesLess,Bool.or_eq_true,Bool.and_eq_true,decide_eq_true_eq,beq_iff_eq]
  rw [rO hx hy,Rq hx hy,ih,dC]
  constructor
  ·rintro (h | ⟨rfl,h,hne⟩)
   ·exact ⟨.inl h,fun e=>by injection e with e1 e2;omega⟩
   ·exact ⟨.inr ⟨rfl,h⟩,fun e=>by injection e with e1 e2;exact hne e2⟩
  ·rintro ⟨h | ⟨rfl,h⟩,hne⟩
   ·exact .inl h
   ·exact .inr ⟨rfl,h,fun e=>hne (by rw [e])⟩
theorem qS (a b:List Int):gI a b = some (dm a b):=by rw [BD];rfl
theorem Po {a b:List Int} (ha:aG a) (hb:aG b):(Op.bytesLess (ByteArray.toList (aZ a)) (ByteArray.toList (aZ b))||n7 (aZ a) (aZ b)) = bN a b:=by
 rw [qv ha hb]
 have e:∀ l:List Int,ByteArray.toList (aZ l) = l.map fun x=>UInt8.ofNat x.toNat:=fun l=>by
  rw [ByteArray.toList_eq];rfl
 rw [e,e,Bool.eq_iff_iff,Bool.or_eq_true,sY ha hb,decide_eq_true_iff]
 constructor
 ·rintro (h | rfl)
  ·exact h.1
  ·exact jr _
 ·intro h
  by_cases hab:a = b
  ·exact .inr hab
  ·exact .inl ⟨h,hab⟩
abbrev Fk:=GFeed_key
abbrev kF:Ty:=.st .GFeed_key
theorem PI (x k:Fk):tP kF x k = true↔x = k:=by
 have e:tP kF x k = (ak x.sender k.sender&&ak x.number k.number):=(Do (s:=.GFeed_key) rfl x k).trans rfl
 rw [e,Bool.and_eq_true]
 obtain ⟨a,b⟩:=x
 obtain ⟨c,d⟩:=k
 simp [ak]
theorem wU:∀ (ks:List Fk) (k:Fk),(bw kF ks k = ks.length∧k ∉ ks)∨(bw kF ks k < ks.length∧ks[bw kF ks k]? = some k)
 | [],k=>.inl ⟨rfl,by simp⟩
 | x :: r,k=>by
  have e:bw kF (x :: r) k = bif tP kF x k then 0 else bw kF r k+1:=rfl
  cases h:tP kF x k with
  | true =>
   rw [h,cond_true] at e
   have:=(PI x k).1 h
   subst this
   exact .inr ⟨by rw [e];simp,by rw [e];rfl⟩
  | false =>
   rw [h,cond_false] at e
   have hne:x≠k:=fun h'=>by rw [(PI x k).2 h'] at h;cases h
   rw [e]
   rcases wU r k with ⟨h1,h2⟩ | ⟨h1,h2⟩
   ·exact .inl ⟨by rw [h1];rfl,fun hm=>by rcases List.mem_cons.1 hm with h' | h'; exact hne h'.symm;exact h2 h'⟩
   ·exact .inr ⟨by simp;omega,by rw [List.getElem?_cons_succ];exact h2⟩
theorem Ad (ks:List Fk) (r:Fk):jB kF ks r = true↔r∈ks:=by
 unfold jB
 rw [Nat.blt_eq]
 rcases wU ks r with ⟨h,hn⟩ | ⟨h1,h2⟩
 ·exact ⟨fun h'=>by have h'':bw kF ks r < ks.length:=h'; have h3:bw kF ks r = ks.length:=h;omega,fun h'=>absurd h' hn⟩
 ·exact ⟨fun _=>List.mem_of_getElem? h2,fun _=>h1⟩
abbrev ay:=Int→Int→Option (List Int)
def jG (K:ay) (s n:Int) (b:List Int):ay:=fun s' n'=>if s' = s∧n' = n then some b else K s' n'
theorem Eh (K:ay) (s n:Int) (b:List Int):jG K s n b s n = some b:=if_pos ⟨rfl,rfl⟩
structure bI (K:ay) (ks:List Fk) (vs:List (List Int)):Prop where
  len:ks.length = vs.length
  nd:ks.Nodup
  val:∀ (p:Nat) (h:p < ks.length),K ks[p].sender ks[p].number = some (gD vs p [])
  mem:∀ s n b,K s n = some b→(⟨s,n⟩:Fk)∈ks
theorem bI.has {K:ay} {ks vs} (h:bI K ks vs) (s n:Int):jB kF ks ⟨s,n⟩ = (K s n).isSome:=by
 rw [Bool.eq_iff_iff,Ad]
 constructor
 ·intro hm
  obtain ⟨p,hp,e⟩:=List.getElem_of_mem hm
  have:=h.val p hp
  rw [e] at this
  rw [this];rfl
 ·intro hk
  cases hb:K s n with
  | none=>rw [hb] at hk;cases hk
  | some b=>exact h.mem s n b hb
theorem bI.get {K:ay} {ks vs} (h:bI K ks vs) (s n:Int):mX kF ks vs ⟨s,n⟩ ([]:List Int) = (K s n).getD []:=by
 unfold mX
 rcases wU ks ⟨s,n⟩ with ⟨h1,h2⟩ | ⟨h1,h2⟩
 ·cases hb:K s n with
  | some b=>exact absurd (h.mem s n b hb) h2
  | none =>
   rw [List.getD_eq_getElem?_getD,List.getElem?_eq_none (by have:=h.len;omega)]
 ·have e:=h.val _ h1
  rw [List.getElem?_eq_getElem h1] at h2
  injection h2 with h2
  rw [h2] at e
  rw [e]
  rfl
theorem bI.put {K:ay} {ks vs} (h:bI K ks vs) (s n:Int) (b:List Int):bI (jG K s n b) (ip kF ks ⟨s,n⟩) (ki kF ks vs ⟨s,n⟩ b)∧(ip kF ks ⟨s,n⟩).length≤ks.length+1:=by
 unfold ip ki
 have hlen:=h.len
 cases hm:jB kF ks ⟨s,n⟩ with
 | true =>
  have hin:=(Ad ks ⟨s,n⟩).1 hm
  rcases wU ks ⟨s,n⟩ with ⟨h1,h2⟩ | ⟨h1,h2⟩
  ·exact absurd hin h2
  ·rw [cond_true,cond_true]
   rw [List.getElem?_eq_getElem h1] at h2
   injection h2 with h2
   refine ⟨⟨by rw [List.length_set];exact hlen,h.nd,fun p hp=>?_,fun s' n' b' hb=>?_⟩,by omega⟩
   ·unfold jG gD
    rw [List.getD_eq_getElem?_getD,List.getElem?_set]
    by_cases hpe:bw kF ks ⟨s,n⟩ = p
    ·subst hpe
     rw [h2,if_pos ⟨rfl,rfl⟩,if_pos rfl,if_pos (by omega)];rfl
    ·rw [if_neg hpe,if_neg, ← List.getD_eq_getElem?_getD]
     ·exact h.val p hp
     ·rintro ⟨e1,e2⟩
      apply hpe
      have e:ks[p] = (⟨s,n⟩:Fk):=by
       cases hq:ks[p] with
       | mk a c=>rw [hq] at e1 e2;simp only at e1 e2;rw [e1,e2]
      exact (List.getElem_inj h.nd).1 (h2.trans e.symm)
   ·unfold jG at hb
    split at hb
    ·next e=>rw [e.1,e.2];exact hin
    ·exact h.mem s' n' b' hb
 | false =>
  have hno:(⟨s,n⟩:Fk) ∉ ks:=fun hh=>by rw [(Ad ks _).2 hh] at hm;cases hm
  rw [cond_false,cond_false]
  refine ⟨⟨by simp [hlen], ?_,fun p hp=>?_,fun s' n' b' hb=>?_⟩,by simp⟩
  ·rw [List.nodup_append]
   exact ⟨h.nd,by simp,fun a ha c hc e=>hno (by rw [List.mem_singleton] at hc;rw [← hc, ← e];exact ha)⟩
  ·rw [List.length_append,List.length_singleton] at hp
   unfold jG gD
   by_cases hpe:p < ks.length
   ·rw [List.getElem_append_left hpe,List.getD_eq_getElem?_getD,List.getElem?_append_left (by omega), ← List.getD_eq_getElem?_getD,if_neg]
    ·exact h.val p hpe
    ·rintro ⟨e1,e2⟩
     apply hno
     have e:ks[p] = (⟨s,n⟩:Fk):=by
      cases hq:ks[p] with
      | mk a c=>rw [hq] at e1 e2;simp only at e1 e2;rw [e1,e2]
     rw [← e]
     exact List.getElem_mem hpe
   ·have:p = ks.length:=by omega
    subst this
    rw [List.getElem_append_right (Nat.le_refl _),List.getD_eq_getElem?_getD,List.getElem?_append_right (by omega)]
    simp [hlen]
  ·unfold jG at hb
   split at hb
   ·next e=>rw [e.1,e.2];simp
   ·exact List.mem_append_left _ (h.mem s' n' b' hb)
theorem bI.nil:bI (fun _ _=>none) [] []:=⟨rfl,List.nodup_nil,fun p h=>absurd h (by simp),fun s n b h=>by cases h⟩
end Go.Ax
set_option linter.all false
/- Documents are added to a map and to a sorted list: both keep the same. -/
set_option maxRecDepth 100000
namespace Go.Ax
theorem po {b:List Int} (hb:aG b) (h:dl b = true):15≤b.length∧b.length≤58:=by
 obtain ⟨h1,_,_,h2,h3⟩:=(k7 hb).1 h
 have:=Bu (ap b)
 have hl:=yp (Bd hb).1 (ez.1 h3).2.2.2
 rw [h2] at this
 omega
def bL (K:ay):Prop:=∀ s n b,K s n = some b→aG b∧dl b = true∧(ap b).Sender = s∧(ap b).Number = n
theorem bL.rng {K:ay} (h:bL K) {s n:Int} {b:List Int} (hb:K s n = some b):(0≤s∧s≤5)∧(1≤n∧n≤999)∧15≤b.length∧b.length≤58:=by
 obtain ⟨h1,h2,rfl,rfl⟩:=h s n b hb
 have h3:=ez.1 ((k7 h1).1 h2).2.2.2.2
 exact ⟨h3.1,h3.2.1,po h1 h2⟩
def pq (K:ay) (b:List Int):Int:=if dl b = true then (match K (ap b).Sender (ap b).Number with
 | some o=>if bN o b = true then 10 else 0
 | none=>0) else 11
def cz (K:ay) (b:List Int):ay:=if pq K b = 0 then jG K (ap b).Sender (ap b).Number b else K
theorem yI {K:ay} {b:List Int} (h:dl b = false):pq K b = 11:=by unfold pq;rw [h,if_neg (by simp)]
theorem vd {K:ay} {b:List Int} (h:dl b = true) (h2:K (ap b).Sender (ap b).Number = none):pq K b = 0:=by unfold pq;rw [if_pos h,h2]
theorem Ew {K:ay} {b o:List Int} (h:dl b = true) (h2:K (ap b).Sender (ap b).Number = some o):pq K b = if bN o b = true then 10 else 0:=by unfold pq;rw [if_pos h,h2]
theorem zY {K:ay} (hK:bL K) {b:List Int} (hb:aG b):bL (cz K b):=by
 unfold cz
 split
 ·next he =>
  have hd:dl b = true:=by
   cases hd:dl b with
   | true=>rfl
   | false=>rw [yI hd] at he;cases he
  intro s n c hc
  unfold jG at hc
  split at hc
  ·next e =>
   injection hc with hc
   subst hc
   exact ⟨hb,hd,e.1.symm,e.2.symm⟩
  ·exact hK s n c hc
 ·exact hK
theorem EF (b:List Int):pe b = if dl b = true then (ap b,0) else (EA,11):=rfl
theorem kZ {K:ay} {ks vs} (hK:bL K) (h:bI K ks vs) {b:List Int} (hb:aG b) (hB:b.length≤140737488355328):∃ ks' vs',iW b ks vs = some (pq K b,ks',vs')∧bI (cz K b) ks' vs'∧ks'.length≤ks.length+1:=by
 rw [Ay,oS hb hB,Option.bind_some,EF]
 cases hd:dl b with
 | false =>
  rw [if_neg (by simp)]
  refine ⟨ks,vs, ?_, ?_,by omega⟩
  ·rw [yI hd];rfl
  ·unfold cz;rw [yI hd,if_neg (by omega)];exact h
 | true =>
  rw [if_pos rfl]
  show ∃ ks' vs',(bif jB kF ks ⟨(ap b).Sender,(ap b).Number⟩ then (gI (mX kF ks vs ⟨(ap b).Sender,(ap b).Number⟩ []) b).bind fun r1=>bif aa (r1≤0) then some (10,ks,vs) else (fN b).bind fun r2=>some (0,ip kF ks ⟨(ap b).Sender,(ap b).Number⟩,ki kF ks vs ⟨(ap b).Sender,(ap b).Number⟩ r2)
   else (fN b).bind fun r3=>some (0,ip kF ks ⟨(ap b).Sender,(ap b).Number⟩,ki kF ks vs ⟨(ap b).Sender,(ap b).Number⟩ r3)) = _∧_
  rw [h.has,h.get,nX hB,Option.bind_some]
  have hput:=h.put (ap b).Sender (ap b).Number b
  cases ho:K (ap b).Sender (ap b).Number with
  | none =>
   have e0:=vd hd ho
   refine ⟨ip kF ks ⟨(ap b).Sender,(ap b).Number⟩,ki kF ks vs ⟨(ap b).Sender,(ap b).Number⟩ b, ?_, ?_,hput.2⟩
   ·rw [e0];rfl
   ·unfold cz;rw [if_pos e0];exact hput.1
  | some o =>
   have e0:=Ew hd ho
   have hob:=(hK _ _ _ ho).1
   show ∃ ks' vs',((gI o b).bind fun r1=>bif aa (r1≤0) then some (10,ks,vs) else some (0,ip kF ks ⟨(ap b).Sender,(ap b).Number⟩,ki kF ks vs ⟨(ap b).Sender,(ap b).Number⟩ b)) = _∧_
   rw [qS,Option.bind_some]
   cases hle:bN o b with
   | true =>
    rw [hle,if_pos rfl] at e0
    refine ⟨ks,vs, ?_, ?_,by omega⟩
    ·rw [aT ((wV hob hb).2 hle),e0];rfl
    ·unfold cz;rw [if_neg (by rw [e0];omega)];exact h
   | false =>
    rw [hle,if_neg (by simp)] at e0
    refine ⟨ip kF ks ⟨(ap b).Sender,(ap b).Number⟩,ki kF ks vs ⟨(ap b).Sender,(ap b).Number⟩ b, ?_, ?_,hput.2⟩
    ·rw [aX (fun hh=>by rw [(wV hob hb).1 hh] at hle;cases hle),e0];rfl
    ·unfold cz;rw [if_pos e0];exact hput.1
abbrev Kd:=GPensionref31_kept
def no (s n s' n':Int):Prop:=s < s'∨(s = s'∧n < n')
structure fe (K:ay) (L:List Kd):Prop where
  srt:L.Pairwise fun x y=>no x.D.Sender x.D.Number y.D.Sender y.D.Number
  val:∀ x∈L,K x.D.Sender x.D.Number = some x.B∧x.D = ap x.B
  mem:∀ s n b,K s n = some b→∃ x∈L,x.D.Sender = s∧x.D.Number = n
theorem FF (s n:Int):∀ (B A:List Kd),(A++B).length≤1000000000→(∀ x∈A,no x.D.Sender x.D.Number s n) →
  ∃ A' B' is,A++B = A'++B'∧(∀ x∈A',no x.D.Sender x.D.Number s n)∧(is = true→∃ x C,B' = x :: C∧x.D.Sender = s∧x.D.Number = n)∧(is = false→∀ x C,B' = x :: C→no s n x.D.Sender x.D.Number)∧dc ⟨A++B⟩ s n (A.length:Int) = some ((A'.length:Int),is)
 | [],A,hl,hA=>by
  refine ⟨A,[],false,rfl,hA,fun h=>(by cases h),fun _ x C h=>(by cases h), ?_⟩
  rw [lT,List.append_nil]
  show (bif aa ((A.length:Int) < (A.length:Int)) then _ else some ((A.length:Int),false)) = _
  rw [cV,cond_false]
 | x :: B,A,hl,hA=>by
  have hi:A.length < (A++x :: B).length:=by simp
  have hg:gD (A++x :: B) (A.length:Int).toNat (zS .GPensionref31_kept) = x:=by rw [cd hi];simp
  have hl':A.length < 1000000000:=by simp at hl;omega
  have step:dc ⟨A++x :: B⟩ s n (A.length:Int) = (bif (ak x.D.Sender s&&ak x.D.Number n) then some ((A.length:Int),true) else bif (aa (s < x.D.Sender)||(ak x.D.Sender s&&aa (n < x.D.Number))) then some ((A.length:Int),false) else dc ⟨A++x :: B⟩ s n ((A.length+1:Nat):Int)):=by
   rw [lT]
   show (bif aa ((A.length:Int) < ((A++x :: B).length:Int)) then gb (aa (0≤(A.length:Int))) (gb (aa ((A.length:Int) < ((A++x :: B).length:Int))) _) else _) = _
   rw [cA hi,cond_true,bu,an,an]
   show (bif (bif (ak (gD (A++x :: B) (A.length:Int).toNat (zS .GPensionref31_kept)).D.Sender s) then (ak (gD (A++x :: B) (A.length:Int).toNat (zS .GPensionref31_kept)).D.Number n) else false) then _ else bif (bif aa (s < (gD (A++x :: B) (A.length:Int).toNat (zS .GPensionref31_kept)).D.Sender) then true else (bif (ak (gD (A++x :: B) (A.length:Int).toNat (zS .GPensionref31_kept)).D.Sender s) then aa (n < (gD (A++x :: B) (A.length:Int).toNat (zS .GPensionref31_kept)).D.Number) else false)) then _ else _) = _
   rw [hg,cc,cc,De,bW hi (by simp at hl ⊢; omega)]
  rw [step]
  by_cases e1:x.D.Sender = s∧x.D.Number = n
  ·rw [aY.2 e1.1,aY.2 e1.2]
   exact ⟨A,x :: B,true,rfl,hA,fun _=>⟨x,B,rfl,e1⟩,fun h=>(by cases h),rfl⟩
  ·have hc:(ak x.D.Sender s&&ak x.D.Number n) = false:=by
    rw [Bool.eq_false_iff]
    intro h
    rw [Bool.and_eq_true,aY,aY] at h
    exact e1 h
   rw [hc,cond_false]
   by_cases e2:no s n x.D.Sender x.D.Number
   ·have hc2:(aa (s < x.D.Sender)||(ak x.D.Sender s&&aa (n < x.D.Number))) = true:=by
     rw [Bool.or_eq_true,Bool.and_eq_true,aY]
     rcases e2 with h | h
     ·exact .inl (aT h)
     ·exact .inr ⟨h.1.symm,aT h.2⟩
    rw [hc2,cond_true]
    exact ⟨A,x :: B,false,rfl,hA,fun h=>(by cases h),fun _ y C h=>(by injection h with h1 h2;rw [← h1];exact e2),rfl⟩
   ·have hc2:(aa (s < x.D.Sender)||(ak x.D.Sender s&&aa (n < x.D.Number))) = false:=by
     rw [Bool.eq_false_iff]
     intro h
     rw [Bool.or_eq_true,Bool.and_eq_true,aY] at h
     apply e2
     rcases h with h | h
     ·exact .inl (vC h)
     ·exact .inr ⟨h.1.symm,vC h.2⟩
    rw [hc2,cond_false]
    have hx:no x.D.Sender x.D.Number s n:=by
     unfold no at e2 ⊢
     omega
    have:=FF s n B (A++[x]) (by simpa using hl) (fun y hy=>by
     rcases List.mem_append.1 hy with hy | hy
     ·exact hA y hy
     ·rw [List.mem_singleton] at hy;rw [hy];exact hx)
    rw [show A++[x]++B = A++x :: B by simp,show (A++[x]).length = A.length+1 by simp] at this
    exact this
theorem IW {K:ay} {L:List Kd} (h:fe K L) (hl:L.length≤1000000000) (s n:Int) :
  ∃ A B is,L = A++B∧(∀ x∈A,no x.D.Sender x.D.Number s n)∧dD ⟨L⟩ s n = some ((A.length:Int),is) ∧
   ((is = true∧∃ x C,B = x :: C∧x.D.Sender = s∧x.D.Number = n∧K s n = some x.B∧x.D = ap x.B∧(∀ y∈C,no s n y.D.Sender y.D.Number))∨(is = false∧K s n = none∧∀ y∈B,no s n y.D.Sender y.D.Number)):=by
 obtain ⟨A,B,is,h1,h2,h3,h4,h5⟩:=FF s n L [] (by simpa using hl) (fun x hx=>by cases hx)
 rw [List.nil_append] at h1 h5
 refine ⟨A,B,is,h1,h2,by rw [x7];exact h5, ?_⟩
 have hs:=h.srt
 rw [h1] at hs
 have hsB:=(List.pairwise_append.1 hs).2.1
 cases his:is with
 | true =>
  obtain ⟨x,C,hB,e1,e2⟩:=h3 his
  refine .inl ⟨rfl,x,C,hB,e1,e2, ?_⟩
  have hx:=h.val x (by rw [h1,hB];simp)
  rw [e1,e2] at hx
  refine ⟨hx.1,hx.2,fun y hy=>?_⟩
  rw [hB] at hsB
  have:=List.rel_of_pairwise_cons hsB hy
  rw [e1,e2] at this
  exact this
 | false =>
  have hgt:∀ y∈B,no s n y.D.Sender y.D.Number:=by
   intro y hy
   cases hB:B with
   | nil=>rw [hB] at hy;cases hy
   | cons x C =>
    have hx:=h4 his x C hB
    rw [hB] at hy hsB
    rcases List.mem_cons.1 hy with rfl | hy
    ·exact hx
    ·have:=List.rel_of_pairwise_cons hsB hy
     unfold no at *
     omega
  refine .inr ⟨rfl, ?_,hgt⟩
  cases hk:K s n with
  | none=>rfl
  | some b =>
   exfalso
   obtain ⟨x,hx,e1,e2⟩:=h.mem s n b hk
   rw [h1] at hx
   rcases List.mem_append.1 hx with hx | hx
   ·have:=h2 x hx;unfold no at this;omega
   ·have:=hgt x hx;unfold no at this;omega
theorem p6 {T:Type} (b:List T) {n:Nat}:af b 0 ((n:Int) - 0).toNat = b.take n:=by
 unfold af;rw [List.drop_zero,show ((n:Int) - 0).toNat = n by omega]
theorem Jr {A C:List Kd} {b:List Int} {d:GDocument} {L:List Kd} {r:Nat} (hL:L = A++C∧r = A.length∨∃ x,L = A++x :: C∧r = A.length+1) (hl:L.length≤1000000) (hb:b.length≤1000000) :
  fI b (A.length:Int) (r:Int) ⟨L⟩ d = some (0,⟨A++⟨d,b⟩ :: C⟩):=by
 have h1:A.length≤L.length∧r≤L.length∧L.take A.length = A∧L.drop r = C∧C.length≤L.length:=by
  rcases hL with ⟨rfl,rfl⟩ | ⟨x,rfl,rfl⟩
  ·refine ⟨by simp,by simp,by simp,by simp,by simp⟩
  ·refine ⟨by simp,by simp,by simp, ?_,by simp;omega⟩
   rw [← List.drop_drop,List.drop_left,List.drop_one,List.tail_cons]
 obtain ⟨h1,h2,h3,h4,h5⟩:=h1
 rw [tn]
 simp only
 rw [p6,h3,jI L (by omega) (by omega),Int.toNat_natCast,h4]
 have h6:(A++[(⟨d,b⟩:Kd)]).length = A.length+1:=by simp
 rw [h6,ab (by omega),ab (by omega),ab (by omega),ab (by omega),ab (by omega),ab (by omega),ab (by omega),ab (by omega),ab (by omega),ab (by omega),ab (by omega),ab (by omega),ab (by omega)]
 simp
theorem H6 {K:ay} {A C:List Kd} {b:List Int} {s n:Int} (hs:(ap b).Sender = s) (hn:(ap b).Number = n) (hA:∀ x∈A,no x.D.Sender x.D.Number s n) (hC:∀ x∈C,no s n x.D.Sender x.D.Number) {L:List Kd} (h:fe K L)
  (hL:L = A++C∨∃ x,L = A++x :: C∧x.D.Sender = s∧x.D.Number = n):fe (jG K s n b) (A++⟨ap b,b⟩ :: C):=by
 have sub:∀ x∈A++C,x∈L:=by
  intro x hx
  rcases hL with rfl | ⟨y,rfl,_⟩
  ·exact hx
  ·rcases List.mem_append.1 hx with hx | hx <;> simp [hx]
 have hAC:(A++C).Pairwise fun x y=>no x.D.Sender x.D.Number y.D.Sender y.D.Number:=by
  rcases hL with rfl | ⟨y,rfl,_⟩
  ·exact h.srt
  ·exact h.srt.sublist (List.Sublist.append (List.Sublist.refl _) (List.sublist_cons_self _ _))
 obtain ⟨p1,p2,p3⟩:=List.pairwise_append.1 hAC
 refine ⟨?_,fun x hx=>?_,fun s' n' b' hb'=>?_⟩
 ·rw [List.pairwise_append]
  refine ⟨p1,List.pairwise_cons.2 ⟨fun y hy=>by rw [hs,hn];exact hC y hy,p2⟩,fun x hx y hy=>?_⟩
  rcases List.mem_cons.1 hy with rfl | hy
  ·show no _ _ (ap b).Sender (ap b).Number
   rw [hs,hn];exact hA x hx
  ·exact p3 x hx y hy
 ·rcases List.mem_append.1 hx with hx | hx
  ·have:=hA x hx
   unfold jG
   rw [if_neg (by unfold no at this;omega)]
   exact h.val x (sub x (by simp [hx]))
  ·rcases List.mem_cons.1 hx with rfl | hx
   ·refine ⟨?_,rfl⟩
    show jG K s n b (ap b).Sender (ap b).Number = some b
    rw [hs,hn];exact Eh _ _ _ _
   ·have:=hC x hx
    unfold jG
    rw [if_neg (by unfold no at this;omega)]
    exact h.val x (sub x (by simp [hx]))
 ·unfold jG at hb'
  split at hb'
  ·next e=>exact ⟨⟨ap b,b⟩,by simp,by rw [e.1];exact hs,by rw [e.2];exact hn⟩
  ·next e =>
   obtain ⟨x,hx,e1,e2⟩:=h.mem s' n' b' hb'
   refine ⟨x, ?_,e1,e2⟩
   rcases hL with rfl | ⟨y,rfl,h5,h6⟩
   ·rcases List.mem_append.1 hx with hx | hx <;> simp [hx]
   ·rcases List.mem_append.1 hx with hx | hx
    ·simp [hx]
    ·rcases List.mem_cons.1 hx with rfl | hx
     ·exact absurd ⟨by rw [← e1];exact h5,by rw [← e2];exact h6⟩ e
     ·simp [hx]
theorem yd {K:ay} {L:List Kd} (hK:bL K) (h:fe K L) (hl:L.length≤1000000) {b:List Int} (hb:aG b) (hB:b.length≤9223372036854775807):∃ L',nT b ⟨L⟩ = some (pq K b,⟨L'⟩)∧fe (cz K b) L'∧L'.length≤L.length+1:=by
 rw [zh,Bk hb hB,Option.bind_some,EF]
 cases hd:dl b with
 | false =>
  rw [if_neg (by simp)]
  refine ⟨L, ?_, ?_,by omega⟩
  ·rw [yI hd];rfl
  ·unfold cz;rw [yI hd,if_neg (by omega)];exact h
 | true =>
  have hlen:=po hb hd
  rw [if_pos rfl]
  obtain ⟨A,B,is,hL,hA,hf,hc⟩:=IW h (by omega) (ap b).Sender (ap b).Number
  simp only
  rw [bQ.2 rfl,cond_false,hf,Option.bind_some]
  rcases hc with ⟨rfl,x,C,rfl,e1,e2,e3,e4,e5⟩ | ⟨rfl,e3,e5⟩
  ·have hi:A.length < L.length:=by rw [hL];simp
   have hg:gD L (A.length:Int).toNat (zS .GPensionref31_kept) = x:=by rw [cd hi];simp [hL]
   have e0:=Ew hd e3
   have hob:=(hK _ _ _ e3).1
   simp only
   rw [hg,Po hob hb,oo (by rw [bu];rfl),oo (by rw [cA hi];rfl),cond_true]
   cases hle:bN x.B b with
   | true =>
    rw [hle,if_pos rfl] at e0
    refine ⟨L, ?_, ?_,by omega⟩
    ·rw [e0];rfl
    ·unfold cz;rw [if_neg (by rw [e0];omega)];exact h
   | false =>
    rw [hle,if_neg (by simp)] at e0
    rw [cond_false,cond_true,bW hi (by omega),Jr (.inr ⟨x,hL,rfl⟩) hl (by omega)]
    refine ⟨_,by rw [e0], ?_,by rw [hL];simp⟩
    unfold cz
    rw [if_pos e0]
    exact H6 rfl rfl hA e5 h (.inr ⟨x,hL,e1,e2⟩)
  ·have e0:=vd hd e3
   simp only
   rw [Bool.false_and,Bool.not_false,Bool.true_or,Bool.true_or,an,an,cond_false,cond_false,cond_false,Jr (.inl ⟨hL,rfl⟩) hl (by omega)]
   refine ⟨_,by rw [e0], ?_,by rw [hL];simp;omega⟩
   unfold cz
   rw [if_pos e0]
   exact H6 rfl rfl hA e5 h (.inl hL)
def dJ:ay:=fun _ _=>none
theorem mR:bL dJ:=fun s n b h=>by cases h
theorem yU:bI dJ [] []:=bI.nil
theorem LX:fe dJ []:=⟨List.Pairwise.nil,fun x h=>(by cases h),fun s n b h=>by cases h⟩
def dA (l:List (List Int)):ay:=l.foldl cz dJ
def G5 (l:List (List Int)):Prop:=∀ b∈l,aG b∧b.length≤1000000
theorem Oy {l:List (List Int)} (hl:∀ b∈l,aG b):∀ {K:ay},bL K→bL (l.foldl cz K):=by
 induction l with
 | nil=>exact fun h=>h
 | cons b l ih =>
  intro K h
  rw [List.foldl_cons]
  exact ih (fun c hc=>hl c (by simp [hc])) (zY h (hl b (by simp)))
theorem Ph {l:List (List Int)} (hl:G5 l):bL (dA l):=Oy (fun b hb=>(hl b hb).1) mR
theorem N6 (l:List (List Int)) (hl:G5 l) (hn:l.length≤100000):∀ (m i:Nat) (K:ay) (L:List Kd) (ks:List Fk) (vs:List (List Int)),l.length = i+m→bL K→bI K ks vs→fe K L→ks.length≤i→L.length≤i →
  ∃ L' ks' vs',iU (i:Int) l ⟨L⟩ ks vs = some (true,l,⟨L'⟩,ks',vs')∧bI ((l.drop i).foldl cz K) ks' vs'∧fe ((l.drop i).foldl cz K) L'∧ks'.length≤l.length∧L'.length≤l.length:=by
 intro m
 induction m with
 | zero =>
  intro i K L ks vs hi hK hM hL h1 h2
  have hi:i = l.length:=by omega
  subst hi
  refine ⟨L,ks,vs, ?_,by simpa using hM,by simpa using hL,h1,h2⟩
  rw [qR,cV,cond_false]
 | succ m ih =>
  intro i K L ks vs hi hK hM hL h1 h2
  have hlt:i < l.length:=by omega
  have hb:=hl _ (List.getElem_mem hlt)
  obtain ⟨ks1,vs1,a1,a2,a3⟩:=kZ hK hM hb.1 (by have:=hb.2;omega)
  obtain ⟨L1,b1,b2,b3⟩:=yd hK hL (by omega) hb.1 (by have:=hb.2;omega)
  rw [List.drop_eq_getElem_cons hlt,List.foldl_cons]
  obtain ⟨L',ks',vs',c1,c2⟩:=ih (i+1) (cz K l[i]) L1 ks1 vs1 (by omega) (zY hK hb.1) a2 b2 (by omega) (by omega)
  refine ⟨L',ks',vs', ?_,c2⟩
  rw [qR,cA hlt,cond_true,bu,an,an,cd hlt,a1,Option.bind_some,an,an,b1,Option.bind_some]
  show (bif aV (pq K l[i]) (pq K l[i]) then _ else iU (ac ((i:Int)+1)) l ⟨L1⟩ ks1 vs1) = _
  rw [bQ.2 rfl,cond_false,bW hlt (by omega)]
  exact c1
theorem Eu {l:List (List Int)} (hl:G5 l) (hn:l.length≤100000):∃ L ks vs,jH l = some (true,l,⟨L⟩,ks,vs)∧bI (dA l) ks vs∧fe (dA l) L∧ks.length≤l.length∧L.length≤l.length:=by
 rw [Gs,AJ,Option.bind_some]
 exact N6 l hl hn l.length 0 dJ [] [] [] (by omega) mR yU LX (by simp) (by simp)
end Go.Ax
