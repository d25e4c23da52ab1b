import Derived.Test.YtbjfcadcipfolaaGreatZB5
set_option linter.all false
/- States read as tuples of plain values, by templates. -/
namespace Go.Ax
open Go.RowKit
abbrev TV:=(t:Ty) × t.T
abbrev TV.v (x:TV):V:=encV x.1 x.2
def fE:(ts:List Ty)→HP ts→List TV
 | [],_=>[]
 | [t],x=>[⟨t,x⟩]
 | t :: u :: r,x=>⟨t,x.1⟩ :: fE (u :: r) x.2
def jA:(ts:List Ty)→List V→Option (HP ts)
 | [],[]=>some ()
 | [t],[v]=>xE t v
 | t :: u :: r,v :: vs=>match xE t v,jA (u :: r) vs with
  | some x,some y=>some (x,y)
  | _,_=>none
 | _,_=>none
def RV:List V→List TV→Prop
 | [],[]=>True
 | v :: vs,x :: xs=>VLe v x.v∧RV vs xs
 | _,_=>False
theorem Eg:∀ {ds ds':List D},dF ds ds'→VLes (ds.map .c) (ds'.map .c)
 | [],[],_=>by simp [VLes]
 | d :: ds,d' :: ds',h=>by
  rw [List.map_cons,List.map_cons,VLes]
  refine ⟨by rw [VLe];exact h.2 0 d d' rfl rfl,Eg ⟨by have:=h.1;simpa using this,fun j a b h1 h2=>h.2 (j+1) a b (by simpa using h1) (by simpa using h2)⟩⟩
 | [],_ :: _,h=>by have:=h.1;simp at this
 | _ :: _,[],h=>by have:=h.1;simp at this
theorem Fe:∀ {ds ds':List D},VLes (ds.map .c) (ds'.map .c)→dF ds ds'
 | [],[],_=>.nil
 | d :: ds,d' :: ds',h=>by
  rw [List.map_cons,List.map_cons,VLes,VLe] at h
  exact .cons h.1 (Fe h.2)
 | [],_ :: _,h=>by simp [VLes] at h
 | _ :: _,[],h=>by simp [VLes] at h
theorem I6 {t:Ty} {v:V} {x:t.T} (h:xE t v = some x):VLe v (encV t x):=by
 unfold xE at h
 split at h
 ·next k cs =>
  split at h
  ·next ds hds =>
   rw [v7 hds]
   show VLe (.agg _) (.agg _)
   rw [VLe]
   exact Eg (kA _ _ _ h)
  ·cases h
 ·next n t cs =>
  split at h
  ·next ds hds =>
   rw [v7 hds]
   show VLe (.agg _) (.agg _)
   rw [VLe]
   exact Eg (kA _ _ _ h)
  ·cases h
 ·show VLe (.c _) (.c _);rw [VLe];exact fZ h
 ·show VLe (.c _) (.c _);rw [VLe];exact fZ h
 ·show VLe (.c _) (.c _);rw [VLe];exact fZ h
 ·show VLe (.c _) (.c _);rw [VLe];exact fZ h
 ·cases h
theorem pN:∀ (ts:List Ty) (vs:List V) (x:HP ts),jA ts vs = some x→RV vs (fE ts x)
 | [],[],_,_=>trivial
 | [],_ :: _,_,h=>by simp [jA] at h
 | [t],[v],x,h=>⟨I6 h,trivial⟩
 | [t],[],_,h=>by simp [jA] at h
 | [t],_ :: _ :: _,_,h=>by simp [jA] at h
 | t :: u :: r,[],_,h=>by simp [jA] at h
 | t :: u :: r,v :: vs,x,h=>by
  rw [jA] at h
  split at h
  ·next y z hy hz=>cases h;exact ⟨I6 hy,pN (u :: r) vs z hz⟩
  ·cases h
inductive Cd where
  | t (ty:Ty)
  | k (v:V)
  | dp (ty:Ty)
  | fn (f:FuncId) (cs:List Cd)
  | tp (cs:List Cd)
  | ag (cs:List Cd)
  | sb (o k:Nat)
mutual
def Cd.tys:Cd→List Ty
 | .t ty=>[ty]
 | .k _=>[]
 | .dp ty=>[ty]
 | .fn _ cs=>Cd.tyss cs
 | .tp cs=>Cd.tyss cs
 | .ag cs=>Cd.tyss cs
 | .sb _ _=>[.i .i64, .i .i64]
def Cd.tyss:List Cd→List Ty
 | []=>[]
 | c :: r=>c.tys++Cd.tyss r
end
mutual
def eqk:V→V→Bool
 | .c .nil, .c .nil=>true
 | .c (.lit (.pointer none)), .c (.lit (.pointer none))=>true
 | .ptr o k i j, .ptr o' k' i' j'=>Nat.beq o o'&&Nat.beq k k'&&Nat.beq i i'&&Nat.beq j j'
 | .row o k, .row o' k'=>Nat.beq o o'&&Nat.beq k k'
 | .fn f vs, .fn g ws=>Nat.beq f g&&eqks vs ws
 | _,_=>false
def eqks:List V→List V→Bool
 | [],[]=>true
 | v :: vs,w :: ws=>eqk v w&&eqks vs ws
 | _,_=>false
end
mutual
theorem eqk_eq:∀ (v w:V),eqk v w = true→v = w
 | .c .nil,w,h=>by
  unfold eqk at h
  split at h <;> simp_all
 | .ptr o k i j,w,h=>by
  unfold eqk at h
  split at h <;> simp_all
 | .row o k,w,h=>by
  unfold eqk at h
  split at h <;> simp_all
 | .fn f vs, .fn g ws,h=>by
  rw [eqk,Bool.and_eq_true] at h
  rw [Nat.eq_of_beq_eq_true h.1,eqks_eq vs ws h.2]
 | .fn f vs, .c _,h=>by simp [eqk] at h
 | .fn f vs, .agg _,h=>by simp [eqk] at h
 | .fn f vs, .tup _,h=>by simp [eqk] at h
 | .fn f vs, .ptr ..,h=>by simp [eqk] at h
 | .fn f vs, .row ..,h=>by simp [eqk] at h
 | .fn f vs, .sub ..,h=>by simp [eqk] at h
 | .fn f vs, .dptr ..,h=>by simp [eqk] at h
 | .c .unk,w,h=>by simp [eqk] at h
 | .c (.lit u),w,h=>by
  unfold eqk at h
  split at h <;> simp_all
 | .c (.sl ..),w,h=>by simp [eqk] at h
 | .c (.opt ..),w,h=>by simp [eqk] at h
 | .c .any,w,h=>by simp [eqk] at h
 | .agg _,w,h=>by simp [eqk] at h
 | .tup _,w,h=>by simp [eqk] at h
 | .sub ..,w,h=>by simp [eqk] at h
 | .dptr ..,w,h=>by simp [eqk] at h
theorem eqks_eq:∀ (vs ws:List V),eqks vs ws = true→vs = ws
 | [],[],_=>rfl
 | v :: vs,w :: ws,h=>by
  rw [eqks,Bool.and_eq_true] at h
  rw [eqk_eq v w h.1,eqks_eq vs ws h.2]
 | [],_ :: _,h=>by simp [eqks] at h
 | _ :: _,[],h=>by simp [eqks] at h
end
def NC (ty:Ty) (cs:List D):V:=match ty with
 | .st _=>.agg (cs.map .c)
 | .arr _ _=>.agg (cs.map .c)
 | _=>match cs with | [d]=>.c d | _=>.c .unk
def Fu:Cd→Option Nat
 | .t (.st k)=>some (lf k).length
 | .t (.arr n t)=>some (n*t.k)
 | _=>none
mutual
def colC:Cd→V→Option (List V)
 | .t _,v=>some [v]
 | .k v0,v=>bif eqk v0 v then some [] else none
 | .dp ty,v=>match v with | .dptr k cs 0=>(bif Nat.beq k ty.k&&Nat.beq cs.length k then some [NC ty cs] else none) | _=>none
 | .fn f ds,v=>match v with | .fn g vs=>(bif Nat.beq f g then colCs ds vs else none) | _=>none
 | .tp ds,v=>match v with | .tup vs=>colCs ds vs | _=>none
 | .ag ds,v=>match v with | .agg vs=>colB ds vs | _=>none
 | .sb q k,v=>match v with | .sub o k' off n=>(bif Nat.beq o q&&Nat.beq k' k then some [i64 off,i64 n] else none) | _=>none
def colCs:List Cd→List V→Option (List V)
 | [],vs=>match vs with | []=>some [] | _=>none
 | c :: r,vs=>match vs with
  | v :: vs=>(match colC c v,colCs r vs with
   | some a,some b=>some (a++b)
   | _,_=>none)
  | []=>none
def colB:List Cd→List V→Option (List V)
 | [],vs=>match vs with | []=>some [] | _=>none
 | c :: r,vs=>match Fu c with
  | some n=>(match colB r (vs.drop n) with | some b=>some (.agg (vs.take n) :: b) | none=>none)
  | none=>match vs with
   | v :: vs=>(match colC c v,colB r vs with
    | some a,some b=>some (a++b)
    | _,_=>none)
   | []=>none
end
mutual
def filC:Cd→List TV→V × List TV
 | .t _,x :: r=>(x.v,r)
 | .t _,[]=>(.c .unk,[])
 | .k v,r=>(v,r)
 | .dp ty,x :: r=>(.dptr ty.k (x.1.enc x.2) 0,r)
 | .dp ty,[]=>(.c .unk,[])
 | .fn f cs,r=>let p:=filCs cs r; (.fn f p.1,p.2)
 | .tp cs,r=>let p:=filCs cs r; (.tup p.1,p.2)
 | .ag cs,r=>let p:=filB cs r; (.agg p.1,p.2)
 | .sb q k,r=>match r with
  | ⟨.i .i64,a⟩ :: ⟨.i .i64,b⟩ :: r'=>(.sub q k a.toNat b.toNat,r')
  | _=>(.c .unk,[])
def filCs:List Cd→List TV→List V × List TV
 | [],r=>([],r)
 | c :: cs,r=>let p:=filC c r;let q:=filCs cs p.2; (p.1 :: q.1,q.2)
def filB:List Cd→List TV→List V × List TV
 | [],r=>([],r)
 | c :: cs,r=>let p:=filC c r;let q:=filB cs p.2; (match Fu c with | some _=>p.1.cells++q.1 | none=>p.1 :: q.1,q.2)
end
theorem RV.app:∀ {us us2:List V} {xs:List TV},RV (us++us2) xs→∃ x1 x2,xs = x1++x2∧RV us x1∧RV us2 x2
 | [],us2,xs,h=>⟨[],xs,rfl,trivial,h⟩
 | u :: us,us2,x :: xs,h=>by
  obtain ⟨x1,x2,rfl,h1,h2⟩:=RV.app (us:=us) h.2
  exact ⟨x :: x1,x2,rfl,⟨h.1,h1⟩,h2⟩
 | u :: us,us2,[],h=>h.elim
theorem MN {ty:Ty} {cs:List D} {x:TV} (hk:cs.length = ty.k) (h:VLe (NC ty cs) x.v):dF cs (x.1.enc x.2):=by
 obtain ⟨t,x⟩:=x
 have one:∀ (d:D),VLe (.c d) (encV t x)→dF [d] (t.enc x):=by
  intro d h
  cases t with
  | st k=>simp [encV,VLe] at h
  | arr n t=>simp [encV,VLe] at h
  | i k=>rw [encV,VLe] at h;exact .cons h .nil
  | b=>rw [encV,VLe] at h;exact .cons h .nil
  | s=>rw [encV,VLe] at h;exact .cons h .nil
  | ls t=>rw [encV,VLe] at h;exact .cons h .nil
 have many:VLe (.agg (cs.map .c)) (encV t x)→dF cs (t.enc x):=by
  intro h
  cases t with
  | st k=>rw [encV,VLe] at h;exact Fe h
  | arr n t=>rw [encV,VLe] at h;exact Fe h
  | i k=>rw [encV,iQ] at h;simp [VLe] at h
  | b=>rw [encV,iQ] at h;simp [VLe] at h
  | s=>rw [encV,iQ] at h;simp [VLe] at h
  | ls t=>rw [encV] at h;simp [VLe] at h
 match ty,hk,h with
 | .st k,_,h=>exact many h
 | .arr n t,_,h=>exact many h
 | .i k,hk,h=>match cs,hk,h with | [d],_,h=>exact one d h
 | .b,hk,h=>match cs,hk,h with | [d],_,h=>exact one d h
 | .s,hk,h=>match cs,hk,h with | [d],_,h=>exact one d h
 | .ls t,hk,h=>match cs,hk,h with | [d],_,h=>exact one d h
theorem FN:∀ {a a' b b':List V},VLes a a'→VLes b b'→VLes (a++b) (a'++b')
 | [],[],b,b',_,h=>h
 | x :: a,y :: a',b,b',h,h'=>by
  rw [VLes] at h
  rw [List.cons_append,List.cons_append,VLes]
  exact ⟨h.1,FN h.2 h'⟩
 | [],_ :: _,_,_,h,_=>by simp [VLes] at h
 | _ :: _,[],_,_,h,_=>by simp [VLes] at h
theorem Ka {vs:List V} {x:TV} (h:VLe (.agg vs) x.v):VLes vs x.v.cells:=by
 obtain ⟨t,x⟩:=x
 cases t with
 | st k=>change VLe (.agg vs) (.agg _) at h;rw [VLe] at h;exact h
 | arr n t=>change VLe (.agg vs) (.agg _) at h;rw [VLe] at h;exact h
 | i k=>change VLe (.agg vs) (.c (.lit _)) at h;simp [VLe] at h
 | b=>change VLe (.agg vs) (.c (.lit _)) at h;simp [VLe] at h
 | s=>change VLe (.agg vs) (.c (.lit _)) at h;simp [VLe] at h
 | ls t=>change VLe (.agg vs) (.c (.sl _ _)) at h;simp [VLe] at h
theorem wB {n:Int} {x:TV} (h:VLe (i64 n) x.v):x = ⟨.i .i64,n⟩:=by
 obtain ⟨t,x⟩:=x
 match t,x,h with
 | .i k,x,h1 =>
  change VLe (.c (.lit (.int .i64 n))) (.c (.lit (.int k x))) at h1
  rw [VLe] at h1
  cases h1
  rfl
 | .b,x,h1=>change VLe (.c (.lit (.int .i64 n))) (.c (.lit (.bool x))) at h1;rw [VLe] at h1;cases h1
 | .st k,x,h1=>change VLe (.c (.lit (.int .i64 n))) (.agg _) at h1;simp [VLe] at h1
 | .arr m t,x,h1=>change VLe (.c (.lit (.int .i64 n))) (.agg _) at h1;simp [VLe] at h1
 | .ls t,x,h1=>change VLe (.c (.lit (.int .i64 n))) (.c (.sl t x)) at h1;rw [VLe] at h1;cases h1
 | .s,x,h1=>change VLe (.c (.lit (.int .i64 n))) (.c (.lit (.string x))) at h1;rw [VLe] at h1;cases h1
mutual
theorem colC_le:∀ (c:Cd) (v:V) (us us2:List V) (xs:List TV),colC c v = some us→RV (us++us2) xs→VLe v (filC c xs).1∧RV us2 (filC c xs).2
 | .t ty,v,us,us2,xs,h,hr=>by
  simp [colC] at h;subst h
  match xs,hr with
  | x :: xs,hr=>exact ⟨hr.1,hr.2⟩
 | .k v0,v,us,us2,xs,h,hr=>by
  unfold colC at h
  cases hb:eqk v0 v with
  | false=>rw [hb] at h;cases h
  | true =>
   rw [hb] at h;cases h
   have:=eqk_eq _ _ hb
   subst this
   exact ⟨VLe.rfl' _,hr⟩
 | .dp ty,v,us,us2,xs,h,hr=>by
  unfold colC at h
  split at h
  ·next k cs =>
   cases hb:(Nat.beq k ty.k&&Nat.beq cs.length k) with
   | false=>rw [hb] at h;cases h
   | true =>
    rw [hb] at h;cases h
    simp only [Bool.and_eq_true,Nat.beq_eq] at hb
    match xs,hr with
    | x :: xs,hr =>
     refine ⟨?_,hr.2⟩
     show VLe (.dptr k cs 0) (.dptr ty.k (x.1.enc x.2) 0)
     rw [VLe]
     exact ⟨hb.1,rfl,MN (hb.2.trans hb.1) hr.1⟩
  ·cases h
 | .fn f ds,v,us,us2,xs,h,hr=>by
  unfold colC at h
  split at h
  ·next g vs =>
   cases hb:Nat.beq f g with
   | false=>rw [hb] at h;cases h
   | true =>
    rw [hb,cond_true] at h
    have:=Nat.eq_of_beq_eq_true hb
    subst this
    obtain ⟨h1,h2⟩:=colCs_le ds vs us us2 xs h hr
    refine ⟨?_,h2⟩
    show VLe (.fn f vs) (.fn f _)
    rw [VLe]
    exact ⟨rfl,h1⟩
  ·cases h
 | .tp ds,v,us,us2,xs,h,hr=>by
  unfold colC at h
  split at h
  ·next vs =>
   obtain ⟨h1,h2⟩:=colCs_le ds vs us us2 xs h hr
   refine ⟨?_,h2⟩
   show VLe (.tup vs) (.tup _)
   rw [VLe]
   exact h1
  ·cases h
 | .ag ds,v,us,us2,xs,h,hr=>by
  unfold colC at h
  split at h
  ·next vs =>
   obtain ⟨h1,h2⟩:=colB_le ds vs us us2 xs h hr
   refine ⟨?_,h2⟩
   show VLe (.agg vs) (.agg _)
   rw [VLe]
   exact h1
  ·cases h
 | .sb q k,v,us,us2,xs,h,hr=>by
  unfold colC at h
  split at h
  ·next o k' off n =>
   cases hb:(Nat.beq o q&&Nat.beq k' k) with
   | false=>rw [hb] at h;cases h
   | true =>
    rw [hb] at h;cases h
    simp only [Bool.and_eq_true,Nat.beq_eq] at hb
    obtain ⟨rfl,rfl⟩:=hb
    match xs,hr with
    | x :: y :: xs,hr =>
     have e1:=wB hr.1
     have e2:=wB hr.2.1
     subst e1 e2
     exact ⟨VLe.rfl' _,hr.2.2⟩
    | [x],hr=>exact hr.2.elim
  ·cases h
theorem colCs_le:∀ (cs:List Cd) (vs:List V) (us us2:List V) (xs:List TV),colCs cs vs = some us→RV (us++us2) xs→VLes vs (filCs cs xs).1∧RV us2 (filCs cs xs).2
 | [],vs,us,us2,xs,h,hr=>by
  unfold colCs at h
  split at h
  ·cases h;exact ⟨by rw [filCs];simp [VLes],hr⟩
  ·cases h
 | c :: cs,vs,us,us2,xs,h,hr=>by
  unfold colCs at h
  split at h
  ·next v vs =>
   split at h
   ·next a b ha hb =>
    cases h
    rw [List.append_assoc] at hr
    obtain ⟨h1,h2⟩:=colC_le c v a (b++us2) xs ha hr
    obtain ⟨h3,h4⟩:=colCs_le cs vs b us2 _ hb h2
    refine ⟨?_,h4⟩
    show VLes (v :: vs) (_ :: _)
    rw [VLes]
    exact ⟨h1,h3⟩
   ·cases h
  ·cases h
theorem colB_le:∀ (cs:List Cd) (vs:List V) (us us2:List V) (xs:List TV),colB cs vs = some us→RV (us++us2) xs→VLes vs (filB cs xs).1∧RV us2 (filB cs xs).2
 | [],vs,us,us2,xs,h,hr=>by
  unfold colB at h
  split at h
  ·cases h;exact ⟨by rw [filB];simp [VLes],hr⟩
  ·cases h
 | c :: cs,vs,us,us2,xs,h,hr=>by
  unfold colB at h
  split at h
  ·next n hg =>
   split at h
   ·next b hb =>
    cases h
    have hc:∃ ty,c = .t ty:=by
     unfold Fu at hg
     split at hg
     ·exact ⟨_,rfl⟩
     ·exact ⟨_,rfl⟩
     ·cases hg
    obtain ⟨ty,rfl⟩:=hc
    match xs,hr with
    | x :: xs,hr =>
     obtain ⟨h3,h4⟩:=colB_le cs (vs.drop n) b us2 xs hb hr.2
     refine ⟨?_,h4⟩
     have e:(filB (.t ty :: cs) (x :: xs)).1 = x.v.cells++(filB cs xs).1:=by
      show (match Fu (.t ty) with | some _=>_ | none=>_) = _
      rw [hg];rfl
     rw [e, ← List.take_append_drop n vs]
     exact FN (Ka hr.1) h3
   ·cases h
  ·next hg =>
   split at h
   ·next v vs =>
    split at h
    ·next a b ha hb =>
     cases h
     rw [List.append_assoc] at hr
     obtain ⟨h1,h2⟩:=colC_le c v a (b++us2) xs ha hr
     obtain ⟨h3,h4⟩:=colB_le cs vs b us2 _ hb h2
     refine ⟨?_,h4⟩
     have e:(filB (c :: cs) xs).1 = (filC c xs).1 :: (filB cs (filC c xs).2).1:=by
      show (match Fu c with | some _=>_ | none=>_) = _
      rw [hg]
     rw [e,VLes]
     exact ⟨h1,h3⟩
    ·cases h
   ·cases h
end
inductive Od where
  | row (e:TypeId) (t:Ty)
  | map (t:TypeId) (kt vt:Ty)
  | box (cs:List Cd)
  | iter (c:Cd)
  | str
def Od.tys:Od→List Ty
 | .row _ t=>[.ls t]
 | .map _ kt vt=>[.ls kt, .ls vt]
 | .box cs=>Cd.tyss cs
 | .iter c=>c.tys++[.i .i64, .ls (.i .i64)]
 | .str=>[.s, .i .i64]
def fI:Od→Ob→Option (List V)
 | .row e _,b=>match b with | .row e' t' l=>(bif Nat.beq e e' then some [.c (.sl t' l)] else none) | _=>none
 | .map e _ _,b=>match b with | .map e' kt vt ks vs=>(bif Nat.beq e e' then some [.c (.sl kt ks), .c (.sl vt vs)] else none) | _=>none
 | .box cs,b=>match b with | .box vs=>colB cs vs | _=>none
 | .iter c,b=>match b with | .iter m s l=>(match colC c m with | some a=>some (a++[i64 s, .c (.sl (.i .i64) l)]) | none=>none) | _=>none
 | .str,b=>match b with | .raw x=>(match x with | .stringIter s pos=>some [str s,i64 pos] | _=>none) | _=>none
def lO:Od→List TV→Ob × List TV
 | .row e t,xs=>match xs with
  | ⟨.ls t',l⟩ :: r=>(.row e t' l,r)
  | _=>(.row e t [],[])
 | .map e kt vt,xs=>match xs with
  | ⟨.ls a,l⟩ :: ⟨.ls b,m⟩ :: r=>(.map e a b l m,r)
  | _=>(.map e kt vt [] [],[])
 | .box cs,xs=>let p:=filB cs xs; (.box p.1,p.2)
 | .iter c,xs=>let p:=filC c xs;match p.2 with
  | ⟨.i .i64,s⟩ :: ⟨.ls (.i .i64),l⟩ :: r=>(.iter p.1 s l,r)
  | _=>(.iter p.1 0 [],[])
 | .str,xs=>match xs with
  | ⟨.s,s⟩ :: ⟨.i .i64,p⟩ :: r=>(.raw (.stringIter s p.toNat),r)
  | _=>(.raw (.stringIter (aE []) 0),[])
theorem Mx {s:ByteArray} {x:TV} (h:VLe (str s) x.v):x = ⟨.s,s⟩:=by
 obtain ⟨t,x⟩:=x
 match t,x,h with
 | .s,x,h1 =>
  change VLe (.c (.lit (.string s))) (.c (.lit (.string x))) at h1
  rw [VLe] at h1
  cases h1
  rfl
 | .i k,x,h1=>change VLe (.c (.lit (.string s))) (.c (.lit (.int k x))) at h1;rw [VLe] at h1;cases h1
 | .b,x,h1=>change VLe (.c (.lit (.string s))) (.c (.lit (.bool x))) at h1;rw [VLe] at h1;cases h1
 | .st k,x,h1=>change VLe (.c (.lit (.string s))) (.agg _) at h1;simp [VLe] at h1
 | .arr m t,x,h1=>change VLe (.c (.lit (.string s))) (.agg _) at h1;simp [VLe] at h1
 | .ls t,x,h1=>change VLe (.c (.lit (.string s))) (.c (.sl t x)) at h1;rw [VLe] at h1;cases h1
theorem EY {t':Ty} {l:List t'.T} {x:TV} (h:VLe (.c (.sl t' l)) x.v):x = ⟨.ls t',l⟩:=by
 obtain ⟨t2,x⟩:=x
 match t2,x,h with
 | .ls t3,x,h1 =>
  change VLe (.c (.sl t' l)) (.c (.sl t3 x)) at h1
  rw [VLe] at h1
  cases h1
  rfl
 | .st k,x,h1=>change VLe (.c (.sl t' l)) (.agg _) at h1;simp [VLe] at h1
 | .arr n t,x,h1=>change VLe (.c (.sl t' l)) (.agg _) at h1;simp [VLe] at h1
 | .i k,x,h1=>change VLe (.c (.sl t' l)) (.c (.lit _)) at h1;rw [VLe] at h1;cases h1
 | .b,x,h1=>change VLe (.c (.sl t' l)) (.c (.lit _)) at h1;rw [VLe] at h1;cases h1
 | .s,x,h1=>change VLe (.c (.sl t' l)) (.c (.lit _)) at h1;rw [VLe] at h1;cases h1
theorem Hk (c:Od) (b:Ob) (us us2:List V) (xs:List TV) (h:fI c b = some us) (hr:RV (us++us2) xs):Ey b (lO c xs).1∧RV us2 (lO c xs).2:=by
 cases c with
 | str =>
  simp only [fI] at h
  split at h
  ·split at h
   ·next s pos =>
    cases h
    match xs,hr with
    | x :: y :: xs,hr =>
     have e1:=Mx hr.1
     have e2:=wB hr.2.1
     subst e1 e2
     exact ⟨by simp [lO,Ey],hr.2.2⟩
    | [x],hr=>exact hr.2.elim
   ·cases h
  ·cases h
 | box cs =>
  cases b with
  | box vs=>exact colB_le cs vs us us2 xs h hr
  | row e t l=>simp [fI] at h
  | raw x=>simp [fI] at h
  | map=>simp [fI] at h
  | iter=>simp [fI] at h
 | iter c =>
  cases b with
  | iter m s l =>
   simp only [fI] at h
   split at h
   ·next a ha =>
    cases h
    rw [List.append_assoc] at hr
    obtain ⟨h1,h2⟩:=colC_le c m a _ xs ha hr
    unfold lO
    simp only
    revert h2
    generalize (filC c xs).2 = ys
    intro h2
    match ys,h2 with
    | x :: y :: ys,h2 =>
     have e1:=wB h2.1
     have e2:=EY h2.2.1
     subst e1 e2
     exact ⟨⟨h1,rfl,rfl⟩,h2.2.2⟩
    | [x],h2=>exact h2.2.elim
   ·cases h
  | box vs=>simp [fI] at h
  | row=>simp [fI] at h
  | raw x=>simp [fI] at h
  | map=>simp [fI] at h
 | map e kt vt =>
  cases b with
  | iter=>simp [fI] at h
  | box vs=>simp [fI] at h
  | raw x=>simp [fI] at h
  | row=>simp [fI] at h
  | map e' kt' vt' ks vs =>
   simp only [fI] at h
   cases hb:Nat.beq e e' with
   | false=>rw [hb] at h;cases h
   | true =>
    rw [hb] at h;cases h
    have:=Nat.eq_of_beq_eq_true hb
    subst this
    match xs,hr with
    | x :: y :: xs,hr =>
     have h1:=EY hr.1
     have h2:=EY hr.2.1
     subst h1 h2
     exact ⟨rfl,hr.2.2⟩
    | [x],hr=>exact hr.2.elim
 | row e t =>
  cases b with
  | box vs=>simp [fI] at h
  | raw x=>simp [fI] at h
  | map=>simp [fI] at h
  | iter=>simp [fI] at h
  | row e' t' l =>
   simp only [fI] at h
   cases hb:Nat.beq e e' with
   | false=>rw [hb] at h;cases h
   | true =>
    rw [hb] at h;cases h
    have:=Nat.eq_of_beq_eq_true hb
    subst this
    match xs,hr with
    | ⟨t2,x⟩ :: xs,hr =>
     have h1:=hr.1
     match t2,x,h1 with
     | .ls t3,x,h1 =>
      change VLe (.c (.sl t' l)) (.c (.sl t3 x)) at h1
      rw [VLe] at h1
      cases h1
      exact ⟨rfl,hr.2⟩
     | .st k,x,h1=>change VLe (.c (.sl t' l)) (.agg _) at h1;simp [VLe] at h1
     | .arr n t,x,h1=>change VLe (.c (.sl t' l)) (.agg _) at h1;simp [VLe] at h1
     | .i k,x,h1=>change VLe (.c (.sl t' l)) (.c (.lit _)) at h1;rw [VLe] at h1;cases h1
     | .b,x,h1=>change VLe (.c (.sl t' l)) (.c (.lit _)) at h1;rw [VLe] at h1;cases h1
     | .s,x,h1=>change VLe (.c (.sl t' l)) (.c (.lit _)) at h1;rw [VLe] at h1;cases h1
structure Tm where
  sl:List (Nat × Cd):=[]
  ob:List Od:=[]
def ND:List (Nat × Cd)→List Ty
 | []=>[]
 | c :: r=>c.2.tys++ND r
def NF:List Od→List Ty
 | []=>[]
 | c :: r=>c.tys++NF r
def Tm.tys (T:Tm):List Ty:=ND T.sl++NF T.ob
def sR (tm:List (Nat × az)):List (Nat × Cd)→Option (List V)
 | []=>some []
 | (t,c) :: r=>match au tm t with
  | some s=>(bif s.ch.isEmpty then (match colC c s.v,sR tm r with
   | some a,some b=>some (a++b)
   | _,_=>none) else none)
  | none=>none
def lN:List (Nat × Cd)→List TV→List (Nat × az) × List TV
 | [],r=>([],r)
 | (t,c) :: cs,r=>let p:=filC c r;let q:=lN cs p.2; ((t,⟨[],p.1⟩) :: q.1,q.2)
def wi (H:ab):Nat→List Od→Option (List V)
 | _,[]=>some []
 | i,c :: r=>match ab.get H i with
  | some b=>(match fI c b,wi H (i+1) r with
   | some a,some b=>some (a++b)
   | _,_=>none)
  | none=>none
def jI:Nat→List Od→List TV→ab
 | _,[],_=>[]
 | i,c :: cs,r=>let p:=lO c r; (i,some p.1) :: jI (i+1) cs p.2
def rd (T:Tm) (σ:St):Option (HP T.tys):=match sR σ.tm T.sl,wi σ.hp 0 T.ob with
 | some a,some b=>jA T.tys (a++b)
 | _,_=>none
def mq (T:Tm) (x:HP T.tys):St:=let p:=lN T.sl (fE T.tys x); { tm:=p.1,hp:=jI 0 T.ob p.2,nx:=T.ob.length }
theorem BS {tm:List (Nat × az)}:∀ (cs:List (Nat × Cd)) (us us2:List V) (xs:List TV),sR tm cs = some us→RV (us++us2) xs→ye tm (lN cs xs).1∧RV us2 (lN cs xs).2
 | [],us,us2,xs,h,hr=>by
  simp [sR] at h;subst h
  exact ⟨by rw [lN];trivial,hr⟩
 | (t,c) :: cs,us,us2,xs,h,hr=>by
  rw [sR] at h
  split at h
  ·next s hg =>
   cases hc:s.ch.isEmpty with
   | false=>rw [hc] at h;cases h
   | true =>
    rw [hc,cond_true] at h
    split at h
    ·next a b ha hb =>
     cases h
     rw [List.append_assoc] at hr
     obtain ⟨h1,h2⟩:=colC_le c s.v a (b++us2) xs ha hr
     obtain ⟨h3,h4⟩:=BS cs b us2 _ hb h2
     refine ⟨?_,h4⟩
     show ye tm ((t,(⟨[],_⟩:az)) :: _)
     rw [ye,hg]
     exact ⟨⟨List.isEmpty_iff.1 hc,rfl,h1⟩,h3⟩
    ·cases h
  ·cases h
theorem GU {H:ab}:∀ (cs:List Od) (i:Nat) (us:List V) (xs:List TV),wi H i cs = some us→RV us xs→pD H (jI i cs xs)
 | [],i,us,xs,h,hr=>by rw [jI];trivial
 | c :: cs,i,us,xs,h,hr=>by
  rw [wi] at h
  split at h
  ·next b hg =>
   split at h
   ·next a b' ha hb =>
    cases h
    obtain ⟨h1,h2⟩:=Hk c b a b' xs ha hr
    show pD H ((i,some _) :: _)
    rw [pD,hg]
    exact ⟨h1,GU cs (i+1) b' _ hb h2⟩
   ·cases h
  ·cases h
theorem LP {T:Tm} {σ:St} {x:HP T.tys} (h:rd T σ = some x) (hn:σ.nx≤T.ob.length):cO σ (mq T x):=by
 unfold rd at h
 split at h
 ·next a b ha hb =>
  have hr:=pN _ _ _ h
  obtain ⟨h1,h2⟩:=BS T.sl a b _ ha hr
  exact .le ⟨h1,GU T.ob 0 b _ hb h2,hn⟩
 ·cases h
mutual
def fzC:Cd→V→List Nat
 | .t _,v=>V.refs v
 | .tp cs,v=>match v with | .tup vs=>fzCs cs vs | _=>[]
 | .fn _ cs,v=>match v with | .fn _ vs=>fzCs cs vs | _=>[]
 | .ag cs,v=>match v with | .agg vs=>fzBx cs vs | _=>[]
 | _,_=>[]
def fzCs:List Cd→List V→List Nat
 | c :: cs,v :: vs=>fzC c v++fzCs cs vs
 | _,_=>[]
def fzBx:List Cd→List V→List Nat
 | [],_=>[]
 | c :: r,vs=>match Fu c with
  | some n=>V.refss (vs.take n)++fzBx r (vs.drop n)
  | none=>match vs with | v :: vs=>fzC c v++fzBx r vs | []=>[]
end
def MF (ob:List Od):List (Nat × Cd)→St→List Nat
 | [],_=>[]
 | (t, .k (.ptr b _ _ _)) :: r,σ=>(match au σ.tm t,ob[b]? with
  | some ⟨_, .ptr o _ _ _⟩,some (.box cs)=>(match ab.get σ.hp o with | some (.box vs)=>fzBx cs vs | _=>[])
  | _,_=>[])++MF ob r σ
 | _ :: r,σ=>MF ob r σ
def NE:List (Nat × Cd)→List (Nat × az)→List Nat
 | [],_=>[]
 | (t,c) :: r,tm=>(match au tm t with | some s=>fzC c s.v | none=>[])++NE r tm
def y3:List Nat→St→St
 | [],σ=>σ
 | o :: r,σ=>match ab.get σ.hp o with
  | some (.row e t l)=>y3 r { tm:=DZ o t l σ.tm,hp:=(o,some (.row e t [])) :: GO o t l σ.hp,nx:=σ.nx }
  | _=>y3 r σ
theorem vo:∀ (l:List Nat) (σ:St),cO σ (y3 l σ)
 | [],σ=>.refl σ
 | o :: r,σ=>by
  rw [y3]
  split
  ·next e t l hg=>exact (cO.fz o e t l hg).trans (vo r _)
  ·exact vo r σ
def KD (ob:List Od) (t:Nat) (c:Cd) (σ:St):St:=match c with
 | .k (.row o _)=>(match au σ.tm t,ob[o]? with
  | some ⟨[], .c .nil⟩,some (.row e ty)=>{ tm:=(t,⟨[], .row σ.nx ty.k⟩) :: σ.tm,hp:=(σ.nx,some (.row e ty [])) :: σ.hp,nx:=σ.nx+1 }
  | _,_=>σ)
 | _=>σ
def Kt (ob:List Od):List (Nat × Cd)→St→St
 | [],σ=>σ
 | (t,c) :: r,σ=>Kt ob r (KD ob t c σ)
theorem KN (ob:List Od) (t:Nat) (c:Cd) (σ:St):cO σ (KD ob t c σ):=by
 unfold KD
 split
 ·split
  ·next e ty hg ho=>exact cO.nilrow t σ.nx e ty (Nat.le_refl _) hg
  ·exact .refl σ
 ·exact .refl σ
theorem FP (ob:List Od):∀ (l:List (Nat × Cd)) (σ:St),cO σ (Kt ob l σ)
 | [],σ=>.refl σ
 | (t,c) :: r,σ=>(KN ob t c σ).trans (FP ob r _)
def MK (t:Nat) (ob:List Od):Nat→List Cd→List (Nat × Nat × TypeId × Ty)
 | _,[]=>[]
 | i, .k (.row o _) :: r=>(match ob[o]? with | some (.row e ty)=>[(t,i,e,ty)] | _=>[])++MK t ob (i+1) r
 | i,c :: r=>MK t ob (i+(match Fu c with | some n=>n | none=>1)) r
def MP (ob:List Od):List (Nat × Cd)→List (Nat × Nat × TypeId × Ty)
 | []=>[]
 | (t, .k (.ptr b _ _ _)) :: r=>(match ob[b]? with | some (.box cs)=>MK t ob 0 cs | _=>[])++MP ob r
 | _ :: r=>MP ob r
def Io:List (Nat × Nat × TypeId × Ty)→St→St
 | [],σ=>σ
 | (t,i,e,ty) :: r,σ=>Io r (match au σ.tm t with
  | some ⟨_, .ptr b _ _ _⟩=>(match ab.get σ.hp b with
   | some (.box cs)=>(match cs[i]? with
    | some (.c .nil)=>{ tm:=σ.tm,hp:=(b,some (.box (cs.set i (.row σ.nx ty.k)))) :: (σ.nx,some (.row e ty [])) :: σ.hp,nx:=σ.nx+1 }
    | _=>σ)
   | _=>σ)
  | _=>σ)
theorem F8:∀ (l:List (Nat × Nat × TypeId × Ty)) (σ:St),cO σ (Io l σ)
 | [],σ=>.refl σ
 | (t,i,e,ty) :: r,σ=>by
  rw [Io]
  refine cO.trans ?_ (F8 r _)
  split
  ·next ch b k' i' j' hg =>
   split
   ·next cs hb =>
    split
    ·next hc=>exact cO.nilbox b i σ.nx e ty cs (Nat.le_refl _) hb hc
    ·exact .refl σ
   ·exact .refl σ
  ·exact .refl σ
def ug (T:Tm) (σ:St):St:=Io (MP T.ob T.sl) (Kt T.ob T.sl (y3 (NE T.sl σ.tm++MF T.ob T.sl σ) σ))
theorem CV (T:Tm) (σ:St):cO σ (ug T σ):=((vo _ _).trans (FP _ _ _)).trans (F8 _ _)
def sI (T:Tm) (σ:St):Option (HP T.tys) :=
 let τ:=ug T σ
 let ts:=T.sl.map (·.1)
 bif mW ts τ then
  let τ':=canonN ts τ
  bif Nat.ble τ'.nx T.ob.length then rd T τ' else none
 else none
theorem m3 {T:Tm} {σ:St} {x:HP T.tys} (h:sI T σ = some x):cO σ (mq T x):=by
 unfold sI at h
 simp only at h
 cases hc:mW (T.sl.map (·.1)) (ug T σ) with
 | false=>rw [hc] at h;cases h
 | true =>
  rw [hc,cond_true] at h
  cases hb:Nat.ble (canonN (T.sl.map (·.1)) (ug T σ)).nx T.ob.length with
  | false=>rw [hb] at h;cases h
  | true =>
   rw [hb,cond_true] at h
   exact ((CV T σ).trans (cO.canonN _ hc)).trans (LP h (Nat.ble_eq.mp hb))
end Go.Ax
