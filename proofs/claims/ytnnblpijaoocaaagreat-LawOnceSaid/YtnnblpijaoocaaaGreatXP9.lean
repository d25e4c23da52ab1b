import Derived.Test.YtnnblpijaoocaaaGreatXP7
set_option linter.all false
/- Spans: what two lists hold together;the document's combinations. -/
set_option maxRecDepth 100000
namespace Go.Ax
def lR (s t:GSpan):GSpan:=GSpan.mk (if s.From < t.From then t.From else s.From) (if t.To < s.To then t.To else s.To)
def sM (s t:GSpan):List GSpan:=if (lR s t).From < (lR s t).To then [lR s t] else []
noncomputable def eW:List GSpan→List GSpan→List GSpan
 | [],_=>[]
 | _ :: _,[]=>[]
 | s :: r,t :: u=>sM s t++(if s.To < t.To then eW r (t :: u) else eW (s :: r) u)
termination_by a b=>a.length+b.length
theorem oz (b:List GSpan):eW [] b = []:=by rw [eW]
theorem mE (a:List GSpan):eW a [] = []:=by cases a <;> rw [eW]
theorem mx (s t:GSpan) (r u:List GSpan):eW (s :: r) (t :: u) = sM s t++(if s.To < t.To then eW r (t :: u) else eW (s :: r) u):=by rw [eW]
theorem Hl (s t:GSpan):(sM s t).length≤1:=by unfold sM;split <;> simp
theorem oa:∀ (a b:List GSpan) (lo lo' m:Int),cW lo a→cW lo' b→m≤lo∨m≤lo'→cW m (eW a b)
 | [],b,lo,lo',m,_,_,_=>by rw [oz];trivial
 | _ :: _,[],lo,lo',m,_,_,_=>by rw [mE];trivial
 | s :: r,t :: u,lo,lo',m,⟨a1,a2,a3,a4⟩,⟨b1,b2,b3,b4⟩,hm=>by
  have key:(lR s t).From = max s.From t.From∧(lR s t).To = min s.To t.To:=by
   unfold lR;simp only
   constructor <;> split <;> omega
  rw [mx]
  by_cases hc:s.To < t.To
  ·rw [if_pos hc]
   unfold sM
   by_cases hk:(lR s t).From < (lR s t).To
   ·rw [if_pos hk]
    exact ⟨by omega,hk,by omega,oa r (t :: u) s.To lo' _ a4 ⟨b1,b2,b3,b4⟩ (.inl (by omega))⟩
   ·rw [if_neg hk]
    exact oa r (t :: u) s.To lo' _ a4 ⟨b1,b2,b3,b4⟩ (by omega)
  ·rw [if_neg hc]
   unfold sM
   by_cases hk:(lR s t).From < (lR s t).To
   ·rw [if_pos hk]
    exact ⟨by omega,hk,by omega,oa (s :: r) u lo t.To _ ⟨a1,a2,a3,a4⟩ b4 (.inr (by omega))⟩
   ·rw [if_neg hk]
    exact oa (s :: r) u lo t.To _ ⟨a1,a2,a3,a4⟩ b4 (by omega)
termination_by a b=>a.length+b.length
theorem TZ (s t:GSpan) (d:Int):dO (sM s t) d↔(s.From≤d∧d < s.To)∧(t.From≤d∧d < t.To):=by
 have key:(lR s t).From = max s.From t.From∧(lR s t).To = min s.To t.To:=by
  unfold lR;simp only
  constructor <;> split <;> omega
 unfold sM
 split
 ·rw [aX];simp only [dK,or_false];omega
 ·simp only [dK,false_iff];omega
theorem AP:∀ (a b:List GSpan) (lo lo' d:Int),cW lo a→cW lo' b→(dO (eW a b) d↔dO a d∧dO b d)
 | [],b,lo,lo',d,_,_=>by rw [oz];simp [dK]
 | _ :: _,[],lo,lo',d,_,_=>by rw [mE];simp [dK]
 | s :: r,t :: u,lo,lo',d,⟨a1,a2,a3,a4⟩,⟨b1,b2,b3,b4⟩=>by
  rw [mx,pj,TZ]
  by_cases hc:s.To < t.To
  ·rw [if_pos hc,AP r (t :: u) s.To lo' d a4 ⟨b1,b2,b3,b4⟩,aX (s:=s),aX (s:=t)]
   constructor
   ·rintro (⟨h1,h2⟩ | ⟨h1,h2⟩)
    ·exact ⟨.inl h1, .inl h2⟩
    ·exact ⟨.inr h1,h2⟩
   ·rintro ⟨h1 | h1,h2⟩
    ·rcases h2 with h2 | h2
     ·exact .inl ⟨h1,h2⟩
     ·have:=gn b4 h2;omega
    ·exact .inr ⟨h1,h2⟩
  ·rw [if_neg hc,AP (s :: r) u lo t.To d ⟨a1,a2,a3,a4⟩ b4,aX (s:=s),aX (s:=t)]
   constructor
   ·rintro (⟨h1,h2⟩ | ⟨h1,h2⟩)
    ·exact ⟨.inl h1, .inl h2⟩
    ·exact ⟨h1, .inr h2⟩
   ·rintro ⟨h1,h2 | h2⟩
    ·rcases h1 with h1 | h1
     ·exact .inl ⟨h1,h2⟩
     ·have:=gn a4 h1;omega
    ·exact .inr ⟨h1,h2⟩
termination_by a b=>a.length+b.length
noncomputable def ik (l:List GSpan) (s:GSpan):List GSpan:=eW (ii l) (ii [s])
theorem pC (l:List GSpan) (s:GSpan):cW (-1) (ik l s)∧∀ d,dO (ik l s) d↔(dO l d∧(s.From≤d∧d < s.To))∧0≤d∧d < 73049:=by
 obtain ⟨a1,a2,_⟩:=lP l
 obtain ⟨b1,b2,_⟩:=lP [s]
 refine ⟨oa _ _ (-1) (-1) (-1) a1 b1 (.inl (Int.le_refl _)),fun d=>?_⟩
 unfold ik
 rw [AP _ _ (-1) (-1) d a1 b1,a2,b2,aX]
 simp only [dK,or_false]
 constructor
 ·rintro ⟨⟨h1,h2⟩,h3,h4⟩;exact ⟨⟨h1,h3⟩,h2⟩
 ·rintro ⟨⟨h1,h2⟩,h3⟩;exact ⟨⟨h1,h3⟩,h2,h3⟩
theorem P1 {T:Type} (p s:List T):aq (p++s) 0 p.length = p:=by simp [aq]
theorem Se {T:Type} (p s:List T):aq (p++s) p.length s.length = s:=by simp [aq]
theorem Sq (l:List Int) (n:Int) (hl:l.length≤1000000):∀ (k:Nat),k≤l.length→∃ p s,l = p++s∧jy l n ((k:Nat):Int) = jy l n ((p.length:Nat):Int)∧(∀ x∈s.take (k - p.length),n≤x)∧p.length≤k∧(∀ q y,p = q++[y]→y < n):=by
 intro k
 induction k with
 | zero=>intro hk;exact ⟨[],l,rfl,rfl,by simp,by simp,fun q y h=>by simp at h⟩
 | succ k ih =>
  intro hk
  have hk':k < l.length:=by omega
  have e1:ab (((k+1:Nat):Int) - 1) = (k:Int):=by rw [al (by omega) (by omega)];omega
  have h0:aa ((0:Int) < ((k+1:Nat):Int)) = true:=ax (by omega)
  by_cases hc:n≤l[k]
  ·obtain ⟨p,s,h1,h2,h3,h4,h5⟩:=ih (by omega)
   refine ⟨p,s,h1, ?_,fun x hx=>?_,by omega,h5⟩
   ·rw [kP,e1]
    simp only [h0,aO hk',aM,Bool.or_true,ap,cond_true,aH hk',ax hc]
    exact h2
   ·rw [show k+1 - p.length = (k - p.length)+1 by omega,List.take_succ] at hx
    rcases List.mem_append.1 hx with hx | hx
    ·exact h3 x hx
    ·have:s[k - p.length]? = some l[k]:=by
      have:l[k]? = some l[k]:=List.getElem?_eq_getElem hk'
      rw [← this]
      conv=>rhs;rw [h1]
      rw [List.getElem?_append_right h4]
     rw [this] at hx
     have:x = l[k]:=by simpa using hx
     rw [this];exact hc
  ·refine ⟨l.take (k+1),l.drop (k+1),(List.take_append_drop _ _).symm, ?_, ?_,by simp;omega,fun q y h=>?_⟩
   ·rw [List.length_take,Nat.min_eq_left (by omega)]
   ·rw [List.length_take,Nat.min_eq_left (by omega)]
    simp
   ·have h6:l.take (k+1) = l.take k++[l[k]]:=by rw [List.take_succ,List.getElem?_eq_getElem hk'];rfl
    rw [h6] at h
    have:=List.append_inj_right' h rfl
    simp at this
    omega
def gG (l:List Int):Prop:=l.Pairwise (fun a b=>a < b)
theorem oq (l:List Int) (n:Int) (hl:l.length≤1000000) (hs:gG l):∃ r,cV l n = some r∧gG r∧(∀ x,x∈r↔x∈l∨x = n)∧r.length≤l.length+1:=by
 obtain ⟨p,s,h1,h2,h3,h4,h5⟩:=Sq l n hl l.length (Nat.le_refl _)
 have h3':∀ x∈s,n≤x:=by
  intro x hx
  refine h3 x ?_
  rw [List.take_of_length_le (by rw [h1];simp)]
  exact hx
 have hstop:(bif aa ((0:Int) < (p.length:Int)) then aa (n≤gD l (ab ((p.length:Int) - 1)).toNat 0) else false) = false:=by
  rcases eI p with rfl | ⟨q,y,rfl⟩
  ·rfl
  ·have hq:ab ((((q++[y]).length:Nat):Int) - 1) = (q.length:Int):=by
    have:(q++[y]).length = q.length+1:=by simp
    have:(q++[y]).length≤l.length:=by rw [h1];simp
    rw [al (by omega) (by omega)];omega
   have hy:=h5 q y rfl
   have hg:gD l q.length 0 = y:=by rw [h1,List.append_assoc];exact wT q s y 0
   rw [hq,Int.toNat_natCast,hg,aJ (p:=n≤y) (by omega)]
   exact (by decide:∀ b:Bool,(bif b then false else false) = false) _
 have hix:aa ((0:Int) < (p.length:Int)) = true→0≤ab ((p.length:Int) - 1)∧ab ((p.length:Int) - 1) < (l.length:Int):=by
  intro h
  have h:=dJ h
  have hpl:p.length≤l.length:=by rw [h1];simp
  rw [al (by omega) (by omega)]
  omega
 have e:cV l n = (gb ((!(aa ((p.length:Int) < (l.length:Int))&&true))||aa (0≤(p.length:Int)))<|gb ((!(aa ((p.length:Int) < (l.length:Int))&&true))||aa ((p.length:Int) < (l.length:Int))) <|
   bif (bif aa ((p.length:Int) < (l.length:Int)) then (ae (gD l ((p.length:Int)).toNat 0) n) else false) then some l else gb (aa (0≤(p.length:Int)))<|gb (aa ((p.length:Int)≤(l.length:Int)))<|gb (aa (((aq l 0 ((p.length:Int) - 0).toNat).length*8)≤140737488355328)) <|
   gb (aa ((aq l 0 ((p.length:Int) - 0).toNat).length≤140737488355328))<|gb (aa ((((aq l 0 ((p.length:Int) - 0).toNat).length+1)*8)≤140737488355328))<|gb (aa (((aq l 0 ((p.length:Int) - 0).toNat).length+1)≤140737488355328))<|gb (aa (0≤(p.length:Int))) <|
   gb (aa ((p.length:Int)≤(l.length:Int)))<|gb (aa ((l.length:Int)≤(l.length:Int)))<|gb (aa (((((aq l 0 ((p.length:Int) - 0).toNat)++[n]).length+(aq l ((p.length:Int)).toNat ((l.length:Int) - (p.length:Int)).toNat).length)*8)≤140737488355328)) <|
   gb (aa ((((aq l 0 ((p.length:Int) - 0).toNat)++[n]).length+(aq l ((p.length:Int)).toNat ((l.length:Int) - (p.length:Int)).toNat).length)≤140737488355328)) <|
   some (((aq l 0 ((p.length:Int) - 0).toNat)++[n])++(aq l ((p.length:Int)).toNat ((l.length:Int) - (p.length:Int)).toNat))):=by
  rw [Ci,h2,kP,yE (fun h=>ax (hix (by simpa using h)).1),yE (fun h=>ax (hix (by simpa using h)).2),hstop,cond_false]
 obtain ⟨G,hG⟩:∃ G,cV l n = G:=⟨_,rfl⟩
 rw [hG] at e ⊢
 have hG:=e.symm
 have hlen:l.length = p.length+s.length:=by rw [h1];simp
 have hpw:=hs
 unfold gG at hpw
 rw [h1] at hpw
 obtain ⟨w1,w2,w3⟩:=List.pairwise_append.1 hpw
 have hp:∀ x∈p,x < n:=by
  intro x hx
  rcases eI p with rfl | ⟨q,y,rfl⟩
  ·simp at hx
  ·have hy:=h5 q y rfl
   rcases List.mem_append.1 hx with hx | hx
   ·have:=(List.pairwise_append.1 w1).2.2 x hx y (by simp)
    omega
   ·rw [List.mem_singleton.1 hx];exact hy
 have hdone:∀ (_:∀ x∈s,n < x), ∃ r,G = some r∧gG r∧(∀ x,x∈r↔x∈l∨x = n)∧r.length≤l.length+1:=by
  intro hgt
  refine ⟨(p++[n])++s, ?_, ?_,fun x=>?_,by simp;omega⟩
  ·have hc:(bif aa (((p.length:Nat):Int) < ((l.length:Nat):Int)) then ae (gD l ((p.length:Int)).toNat 0) n else false) = false:=by
    by_cases hh:p.length < l.length
    ·rw [aO hh,cond_true]
     match s,h1,hgt with
     | [],h1,_=>rw [h1] at hh;simp at hh
     | y :: s,h1,hgt =>
      have hg:gD l p.length 0 = y:=by rw [h1];exact wT p s y 0
      rw [Int.toNat_natCast,hg,il]
      have:=hgt y (by simp)
      omega
    ·rw [aJ (by omega),cond_false]
   have e1:Int.toNat (((p.length:Nat):Int) - 0) = p.length:=by omega
   have e2:Int.toNat (((l.length:Nat):Int) - ((p.length:Nat):Int)) = s.length:=by omega
   have f1:aq l 0 p.length = p:=by rw [h1];exact P1 p s
   have f2:aq l p.length s.length = s:=by rw [h1];exact Se p s
   rw [← hG,hc,cond_false,e1,e2,Int.toNat_natCast,f1,f2,yE (fun _=>aM _),yE (fun h=>by simpa using h)]
   simp only [List.length_append,List.length_singleton]
   rw [ay (by omega),ay (by omega),ay (by omega),ay (by omega),ay (by omega),ay (by omega),ay (by omega),ay (by omega),ay (by omega),ay (by omega),ay (by omega)]
  ·refine List.pairwise_append.2 ⟨List.pairwise_append.2 ⟨w1,List.pairwise_singleton _ _,fun x hx y hy=>?_⟩,w2,fun x hx y hy=>?_⟩
   ·rw [List.mem_singleton.1 hy];exact hp x hx
   ·rcases List.mem_append.1 hx with hx | hx
    ·exact w3 x hx y hy
    ·rw [List.mem_singleton.1 hx];exact hgt y hy
  ·rw [h1];simp only [List.mem_append,List.mem_singleton]
   constructor
   ·rintro ((h | h) | h)
    ·exact .inl (.inl h)
    ·exact .inr h
    ·exact .inl (.inr h)
   ·rintro ((h | h) | h)
    ·exact .inl (.inl h)
    ·exact .inr h
    ·exact .inl (.inr h)
 by_cases hmem:n∈s
 ·
  match s,h1,h3',hmem,w2,hlen with
  | [],_,_,hmem,_,_=>simp at hmem
  | y :: s,h1,h3',hmem,w2,hlen =>
   have hy:y = n:=by
    rcases List.mem_cons.1 hmem with h | h
    ·exact h.symm
    ·have:=(List.pairwise_cons.1 w2).1 n h
     have:=h3' y (by simp)
     omega
   refine ⟨l, ?_,hs,fun x=>?_,by omega⟩
   ·have hh:p.length < l.length:=by rw [hlen];simp
    have hg:gD l p.length 0 = n:=by rw [h1, ← hy];exact wT p s y 0
    rw [← hG,yE (fun _=>aM _),yE (fun h=>by simpa using h),aO hh,cond_true,Int.toNat_natCast,hg,kh,cond_true]
   ·constructor
    ·exact .inl
    ·rintro (h | h)
     ·exact h
     ·rw [h,h1, ← hy];simp
 ·refine hdone fun x hx=>?_
  have:=h3' x hx
  have:x≠n:=fun h=>hmem (h ▸ hx)
  omega
end Go.Ax
