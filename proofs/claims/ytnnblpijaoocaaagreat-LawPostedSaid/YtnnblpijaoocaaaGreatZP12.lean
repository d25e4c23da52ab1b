import Derived.Test.YtnnblpijaoocaaaGreatZP11
set_option linter.all false
/- Spans of facts;the first days of a list;the days under a law;credits. -/
set_option maxRecDepth 100000
namespace Go.Ax
theorem Nh (a b out:List GSpan) (i j:Nat) (hi:i < a.length) (hj:j < b.length) (ha:a.length≤1000000) (hb:b.length≤1000000) (ho:out.length≤2000000) :
  bL (i:Int) (j:Int) a b out = if a[i].To < b[j].To then bL ((i+1:Nat):Int) (j:Int) a b (out++sB a[i] b[j]) else bL (i:Int) ((j+1:Nat):Int) a b (out++sB a[i] b[j]):=by
 rw [ia]
 simp only [be hi,be hj,bp,cond_true,av,aR hi,aR hj,sx,bd hi (by omega),bd hj (by omega)]
 generalize a[i] = s
 generalize b[j] = t
 have hm:sB s t = if (if s.From < t.From then t.From else s.From) < (if t.To < s.To then t.To else s.To) then [GSpan.mk (if s.From < t.From then t.From else s.From) (if t.To < s.To then t.To else s.To)] else []:=rfl
 rw [hm]
 have e1:(bif aa (s.From < t.From) then t.From else s.From) = (if s.From < t.From then t.From else s.From):=by by_cases h:s.From < t.From <;> simp [h]
 have e2:(bif aa (t.To < s.To) then t.To else s.To) = (if t.To < s.To then t.To else s.To):=by by_cases h:t.To < s.To <;> simp [h]
 rw [e1,e2,oV (by omega) (by omega)]
 generalize (if s.From < t.From then t.From else s.From) = x
 generalize (if t.To < s.To then t.To else s.To) = y
 by_cases hk:x < y
 ·rw [au hk,cond_true,if_pos hk]
  by_cases hc:s.To < t.To
  ·rw [au hc,cond_true,if_pos hc]
  ·rw [aL hc,cond_false,if_neg hc]
 ·rw [aL hk,cond_false,if_neg hk,List.append_nil]
  by_cases hc:s.To < t.To
  ·rw [au hc,cond_true,if_pos hc]
  ·rw [aL hc,cond_false,if_neg hc]
theorem NX (a b:List GSpan) (ha:a.length≤1000000) (hb:b.length≤1000000):∀ (n i j:Nat) (out:List GSpan),(a.length - i)+(b.length - j)≤n→i≤a.length→j≤b.length→out.length≤i+j →
  bL (i:Int) (j:Int) a b out = some (out++ew (a.drop i) (b.drop j)):=by
 intro n
 have enda:∀ (j:Nat) (out:List GSpan),bL (a.length:Int) (j:Int) a b out = some (out++ew (a.drop a.length) (b.drop j)):=by
  intro j out
  rw [ia,bi,cond_false,cond_false,List.drop_length,nC,List.append_nil]
 induction n with
 | zero =>
  intro i j out h hi hj ho
  have e:i = a.length:=by omega
  subst e
  exact enda j out
 | succ n ih =>
  intro i j out h hi hj ho
  by_cases hi':i < a.length
  ·by_cases hj':j < b.length
   ·have h1:=FY a[i] b[j]
    rw [Nh a b out i j hi' hj' ha hb (by omega),List.drop_eq_getElem_cons hi',List.drop_eq_getElem_cons hj',mg]
    by_cases hc:a[i].To < b[j].To
    ·rw [if_pos hc,if_pos hc]
     rw [ih (i+1) j _ (by omega) (by omega) hj (by rw [List.length_append];omega),List.append_assoc, ← List.drop_eq_getElem_cons hj']
    ·rw [if_neg hc,if_neg hc]
     rw [ih i (j+1) _ (by omega) hi (by omega) (by rw [List.length_append];omega),List.append_assoc, ← List.drop_eq_getElem_cons hi']
   ·have e:j = b.length:=by omega
    subst e
    rw [ia,be hi',cond_true,bi,cond_false,List.drop_length (l:=b),md,List.append_nil]
  ·have e:i = a.length:=by omega
   subst e
   exact enda j out
theorem Ga (l:List GSpan) (s:GSpan) (hn:l.length≤1000000):wQ l s = some (iM l s):=by
 have h1:=kI l
 have h2:=kI [s]
 have h2':(gY [s]).length≤1:=h2.2.2
 have:=NX (gY l) (gY [s]) (by omega) (by omega) _ 0 0 [] (Nat.le_refl _) (by omega) (by omega) (by simp)
 rw [show ((0:Nat):Int) = 0 from rfl,List.drop_zero,List.drop_zero] at this
 rw [Iu,yA,vr l (by omega),Option.bind_some,vr [s] (by simp),Option.bind_some,this]
 rfl
def UB (m:List GSpan):Prop:=∀ s∈m,0≤s.From∧s.From < s.To∧s.To≤73049
theorem Kz:∀ {l:List GSpan} {lo:Int},dc lo l→-1≤lo→UB l
 | [],_,_,_=>fun s h=>by cases h
 | s :: r,lo,h,h0=>by
  unfold dc at h
  intro x hx
  rcases List.mem_cons.1 hx with e | e
  ·subst e;omega
  ·exact Kz h.2.2.2 (by omega) x e
end Go.Ax
