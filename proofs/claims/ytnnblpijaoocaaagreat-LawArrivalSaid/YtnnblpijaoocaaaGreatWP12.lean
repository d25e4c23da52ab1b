import Derived.Test.YtnnblpijaoocaaaGreatWP11
set_option linter.all false
/- Spans of facts;the first days of a list;the days under a law;credits. -/
set_option maxRecDepth 100000
namespace Go.Ax
theorem L7 (a b out:List GSpan) (i j:Nat) (hi:i < a.length) (hj:j < b.length) (ha:a.length≤1000000) (hb:b.length≤1000000) (ho:out.length≤2000000) :
  bw (i:Int) (j:Int) a b out = if a[i].To < b[j].To then bw ((i+1:Nat):Int) (j:Int) a b (out++qL a[i] b[j]) else bw (i:Int) ((j+1:Nat):Int) a b (out++qL a[i] b[j]):=by
 rw [gz]
 simp only [cB hi,cB hj,cz,cond_true,aO,bP hi,bP hj,qG,bS hi (by omega),bS hj (by omega)]
 generalize a[i] = s
 generalize b[j] = t
 have hm:qL s t = if (if s.From < t.From then t.From else s.From) < (if t.To < s.To then t.To else s.To) then [GSpan.mk (if s.From < t.From then t.From else s.From) (if t.To < s.To then t.To else s.To)] else []:=rfl
 rw [hm]
 have e1:(bif aa (s.From < t.From) then t.From else s.From) = (if s.From < t.From then t.From else s.From):=by by_cases h:s.From < t.From <;> simp [h]
 have e2:(bif aa (t.To < s.To) then t.To else s.To) = (if t.To < s.To then t.To else s.To):=by by_cases h:t.To < s.To <;> simp [h]
 rw [e1,e2,sL (by omega) (by omega)]
 generalize (if s.From < t.From then t.From else s.From) = x
 generalize (if t.To < s.To then t.To else s.To) = y
 by_cases hk:x < y
 ·rw [aM hk,cond_true,if_pos hk]
  by_cases hc:s.To < t.To
  ·rw [aM hc,cond_true,if_pos hc]
  ·rw [bu hc,cond_false,if_neg hc]
 ·rw [bu hk,cond_false,if_neg hk,List.append_nil]
  by_cases hc:s.To < t.To
  ·rw [aM hc,cond_true,if_pos hc]
  ·rw [bu hc,cond_false,if_neg hc]
theorem LY (a b:List GSpan) (ha:a.length≤1000000) (hb:b.length≤1000000):∀ (n i j:Nat) (out:List GSpan),(a.length - i)+(b.length - j)≤n→i≤a.length→j≤b.length→out.length≤i+j →
  bw (i:Int) (j:Int) a b out = some (out++dN (a.drop i) (b.drop j)):=by
 intro n
 have enda:∀ (j:Nat) (out:List GSpan),bw (a.length:Int) (j:Int) a b out = some (out++dN (a.drop a.length) (b.drop j)):=by
  intro j out
  rw [gz,cm,cond_false,cond_false,List.drop_length,my,List.append_nil]
 induction n with
 | zero =>
  intro i j out h hi hj ho
  have e:i = a.length:=by omega
  subst e
  exact enda j out
 | succ n ih =>
  intro i j out h hi hj ho
  by_cases hi':i < a.length
  ·by_cases hj':j < b.length
   ·have h1:=Es a[i] b[j]
    rw [L7 a b out i j hi' hj' ha hb (by omega),List.drop_eq_getElem_cons hi',List.drop_eq_getElem_cons hj',lr]
    by_cases hc:a[i].To < b[j].To
    ·rw [if_pos hc,if_pos hc]
     rw [ih (i+1) j _ (by omega) (by omega) hj (by rw [List.length_append];omega),List.append_assoc, ← List.drop_eq_getElem_cons hj']
    ·rw [if_neg hc,if_neg hc]
     rw [ih i (j+1) _ (by omega) hi (by omega) (by rw [List.length_append];omega),List.append_assoc, ← List.drop_eq_getElem_cons hi']
   ·have e:j = b.length:=by omega
    subst e
    rw [gz,cB hi',cond_true,cm,cond_false,List.drop_length (l:=b),ln,List.append_nil]
  ·have e:i = a.length:=by omega
   subst e
   exact enda j out
theorem DY (l:List GSpan) (s:GSpan) (hn:l.length≤1000000):wg l s = some (gW l s):=by
 have h1:=ko l
 have h2:=ko [s]
 have h2':(gv [s]).length≤1:=h2.2.2
 have:=LY (gv l) (gv [s]) (by omega) (by omega) _ 0 0 [] (Nat.le_refl _) (by omega) (by omega) (by simp)
 rw [show ((0:Nat):Int) = 0 from rfl,List.drop_zero,List.drop_zero] at this
 rw [Gh,yj,tG l (by omega),Option.bind_some,tG [s] (by simp),Option.bind_some,this]
 rfl
def Sn (m:List GSpan):Prop:=∀ s∈m,0≤s.From∧s.From < s.To∧s.To≤73049
theorem Ja:∀ {l:List GSpan} {lo:Int},dI lo l→-1≤lo→Sn l
 | [],_,_,_=>fun s h=>by cases h
 | s :: r,lo,h,h0=>by
  unfold dI at h
  intro x hx
  rcases List.mem_cons.1 hx with e | e
  ·subst e;omega
  ·exact Ja h.2.2.2 (by omega) x e
end Go.Ax
