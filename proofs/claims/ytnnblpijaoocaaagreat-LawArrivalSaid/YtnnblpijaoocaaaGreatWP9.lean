import Derived.Test.YtnnblpijaoocaaaGreatWP7
set_option linter.all false
/- Spans: what two lists hold together;the document's combinations. -/
set_option maxRecDepth 100000
namespace Go.Ax
def k5 (s t:GSpan):GSpan:=GSpan.mk (if s.From < t.From then t.From else s.From) (if t.To < s.To then t.To else s.To)
def qL (s t:GSpan):List GSpan:=if (k5 s t).From < (k5 s t).To then [k5 s t] else []
noncomputable def dN:List GSpan→List GSpan→List GSpan
 | [],_=>[]
 | _ :: _,[]=>[]
 | s :: r,t :: u=>qL s t++(if s.To < t.To then dN r (t :: u) else dN (s :: r) u)
termination_by a b=>a.length+b.length
theorem my (b:List GSpan):dN [] b = []:=by rw [dN]
theorem ln (a:List GSpan):dN a [] = []:=by cases a <;> rw [dN]
theorem lr (s t:GSpan) (r u:List GSpan):dN (s :: r) (t :: u) = qL s t++(if s.To < t.To then dN r (t :: u) else dN (s :: r) u):=by rw [dN]
theorem Es (s t:GSpan):(qL s t).length≤1:=by unfold qL;split <;> simp
theorem mP:∀ (a b:List GSpan) (lo lo' m:Int),dI lo a→dI lo' b→m≤lo∨m≤lo'→dI m (dN a b)
 | [],b,lo,lo',m,_,_,_=>by rw [my];trivial
 | _ :: _,[],lo,lo',m,_,_,_=>by rw [ln];trivial
 | s :: r,t :: u,lo,lo',m,⟨a1,a2,a3,a4⟩,⟨b1,b2,b3,b4⟩,hm=>by
  have key:(k5 s t).From = max s.From t.From∧(k5 s t).To = min s.To t.To:=by
   unfold k5;simp only
   constructor <;> split <;> omega
  rw [lr]
  by_cases hc:s.To < t.To
  ·rw [if_pos hc]
   unfold qL
   by_cases hk:(k5 s t).From < (k5 s t).To
   ·rw [if_pos hk]
    exact ⟨by omega,hk,by omega,mP r (t :: u) s.To lo' _ a4 ⟨b1,b2,b3,b4⟩ (.inl (by omega))⟩
   ·rw [if_neg hk]
    exact mP r (t :: u) s.To lo' _ a4 ⟨b1,b2,b3,b4⟩ (by omega)
  ·rw [if_neg hc]
   unfold qL
   by_cases hk:(k5 s t).From < (k5 s t).To
   ·rw [if_pos hk]
    exact ⟨by omega,hk,by omega,mP (s :: r) u lo t.To _ ⟨a1,a2,a3,a4⟩ b4 (.inr (by omega))⟩
   ·rw [if_neg hk]
    exact mP (s :: r) u lo t.To _ ⟨a1,a2,a3,a4⟩ b4 (by omega)
termination_by a b=>a.length+b.length
theorem Qy (s t:GSpan) (d:Int):fN (qL s t) d↔(s.From≤d∧d < s.To)∧(t.From≤d∧d < t.To):=by
 have key:(k5 s t).From = max s.From t.From∧(k5 s t).To = min s.To t.To:=by
  unfold k5;simp only
  constructor <;> split <;> omega
 unfold qL
 split
 ·rw [bd];simp only [fw,or_false];omega
 ·simp only [fw,false_iff];omega
theorem xd:∀ (a b:List GSpan) (lo lo' d:Int),dI lo a→dI lo' b→(fN (dN a b) d↔fN a d∧fN b d)
 | [],b,lo,lo',d,_,_=>by rw [my];simp [fw]
 | _ :: _,[],lo,lo',d,_,_=>by rw [ln];simp [fw]
 | s :: r,t :: u,lo,lo',d,⟨a1,a2,a3,a4⟩,⟨b1,b2,b3,b4⟩=>by
  rw [lr,yY,Qy]
  by_cases hc:s.To < t.To
  ·rw [if_pos hc,xd r (t :: u) s.To lo' d a4 ⟨b1,b2,b3,b4⟩,bd (s:=s),bd (s:=t)]
   constructor
   ·rintro (⟨h1,h2⟩ | ⟨h1,h2⟩)
    ·exact ⟨.inl h1, .inl h2⟩
    ·exact ⟨.inr h1,h2⟩
   ·rintro ⟨h1 | h1,h2⟩
    ·rcases h2 with h2 | h2
     ·exact .inl ⟨h1,h2⟩
     ·have:=fB b4 h2;omega
    ·exact .inr ⟨h1,h2⟩
  ·rw [if_neg hc,xd (s :: r) u lo t.To d ⟨a1,a2,a3,a4⟩ b4,bd (s:=s),bd (s:=t)]
   constructor
   ·rintro (⟨h1,h2⟩ | ⟨h1,h2⟩)
    ·exact ⟨.inl h1, .inl h2⟩
    ·exact ⟨h1, .inr h2⟩
   ·rintro ⟨h1,h2 | h2⟩
    ·rcases h1 with h1 | h1
     ·exact .inl ⟨h1,h2⟩
     ·have:=fB a4 h1;omega
    ·exact .inr ⟨h1,h2⟩
termination_by a b=>a.length+b.length
noncomputable def gW (l:List GSpan) (s:GSpan):List GSpan:=dN (gv l) (gv [s])
theorem nN (l:List GSpan) (s:GSpan):dI (-1) (gW l s)∧∀ d,fN (gW l s) d↔(fN l d∧(s.From≤d∧d < s.To))∧0≤d∧d < 73049:=by
 obtain ⟨a1,a2,_⟩:=ko l
 obtain ⟨b1,b2,_⟩:=ko [s]
 refine ⟨mP _ _ (-1) (-1) (-1) a1 b1 (.inl (Int.le_refl _)),fun d=>?_⟩
 unfold gW
 rw [xd _ _ (-1) (-1) d a1 b1,a2,b2,bd]
 simp only [fw,or_false]
 constructor
 ·rintro ⟨⟨h1,h2⟩,h3,h4⟩;exact ⟨⟨h1,h3⟩,h2⟩
 ·rintro ⟨⟨h1,h2⟩,h3⟩;exact ⟨⟨h1,h3⟩,h2,h3⟩
def N2 (l:List Int):Prop:=l.Pairwise (fun a b=>a < b)
end Go.Ax
