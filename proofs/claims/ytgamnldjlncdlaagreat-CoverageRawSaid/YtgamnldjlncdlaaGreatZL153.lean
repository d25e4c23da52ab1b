import Derived.Test.YtgamnldjlncdlaaGreatZL152
set_option linter.all false
/- Facts of functions of the program: what they compute. -/
set_option maxRecDepth 100000
namespace Go.Ax
open Go.Proofs
open Go.Proofs
def o8 (s t:ab):ab:=ab.mk (if s.From < t.From then t.From else s.From) (if t.To < s.To then t.To else s.To)
def uA (s t:ab):List ab:=if (o8 s t).From < (o8 s t).To then [o8 s t] else []
noncomputable def jb:List ab→List ab→List ab
  | [],_=>[]
  | _ :: _,[]=>[]
  | s :: r,t :: u=>uA s t++(if s.To < t.To then jb r (t :: u) else jb (s :: r) u)
termination_by a b=>a.length+b.length
theorem s7 (b:List ab):jb [] b = []:=by rw [jb]
theorem vT (a:List ab):jb a [] = []:=by cases a <;> rw [jb]
theorem uL (s t:ab) (r u:List ab):jb (s :: r) (t :: u) = uA s t++(if s.To < t.To then jb r (t :: u) else jb (s :: r) u):=by rw [jb]
theorem SU (s t:ab):(uA s t).length≤1:=by unfold uA; split <;> simp
theorem Vu (a b out:List ab) (i j:Nat) (hi:i < a.length) (hj:j < b.length) (ha:a.length≤1000000) (hb:b.length≤1000000) (ho:out.length≤2000000) :
    (dE a b out (i:Int) (j:Int)).opt = some (.inl (if a[i].To < b[j].To then (out++uA a[i] b[j],((i+1:Nat):Int),(j:Int)) else (out++uA a[i] b[j],(i:Int),((j+1:Nat):Int)))):=by
  simp only [dE,oT]
  rw [dg hi,dg hj,cond_true,cond_true,aD (bJ hi),aD (bJ hj),aD (bJ hi),aD (bJ hj),fp a _ i hi,fp b _ j hj,cF (by omega),cF (by omega)]
  generalize a[i] = s
  generalize b[j] = t
  have hm:uA s t = if (if s.From < t.From then t.From else s.From) < (if t.To < s.To then t.To else s.To) then [ab.mk (if s.From < t.From then t.From else s.From) (if t.To < s.To then t.To else s.To)] else []:=rfl
  rw [hm]
  generalize (if s.From < t.From then t.From else s.From) = x
  generalize (if t.To < s.To then t.To else s.To) = y
  by_cases hk:x < y
  · rw [decide_eq_true hk,cond_true,aD (nw (by omega)),aD (bJ hi),aD (bJ hj),if_pos hk]
    by_cases hc:s.To < t.To
    · rw [decide_eq_true hc,cond_true,if_pos hc]
    · rw [decide_eq_false hc,cond_false,if_neg hc]
  · rw [decide_eq_false hk,cond_false,aD (bJ hi),aD (bJ hj),if_neg hk,List.append_nil]
    by_cases hc:s.To < t.To
    · rw [decide_eq_true hc,cond_true,if_pos hc]
    · rw [decide_eq_false hc,cond_false,if_neg hc]
theorem UX (a b:List ab) (ha:a.length≤1000000) (hb:b.length≤1000000):∀ (n i j:Nat) (out:List ab),(a.length - i)+(b.length - j)≤n→i≤a.length→j≤b.length→out.length≤i+j →
    fixL (eM a b) (out,(i:Int),(j:Int)) = some (out++jb (a.drop i) (b.drop j)):=by
  intro n
  induction n with
  | zero =>
    intro i j out h hi hj ho
    have e:i = a.length:=by omega
    subst e
    rw [bU]
    show (dE a b out ((a.length:Nat):Int) (j:Int)).opt.bind _ = _
    simp only [dE,oT]
    rw [cl,cond_false,cond_false,List.drop_length,s7,List.append_nil]
    rfl
  | succ n ih =>
    intro i j out h hi hj ho
    rw [bU]
    show (dE a b out (i:Int) (j:Int)).opt.bind _ = _
    by_cases hi':i < a.length
    · by_cases hj':j < b.length
      · have h1:=SU a[i] b[j]
        rw [Vu a b out i j hi' hj' ha hb (by omega),Option.bind_some,List.drop_eq_getElem_cons hi',List.drop_eq_getElem_cons hj',uL]
        by_cases hc:a[i].To < b[j].To
        · rw [if_pos hc,if_pos hc]
          show fixL (eM a b) (out++uA a[i] b[j],((i+1:Nat):Int),(j:Int)) = _
          rw [ih (i+1) j _ (by omega) (by omega) hj (by rw [List.length_append]; omega),List.append_assoc, ← List.drop_eq_getElem_cons hj']
        · rw [if_neg hc,if_neg hc]
          show fixL (eM a b) (out++uA a[i] b[j],(i:Int),((j+1:Nat):Int)) = _
          rw [ih i (j+1) _ (by omega) hi (by omega) (by rw [List.length_append]; omega),List.append_assoc, ← List.drop_eq_getElem_cons hi']
      · have e:j = b.length:=by omega
        subst e
        simp only [dE,oT]
        rw [dg hi',cond_true,cl,cond_false,List.drop_length (l:=b),vT,List.append_nil]
        rfl
    · have e:i = a.length:=by omega
      subst e
      simp only [dE,oT]
      rw [cl,cond_false,cond_false,List.drop_length,s7,List.append_nil]
      rfl
theorem sh:∀ (a b:List ab) (lo lo' m:Int),ee lo a→ee lo' b→m≤lo∨m≤lo'→ee m (jb a b)
  | [],b,lo,lo',m,_,_,_=>by rw [s7]; trivial
  | _ :: _,[],lo,lo',m,_,_,_=>by rw [vT]; trivial
  | s :: r,t :: u,lo,lo',m,⟨a1,a2,a3,a4⟩,⟨b1,b2,b3,b4⟩,hm=>by
    have key:(o8 s t).From = max s.From t.From∧(o8 s t).To = min s.To t.To:=by
      unfold o8; simp only
      constructor <;> split <;> omega
    rw [uL]
    by_cases hc:s.To < t.To
    · rw [if_pos hc]
      unfold uA
      by_cases hk:(o8 s t).From < (o8 s t).To
      · rw [if_pos hk]
        exact ⟨by omega,hk,by omega,sh r (t :: u) s.To lo' _ a4 ⟨b1,b2,b3,b4⟩ (.inl (by omega))⟩
      · rw [if_neg hk]
        exact sh r (t :: u) s.To lo' _ a4 ⟨b1,b2,b3,b4⟩ (by omega)
    · rw [if_neg hc]
      unfold uA
      by_cases hk:(o8 s t).From < (o8 s t).To
      · rw [if_pos hk]
        exact ⟨by omega,hk,by omega,sh (s :: r) u lo t.To _ ⟨a1,a2,a3,a4⟩ b4 (.inr (by omega))⟩
      · rw [if_neg hk]
        exact sh (s :: r) u lo t.To _ ⟨a1,a2,a3,a4⟩ b4 (by omega)
termination_by a b=>a.length+b.length
theorem ahI (s t:ab) (d:Int):eY (uA s t) d↔(s.From≤d∧d < s.To)∧(t.From≤d∧d < t.To):=by
  have key:(o8 s t).From = max s.From t.From∧(o8 s t).To = min s.To t.To:=by
    unfold o8; simp only
    constructor <;> split <;> omega
  unfold uA
  split
  · rw [cy]; simp only [eD,or_false]; omega
  · simp only [eD,false_iff]; omega
theorem GP:∀ (a b:List ab) (lo lo' d:Int),ee lo a→ee lo' b→(eY (jb a b) d↔eY a d∧eY b d)
  | [],b,lo,lo',d,_,_=>by rw [s7]; simp [eD]
  | _ :: _,[],lo,lo',d,_,_=>by rw [vT]; simp [eD]
  | s :: r,t :: u,lo,lo',d,⟨a1,a2,a3,a4⟩,⟨b1,b2,b3,b4⟩=>by
    rw [uL,rG,ahI]
    by_cases hc:s.To < t.To
    · rw [if_pos hc,GP r (t :: u) s.To lo' d a4 ⟨b1,b2,b3,b4⟩,cy (s:=s),cy (s:=t)]
      constructor
      · rintro (⟨h1,h2⟩ | ⟨h1,h2⟩)
        · exact ⟨.inl h1, .inl h2⟩
        · exact ⟨.inr h1,h2⟩
      · rintro ⟨h1 | h1,h2⟩
        · rcases h2 with h2 | h2
          · exact .inl ⟨h1,h2⟩
          · have:=kK b4 h2; omega
        · exact .inr ⟨h1,h2⟩
    · rw [if_neg hc,GP (s :: r) u lo t.To d ⟨a1,a2,a3,a4⟩ b4,cy (s:=s),cy (s:=t)]
      constructor
      · rintro (⟨h1,h2⟩ | ⟨h1,h2⟩)
        · exact ⟨.inl h1, .inl h2⟩
        · exact ⟨h1, .inr h2⟩
      · rintro ⟨h1,h2 | h2⟩
        · rcases h1 with h1 | h1
          · exact .inl ⟨h1,h2⟩
          · have:=kK a4 h1; omega
        · exact .inr ⟨h1,h2⟩
termination_by a b=>a.length+b.length
noncomputable def dD (l:List ab) (s:ab):List ab:=jb (da l) (da [s])
theorem mQ (l:List ab) (s:ab) (hn:l.length≤1000000):md l s = some (dD l s):=by
  have h1:=fi l
  have h2:=fi [s]
  have h2':(da [s]).length≤1:=h2.2.2
  show (nT l [s]).bind _ = _
  have:nT l [s] = some (dD l s):=by
    show (kg l [s]).opt = _
    simp only [kg,oT]
    rw [m6 l hn,Option.bind_some,m6 [s] (by simp),Option.bind_some]
    show (fixL (eM (da l) (da [s])) (([]:List ab),(0:Int),(0:Int))).bind _ = _
    have:=UX (da l) (da [s]) (by omega) (by omega) _ 0 0 [] (Nat.le_refl _) (by omega) (by omega) (by simp)
    rw [show ((0:Nat):Int) = 0 from rfl,List.drop_zero,List.drop_zero] at this
    rw [this,Option.bind_some]
    rfl
  rw [this]
  rfl
theorem mn (l:List ab) (s:ab):ee (-1) (dD l s)∧∀ d,eY (dD l s) d↔(eY l d∧(s.From≤d∧d < s.To))∧0≤d∧d < 73049:=by
  obtain ⟨a1,a2,_⟩:=fi l
  obtain ⟨b1,b2,_⟩:=fi [s]
  refine ⟨sh _ _ (-1) (-1) (-1) a1 b1 (.inl (Int.le_refl _)),fun d=>?_⟩
  unfold dD
  rw [GP _ _ (-1) (-1) d a1 b1,a2,b2,cy]
  simp only [eD,or_false]
  constructor
  · rintro ⟨⟨h1,h2⟩,h3,h4⟩; exact ⟨⟨h1,h3⟩,h2⟩
  · rintro ⟨⟨h1,h2⟩,h3⟩; exact ⟨⟨h1,h3⟩,h2,h3⟩
end Go.Ax
