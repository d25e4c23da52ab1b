import Derived.Test.YtgamnldjlncdlaaGreatZL152
set_option linter.all false
/- Facts of functions of the program: what they compute. -/
set_option maxRecDepth 100000
namespace Go.Ax
open Go.Proofs
open Go.Proofs
def pl (s t:ab):ab:=ab.mk (if s.From < t.From then t.From else s.From) (if t.To < s.To then t.To else s.To)
def ug (s t:ab):List ab:=if (pl s t).From < (pl s t).To then [pl s t] else []
noncomputable def i8:List ab→List ab→List ab
  | [],_=>[]
  | _ :: _,[]=>[]
  | s :: r,t :: u=>ug s t++(if s.To < t.To then i8 r (t :: u) else i8 (s :: r) u)
termination_by a b=>a.length+b.length
theorem sn (b:List ab):i8 [] b = []:=by rw [i8]
theorem u7 (a:List ab):i8 a [] = []:=by cases a <;> rw [i8]
theorem uu (s t:ab) (r u:List ab):i8 (s :: r) (t :: u) = ug s t++(if s.To < t.To then i8 r (t :: u) else i8 (s :: r) u):=by rw [i8]
theorem Q8 (s t:ab):(ug s t).length≤1:=by unfold ug; split <;> simp
theorem Tm (a b out:List ab) (i j:Nat) (hi:i < a.length) (hj:j < b.length) (ha:a.length≤1000000) (hb:b.length≤1000000) (ho:out.length≤2000000) :
    (dG a b out (i:Int) (j:Int)).opt = some (.inl (if a[i].To < b[j].To then (out++ug a[i] b[j],((i+1:Nat):Int),(j:Int)) else (out++ug a[i] b[j],(i:Int),((j+1:Nat):Int)))):=by
  simp only [dG,oT]
  rw [dH hi,dH hj,cond_true,cond_true,aE (bQ hi),aE (bQ hj),aE (bQ hi),aE (bQ hj),fX a _ i hi,fX b _ j hj,cP (by omega),cP (by omega)]
  generalize a[i] = s
  generalize b[j] = t
  have hm:ug s t = if (if s.From < t.From then t.From else s.From) < (if t.To < s.To then t.To else s.To) then [ab.mk (if s.From < t.From then t.From else s.From) (if t.To < s.To then t.To else s.To)] else []:=rfl
  rw [hm]
  generalize (if s.From < t.From then t.From else s.From) = x
  generalize (if t.To < s.To then t.To else s.To) = y
  by_cases hk:x < y
  · rw [decide_eq_true hk,cond_true,aE (pz (by omega)),aE (bQ hi),aE (bQ hj),if_pos hk]
    by_cases hc:s.To < t.To
    · rw [decide_eq_true hc,cond_true,if_pos hc]
    · rw [decide_eq_false hc,cond_false,if_neg hc]
  · rw [decide_eq_false hk,cond_false,aE (bQ hi),aE (bQ hj),if_neg hk,List.append_nil]
    by_cases hc:s.To < t.To
    · rw [decide_eq_true hc,cond_true,if_pos hc]
    · rw [decide_eq_false hc,cond_false,if_neg hc]
theorem SC (a b:List ab) (ha:a.length≤1000000) (hb:b.length≤1000000):∀ (n i j:Nat) (out:List ab),(a.length - i)+(b.length - j)≤n→i≤a.length→j≤b.length→out.length≤i+j →
    fixL (eR a b) (out,(i:Int),(j:Int)) = some (out++i8 (a.drop i) (b.drop j)):=by
  intro n
  induction n with
  | zero =>
    intro i j out h hi hj ho
    have e:i = a.length:=by omega
    subst e
    rw [bS]
    show (dG a b out ((a.length:Nat):Int) (j:Int)).opt.bind _ = _
    simp only [dG,oT]
    rw [cu,cond_false,cond_false,List.drop_length,sn,List.append_nil]
    rfl
  | succ n ih =>
    intro i j out h hi hj ho
    rw [bS]
    show (dG a b out (i:Int) (j:Int)).opt.bind _ = _
    by_cases hi':i < a.length
    · by_cases hj':j < b.length
      · have h1:=Q8 a[i] b[j]
        rw [Tm a b out i j hi' hj' ha hb (by omega),Option.bind_some,List.drop_eq_getElem_cons hi',List.drop_eq_getElem_cons hj',uu]
        by_cases hc:a[i].To < b[j].To
        · rw [if_pos hc,if_pos hc]
          show fixL (eR a b) (out++ug a[i] b[j],((i+1:Nat):Int),(j:Int)) = _
          rw [ih (i+1) j _ (by omega) (by omega) hj (by rw [List.length_append]; omega),List.append_assoc, ← List.drop_eq_getElem_cons hj']
        · rw [if_neg hc,if_neg hc]
          show fixL (eR a b) (out++ug a[i] b[j],(i:Int),((j+1:Nat):Int)) = _
          rw [ih i (j+1) _ (by omega) hi (by omega) (by rw [List.length_append]; omega),List.append_assoc, ← List.drop_eq_getElem_cons hi']
      · have e:j = b.length:=by omega
        subst e
        simp only [dG,oT]
        rw [dH hi',cond_true,cu,cond_false,List.drop_length (l:=b),u7,List.append_nil]
        rfl
    · have e:i = a.length:=by omega
      subst e
      simp only [dG,oT]
      rw [cu,cond_false,cond_false,List.drop_length,sn,List.append_nil]
      rfl
theorem sg:∀ (a b:List ab) (lo lo' m:Int),df lo a→df lo' b→m≤lo∨m≤lo'→df m (i8 a b)
  | [],b,lo,lo',m,_,_,_=>by rw [sn]; trivial
  | _ :: _,[],lo,lo',m,_,_,_=>by rw [u7]; trivial
  | s :: r,t :: u,lo,lo',m,⟨a1,a2,a3,a4⟩,⟨b1,b2,b3,b4⟩,hm=>by
    have key:(pl s t).From = max s.From t.From∧(pl s t).To = min s.To t.To:=by
      unfold pl; simp only
      constructor <;> split <;> omega
    rw [uu]
    by_cases hc:s.To < t.To
    · rw [if_pos hc]
      unfold ug
      by_cases hk:(pl s t).From < (pl s t).To
      · rw [if_pos hk]
        exact ⟨by omega,hk,by omega,sg r (t :: u) s.To lo' _ a4 ⟨b1,b2,b3,b4⟩ (.inl (by omega))⟩
      · rw [if_neg hk]
        exact sg r (t :: u) s.To lo' _ a4 ⟨b1,b2,b3,b4⟩ (by omega)
    · rw [if_neg hc]
      unfold ug
      by_cases hk:(pl s t).From < (pl s t).To
      · rw [if_pos hk]
        exact ⟨by omega,hk,by omega,sg (s :: r) u lo t.To _ ⟨a1,a2,a3,a4⟩ b4 (.inr (by omega))⟩
      · rw [if_neg hk]
        exact sg (s :: r) u lo t.To _ ⟨a1,a2,a3,a4⟩ b4 (by omega)
termination_by a b=>a.length+b.length
theorem abX (s t:ab) (d:Int):dD (ug s t) d↔(s.From≤d∧d < s.To)∧(t.From≤d∧d < t.To):=by
  have key:(pl s t).From = max s.From t.From∧(pl s t).To = min s.To t.To:=by
    unfold pl; simp only
    constructor <;> split <;> omega
  unfold ug
  split
  · rw [cg]; simp only [dp,or_false]; omega
  · simp only [dp,false_iff]; omega
theorem GF:∀ (a b:List ab) (lo lo' d:Int),df lo a→df lo' b→(dD (i8 a b) d↔dD a d∧dD b d)
  | [],b,lo,lo',d,_,_=>by rw [sn]; simp [dp]
  | _ :: _,[],lo,lo',d,_,_=>by rw [u7]; simp [dp]
  | s :: r,t :: u,lo,lo',d,⟨a1,a2,a3,a4⟩,⟨b1,b2,b3,b4⟩=>by
    rw [uu,rt,abX]
    by_cases hc:s.To < t.To
    · rw [if_pos hc,GF r (t :: u) s.To lo' d a4 ⟨b1,b2,b3,b4⟩,cg (s:=s),cg (s:=t)]
      constructor
      · rintro (⟨h1,h2⟩ | ⟨h1,h2⟩)
        · exact ⟨.inl h1, .inl h2⟩
        · exact ⟨.inr h1,h2⟩
      · rintro ⟨h1 | h1,h2⟩
        · rcases h2 with h2 | h2
          · exact .inl ⟨h1,h2⟩
          · have:=iV b4 h2; omega
        · exact .inr ⟨h1,h2⟩
    · rw [if_neg hc,GF (s :: r) u lo t.To d ⟨a1,a2,a3,a4⟩ b4,cg (s:=s),cg (s:=t)]
      constructor
      · rintro (⟨h1,h2⟩ | ⟨h1,h2⟩)
        · exact ⟨.inl h1, .inl h2⟩
        · exact ⟨h1, .inr h2⟩
      · rintro ⟨h1,h2 | h2⟩
        · rcases h1 with h1 | h1
          · exact .inl ⟨h1,h2⟩
          · have:=iV a4 h1; omega
        · exact .inr ⟨h1,h2⟩
termination_by a b=>a.length+b.length
noncomputable def da (l:List ab) (s:ab):List ab:=i8 (cy l) (cy [s])
theorem mH (l:List ab) (s:ab) (hn:l.length≤1000000):mB l s = some (da l s):=by
  have h1:=cE l
  have h2:=cE [s]
  have h2':(cy [s]).length≤1:=h2.2.2
  show (nk l [s]).bind _ = _
  have:nk l [s] = some (da l s):=by
    show (kF l [s]).opt = _
    simp only [kF,oT]
    rw [mG l hn,Option.bind_some,mG [s] (by simp),Option.bind_some]
    show (fixL (eR (cy l) (cy [s])) (([]:List ab),(0:Int),(0:Int))).bind _ = _
    have:=SC (cy l) (cy [s]) (by omega) (by omega) _ 0 0 [] (Nat.le_refl _) (by omega) (by omega) (by simp)
    rw [show ((0:Nat):Int) = 0 from rfl,List.drop_zero,List.drop_zero] at this
    rw [this,Option.bind_some]
    rfl
  rw [this]
  rfl
theorem fW (l:List ab) (s:ab):df (-1) (da l s)∧∀ d,dD (da l s) d↔(dD l d∧(s.From≤d∧d < s.To))∧0≤d∧d < 73049:=by
  obtain ⟨a1,a2,_⟩:=cE l
  obtain ⟨b1,b2,_⟩:=cE [s]
  refine ⟨sg _ _ (-1) (-1) (-1) a1 b1 (.inl (Int.le_refl _)),fun d=>?_⟩
  unfold da
  rw [GF _ _ (-1) (-1) d a1 b1,a2,b2,cg]
  simp only [dp,or_false]
  constructor
  · rintro ⟨⟨h1,h2⟩,h3,h4⟩; exact ⟨⟨h1,h3⟩,h2⟩
  · rintro ⟨⟨h1,h2⟩,h3⟩; exact ⟨⟨h1,h3⟩,h2,h3⟩
end Go.Ax
