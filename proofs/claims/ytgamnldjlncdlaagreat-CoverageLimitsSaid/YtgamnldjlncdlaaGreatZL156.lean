import Derived.Test.YtgamnldjlncdlaaGreatZL155
set_option linter.all false
/- Facts of functions of the program: what they compute. -/
set_option maxRecDepth 100000
namespace Go.Ax
open Go.Proofs
theorem Fj (a:List ab) (hn:a.length≤1000000):jv a a = some true:=by
  have key:∀ (n i:Nat),a.length = i+n→fixL (jb a a) (i:Int) = some (.inr ()):=by
    intro n
    induction n with
    | zero =>
      intro i h
      have:i = a.length:=by omega
      subst this
      rw [bS]
      show (gI a a ((a.length:Nat):Int)).opt.bind _ = _
      simp only [gI,oT]
      rw [cu,cond_false]
      rfl
    | succ n ih =>
      intro i h
      have hi:i < a.length:=by omega
      rw [bS]
      show (gI a a (i:Int)).opt.bind _ = _
      simp only [gI,oT]
      rw [dH hi,cond_true,aE (bQ hi),aE (bQ hi),eL a _ i hi,beq_self_eq_true,beq_self_eq_true,cP (by omega)]
      exact ih (i+1) (by omega)
  show (kX a a).opt = _
  simp only [kX,oT]
  have:((((a.length:Nat):Int) != ((a.length:Nat):Int))) = false:=by simp
  rw [this,cond_false]
  show (fixL (jb a a) (0:Int)).bind _ = _
  have:=key a.length 0 (by omega)
  rw [show ((0:Nat):Int) = 0 from rfl] at this
  rw [this]
  rfl
def uh (kind state:Int) (f:ae):Bool:=(f.Kind == kind)&&(f.State == state)
noncomputable def dP (l:List ae) (kind state:Int):List ab:=((l.filter cr).filter (uh kind state)).map ae.Span
theorem Iq (l:List ae) (kind state:Int):(dP l kind state).length≤l.length:=by
  unfold dP
  have h1:=List.length_filter_le cr l
  have h2:=List.length_filter_le (uh kind state) (l.filter cr)
  simp only [List.length_map]
  omega
theorem Qe (f:ae) (l:List ae) (kind state:Int):dP (f :: l) kind state = if (bif (bif cr f then (f.Kind == kind) else false) then (f.State == state) else false) = true then f.Span :: dP l kind state else dP l kind state:=by
  unfold dP
  rw [List.filter_cons]
  cases h:cr f with
  | false=>simp
  | true =>
    have e:uh kind state f = (bif (bif true then (f.Kind == kind) else false) then (f.State == state) else false):=by
      unfold uh
      cases (f.Kind == kind) <;> rfl
    rw [if_pos rfl,List.filter_cons,e]
    by_cases hc:(bif (bif true then (f.Kind == kind) else false) then (f.State == state) else false) = true
    · rw [if_pos hc,if_pos hc]; rfl
    · rw [if_neg hc,if_neg hc]
theorem Kj (l:List ae) (kind state:Int) (hn:l.length≤100000):y0 l kind state = some (da (dP l kind state) (fq l)):=by
  have key:∀ (n i:Nat) (out:List ab),l.length = i+n→out.length≤i→fixL (gF l kind state) (out,(i:Int)) = some (out++dP (l.drop i) kind state):=by
    intro n
    induction n with
    | zero =>
      intro i out h ho
      have:i = l.length:=by omega
      subst this
      rw [bS]
      show (iR l kind state out ((l.length:Nat):Int)).opt.bind _ = _
      simp only [iR,oT]
      rw [cu,cond_false,List.drop_length]
      simp [dP]
    | succ n ih =>
      intro i out h ho
      have hi:i < l.length:=by omega
      rw [bS]
      show (iR l kind state out (i:Int)).opt.bind _ = _
      simp only [iR,oT]
      rw [dH hi,cond_true,aE (bQ hi),eL l _ i hi,pH,Option.bind_some,cP (by omega),aE (pz (by omega)),List.drop_eq_getElem_cons hi,Qe]
      cases hc:(bif (bif cr l[i] then (l[i].Kind == kind) else false) then (l[i].State == state) else false) with
      | true =>
        rw [cond_true,Option.bind_some,if_pos rfl]
        show fixL (gF l kind state) (out++[l[i].Span],((i+1:Nat):Int)) = _
        rw [ih (i+1) _ (by omega) (by simp; omega),List.append_assoc]
        rfl
      | false =>
        rw [cond_false,Option.bind_some,if_neg (by simp)]
        show fixL (gF l kind state) (out,((i+1:Nat):Int)) = _
        rw [ih (i+1) _ (by omega) (by omega)]
  have h1:=key l.length 0 [] (by omega) (by simp)
  rw [show ((0:Nat):Int) = 0 from rfl,List.drop_zero,List.nil_append] at h1
  have hs:=Iq l kind state
  show (fixL (gF l kind state) (([]:List ab),(0:Int))).bind _ = _
  rw [h1,Option.bind_some]
  show (pP l).bind _ = _
  rw [CF l (by omega),Option.bind_some]; simp only [oT]; rw [mH _ _ (by omega)]
  rfl
theorem LS (l:List ae) (kind state:Int) (hn:l.length≤100000):AD l kind state = some (da (dP l kind state) (fq l)):=by
  have hf:=List.length_filter_le cr l
  have key:∀ (c:List ae),c.length≤100000→∀ (n i:Nat) (out:List ab),c.length = i+n→out.length≤i→fixL (ir l kind state c) (out,(i:Int)) = some (out++((c.drop i).filter (uh kind state)).map ae.Span):=by
    intro c hc n
    induction n with
    | zero =>
      intro i out h ho
      have:i = c.length:=by omega
      subst this
      rw [bS]
      show (jC l kind state c out ((c.length:Nat):Int)).opt.bind _ = _
      simp only [jC,oT]
      rw [cu,cond_false,List.drop_length]
      simp
    | succ n ih =>
      intro i out h ho
      have hi:i < c.length:=by omega
      rw [bS]
      show (jC l kind state c out (i:Int)).opt.bind _ = _
      simp only [jC,oT]
      rw [dH hi,cond_true,aE (bQ hi),fX c _ i hi,aE (fun _=>(bQ hi).1),aE (fun _=>(bQ hi).2),cP (by omega),aE (bQ hi),aE (pz (by omega)),List.drop_eq_getElem_cons hi,List.filter_cons]
      unfold uh at ih ⊢
      rw [fh]
      cases hc:((c[i].Kind == kind)&&(c[i].State == state)) with
      | true =>
        rw [cond_true,Option.bind_some,if_pos rfl]
        show fixL (ir l kind state c) (out++[c[i].Span],((i+1:Nat):Int)) = _
        rw [ih (i+1) _ (by omega) (by simp; omega),List.append_assoc]
        rfl
      | false =>
        rw [cond_false,Option.bind_some,if_neg (by simp)]
        show fixL (ir l kind state c) (out,((i+1:Nat):Int)) = _
        rw [ih (i+1) _ (by omega) (by omega)]
  have hs:=Iq l kind state
  show (iY l).bind _ = _
  rw [qH l (by omega),Option.bind_some]
  have h1:=key (l.filter cr) (by omega) (l.filter cr).length 0 [] (by omega) (by simp)
  rw [show ((0:Nat):Int) = 0 from rfl,List.drop_zero,List.nil_append] at h1
  show (fixL (ir l kind state (l.filter cr)) (([]:List ab),(0:Int))).bind _ = _
  rw [h1,Option.bind_some]
  show (xe l).bind _ = _
  rw [Nl l (by omega),Option.bind_some]
  show (wc (dP l kind state) (fq l)).bind _ = _
  rw [F3 _ _ (by omega)]
  rfl
end Go.Ax
