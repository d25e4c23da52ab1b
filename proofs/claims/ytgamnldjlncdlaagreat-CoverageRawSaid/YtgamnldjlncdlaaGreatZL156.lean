import Derived.Test.YtgamnldjlncdlaaGreatZL155
set_option linter.all false
/- Facts of functions of the program: what they compute. -/
set_option maxRecDepth 100000
namespace Go.Ax
open Go.Proofs
def uD (kind state:Int) (f:ac):Bool:=(f.Kind == kind)&&(f.State == state)
noncomputable def eC (l:List ac) (kind state:Int):List ab:=((l.filter cD).filter (uD kind state)).map ac.Span
theorem Jo (l:List ac) (kind state:Int):(eC l kind state).length≤l.length:=by
  unfold eC
  have h1:=List.length_filter_le cD l
  have h2:=List.length_filter_le (uD kind state) (l.filter cD)
  simp only [List.length_map]
  omega
theorem Rx (f:ac) (l:List ac) (kind state:Int):eC (f :: l) kind state = if (bif (bif cD f then (f.Kind == kind) else false) then (f.State == state) else false) = true then f.Span :: eC l kind state else eC l kind state:=by
  unfold eC
  rw [List.filter_cons]
  cases h:cD f with
  | false=>simp
  | true =>
    have e:uD kind state f = (bif (bif true then (f.Kind == kind) else false) then (f.State == state) else false):=by
      unfold uD
      cases (f.Kind == kind) <;> rfl
    rw [if_pos rfl,List.filter_cons,e]
    by_cases hc:(bif (bif true then (f.Kind == kind) else false) then (f.State == state) else false) = true
    · rw [if_pos hc,if_pos hc]; rfl
    · rw [if_neg hc,if_neg hc]
theorem Ms (l:List ac) (kind state:Int) (hn:l.length≤100000):yD l kind state = some (dD (eC l kind state) (gu l)):=by
  have key:∀ (n i:Nat) (out:List ab),l.length = i+n→out.length≤i→fixL (gj l kind state) (out,(i:Int)) = some (out++eC (l.drop i) kind state):=by
    intro n
    induction n with
    | zero =>
      intro i out h ho
      have:i = l.length:=by omega
      subst this
      rw [bU]
      show (iM l kind state out ((l.length:Nat):Int)).opt.bind _ = _
      simp only [iM,oT]
      rw [cl,cond_false,List.drop_length]
      simp [eC]
    | succ n ih =>
      intro i out h ho
      have hi:i < l.length:=by omega
      rw [bU]
      show (iM l kind state out (i:Int)).opt.bind _ = _
      simp only [iM,oT]
      rw [dg hi,cond_true,aD (bJ hi),er l _ i hi,pR,Option.bind_some,cF (by omega),aD (nw (by omega)),List.drop_eq_getElem_cons hi,Rx]
      cases hc:(bif (bif cD l[i] then (l[i].Kind == kind) else false) then (l[i].State == state) else false) with
      | true =>
        rw [cond_true,Option.bind_some,if_pos rfl]
        show fixL (gj l kind state) (out++[l[i].Span],((i+1:Nat):Int)) = _
        rw [ih (i+1) _ (by omega) (by simp; omega),List.append_assoc]
        rfl
      | false =>
        rw [cond_false,Option.bind_some,if_neg (by simp)]
        show fixL (gj l kind state) (out,((i+1:Nat):Int)) = _
        rw [ih (i+1) _ (by omega) (by omega)]
  have h1:=key l.length 0 [] (by omega) (by simp)
  rw [show ((0:Nat):Int) = 0 from rfl,List.drop_zero,List.nil_append] at h1
  have hs:=Jo l kind state
  show (fixL (gj l kind state) (([]:List ab),(0:Int))).bind _ = _
  rw [h1,Option.bind_some]
  show (qi l).bind _ = _
  rw [DI l (by omega),Option.bind_some]; simp only [oT]; rw [mQ _ _ (by omega)]
  rfl
theorem MU (l:List ac) (kind state:Int) (hn:l.length≤100000):Bm l kind state = some (dD (eC l kind state) (gu l)):=by
  have hf:=List.length_filter_le cD l
  have key:∀ (c:List ac),c.length≤100000→∀ (n i:Nat) (out:List ab),c.length = i+n→out.length≤i→fixL (ig l kind state c) (out,(i:Int)) = some (out++((c.drop i).filter (uD kind state)).map ac.Span):=by
    intro c hc n
    induction n with
    | zero =>
      intro i out h ho
      have:i = c.length:=by omega
      subst this
      rw [bU]
      show (jB l kind state c out ((c.length:Nat):Int)).opt.bind _ = _
      simp only [jB,oT]
      rw [cl,cond_false,List.drop_length]
      simp
    | succ n ih =>
      intro i out h ho
      have hi:i < c.length:=by omega
      rw [bU]
      show (jB l kind state c out (i:Int)).opt.bind _ = _
      simp only [jB,oT]
      rw [dg hi,cond_true,aD (bJ hi),fp c _ i hi,aD (fun _=>(bJ hi).1),aD (fun _=>(bJ hi).2),cF (by omega),aD (bJ hi),aD (nw (by omega)),List.drop_eq_getElem_cons hi,List.filter_cons]
      unfold uD at ih ⊢
      rw [dV]
      cases hc:((c[i].Kind == kind)&&(c[i].State == state)) with
      | true =>
        rw [cond_true,Option.bind_some,if_pos rfl]
        show fixL (ig l kind state c) (out++[c[i].Span],((i+1:Nat):Int)) = _
        rw [ih (i+1) _ (by omega) (by simp; omega),List.append_assoc]
        rfl
      | false =>
        rw [cond_false,Option.bind_some,if_neg (by simp)]
        show fixL (ig l kind state c) (out,((i+1:Nat):Int)) = _
        rw [ih (i+1) _ (by omega) (by omega)]
  have hs:=Jo l kind state
  show (iR l).bind _ = _
  rw [qT l (by omega),Option.bind_some]
  have h1:=key (l.filter cD) (by omega) (l.filter cD).length 0 [] (by omega) (by simp)
  rw [show ((0:Nat):Int) = 0 from rfl,List.drop_zero,List.nil_append] at h1
  show (fixL (ig l kind state (l.filter cD)) (([]:List ab),(0:Int))).bind _ = _
  rw [h1,Option.bind_some]
  show (tk l).bind _ = _
  rw [FC l (by omega),Option.bind_some]
  show (rJ (eC l kind state) (gu l)).bind _ = _
  rw [zq _ _ (by omega)]
  rfl
end Go.Ax
