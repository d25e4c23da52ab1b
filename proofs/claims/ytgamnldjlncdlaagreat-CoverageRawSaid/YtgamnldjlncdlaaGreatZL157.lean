import Derived.Test.YtgamnldjlncdlaaGreatZL156
set_option linter.all false
/- The first days of a list; loops that append. -/
set_option maxRecDepth 100000
namespace Go.Ax
open Go.Proofs
theorem iU {S T A R:Type} {f:S→Option (S ⊕ R)} (l:List T) (g:T→List A) (emb:List A→Nat→S) (fin:List A→R) (B:Nat) (hB:∀ x∈l,(g x).length≤B)
    (hs:∀ (i:Nat) (hi:i < l.length) (out:List A),out.length≤i*B→f (emb out i) = some (.inl (emb (out++g l[i]) (i+1))))
    (he:∀ out:List A,out.length≤l.length*B→f (emb out l.length) = some (.inr (fin out))):fixL f (emb [] 0) = some (fin (l.flatMap g)):=by
  have key:∀ (n i:Nat) (out:List A),l.length = i+n→out.length≤i*B→fixL f (emb out i) = some (fin (out++(l.drop i).flatMap g)):=by
    intro n
    induction n with
    | zero =>
      intro i out h ho
      have:i = l.length:=by omega
      subst this
      rw [bU,he out ho,List.drop_length]
      simp
    | succ n ih =>
      intro i out h ho
      have hi:i < l.length:=by omega
      rw [bU,hs i hi out ho,Option.bind_some]
      have hb:=hB l[i] (List.getElem_mem hi)
      have:(out++g l[i]).length≤(i+1)*B:=by rw [List.length_append,Nat.succ_mul]; omega
      show fixL f (emb (out++g l[i]) (i+1)) = _
      rw [ih (i+1) _ (by omega) this,List.drop_eq_getElem_cons hi,List.flatMap_cons,List.append_assoc]
  have:=key l.length 0 [] (by omega) (by simp)
  rw [this]; simp
def InR (m:List ab):Prop:=∀ s∈m,0≤s.From∧s.From < s.To∧s.To≤73049
theorem Ks:∀ {l:List ab} {lo:Int},ee lo l→-1≤lo→InR l
  | [],_,_,_=>fun s h=>by cases h
  | s :: r,lo,h,h0=>by
    unfold ee at h
    intro x hx
    rcases List.mem_cons.1 hx with e | e
    · subst e; omega
    · exact Ks h.2.2.2 (by omega) x e
theorem Re:∀ {l:List ab} {lo:Int},ee lo l→(l.length:Int)≤73049 - lo∨l = []
  | [],_,_=>.inr rfl
  | s :: r,lo,h=>by
    unfold ee at h
    left
    rcases Re h.2.2.2 with e | e
    · rw [List.length_cons]; omega
    · subst e; simp; omega
theorem LH {l:List ab} (h:ee (-1) l):l.length≤73050:=by
  rcases Re h with e | e
  · omega
  · subst e; simp
def li (n:Int):List ab→List ab
  | []=>[]
  | s :: r=>if n < 1 then [] else if n < s.To - s.From then [⟨s.From,s.From+n⟩] else s :: li (n - (s.To - s.From)) r
theorem Hp {n:Int} (h:n < 1) (l:List ab):li n l = []:=by
  cases l with
  | nil=>rfl
  | cons s r=>rw [li,if_pos h]
theorem HO:∀ (l:List ab) (n:Int),(li n l).length≤l.length
  | [],_=>by simp [li]
  | s :: r,n=>by
    rw [li]
    split
    · simp
    · split
      · simp
      · have:=HO r (n - (s.To - s.From)); simp; omega
theorem R1 (n0:Int) (m:List ab) (hm:InR m) (hl:m.length≤1000000):∀ (k i:Nat) (n:Int) (out:List ab),m.length = i+k→n≤1000000000000→-1000000000000≤n→out.length≤i →
    fixL (gp n0 m ((m.length:Nat):Int)) (n,out,(i:Int)) = some (out++li n (m.drop i)):=by
  intro k
  induction k with
  | zero =>
    intro i n out h _ _ _
    have:i = m.length:=by omega
    subst this
    rw [bU]
    show ((iE n out m ((m.length:Nat):Int) ((m.length:Nat):Int)).opt).bind _ = _
    simp only [iE,oT]
    rw [cl,cond_false,List.drop_length]
    simp [li]
  | succ k ih =>
    intro i n out h hn hn' ho
    have hi:i < m.length:=by omega
    rw [bU]
    show ((iE n out m ((m.length:Nat):Int) (i:Int)).opt).bind _ = _
    simp only [iE,oT]
    obtain ⟨h0,h1,h2⟩:=hm m[i] (List.getElem_mem hi)
    rw [dg hi,cond_true,aD (bJ hi),fp m _ i hi,List.drop_eq_getElem_cons hi,li,cF (by omega)]
    by_cases hn1:n < 1
    · simp [hn1]
    · simp only [hn1,decide_false,cond_false,if_false]
      rw [bu (n:=m[i].To - m[i].From) (by omega) (by omega)]
      by_cases hc:n < m[i].To - m[i].From
      · simp only [hc,decide_true,cond_true,if_true]
        rw [aD (nw (by omega)),bu (n:=m[i].From+n) (by omega) (by omega),bu (n:=m[i].From+n - m[i].From) (by omega) (by omega),bu (n:=n - (m[i].From+n - m[i].From)) (by omega) (by omega),Option.bind_some]
        show fixL (gp n0 m ((m.length:Nat):Int)) (n - (m[i].From+n - m[i].From),out++[ab.mk m[i].From (m[i].From+n)],((i+1:Nat):Int)) = _
        rw [ih (i+1) _ _ (by omega) (by omega) (by omega) (by simp; omega),Hp (by omega),List.append_nil]
      · simp only [hc,decide_false,cond_false,if_false]
        rw [aD (nw (by omega)),bu (n:=n - (m[i].To - m[i].From)) (by omega) (by omega),Option.bind_some]
        show fixL (gp n0 m ((m.length:Nat):Int)) (n - (m[i].To - m[i].From),out++[m[i]],((i+1:Nat):Int)) = _
        rw [ih (i+1) _ _ (by omega) (by omega) (by omega) (by simp; omega),List.append_assoc]
        rfl
theorem An (l:List ab) (n:Int) (hl:l.length≤1000000) (h1:n≤1000000000000) (h2:-1000000000000≤n):sd l n = some (li n (da l)):=by
  obtain ⟨c1,_,c3⟩:=fi l
  have:=R1 n (da l) (Ks c1 (by omega)) (by omega) (da l).length 0 n [] (by omega) h1 h2 (by simp)
  rw [show ((0:Nat):Int) = 0 from rfl,List.drop_zero,List.nil_append] at this
  show (nX l n).opt = _
  simp only [nX,oT]
  rw [m6 l hl,Option.bind_some]
  show (fixL (gp n (da l) (((da l).length:Nat):Int)) (n,([]:List ab),(0:Int))).bind _ = _
  rw [this,Option.bind_some]
  rfl
theorem RA (n0:Int) (m:List ab) (hm:InR m) (hl:m.length≤1000000):∀ (k i:Nat) (n:Int) (out:List ab),m.length = i+k→n≤1000000000000→-1000000000000≤n→out.length≤i →
    fixL (ia n0 m) (n,out,(i:Int)) = some (out++li n (m.drop i)):=by
  intro k
  induction k with
  | zero =>
    intro i n out h _ _ _
    have:i = m.length:=by omega
    subst this
    rw [bU]
    show ((jw n out m ((m.length:Nat):Int)).opt).bind _ = _
    simp only [jw,oT]
    rw [cl,cond_false,cond_false,List.drop_length]
    simp [li]
  | succ k ih =>
    intro i n out h hn hn' ho
    have hi:i < m.length:=by omega
    rw [bU]
    show ((jw n out m (i:Int)).opt).bind _ = _
    simp only [jw,oT]
    obtain ⟨h0,h1,h2⟩:=hm m[i] (List.getElem_mem hi)
    rw [dg hi,cond_true]
    by_cases hn1:n < 1
    · have:decide (0 < n) = false:=by simp; omega
      rw [this,cond_false,Hp hn1]
      simp
    · have:decide (0 < n) = true:=by simp; omega
      rw [this,cond_true]
      iterate 4 rw [aD (bJ hi)]
      rw [aD (nw (by omega)),fp m _ i hi,List.drop_eq_getElem_cons hi,li,if_neg hn1,cF (by omega),bu (n:=m[i].To - m[i].From) (by omega) (by omega),Option.bind_some]
      by_cases hc:n < m[i].To - m[i].From
      · have e:(if m[i].To - m[i].From < n then m[i].To - m[i].From else n) = n:=if_neg (by omega)
        rw [e,if_pos hc,bu (n:=n - n) (by omega) (by omega),bu (n:=m[i].From+n) (by omega) (by omega)]
        show fixL (ia n0 m) (n - n,out++[ab.mk m[i].From (m[i].From+n)],((i+1:Nat):Int)) = _
        rw [ih (i+1) _ _ (by omega) (by omega) (by omega) (by simp; omega),Hp (by omega),List.append_nil]
      · have e:(if m[i].To - m[i].From < n then m[i].To - m[i].From else n) = m[i].To - m[i].From:=by split <;> omega
        have e2:ab.mk m[i].From (m[i].From+(m[i].To - m[i].From)) = m[i]:=by
          rw [show m[i].From+(m[i].To - m[i].From) = m[i].To by omega]
        rw [e,if_neg hc,bu (n:=n - (m[i].To - m[i].From)) (by omega) (by omega),bu (n:=m[i].From+(m[i].To - m[i].From)) (by omega) (by omega),e2]
        show fixL (ia n0 m) (n - (m[i].To - m[i].From),out++[m[i]],((i+1:Nat):Int)) = _
        rw [ih (i+1) _ _ (by omega) (by omega) (by omega) (by simp; omega),List.append_assoc]
        rfl
theorem Nu (l:List ab) (n:Int) (hl:l.length≤100000) (h1:n≤1000000000000) (h2:-1000000000000≤n):Bw l n = some (li n (da l)):=by
  obtain ⟨c1,_,c3⟩:=fi l
  have:=RA n (da l) (Ks c1 (by omega)) (by omega) (da l).length 0 n [] (by omega) h1 h2 (by simp)
  rw [show ((0:Nat):Int) = 0 from rfl,List.drop_zero,List.nil_append] at this
  show (pg l n).opt = _
  simp only [pg,oT]
  rw [pI l hl,Option.bind_some]
  show (fixL (ia n (da l)) (n,([]:List ab),(0:Int))).bind _ = _
  rw [this,Option.bind_some]
  rfl
end Go.Ax
