import Derived.Test.YtgamnldjlncdlaaGreatZL156
set_option linter.all false
/- The first days of a list; loops that append. -/
set_option maxRecDepth 100000
namespace Go.Ax
open Go.Proofs
theorem qP {S T A R:Type} {f:S→Option (S ⊕ R)} (l:List T) (g:T→List A) (emb:List A→Nat→S) (fin:List A→R) (B:Nat) (hB:∀ x∈l,(g x).length≤B)
    (hs:∀ (i:Nat) (hi:i < l.length) (out:List A),out.length≤i*B→f (emb out i) = some (.inl (emb (out++g l[i]) (i+1))))
    (he:∀ out:List A,out.length≤l.length*B→f (emb out l.length) = some (.inr (fin out))):fixL f (emb [] 0) = some (fin (l.flatMap g)):=by
  have key:∀ (n i:Nat) (out:List A),l.length = i+n→out.length≤i*B→fixL f (emb out i) = some (fin (out++(l.drop i).flatMap g)):=by
    intro n
    induction n with
    | zero =>
      intro i out h ho
      have:i = l.length:=by omega
      subst this
      rw [bS,he out ho,List.drop_length]
      simp
    | succ n ih =>
      intro i out h ho
      have hi:i < l.length:=by omega
      rw [bS,hs i hi out ho,Option.bind_some]
      have hb:=hB l[i] (List.getElem_mem hi)
      have:(out++g l[i]).length≤(i+1)*B:=by rw [List.length_append,Nat.succ_mul]; omega
      show fixL f (emb (out++g l[i]) (i+1)) = _
      rw [ih (i+1) _ (by omega) this,List.drop_eq_getElem_cons hi,List.flatMap_cons,List.append_assoc]
  have:=key l.length 0 [] (by omega) (by simp)
  rw [this]; simp
def InR (m:List ab):Prop:=∀ s∈m,0≤s.From∧s.From < s.To∧s.To≤73049
theorem P1:∀ {l:List ab} {lo:Int},df lo l→-1≤lo→InR l
  | [],_,_,_=>fun s h=>by cases h
  | s :: r,lo,h,h0=>by
    unfold df at h
    intro x hx
    rcases List.mem_cons.1 hx with e | e
    · subst e; omega
    · exact P1 h.2.2.2 (by omega) x e
theorem PM:∀ {l:List ab} {lo:Int},df lo l→(l.length:Int)≤73049 - lo∨l = []
  | [],_,_=>.inr rfl
  | s :: r,lo,h=>by
    unfold df at h
    left
    rcases PM h.2.2.2 with e | e
    · rw [List.length_cons]; omega
    · subst e; simp; omega
theorem J3 {l:List ab} (h:df (-1) l):l.length≤73050:=by
  rcases PM h with e | e
  · omega
  · subst e; simp
def jO (n:Int):List ab→List ab
  | []=>[]
  | s :: r=>if n < 1 then [] else if n < s.To - s.From then [⟨s.From,s.From+n⟩] else s :: jO (n - (s.To - s.From)) r
theorem U1 {n:Int} (h:n < 1) (l:List ab):jO n l = []:=by
  cases l with
  | nil=>rfl
  | cons s r=>rw [jO,if_pos h]
theorem Ga:∀ (l:List ab) (n:Int),(jO n l).length≤l.length
  | [],_=>by simp [jO]
  | s :: r,n=>by
    rw [jO]
    split
    · simp
    · split
      · simp
      · have:=Ga r (n - (s.To - s.From)); simp; omega
theorem QW (n0:Int) (m:List ab) (hm:InR m) (hl:m.length≤1000000):∀ (k i:Nat) (n:Int) (out:List ab),m.length = i+k→n≤1000000000000→-1000000000000≤n→out.length≤i →
    fixL (gG n0 m ((m.length:Nat):Int)) (n,out,(i:Int)) = some (out++jO n (m.drop i)):=by
  intro k
  induction k with
  | zero =>
    intro i n out h _ _ _
    have:i = m.length:=by omega
    subst this
    rw [bS]
    show ((iM n out m ((m.length:Nat):Int) ((m.length:Nat):Int)).opt).bind _ = _
    simp only [iM,oT]
    rw [cu,cond_false,List.drop_length]
    simp [jO]
  | succ k ih =>
    intro i n out h hn hn' ho
    have hi:i < m.length:=by omega
    rw [bS]
    show ((iM n out m ((m.length:Nat):Int) (i:Int)).opt).bind _ = _
    simp only [iM,oT]
    obtain ⟨h0,h1,h2⟩:=hm m[i] (List.getElem_mem hi)
    rw [dH hi,cond_true,aE (bQ hi),fX m _ i hi,List.drop_eq_getElem_cons hi,jO,cP (by omega)]
    by_cases hn1:n < 1
    · simp [hn1]
    · simp only [hn1,decide_false,cond_false,if_false]
      rw [bu (n:=m[i].To - m[i].From) (by omega) (by omega)]
      by_cases hc:n < m[i].To - m[i].From
      · simp only [hc,decide_true,cond_true,if_true]
        rw [aE (pz (by omega)),bu (n:=m[i].From+n) (by omega) (by omega),bu (n:=m[i].From+n - m[i].From) (by omega) (by omega),bu (n:=n - (m[i].From+n - m[i].From)) (by omega) (by omega),Option.bind_some]
        show fixL (gG n0 m ((m.length:Nat):Int)) (n - (m[i].From+n - m[i].From),out++[ab.mk m[i].From (m[i].From+n)],((i+1:Nat):Int)) = _
        rw [ih (i+1) _ _ (by omega) (by omega) (by omega) (by simp; omega),U1 (by omega),List.append_nil]
      · simp only [hc,decide_false,cond_false,if_false]
        rw [aE (pz (by omega)),bu (n:=n - (m[i].To - m[i].From)) (by omega) (by omega),Option.bind_some]
        show fixL (gG n0 m ((m.length:Nat):Int)) (n - (m[i].To - m[i].From),out++[m[i]],((i+1:Nat):Int)) = _
        rw [ih (i+1) _ _ (by omega) (by omega) (by omega) (by simp; omega),List.append_assoc]
        rfl
theorem zR (l:List ab) (n:Int) (hl:l.length≤1000000) (h1:n≤1000000000000) (h2:-1000000000000≤n):rH l n = some (jO n (cy l)):=by
  obtain ⟨c1,_,c3⟩:=cE l
  have:=QW n (cy l) (P1 c1 (by omega)) (by omega) (cy l).length 0 n [] (by omega) h1 h2 (by simp)
  rw [show ((0:Nat):Int) = 0 from rfl,List.drop_zero,List.nil_append] at this
  show (nG l n).opt = _
  simp only [nG,oT]
  rw [mG l hl,Option.bind_some]
  show (fixL (gG n (cy l) (((cy l).length:Nat):Int)) (n,([]:List ab),(0:Int))).bind _ = _
  rw [this,Option.bind_some]
  rfl
end Go.Ax
