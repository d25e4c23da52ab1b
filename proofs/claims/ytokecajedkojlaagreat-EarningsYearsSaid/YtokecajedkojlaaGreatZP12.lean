import Derived.Test.YtokecajedkojlaaGreatZP11
set_option linter.all false
/- Spans of facts; the first days of a list; the days under a law; credits. -/
set_option maxRecDepth 100000
namespace Go.Ax
theorem Qi (a b out:List GSpan) (i j:Nat) (hi:i < a.length) (hj:j < b.length) (ha:a.length≤1000000) (hb:b.length≤1000000) (ho:out.length≤2000000) :
    bH (i:Int) (j:Int) a b out = if a[i].To < b[j].To then bH ((i+1:Nat):Int) (j:Int) a b (out++tS a[i] b[j]) else bH (i:Int) ((j+1:Nat):Int) a b (out++tS a[i] b[j]):=by
  rw [ik]
  simp only [aT hi,aT hj,br,cond_true,aC,be hi,be hj,uG,bf hi (by omega),bf hj (by omega)]
  generalize a[i] = s
  generalize b[j] = t
  have hm:tS s t = if (if s.From < t.From then t.From else s.From) < (if t.To < s.To then t.To else s.To) then [GSpan.mk (if s.From < t.From then t.From else s.From) (if t.To < s.To then t.To else s.To)] else []:=rfl
  rw [hm]
  have e1:(bif aa (s.From < t.From) then t.From else s.From) = (if s.From < t.From then t.From else s.From):=by by_cases h:s.From < t.From <;> simp [h]
  have e2:(bif aa (t.To < s.To) then t.To else s.To) = (if t.To < s.To then t.To else s.To):=by by_cases h:t.To < s.To <;> simp [h]
  rw [e1,e2,jx (by omega) (by omega)]
  generalize (if s.From < t.From then t.From else s.From) = x
  generalize (if t.To < s.To then t.To else s.To) = y
  by_cases hk:x < y
  · rw [ay hk,cond_true,if_pos hk]
    by_cases hc:s.To < t.To
    · rw [ay hc,cond_true,if_pos hc]
    · rw [aB hc,cond_false,if_neg hc]
  · rw [aB hk,cond_false,if_neg hk,List.append_nil]
    by_cases hc:s.To < t.To
    · rw [ay hc,cond_true,if_pos hc]
    · rw [aB hc,cond_false,if_neg hc]
theorem P9 (a b:List GSpan) (ha:a.length≤1000000) (hb:b.length≤1000000):∀ (n i j:Nat) (out:List GSpan),(a.length - i)+(b.length - j)≤n→i≤a.length→j≤b.length→out.length≤i+j →
    bH (i:Int) (j:Int) a b out = some (out++et (a.drop i) (b.drop j)):=by
  intro n
  have enda:∀ (j:Nat) (out:List GSpan),bH (a.length:Int) (j:Int) a b out = some (out++et (a.drop a.length) (b.drop j)):=by
    intro j out
    rw [ik,bg,cond_false,cond_false,List.drop_length,pn,List.append_nil]
  induction n with
  | zero =>
    intro i j out h hi hj ho
    have e:i = a.length:=by omega
    subst e
    exact enda j out
  | succ n ih =>
    intro i j out h hi hj ho
    by_cases hi':i < a.length
    · by_cases hj':j < b.length
      · have h1:=GQ a[i] b[j]
        rw [Qi a b out i j hi' hj' ha hb (by omega),List.drop_eq_getElem_cons hi',List.drop_eq_getElem_cons hj',m6]
        by_cases hc:a[i].To < b[j].To
        · rw [if_pos hc,if_pos hc]
          rw [ih (i+1) j _ (by omega) (by omega) hj (by rw [List.length_append]; omega),List.append_assoc, ← List.drop_eq_getElem_cons hj']
        · rw [if_neg hc,if_neg hc]
          rw [ih i (j+1) _ (by omega) hi (by omega) (by rw [List.length_append]; omega),List.append_assoc, ← List.drop_eq_getElem_cons hi']
      · have e:j = b.length:=by omega
        subst e
        rw [ik,aT hi',cond_true,bg,cond_false,List.drop_length (l:=b),ng,List.append_nil]
    · have e:i = a.length:=by omega
      subst e
      exact enda j out
theorem qr (l:List GSpan) (s:GSpan) (hn:l.length≤1000000):o8 l s = some (bi l s):=by
  have h1:=dn l
  have h2:=dn [s]
  have h2':(bE [s]).length≤1:=h2.2.2
  have:=P9 (bE l) (bE [s]) (by omega) (by omega) _ 0 0 [] (Nat.le_refl _) (by omega) (by omega) (by simp)
  rw [show ((0:Nat):Int) = 0 from rfl,List.drop_zero,List.drop_zero] at this
  rw [KA,BA,mz l (by omega),Option.bind_some,mz [s] (by simp),Option.bind_some,this]
  rfl
def xE (kind state:Int) (f:GFact):Bool:=af f.Kind kind&&af f.State state
noncomputable def tK (l:List GFact) (kind state:Int):List GSpan:=((l.filter bC).filter (xE kind state)).map GFact.Span
theorem Om (l:List GFact) (kind state:Int):(tK l kind state).length≤l.length:=by
  unfold tK
  have h1:=List.length_filter_le bC l
  have h2:=List.length_filter_le (xE kind state) (l.filter bC)
  simp only [List.length_map]
  omega
theorem N6 {T:Type} (p q:T→Bool) (l:List T):(l.filter p).filter q = l.filter fun x=>p x&&q x:=by
  rw [List.filter_filter]
  congr 1; funext x; exact Bool.and_comm _ _
theorem Fp (l:List GFact) (kind state:Int) (hn:l.length≤100000):wL l kind state = some (bi (tK l kind state) (ig l)):=by
  have hs:=Om l kind state
  have hf:=List.length_filter_le bC l
  rw [IV,eD l (by omega),Option.bind_some]
  unfold tK at hs ⊢
  generalize l.filter bC = c at hs hf
  refine (xQ c (fun i out=>db l kind state i c out) (xE kind state) GFact.Span fun i out hi ho=>?_).trans ?_
  · show db _ _ _ _ _ _ = db _ _ _ _ _ _
    rw [pO]
    simp only [aT hi,br,cond_true,aC,Bool.or_true,be hi,bf hi (by omega)]
    rw [jx (by omega) (by omega),bD]
    show (bif xE kind state c[i] then _ else _) = _
    cases xE kind state c[i] <;> rfl
  · show db _ _ _ _ _ _ = _
    rw [pO,bg,cond_false,gI l (by omega),Option.bind_some,fU _ _ (by omega)]
    rfl
def EN (m:List GSpan):Prop:=∀ s∈m,0≤s.From∧s.From < s.To∧s.To≤73049
theorem uY:∀ {l:List GSpan} {lo:Int},bV lo l→-1≤lo→EN l
  | [],_,_,_=>fun s h=>by cases h
  | s :: r,lo,h,h0=>by
    unfold bV at h
    intro x hx
    rcases List.mem_cons.1 hx with e | e
    · subst e; omega
    · exact uY h.2.2.2 (by omega) x e
theorem La:∀ {l:List GSpan} {lo:Int},bV lo l→(l.length:Int)≤73049 - lo∨l = []
  | [],_,_=>.inr rfl
  | s :: r,lo,h=>by
    unfold bV at h
    left
    rcases La h.2.2.2 with e | e
    · rw [List.length_cons]; omega
    · subst e; simp; omega
theorem o4 {l:List GSpan} (h:bV (-1) l):l.length≤73050:=by
  rcases La h with e | e
  · omega
  · subst e; simp
def pm (n:Int):List GSpan→List GSpan
  | []=>[]
  | s :: r=>if n < 1 then [] else if n < s.To - s.From then [⟨s.From,s.From+n⟩] else s :: pm (n - (s.To - s.From)) r
theorem J3 {n:Int} (h:n < 1) (l:List GSpan):pm n l = []:=by
  cases l with
  | nil=>rfl
  | cons s r=>rw [pm,if_pos h]
theorem JI:∀ (l:List GSpan) (n:Int),(pm n l).length≤l.length
  | [],_=>by simp [pm]
  | s :: r,n=>by
    rw [pm]
    split
    · simp
    · split
      · simp
      · have:=JI r (n - (s.To - s.From)); simp; omega
theorem MY (m:List GSpan) (hm:EN m) (hl:m.length≤1000000):∀ (k i:Nat) (n:Int) (out:List GSpan),m.length = i+k→n≤1000000000000→-1000000000000≤n→out.length≤i →
    jU n (i:Int) out m = some (out++pm n (m.drop i)):=by
  intro k
  induction k with
  | zero =>
    intro i n out h _ _ _
    have:i = m.length:=by omega
    subst this
    rw [p7,bg,cond_false,cond_false,List.drop_length]
    simp [pm]
  | succ k ih =>
    intro i n out h hn hn' ho
    have hi:i < m.length:=by omega
    obtain ⟨h0,h1,h2⟩:=hm m[i] (List.getElem_mem hi)
    rw [p7]
    simp only [aT hi,br,cond_true,aC,Bool.or_true,be hi,bf hi (by omega)]
    by_cases hn1:n < 1
    · rw [aB (p:=0 < n) (by omega),cond_false,J3 hn1]
      simp
    · rw [ay (p:=0 < n) (by omega),cond_true,jx (by omega) (by omega),List.drop_eq_getElem_cons hi,pm,if_neg hn1,ai (n:=m[i].To - m[i].From) (by omega) (by omega)]
      by_cases hc:n < m[i].To - m[i].From
      · rw [aB (p:=m[i].To - m[i].From < n) (by omega),cond_false,if_pos hc,ai (n:=n - n) (by omega) (by omega),ai (n:=m[i].From+n) (by omega) (by omega)]
        rw [ih (i+1) _ _ (by omega) (by omega) (by omega) (by simp; omega),J3 (by omega),List.append_nil]
      · have e:(bif aa (m[i].To - m[i].From < n) then m[i].To - m[i].From else n) = m[i].To - m[i].From:=by
          by_cases h:m[i].To - m[i].From < n
          · rw [ay h]; rfl
          · rw [aB h,cond_false]; omega
        have e2:GSpan.mk m[i].From (m[i].From+(m[i].To - m[i].From)) = m[i]:=by
          rw [show m[i].From+(m[i].To - m[i].From) = m[i].To by omega]
        rw [e,if_neg hc,ai (n:=n - (m[i].To - m[i].From)) (by omega) (by omega),ai (n:=m[i].From+(m[i].To - m[i].From)) (by omega) (by omega),e2]
        rw [ih (i+1) _ _ (by omega) (by omega) (by omega) (by simp; omega),List.append_assoc]
        rfl
theorem F9 (l:List GSpan) (n:Int) (hl:l.length≤100000) (h1:n≤1000000000000) (h2:-1000000000000≤n):wS l n = some (pm n (bE l)):=by
  obtain ⟨c1,_,c3⟩:=dn l
  have:=MY (bE l) (uY c1 (by omega)) (by omega) (bE l).length 0 n [] (by omega) h1 h2 (by simp)
  rw [show ((0:Nat):Int) = 0 from rfl,List.drop_zero,List.nil_append] at this
  rw [IC,fw l (by omega),Option.bind_some,this]
def EY (state rule:Int) (x:GSegment):Bool:=af x.State state&&aa (x.Rule≤rule)
def oX (law:List GSegment) (state rule:Int):List GSpan:=(law.filter (EY state rule)).map GSegment.Span
theorem E5 (law:List GSegment) (s r:Int):(oX law s r).length≤law.length:=by
  unfold oX
  rw [List.length_map]
  exact List.length_filter_le _ _
theorem Gl (law:List GSegment) (s r:Int) (hl:law.length≤100000):xf law s r = some (bE (oX law s r)):=by
  have:=E5 law s r
  rw [Ip]
  refine (xQ law (fun i out=>dI law s r i out) (EY s r) GSegment.Span fun i out hi ho=>?_).trans ?_
  · show dI _ _ _ _ _ = dI _ _ _ _ _
    rw [ry]
    simp only [aT hi,br,cond_true,aC,Bool.or_true,be hi,bf hi (by omega)]
    rw [jx (by omega) (by omega),bD]
    show (bif EY s r law[i] then _ else _) = _
    cases EY s r law[i] <;> rfl
  · show dI _ _ _ _ (oX law s r) = _
    rw [ry,bg,cond_false,fw _ (by omega)]; rfl
def nK (kind:Int):List GCredit→Int × Bool
  | []=>(0,false)
  | c :: r=>if c.Kind = kind then (c.Limit,true) else nK kind r
theorem E8 (v:GVersion) (k:Int) (hl:v.Credits.length≤1000000):wr v k = some (nK k v.Credits):=by
  rw [Hh]
  have key:∀ (n i:Nat),v.Credits.length = i+n→lu k (i:Int) v.From v.Rounding v.Credits v.Series v.Lets v.Grants v.Reduces = some (nK k (v.Credits.drop i)):=by
    intro n
    induction n with
    | zero =>
      intro i h
      have:i = v.Credits.length:=by omega
      subst this
      rw [rX,bg,List.drop_length]; rfl
    | succ n ih =>
      intro i h
      have hi:i < v.Credits.length:=by omega
      rw [rX]
      simp only [aT hi,br,cond_true,aC,Bool.or_true,be hi,bf hi (by omega)]
      rw [List.drop_eq_getElem_cons hi,nK]
      by_cases hk:v.Credits[i].Kind = k
      · rw [if_pos hk,cY.2 hk]; rfl
      · rw [if_neg hk,fI.2 hk]; exact ih (i+1) (by omega)
  have:=key v.Credits.length 0 (by omega)
  rwa [List.drop_zero] at this
end Go.Ax
