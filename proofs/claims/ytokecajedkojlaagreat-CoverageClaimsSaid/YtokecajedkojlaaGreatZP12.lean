import Derived.Test.YtokecajedkojlaaGreatZP11
set_option linter.all false
/- Spans of facts; the first days of a list; the days under a law; credits. -/
set_option maxRecDepth 100000
namespace Go.Ax
theorem KA (a b out:List GSpan) (i j:Nat) (hi:i < a.length) (hj:j < b.length) (ha:a.length≤1000000) (hb:b.length≤1000000) (ho:out.length≤2000000) :
    bq (i:Int) (j:Int) a b out = if a[i].To < b[j].To then bq ((i+1:Nat):Int) (j:Int) a b (out++n8 a[i] b[j]) else bq (i:Int) ((j+1:Nat):Int) a b (out++n8 a[i] b[j]):=by
  rw [fP]
  simp only [be hi,be hj,bA,cond_true,aC,bK hi,bK hj,rr,bc hi (by omega),bc hj (by omega)]
  generalize a[i] = s
  generalize b[j] = t
  have hm:n8 s t = if (if s.From < t.From then t.From else s.From) < (if t.To < s.To then t.To else s.To) then [GSpan.mk (if s.From < t.From then t.From else s.From) (if t.To < s.To then t.To else s.To)] else []:=rfl
  rw [hm]
  have e1:(bif aa (s.From < t.From) then t.From else s.From) = (if s.From < t.From then t.From else s.From):=by by_cases h:s.From < t.From <;> simp [h]
  have e2:(bif aa (t.To < s.To) then t.To else s.To) = (if t.To < s.To then t.To else s.To):=by by_cases h:t.To < s.To <;> simp [h]
  rw [e1,e2,im (by omega) (by omega)]
  generalize (if s.From < t.From then t.From else s.From) = x
  generalize (if t.To < s.To then t.To else s.To) = y
  by_cases hk:x < y
  · rw [bG hk,cond_true,if_pos hk]
    by_cases hc:s.To < t.To
    · rw [bG hc,cond_true,if_pos hc]
    · rw [dB hc,cond_false,if_neg hc]
  · rw [dB hk,cond_false,if_neg hk,List.append_nil]
    by_cases hc:s.To < t.To
    · rw [bG hc,cond_true,if_pos hc]
    · rw [dB hc,cond_false,if_neg hc]
theorem K7 (a b:List GSpan) (ha:a.length≤1000000) (hb:b.length≤1000000):∀ (n i j:Nat) (out:List GSpan),(a.length - i)+(b.length - j)≤n→i≤a.length→j≤b.length→out.length≤i+j →
    bq (i:Int) (j:Int) a b out = some (out++dC (a.drop i) (b.drop j)):=by
  intro n
  have enda:∀ (j:Nat) (out:List GSpan),bq (a.length:Int) (j:Int) a b out = some (out++dC (a.drop a.length) (b.drop j)):=by
    intro j out
    rw [fP,bm,cond_false,cond_false,List.drop_length,iI,List.append_nil]
  induction n with
  | zero =>
    intro i j out h hi hj ho
    have e:i = a.length:=by omega
    subst e
    exact enda j out
  | succ n ih =>
    intro i j out h hi hj ho
    by_cases hi':i < a.length
    · by_cases hj':j < b.length
      · have h1:=DC a[i] b[j]
        rw [KA a b out i j hi' hj' ha hb (by omega),List.drop_eq_getElem_cons hi',List.drop_eq_getElem_cons hj',jt]
        by_cases hc:a[i].To < b[j].To
        · rw [if_pos hc,if_pos hc]
          rw [ih (i+1) j _ (by omega) (by omega) hj (by rw [List.length_append]; omega),List.append_assoc, ← List.drop_eq_getElem_cons hj']
        · rw [if_neg hc,if_neg hc]
          rw [ih i (j+1) _ (by omega) hi (by omega) (by rw [List.length_append]; omega),List.append_assoc, ← List.drop_eq_getElem_cons hi']
      · have e:j = b.length:=by omega
        subst e
        rw [fP,be hi',cond_true,bm,cond_false,List.drop_length (l:=b),jo,List.append_nil]
    · have e:i = a.length:=by omega
      subst e
      exact enda j out
theorem ic (l:List GSpan) (s:GSpan) (hn:l.length≤1000000):iP l s = some (bp l s):=by
  have h1:=cw l
  have h2:=cw [s]
  have h2':(aV [s]).length≤1:=h2.2.2
  have:=K7 (aV l) (aV [s]) (by omega) (by omega) _ 0 0 [] (Nat.le_refl _) (by omega) (by omega) (by simp)
  rw [show ((0:Nat):Int) = 0 from rfl,List.drop_zero,List.drop_zero] at this
  rw [FU,xl,ii l (by omega),Option.bind_some,ii [s] (by simp),Option.bind_some,this]
  rfl
def kS (kind state:Int) (f:GFact):Bool:=ah f.Kind kind&&ah f.State state
noncomputable def df (l:List GFact) (kind state:Int):List GSpan:=((l.filter aU).filter (kS kind state)).map GFact.Span
theorem zG (l:List GFact) (kind state:Int):(df l kind state).length≤l.length:=by
  unfold df
  have h1:=List.length_filter_le aU l
  have h2:=List.length_filter_le (kS kind state) (l.filter aU)
  simp only [List.length_map]
  omega
theorem JH {T:Type} (p q:T→Bool) (l:List T):(l.filter p).filter q = l.filter fun x=>p x&&q x:=by
  rw [List.filter_filter]
  congr 1; funext x; exact Bool.and_comm _ _
theorem AK (l:List GFact) (kind state:Int) (hn:l.length≤100000):rb l kind state = some (bp (df l kind state) (dw l)):=by
  have hs:=zG l kind state
  rw [Bl]
  have e:df l kind state = (l.filter fun f=>aU f&&kS kind state f).map GFact.Span:=by unfold df; rw [JH]
  refine (tU l (fun i out=>cM l kind state l (l.length:Int) i out) (fun f=>aU f&&kS kind state f) GFact.Span fun i out hi ho=>?_).trans ?_
  · show cM _ _ _ _ _ _ _ = cM _ _ _ _ _ _ _
    rw [m8]
    simp only [be hi,bA,cond_true,aC,Bool.or_true,bK hi,bc hi (by omega)]
    rw [jX,Option.bind_some,im (by omega) (by omega)]
    unfold kS
    cases aU l[i] <;> cases ah l[i].Kind kind <;> cases ah l[i].State state <;> rfl
  · rw [← e]
    show cM _ _ _ _ _ _ _ = _
    rw [m8,bm,cond_false,sf l (by omega),Option.bind_some,ic _ _ (by omega)]
    rfl
theorem Bf (l:List GFact) (kind state:Int) (hn:l.length≤100000):sZ l kind state = some (bp (df l kind state) (dw l)):=by
  have hs:=zG l kind state
  have hf:=List.length_filter_le aU l
  rw [C4,dF l (by omega),Option.bind_some]
  unfold df at hs ⊢
  generalize l.filter aU = c at hs hf
  refine (tU c (fun i out=>cC l kind state i c out) (kS kind state) GFact.Span fun i out hi ho=>?_).trans ?_
  · show cC _ _ _ _ _ _ = cC _ _ _ _ _ _
    rw [no]
    simp only [be hi,bA,cond_true,aC,Bool.or_true,bK hi,bc hi (by omega)]
    rw [im (by omega) (by omega),bM]
    show (bif kS kind state c[i] then _ else _) = _
    cases kS kind state c[i] <;> rfl
  · show cC _ _ _ _ _ _ = _
    rw [no,bm,cond_false,il l (by omega),Option.bind_some,lI _ _ (by omega)]
    rfl
def PI (m:List GSpan):Prop:=∀ s∈m,0≤s.From∧s.From < s.To∧s.To≤73049
theorem Aa:∀ {l:List GSpan} {lo:Int},cg lo l→-1≤lo→PI l
  | [],_,_,_=>fun s h=>by cases h
  | s :: r,lo,h,h0=>by
    unfold cg at h
    intro x hx
    rcases List.mem_cons.1 hx with e | e
    · subst e; omega
    · exact Aa h.2.2.2 (by omega) x e
theorem Gu:∀ {l:List GSpan} {lo:Int},cg lo l→(l.length:Int)≤73049 - lo∨l = []
  | [],_,_=>.inr rfl
  | s :: r,lo,h=>by
    unfold cg at h
    left
    rcases Gu h.2.2.2 with e | e
    · rw [List.length_cons]; omega
    · subst e; simp; omega
theorem Cw {l:List GSpan} (h:cg (-1) l):l.length≤73050:=by
  rcases Gu h with e | e
  · omega
  · subst e; simp
def gI (n:Int):List GSpan→List GSpan
  | []=>[]
  | s :: r=>if n < 1 then [] else if n < s.To - s.From then [⟨s.From,s.From+n⟩] else s :: gI (n - (s.To - s.From)) r
theorem xb {n:Int} (h:n < 1) (l:List GSpan):gI n l = []:=by
  cases l with
  | nil=>rfl
  | cons s r=>rw [gI,if_pos h]
theorem xc:∀ (l:List GSpan) (n:Int),(gI n l).length≤l.length
  | [],_=>by simp [gI]
  | s :: r,n=>by
    rw [gI]
    split
    · simp
    · split
      · simp
      · have:=xc r (n - (s.To - s.From)); simp; omega
theorem Jk (m:List GSpan) (hm:PI m) (hl:m.length≤1000000):∀ (k i:Nat) (n:Int) (out:List GSpan),m.length = i+k→n≤1000000000000→-1000000000000≤n→out.length≤i →
    iN n (m.length:Int) (i:Int) out m = some (out++gI n (m.drop i)):=by
  intro k
  induction k with
  | zero =>
    intro i n out h _ _ _
    have:i = m.length:=by omega
    subst this
    rw [np,bm,cond_false,List.drop_length]
    simp [gI]
  | succ k ih =>
    intro i n out h hn hn' ho
    have hi:i < m.length:=by omega
    obtain ⟨h0,h1,h2⟩:=hm m[i] (List.getElem_mem hi)
    rw [np]
    simp only [td]
    simp only [be hi,bA,cond_true,aC,Bool.or_true,bK hi,bc hi (by omega)]
    rw [List.drop_eq_getElem_cons hi,gI]
    by_cases hn1:n < 1
    · rw [bG hn1,cond_true,if_pos hn1,List.append_nil]
    · rw [dB hn1,cond_false,if_neg hn1,ak (n:=m[i].To - m[i].From) (by omega) (by omega)]
      by_cases hc:n < m[i].To - m[i].From
      · rw [bG hc,cond_true,if_pos hc,im (by omega) (by omega),ak (n:=m[i].From+n) (by omega) (by omega),ak (n:=m[i].From+n - m[i].From) (by omega) (by omega),ak (n:=n - (m[i].From+n - m[i].From)) (by omega) (by omega)]
        rw [ih (i+1) _ _ (by omega) (by omega) (by omega) (by simp; omega),xb (by omega),List.append_nil]
      · rw [dB hc,cond_false,if_neg hc,im (by omega) (by omega),ak (n:=n - (m[i].To - m[i].From)) (by omega) (by omega)]
        rw [ih (i+1) _ _ (by omega) (by omega) (by omega) (by simp; omega),List.append_assoc]
        rfl
theorem rm (l:List GSpan) (n:Int) (hl:l.length≤1000000) (h1:n≤1000000000000) (h2:-1000000000000≤n):jT l n = some (gI n (aV l)):=by
  obtain ⟨c1,_,c3⟩:=cw l
  have:=Jk (aV l) (Aa c1 (by omega)) (by omega) (aV l).length 0 n [] (by omega) h1 h2 (by simp)
  rw [show ((0:Nat):Int) = 0 from rfl,List.drop_zero,List.nil_append] at this
  rw [Bz,ii l (by omega),Option.bind_some,this]
theorem GZ (m:List GSpan) (hm:PI m) (hl:m.length≤1000000):∀ (k i:Nat) (n:Int) (out:List GSpan),m.length = i+k→n≤1000000000000→-1000000000000≤n→out.length≤i →
    iL n (i:Int) out m = some (out++gI n (m.drop i)):=by
  intro k
  induction k with
  | zero =>
    intro i n out h _ _ _
    have:i = m.length:=by omega
    subst this
    rw [nf,bm,cond_false,cond_false,List.drop_length]
    simp [gI]
  | succ k ih =>
    intro i n out h hn hn' ho
    have hi:i < m.length:=by omega
    obtain ⟨h0,h1,h2⟩:=hm m[i] (List.getElem_mem hi)
    rw [nf]
    simp only [be hi,bA,cond_true,aC,Bool.or_true,bK hi,bc hi (by omega)]
    by_cases hn1:n < 1
    · rw [dB (p:=0 < n) (by omega),cond_false,xb hn1]
      simp
    · rw [bG (p:=0 < n) (by omega),cond_true,im (by omega) (by omega),List.drop_eq_getElem_cons hi,gI,if_neg hn1,ak (n:=m[i].To - m[i].From) (by omega) (by omega)]
      by_cases hc:n < m[i].To - m[i].From
      · rw [dB (p:=m[i].To - m[i].From < n) (by omega),cond_false,if_pos hc,ak (n:=n - n) (by omega) (by omega),ak (n:=m[i].From+n) (by omega) (by omega)]
        rw [ih (i+1) _ _ (by omega) (by omega) (by omega) (by simp; omega),xb (by omega),List.append_nil]
      · have e:(bif aa (m[i].To - m[i].From < n) then m[i].To - m[i].From else n) = m[i].To - m[i].From:=by
          by_cases h:m[i].To - m[i].From < n
          · rw [bG h]; rfl
          · rw [dB h,cond_false]; omega
        have e2:GSpan.mk m[i].From (m[i].From+(m[i].To - m[i].From)) = m[i]:=by
          rw [show m[i].From+(m[i].To - m[i].From) = m[i].To by omega]
        rw [e,if_neg hc,ak (n:=n - (m[i].To - m[i].From)) (by omega) (by omega),ak (n:=m[i].From+(m[i].To - m[i].From)) (by omega) (by omega),e2]
        rw [ih (i+1) _ _ (by omega) (by omega) (by omega) (by simp; omega),List.append_assoc]
        rfl
theorem CA (l:List GSpan) (n:Int) (hl:l.length≤100000) (h1:n≤1000000000000) (h2:-1000000000000≤n):tq l n = some (gI n (aV l)):=by
  obtain ⟨c1,_,c3⟩:=cw l
  have:=GZ (aV l) (Aa c1 (by omega)) (by omega) (aV l).length 0 n [] (by omega) h1 h2 (by simp)
  rw [show ((0:Nat):Int) = 0 from rfl,List.drop_zero,List.nil_append] at this
  rw [Dp,jY l hl,Option.bind_some,this]
def qH (state rule:Int) (x:GSegment):Bool:=ah x.State state&&aa (x.Rule≤rule)
def gz (law:List GSegment) (state rule:Int):List GSpan:=(law.filter (qH state rule)).map GSegment.Span
theorem qe (law:List GSegment) (s r:Int):(gz law s r).length≤law.length:=by
  unfold gz
  rw [List.length_map]
  exact List.length_filter_le _ _
theorem uB (law:List GSegment) (s r:Int) (hl:law.length≤100000):lU law s r = some (aV (gz law s r)):=by
  have:=qe law s r
  rw [wC]
  refine (tU law (fun i out=>bE s r law (law.length:Int) i out) (qH s r) GSegment.Span fun i out hi ho=>?_).trans ?_
  · show bE _ _ _ _ _ _ = bE _ _ _ _ _ _
    rw [kY]
    simp only [be hi,bA,cond_true,aC,Bool.or_true,bK hi,bc hi (by omega)]
    rw [im (by omega) (by omega),bM]
    show (bif qH s r law[i] then _ else _) = _
    cases qH s r law[i] <;> rfl
  · show bE _ _ _ _ _ (gz law s r) = _
    rw [kY,bm,cond_false,ii _ (by omega)]; rfl
theorem BS (law:List GSegment) (s r:Int) (hl:law.length≤100000):sP law s r = some (aV (gz law s r)):=by
  have:=qe law s r
  rw [Ea]
  refine (tU law (fun i out=>da law s r i out) (qH s r) GSegment.Span fun i out hi ho=>?_).trans ?_
  · show da _ _ _ _ _ = da _ _ _ _ _
    rw [pb]
    simp only [be hi,bA,cond_true,aC,Bool.or_true,bK hi,bc hi (by omega)]
    rw [im (by omega) (by omega),bM]
    show (bif qH s r law[i] then _ else _) = _
    cases qH s r law[i] <;> rfl
  · show da _ _ _ _ (gz law s r) = _
    rw [pb,bm,cond_false,jY _ (by omega)]; rfl
def dx (kind:Int):List GCredit→Int × Bool
  | []=>(0,false)
  | c :: r=>if c.Kind = kind then (c.Limit,true) else dx kind r
theorem KC (l:List GCredit) (k:Int) (hl:l.length≤1000000):∀ (n i:Nat),l.length = i+n →
    (cf l k (l.length:Int) (i:Int) = some (-1)∧dx k (l.drop i) = (0,false)) ∨
    ∃ j:Nat, ∃ h:j < l.length,cf l k (l.length:Int) (i:Int) = some (j:Int)∧dx k (l.drop i) = (l[j].Limit,true):=by
  intro n
  induction n with
  | zero =>
    intro i h
    have:i = l.length:=by omega
    subst this
    left
    exact ⟨by rw [la,bm]; rfl,by rw [List.drop_length]; rfl⟩
  | succ n ih =>
    intro i h
    have hi:i < l.length:=by omega
    have e:cf l k (l.length:Int) (i:Int) = if l[i].Kind = k then some (i:Int) else cf l k (l.length:Int) ((i+1:Nat):Int):=by
      rw [la]
      simp only [be hi,bA,cond_true,aC,Bool.or_true,bK hi,bc hi (by omega)]
      rw [ww,Option.bind_some]
      by_cases hk:l[i].Kind = k
      · rw [if_pos hk,dn.2 hk]; rfl
      · rw [if_neg hk,lG.2 hk]; rfl
    rw [e,List.drop_eq_getElem_cons hi,dx]
    by_cases hk:l[i].Kind = k
    · right
      exact ⟨i,hi,by rw [if_pos hk],by rw [if_pos hk]⟩
    · rw [if_neg hk,if_neg hk]
      exact ih (i+1) (by omega)
theorem xg (v:GVersion) (k:Int) (hl:v.Credits.length≤1000000):nS v k = some (dx k v.Credits):=by
  rw [zb,wG]
  have:=KC v.Credits k hl v.Credits.length 0 (by omega)
  rw [show ((0:Nat):Int) = 0 from rfl,List.drop_zero] at this
  rcases this with ⟨h1,h2⟩ | ⟨j,hj,h1,h2⟩
  · rw [h1,h2]; rfl
  · rw [h1,h2,Option.bind_some,dB (p:=(j:Int) < 0) (by omega),cond_false]
    simp only [be hj,bA,cond_true,aC,Bool.or_true,bK hj,bc hj (by omega)]
theorem BW (v:GVersion) (k:Int) (hl:v.Credits.length≤1000000):th v k = some (dx k v.Credits):=by
  rw [DW]
  have key:∀ (n i:Nat),v.Credits.length = i+n→jF k (i:Int) v.From v.Rounding v.Credits v.Series v.Lets v.Grants v.Reduces = some (dx k (v.Credits.drop i)):=by
    intro n
    induction n with
    | zero =>
      intro i h
      have:i = v.Credits.length:=by omega
      subst this
      rw [oH,bm,List.drop_length]; rfl
    | succ n ih =>
      intro i h
      have hi:i < v.Credits.length:=by omega
      rw [oH]
      simp only [be hi,bA,cond_true,aC,Bool.or_true,bK hi,bc hi (by omega)]
      rw [List.drop_eq_getElem_cons hi,dx]
      by_cases hk:v.Credits[i].Kind = k
      · rw [if_pos hk,dn.2 hk]; rfl
      · rw [if_neg hk,lG.2 hk]; exact ih (i+1) (by omega)
  have:=key v.Credits.length 0 (by omega)
  rwa [List.drop_zero] at this
end Go.Ax
