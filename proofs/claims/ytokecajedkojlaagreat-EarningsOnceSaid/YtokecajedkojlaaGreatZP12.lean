import Derived.Test.YtokecajedkojlaaGreatZP11
set_option linter.all false
/- Spans of facts; the first days of a list; the days under a law; credits. -/
set_option maxRecDepth 100000
namespace Go.Ax
theorem Re (a b out:List GSpan) (i j:Nat) (hi:i < a.length) (hj:j < b.length) (ha:a.length≤1000000) (hb:b.length≤1000000) (ho:out.length≤2000000) :
    bG (i:Int) (j:Int) a b out = if a[i].To < b[j].To then bG ((i+1:Nat):Int) (j:Int) a b (out++uY a[i] b[j]) else bG (i:Int) ((j+1:Nat):Int) a b (out++uY a[i] b[j]):=by
  rw [it]
  simp only [aP hi,aP hj,bj,cond_true,ay,bd hi,bd hj,uA,aW hi (by omega),aW hj (by omega)]
  generalize a[i] = s
  generalize b[j] = t
  have hm:uY s t = if (if s.From < t.From then t.From else s.From) < (if t.To < s.To then t.To else s.To) then [GSpan.mk (if s.From < t.From then t.From else s.From) (if t.To < s.To then t.To else s.To)] else []:=rfl
  rw [hm]
  have e1:(bif aa (s.From < t.From) then t.From else s.From) = (if s.From < t.From then t.From else s.From):=by by_cases h:s.From < t.From <;> simp [h]
  have e2:(bif aa (t.To < s.To) then t.To else s.To) = (if t.To < s.To then t.To else s.To):=by by_cases h:t.To < s.To <;> simp [h]
  rw [e1,e2,jO (by omega) (by omega)]
  generalize (if s.From < t.From then t.From else s.From) = x
  generalize (if t.To < s.To then t.To else s.To) = y
  by_cases hk:x < y
  · rw [aB hk,cond_true,if_pos hk]
    by_cases hc:s.To < t.To
    · rw [aB hc,cond_true,if_pos hc]
    · rw [aE hc,cond_false,if_neg hc]
  · rw [aE hk,cond_false,if_neg hk,List.append_nil]
    by_cases hc:s.To < t.To
    · rw [aB hc,cond_true,if_pos hc]
    · rw [aE hc,cond_false,if_neg hc]
theorem Rr (a b:List GSpan) (ha:a.length≤1000000) (hb:b.length≤1000000):∀ (n i j:Nat) (out:List GSpan),(a.length - i)+(b.length - j)≤n→i≤a.length→j≤b.length→out.length≤i+j →
    bG (i:Int) (j:Int) a b out = some (out++eH (a.drop i) (b.drop j)):=by
  intro n
  have enda:∀ (j:Nat) (out:List GSpan),bG (a.length:Int) (j:Int) a b out = some (out++eH (a.drop a.length) (b.drop j)):=by
    intro j out
    rw [it,aX,cond_false,cond_false,List.drop_length,pB,List.append_nil]
  induction n with
  | zero =>
    intro i j out h hi hj ho
    have e:i = a.length:=by omega
    subst e
    exact enda j out
  | succ n ih =>
    intro i j out h hi hj ho
    by_cases hi':i < a.length
    · by_cases hj':j < b.length
      · have h1:=H7 a[i] b[j]
        rw [Re a b out i j hi' hj' ha hb (by omega),List.drop_eq_getElem_cons hi',List.drop_eq_getElem_cons hj',nr]
        by_cases hc:a[i].To < b[j].To
        · rw [if_pos hc,if_pos hc]
          rw [ih (i+1) j _ (by omega) (by omega) hj (by rw [List.length_append]; omega),List.append_assoc, ← List.drop_eq_getElem_cons hj']
        · rw [if_neg hc,if_neg hc]
          rw [ih i (j+1) _ (by omega) hi (by omega) (by rw [List.length_append]; omega),List.append_assoc, ← List.drop_eq_getElem_cons hi']
      · have e:j = b.length:=by omega
        subst e
        rw [it,aP hi',cond_true,aX,cond_false,List.drop_length (l:=b),nD,List.append_nil]
    · have e:i = a.length:=by omega
      subst e
      exact enda j out
theorem qG (l:List GSpan) (s:GSpan) (hn:l.length≤1000000):o0 l s = some (aU l s):=by
  have h1:=cV l
  have h2:=cV [s]
  have h2':(bE [s]).length≤1:=h2.2.2
  have:=Rr (bE l) (bE [s]) (by omega) (by omega) _ 0 0 [] (Nat.le_refl _) (by omega) (by omega) (by simp)
  rw [show ((0:Nat):Int) = 0 from rfl,List.drop_zero,List.drop_zero] at this
  rw [KK,Ba,mr l (by omega),Option.bind_some,mr [s] (by simp),Option.bind_some,this]
  rfl
def x0 (kind state:Int) (f:GFact):Bool:=af f.Kind kind&&af f.State state
noncomputable def ue (l:List GFact) (kind state:Int):List GSpan:=((l.filter bp).filter (x0 kind state)).map GFact.Span
theorem OG (l:List GFact) (kind state:Int):(ue l kind state).length≤l.length:=by
  unfold ue
  have h1:=List.length_filter_le bp l
  have h2:=List.length_filter_le (x0 kind state) (l.filter bp)
  simp only [List.length_map]
  omega
theorem Pl {T:Type} (p q:T→Bool) (l:List T):(l.filter p).filter q = l.filter fun x=>p x&&q x:=by
  rw [List.filter_filter]
  congr 1; funext x; exact Bool.and_comm _ _
theorem Fx (l:List GFact) (kind state:Int) (hn:l.length≤100000):xl l kind state = some (aU (ue l kind state) (im l)):=by
  have hs:=OG l kind state
  have hf:=List.length_filter_le bp l
  rw [HK,eP l (by omega),Option.bind_some]
  unfold ue at hs ⊢
  generalize l.filter bp = c at hs hf
  refine (xC c (fun i out=>dq l kind state i c out) (x0 kind state) GFact.Span fun i out hi ho=>?_).trans ?_
  · show dq _ _ _ _ _ _ = dq _ _ _ _ _ _
    rw [qc]
    simp only [aP hi,bj,cond_true,ay,Bool.or_true,bd hi,aW hi (by omega)]
    rw [jO (by omega) (by omega),bB]
    show (bif x0 kind state c[i] then _ else _) = _
    cases x0 kind state c[i] <;> rfl
  · show dq _ _ _ _ _ _ = _
    rw [qc,aX,cond_false,gN l (by omega),Option.bind_some,gc _ _ (by omega)]
    rfl
def Fj (m:List GSpan):Prop:=∀ s∈m,0≤s.From∧s.From < s.To∧s.To≤73049
theorem ot:∀ {l:List GSpan} {lo:Int},bP lo l→-1≤lo→Fj l
  | [],_,_,_=>fun s h=>by cases h
  | s :: r,lo,h,h0=>by
    unfold bP at h
    intro x hx
    rcases List.mem_cons.1 hx with e | e
    · subst e; omega
    · exact ot h.2.2.2 (by omega) x e
theorem L0:∀ {l:List GSpan} {lo:Int},bP lo l→(l.length:Int)≤73049 - lo∨l = []
  | [],_,_=>.inr rfl
  | s :: r,lo,h=>by
    unfold bP at h
    left
    rcases L0 h.2.2.2 with e | e
    · rw [List.length_cons]; omega
    · subst e; simp; omega
theorem pm {l:List GSpan} (h:bP (-1) l):l.length≤73050:=by
  rcases L0 h with e | e
  · omega
  · subst e; simp
def o7 (n:Int):List GSpan→List GSpan
  | []=>[]
  | s :: r=>if n < 1 then [] else if n < s.To - s.From then [⟨s.From,s.From+n⟩] else s :: o7 (n - (s.To - s.From)) r
theorem Ky {n:Int} (h:n < 1) (l:List GSpan):o7 n l = []:=by
  cases l with
  | nil=>rfl
  | cons s r=>rw [o7,if_pos h]
theorem JX:∀ (l:List GSpan) (n:Int),(o7 n l).length≤l.length
  | [],_=>by simp [o7]
  | s :: r,n=>by
    rw [o7]
    split
    · simp
    · split
      · simp
      · have:=JX r (n - (s.To - s.From)); simp; omega
theorem Nf (m:List GSpan) (hm:Fj m) (hl:m.length≤1000000):∀ (k i:Nat) (n:Int) (out:List GSpan),m.length = i+k→n≤1000000000000→-1000000000000≤n→out.length≤i →
    kq n (i:Int) out m = some (out++o7 n (m.drop i)):=by
  intro k
  induction k with
  | zero =>
    intro i n out h _ _ _
    have:i = m.length:=by omega
    subst this
    rw [qj,aX,cond_false,cond_false,List.drop_length]
    simp [o7]
  | succ k ih =>
    intro i n out h hn hn' ho
    have hi:i < m.length:=by omega
    obtain ⟨h0,h1,h2⟩:=hm m[i] (List.getElem_mem hi)
    rw [qj]
    simp only [aP hi,bj,cond_true,ay,Bool.or_true,bd hi,aW hi (by omega)]
    by_cases hn1:n < 1
    · rw [aE (p:=0 < n) (by omega),cond_false,Ky hn1]
      simp
    · rw [aB (p:=0 < n) (by omega),cond_true,jO (by omega) (by omega),List.drop_eq_getElem_cons hi,o7,if_neg hn1,ah (n:=m[i].To - m[i].From) (by omega) (by omega)]
      by_cases hc:n < m[i].To - m[i].From
      · rw [aE (p:=m[i].To - m[i].From < n) (by omega),cond_false,if_pos hc,ah (n:=n - n) (by omega) (by omega),ah (n:=m[i].From+n) (by omega) (by omega)]
        rw [ih (i+1) _ _ (by omega) (by omega) (by omega) (by simp; omega),Ky (by omega),List.append_nil]
      · have e:(bif aa (m[i].To - m[i].From < n) then m[i].To - m[i].From else n) = m[i].To - m[i].From:=by
          by_cases h:m[i].To - m[i].From < n
          · rw [aB h]; rfl
          · rw [aE h,cond_false]; omega
        have e2:GSpan.mk m[i].From (m[i].From+(m[i].To - m[i].From)) = m[i]:=by
          rw [show m[i].From+(m[i].To - m[i].From) = m[i].To by omega]
        rw [e,if_neg hc,ah (n:=n - (m[i].To - m[i].From)) (by omega) (by omega),ah (n:=m[i].From+(m[i].To - m[i].From)) (by omega) (by omega),e2]
        rw [ih (i+1) _ _ (by omega) (by omega) (by omega) (by simp; omega),List.append_assoc]
        rfl
theorem Gc (l:List GSpan) (n:Int) (hl:l.length≤100000) (h1:n≤1000000000000) (h2:-1000000000000≤n):xi l n = some (o7 n (bE l)):=by
  obtain ⟨c1,_,c3⟩:=cV l
  have:=Nf (bE l) (ot c1 (by omega)) (by omega) (bE l).length 0 n [] (by omega) h1 h2 (by simp)
  rw [show ((0:Nat):Int) = 0 from rfl,List.drop_zero,List.nil_append] at this
  rw [IK,fI l (by omega),Option.bind_some,this]
def Fp (state rule:Int) (x:GSegment):Bool:=af x.State state&&aa (x.Rule≤rule)
def oP (law:List GSegment) (state rule:Int):List GSpan:=(law.filter (Fp state rule)).map GSegment.Span
theorem GH (law:List GSegment) (s r:Int):(oP law s r).length≤law.length:=by
  unfold oP
  rw [List.length_map]
  exact List.length_filter_le _ _
theorem GY (law:List GSegment) (s r:Int) (hl:law.length≤100000):wP law s r = some (bE (oP law s r)):=by
  have:=GH law s r
  rw [Iz]
  refine (xC law (fun i out=>dP law s r i out) (Fp s r) GSegment.Span fun i out hi ho=>?_).trans ?_
  · show dP _ _ _ _ _ = dP _ _ _ _ _
    rw [rY]
    simp only [aP hi,bj,cond_true,ay,Bool.or_true,bd hi,aW hi (by omega)]
    rw [jO (by omega) (by omega),bB]
    show (bif Fp s r law[i] then _ else _) = _
    cases Fp s r law[i] <;> rfl
  · show dP _ _ _ _ (oP law s r) = _
    rw [rY,aX,cond_false,fI _ (by omega)]; rfl
def nX (kind:Int):List GCredit→Int × Bool
  | []=>(0,false)
  | c :: r=>if c.Kind = kind then (c.Limit,true) else nX kind r
theorem GV (v:GVersion) (k:Int) (hl:v.Credits.length≤1000000):w9 v k = some (nX k v.Credits):=by
  rw [HA]
  have key:∀ (n i:Nat),v.Credits.length = i+n→lv k (i:Int) v.From v.Rounding v.Credits v.Series v.Lets v.Grants v.Reduces = some (nX k (v.Credits.drop i)):=by
    intro n
    induction n with
    | zero =>
      intro i h
      have:i = v.Credits.length:=by omega
      subst this
      rw [sa,aX,List.drop_length]; rfl
    | succ n ih =>
      intro i h
      have hi:i < v.Credits.length:=by omega
      rw [sa]
      simp only [aP hi,bj,cond_true,ay,Bool.or_true,bd hi,aW hi (by omega)]
      rw [List.drop_eq_getElem_cons hi,nX]
      by_cases hk:v.Credits[i].Kind = k
      · rw [if_pos hk,cA.2 hk]; rfl
      · rw [if_neg hk,fx.2 hk]; exact ih (i+1) (by omega)
  have:=key v.Credits.length 0 (by omega)
  rwa [List.drop_zero] at this
end Go.Ax
