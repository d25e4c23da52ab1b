import Derived.Test.YtokecajedkojlaaGreatYP11
set_option linter.all false
/- Spans of facts; the first days of a list; the days under a law; credits. -/
set_option maxRecDepth 100000
namespace Go.Ax
theorem DE (a:List GSpan) (hn:a.length≤1000000):ng a a = some true:=by
  rw [yf,Fm.2 rfl,cond_false]
  have:=(Bz a (fun i (_:Unit)=>cE a a i) (fun s _=>s) (fun _ _=>True) (fun i s hi _=>⟨?_,trivial⟩) () trivial).1
  · refine Eq.trans this ?_
    show cE _ _ _ = _
    rw [lI,bU]; rfl
  · show cE _ _ _ = cE _ _ _
    rw [lI]
    simp only [bG hi,cd,cond_true,aK,Bool.or_true,cy hi,bP hi (by omega)]
    simp only [zi,Bool.and_true,Bool.not_true,cond_false]
theorem JW (a b out:List GSpan) (i j:Nat) (hi:i < a.length) (hj:j < b.length) (ha:a.length≤1000000) (hb:b.length≤1000000) (ho:out.length≤2000000) :
    bi (i:Int) (j:Int) a b out = if a[i].To < b[j].To then bi ((i+1:Nat):Int) (j:Int) a b (out++no a[i] b[j]) else bi (i:Int) ((j+1:Nat):Int) a b (out++no a[i] b[j]):=by
  rw [fH]
  simp only [bG hi,bG hj,cd,cond_true,aK,cy hi,cy hj,pV,bP hi (by omega),bP hj (by omega)]
  generalize a[i] = s
  generalize b[j] = t
  have hm:no s t = if (if s.From < t.From then t.From else s.From) < (if t.To < s.To then t.To else s.To) then [GSpan.mk (if s.From < t.From then t.From else s.From) (if t.To < s.To then t.To else s.To)] else []:=rfl
  rw [hm]
  have e1:(bif aa (s.From < t.From) then t.From else s.From) = (if s.From < t.From then t.From else s.From):=by by_cases h:s.From < t.From <;> simp [h]
  have e2:(bif aa (t.To < s.To) then t.To else s.To) = (if t.To < s.To then t.To else s.To):=by by_cases h:t.To < s.To <;> simp [h]
  rw [e1,e2,kN (by omega) (by omega)]
  generalize (if s.From < t.From then t.From else s.From) = x
  generalize (if t.To < s.To then t.To else s.To) = y
  by_cases hk:x < y
  · rw [bY hk,cond_true,if_pos hk]
    by_cases hc:s.To < t.To
    · rw [bY hc,cond_true,if_pos hc]
    · rw [em hc,cond_false,if_neg hc]
  · rw [em hk,cond_false,if_neg hk,List.append_nil]
    by_cases hc:s.To < t.To
    · rw [bY hc,cond_true,if_pos hc]
    · rw [em hc,cond_false,if_neg hc]
theorem J6 (a b:List GSpan) (ha:a.length≤1000000) (hb:b.length≤1000000):∀ (n i j:Nat) (out:List GSpan),(a.length - i)+(b.length - j)≤n→i≤a.length→j≤b.length→out.length≤i+j →
    bi (i:Int) (j:Int) a b out = some (out++dt (a.drop i) (b.drop j)):=by
  intro n
  have enda:∀ (j:Nat) (out:List GSpan),bi (a.length:Int) (j:Int) a b out = some (out++dt (a.drop a.length) (b.drop j)):=by
    intro j out
    rw [fH,bU,cond_false,cond_false,List.drop_length,iu,List.append_nil]
  induction n with
  | zero =>
    intro i j out h hi hj ho
    have e:i = a.length:=by omega
    subst e
    exact enda j out
  | succ n ih =>
    intro i j out h hi hj ho
    by_cases hi':i < a.length
    · by_cases hj':j < b.length
      · have h1:=Cj a[i] b[j]
        rw [JW a b out i j hi' hj' ha hb (by omega),List.drop_eq_getElem_cons hi',List.drop_eq_getElem_cons hj',jf]
        by_cases hc:a[i].To < b[j].To
        · rw [if_pos hc,if_pos hc]
          rw [ih (i+1) j _ (by omega) (by omega) hj (by rw [List.length_append]; omega),List.append_assoc, ← List.drop_eq_getElem_cons hj']
        · rw [if_neg hc,if_neg hc]
          rw [ih i (j+1) _ (by omega) hi (by omega) (by rw [List.length_append]; omega),List.append_assoc, ← List.drop_eq_getElem_cons hi']
      · have e:j = b.length:=by omega
        subst e
        rw [fH,bG hi',cond_true,bU,cond_false,List.drop_length (l:=b),jd,List.append_nil]
    · have e:i = a.length:=by omega
      subst e
      exact enda j out
theorem gP (l:List GSpan) (s:GSpan) (hn:l.length≤1000000):iq l s = some (aZ l s):=by
  have h1:=bx l
  have h2:=bx [s]
  have h2':(bc [s]).length≤1:=h2.2.2
  have:=J6 (bc l) (bc [s]) (by omega) (by omega) _ 0 0 [] (Nat.le_refl _) (by omega) (by omega) (by simp)
  rw [show ((0:Nat):Int) = 0 from rfl,List.drop_zero,List.drop_zero] at this
  rw [ER,xF,fc l (by omega),Option.bind_some,fc [s] (by simp),Option.bind_some,this]
  rfl
def pQ (kind state:Int) (f:GFact):Bool:=ah f.Kind kind&&ah f.State state
noncomputable def dO (l:List GFact) (kind state:Int):List GSpan:=((l.filter bw).filter (pQ kind state)).map GFact.Span
theorem Is (l:List GFact) (kind state:Int):(dO l kind state).length≤l.length:=by
  unfold dO
  have h1:=List.length_filter_le bw l
  have h2:=List.length_filter_le (pQ kind state) (l.filter bw)
  simp only [List.length_map]
  omega
theorem IR {T:Type} (p q:T→Bool) (l:List T):(l.filter p).filter q = l.filter fun x=>p x&&q x:=by
  rw [List.filter_filter]
  congr 1; funext x; exact Bool.and_comm _ _
theorem zP (l:List GFact) (kind state:Int) (hn:l.length≤100000):p7 l kind state = some (aZ (dO l kind state) (eh l)):=by
  have hs:=Is l kind state
  rw [Ar]
  have e:dO l kind state = (l.filter fun f=>bw f&&pQ kind state f).map GFact.Span:=by unfold dO; rw [IR]
  refine (AM l (fun i out=>cF l kind state l (l.length:Int) i out) (fun f=>bw f&&pQ kind state f) GFact.Span fun i out hi ho=>?_).trans ?_
  · show cF _ _ _ _ _ _ _ = cF _ _ _ _ _ _ _
    rw [mA]
    simp only [bG hi,cd,cond_true,aK,Bool.or_true,cy hi,bP hi (by omega)]
    rw [jS,Option.bind_some,kN (by omega) (by omega)]
    unfold pQ
    cases bw l[i] <;> cases ah l[i].Kind kind <;> cases ah l[i].State state <;> rfl
  · rw [← e]
    show cF _ _ _ _ _ _ _ = _
    rw [mA,bU,cond_false,rK l (by omega),Option.bind_some,gP _ _ (by omega)]
    rfl
def Pu (m:List GSpan):Prop:=∀ s∈m,0≤s.From∧s.From < s.To∧s.To≤73049
theorem GI:∀ {l:List GSpan} {lo:Int},bF lo l→-1≤lo→Pu l
  | [],_,_,_=>fun s h=>by cases h
  | s :: r,lo,h,h0=>by
    unfold bF at h
    intro x hx
    rcases List.mem_cons.1 hx with e | e
    · subst e; omega
    · exact GI h.2.2.2 (by omega) x e
theorem GO:∀ {l:List GSpan} {lo:Int},bF lo l→(l.length:Int)≤73049 - lo∨l = []
  | [],_,_=>.inr rfl
  | s :: r,lo,h=>by
    unfold bF at h
    left
    rcases GO h.2.2.2 with e | e
    · rw [List.length_cons]; omega
    · subst e; simp; omega
theorem pk {l:List GSpan} (h:bF (-1) l):l.length≤73050:=by
  rcases GO h with e | e
  · omega
  · subst e; simp
def io (n:Int):List GSpan→List GSpan
  | []=>[]
  | s :: r=>if n < 1 then [] else if n < s.To - s.From then [⟨s.From,s.From+n⟩] else s :: io (n - (s.To - s.From)) r
theorem KW {n:Int} (h:n < 1) (l:List GSpan):io n l = []:=by
  cases l with
  | nil=>rfl
  | cons s r=>rw [io,if_pos h]
theorem wU:∀ (l:List GSpan) (n:Int),(io n l).length≤l.length
  | [],_=>by simp [io]
  | s :: r,n=>by
    rw [io]
    split
    · simp
    · split
      · simp
      · have:=wU r (n - (s.To - s.From)); simp; omega
theorem IA (m:List GSpan) (hm:Pu m) (hl:m.length≤1000000):∀ (k i:Nat) (n:Int) (out:List GSpan),m.length = i+k→n≤1000000000000→-1000000000000≤n→out.length≤i →
    iA n (m.length:Int) (i:Int) out m = some (out++io n (m.drop i)):=by
  intro k
  induction k with
  | zero =>
    intro i n out h _ _ _
    have:i = m.length:=by omega
    subst this
    rw [mR,bU,cond_false,List.drop_length]
    simp [io]
  | succ k ih =>
    intro i n out h hn hn' ho
    have hi:i < m.length:=by omega
    obtain ⟨h0,h1,h2⟩:=hm m[i] (List.getElem_mem hi)
    rw [mR]
    simp only [sO]
    simp only [bG hi,cd,cond_true,aK,Bool.or_true,cy hi,bP hi (by omega)]
    rw [List.drop_eq_getElem_cons hi,io]
    by_cases hn1:n < 1
    · rw [bY hn1,cond_true,if_pos hn1,List.append_nil]
    · rw [em hn1,cond_false,if_neg hn1,ak (n:=m[i].To - m[i].From) (by omega) (by omega)]
      by_cases hc:n < m[i].To - m[i].From
      · rw [bY hc,cond_true,if_pos hc,kN (by omega) (by omega),ak (n:=m[i].From+n) (by omega) (by omega),ak (n:=m[i].From+n - m[i].From) (by omega) (by omega),ak (n:=n - (m[i].From+n - m[i].From)) (by omega) (by omega)]
        rw [ih (i+1) _ _ (by omega) (by omega) (by omega) (by simp; omega),KW (by omega),List.append_nil]
      · rw [em hc,cond_false,if_neg hc,kN (by omega) (by omega),ak (n:=n - (m[i].To - m[i].From)) (by omega) (by omega)]
        rw [ih (i+1) _ _ (by omega) (by omega) (by omega) (by simp; omega),List.append_assoc]
        rfl
theorem qe (l:List GSpan) (n:Int) (hl:l.length≤1000000) (h1:n≤1000000000000) (h2:-1000000000000≤n):jP l n = some (io n (bc l)):=by
  obtain ⟨c1,_,c3⟩:=bx l
  have:=IA (bc l) (GI c1 (by omega)) (by omega) (bc l).length 0 n [] (by omega) h1 h2 (by simp)
  rw [show ((0:Nat):Int) = 0 from rfl,List.drop_zero,List.nil_append] at this
  rw [BR,fc l (by omega),Option.bind_some,this]
def AK (state rule:Int) (x:GSegment):Bool:=ah x.State state&&aa (x.Rule≤rule)
def mt (law:List GSegment) (state rule:Int):List GSpan:=(law.filter (AK state rule)).map GSegment.Span
theorem A2 (law:List GSegment) (s r:Int):(mt law s r).length≤law.length:=by
  unfold mt
  rw [List.length_map]
  exact List.length_filter_le _ _
theorem uF (law:List GSegment) (s r:Int) (hl:law.length≤100000):lq law s r = some (bc (mt law s r)):=by
  have:=A2 law s r
  rw [vO]
  refine (AM law (fun i out=>bA s r law (law.length:Int) i out) (AK s r) GSegment.Span fun i out hi ho=>?_).trans ?_
  · show bA _ _ _ _ _ _ = bA _ _ _ _ _ _
    rw [kH]
    simp only [bG hi,cd,cond_true,aK,Bool.or_true,cy hi,bP hi (by omega)]
    rw [kN (by omega) (by omega),ck]
    show (bif AK s r law[i] then _ else _) = _
    cases AK s r law[i] <;> rfl
  · show bA _ _ _ _ _ (mt law s r) = _
    rw [kH,bU,cond_false,fc _ (by omega)]; rfl
def eX (kind:Int):List GCredit→Int × Bool
  | []=>(0,false)
  | c :: r=>if c.Kind = kind then (c.Limit,true) else eX kind r
theorem KM (l:List GCredit) (k:Int) (hl:l.length≤1000000):∀ (n i:Nat),l.length = i+n →
    (bX l k (l.length:Int) (i:Int) = some (-1)∧eX k (l.drop i) = (0,false)) ∨
    ∃ j:Nat, ∃ h:j < l.length,bX l k (l.length:Int) (i:Int) = some (j:Int)∧eX k (l.drop i) = (l[j].Limit,true):=by
  intro n
  induction n with
  | zero =>
    intro i h
    have:i = l.length:=by omega
    subst this
    left
    exact ⟨by rw [kD,bU]; rfl,by rw [List.drop_length]; rfl⟩
  | succ n ih =>
    intro i h
    have hi:i < l.length:=by omega
    have e:bX l k (l.length:Int) (i:Int) = if l[i].Kind = k then some (i:Int) else bX l k (l.length:Int) ((i+1:Nat):Int):=by
      rw [kD]
      simp only [bG hi,cd,cond_true,aK,Bool.or_true,cy hi,bP hi (by omega)]
      rw [vS,Option.bind_some]
      by_cases hk:l[i].Kind = k
      · rw [if_pos hk,fe.2 hk]; rfl
      · rw [if_neg hk,rO.2 hk]; rfl
    rw [e,List.drop_eq_getElem_cons hi,eX]
    by_cases hk:l[i].Kind = k
    · right
      exact ⟨i,hi,by rw [if_pos hk],by rw [if_pos hk]⟩
    · rw [if_neg hk,if_neg hk]
      exact ih (i+1) (by omega)
theorem wu (v:GVersion) (k:Int) (hl:v.Credits.length≤1000000):np v k = some (eX k v.Credits):=by
  rw [yc,vI]
  have:=KM v.Credits k hl v.Credits.length 0 (by omega)
  rw [show ((0:Nat):Int) = 0 from rfl,List.drop_zero] at this
  rcases this with ⟨h1,h2⟩ | ⟨j,hj,h1,h2⟩
  · rw [h1,h2]; rfl
  · rw [h1,h2,Option.bind_some,em (p:=(j:Int) < 0) (by omega),cond_false]
    simp only [bG hj,cd,cond_true,aK,Bool.or_true,cy hj,bP hj (by omega)]
end Go.Ax
