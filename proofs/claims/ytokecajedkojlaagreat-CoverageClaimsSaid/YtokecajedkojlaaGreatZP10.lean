import Derived.Test.YtokecajedkojlaaGreatZP9
set_option linter.all false
/- The document's combinations of spans. -/
set_option maxRecDepth 100000
namespace Go.Ax
def i8 (l:List GSpan) (x:Int):Prop:=∃ s∈gC l,x = s.From∨x = s.To
theorem L0 (s:GSpan) (l:List GSpan):gC (s :: l) = if (aK s).From < (aK s).To then aK s :: gC l else gC l:=by
  unfold gC
  rw [List.map_cons,List.filter_cons]
  unfold oc
  by_cases h:(aK s).From < (aK s).To
  · rw [if_pos (decide_eq_true h),if_pos h]
  · rw [if_neg (by rw [decide_eq_false h]; simp),if_neg h]
theorem Fi (s:GSpan) (l:List GSpan) (x:Int):i8 (s :: l) x↔((aK s).From < (aK s).To∧(x = (aK s).From∨x = (aK s).To))∨i8 l x:=by
  unfold i8
  rw [L0]
  by_cases h:(aK s).From < (aK s).To
  · rw [if_pos h]
    constructor
    · rintro ⟨t,ht,hx⟩
      rcases List.mem_cons.1 ht with rfl | ht
      · exact .inl ⟨h,hx⟩
      · exact .inr ⟨t,ht,hx⟩
    · rintro (⟨_,hx⟩ | ⟨t,ht,hx⟩)
      · exact ⟨_,List.mem_cons_self ..,hx⟩
      · exact ⟨t,List.mem_cons_of_mem _ ht,hx⟩
  · rw [if_neg h]
    constructor
    · exact .inr
    · rintro (⟨h',_⟩ | h')
      · exact (h h').elim
      · exact h'
theorem I3 (s:GSpan):qS s = some (aK s,aa ((aK s).From < (aK s).To)):=by
  rw [CF]
  unfold aK
  by_cases h1:s.From < 0 <;> by_cases h2:73049 < s.To <;> simp [h1,h2]
theorem Mg (L:List (List GSpan)) (i:Nat) (hi:i < L.length) (hLn:L.length≤1000) (hl:(L[i]).length≤200000):∀ (n k:Nat) (out:List Int),(L[i]).length = k+n→qI out→out.length+2*n≤1000000 →
    ∃ r,cE L out (i:Int) (k:Int) = dZ L r ((i+1:Nat):Int)∧qI r∧(∀ x,x∈r↔x∈out∨i8 ((L[i]).drop k) x)∧r.length≤out.length+2*n:=by
  intro n
  induction n with
  | zero =>
    intro k out h ho hb
    have:k = (L[i]).length:=by omega
    subst this
    refine ⟨out, ?_,ho,fun x=>?_,by omega⟩
    · rw [m9]
      simp only [be hi,bA,cond_true,aC,Bool.or_true,bK hi,bc hi (by omega)]
      rw [bm,cond_false]
    · rw [List.drop_length]
      simp [i8,gC]
  | succ n ih =>
    intro k out h ho hb
    have hk:k < (L[i]).length:=by omega
    have hstep:cE L out (i:Int) (k:Int) = bif aa ((aK (L[i])[k]).From < (aK (L[i])[k]).To) then (cV out (aK (L[i])[k]).From).bind fun r1=>(cV r1 (aK (L[i])[k]).To).bind fun r2=>cE L r2 (i:Int) ((k+1:Nat):Int) else cE L out (i:Int) ((k+1:Nat):Int):=by
      rw [m9]
      simp only [be hi,bA,cond_true,aC,Bool.or_true,bK hi,bc hi (by omega)]
      simp only [be hk,bA,cond_true,aC,Bool.or_true,bK hk,bc hk (by omega)]
      rw [I3,Option.bind_some]
    rw [List.drop_eq_getElem_cons hk]
    by_cases hc:(aK (L[i])[k]).From < (aK (L[i])[k]).To
    · obtain ⟨r2,a1,a2,a3,a4⟩:=yc out (aK (L[i])[k]).From (by omega) ho
      obtain ⟨r3,b1,b2,b3,b4⟩:=yc r2 (aK (L[i])[k]).To (by omega) a2
      rw [bG hc,cond_true,a1,Option.bind_some,b1,Option.bind_some] at hstep
      obtain ⟨r,c1,c2,c3,c4⟩:=ih (k+1) r3 (by omega) b2 (by omega)
      refine ⟨r,by rw [hstep]; exact c1,c2,fun x=>?_,by omega⟩
      rw [c3,b3,a3,Fi]
      constructor
      · rintro (((h1 | h1) | h1) | h1)
        · exact .inl h1
        · exact .inr (.inl ⟨hc, .inl h1⟩)
        · exact .inr (.inl ⟨hc, .inr h1⟩)
        · exact .inr (.inr h1)
      · rintro (h1 | ⟨_,h1 | h1⟩ | h1)
        · exact .inl (.inl (.inl h1))
        · exact .inl (.inl (.inr h1))
        · exact .inl (.inr h1)
        · exact .inr h1
    · rw [dB hc,cond_false] at hstep
      obtain ⟨r,c1,c2,c3,c4⟩:=ih (k+1) out (by omega) ho (by omega)
      refine ⟨r,by rw [hstep]; exact c1,c2,fun x=>?_,by omega⟩
      rw [c3,Fi]
      constructor
      · rintro (h1 | h1)
        · exact .inl h1
        · exact .inr (.inr h1)
      · rintro (h1 | ⟨h2,_⟩ | h1)
        · exact .inl h1
        · exact (hc h2).elim
        · exact .inr h1
theorem Fw (L:List (List GSpan)) (i:Nat) (hi:i < L.length) (hl:(L[i]).length≤200000) (out:List Int) (ho:qI out) (hb:out.length+2*(L[i]).length≤1000000) (hn:L.length≤1000) :
    ∃ r,dZ L out (i:Int) = dZ L r ((i+1:Nat):Int)∧qI r∧(∀ x,x∈r↔x∈out∨i8 (L[i]) x)∧r.length≤out.length+2*(L[i]).length:=by
  obtain ⟨r,h1,h2,h3,h4⟩:=Mg L i hi hn hl (L[i]).length 0 out (by omega) ho hb
  refine ⟨r, ?_,h2,by rw [List.drop_zero] at h3; exact h3,h4⟩
  rw [pJ,be hi,cond_true]
  exact h1
theorem Ex (a b:List GSpan) (ha:a.length≤100000) (hb:b.length≤100000):∃ e,uI [a,b] = some e∧qI e∧(∀ x,x∈e↔i8 a x∨i8 b x)∧e.length≤500000:=by
  obtain ⟨r,h1,h2,h3,h4⟩:=Fw [a,b] 0 (by simp) (by show a.length≤_; omega) [] List.Pairwise.nil (by show 0+2*a.length≤_; omega) (by simp)
  have h4':r.length≤0+2*a.length:=h4
  obtain ⟨q,g1,g2,g3,g4⟩:=Fw [a,b] 1 (by simp) (by show b.length≤_; omega) r h2 (by show r.length+2*b.length≤_; omega) (by simp)
  have g4':q.length≤r.length+2*b.length:=g4
  refine ⟨q, ?_,g2,fun x=>?_,by omega⟩
  · rw [F3]
    refine Eq.trans h1 (Eq.trans g1 ?_)
    show dZ [a,b] q (([a,b].length:Nat):Int) = _
    rw [pJ,bm]; rfl
  · rw [g3,h3]
    simp
theorem qB (d:Int):fU d = some (bif decide ((0:Int)≤d) then decide (d≤(73048:Int)) else false):=by rw [qK]
def yC (d:Int) (s:GSpan):Bool:=(decide (s.From≤d)&&decide (d < s.To))&&(decide (0≤d)&&decide (d < 73049))
theorem pN (l:List GSpan) (d:Int) (hl:l.length≤1000000):∃ b,lK l d = some b∧(b = true↔cO l d∧0≤d∧d < 73049):=by
  refine ⟨l.any (yC d), ?_, ?_⟩
  · rw [Ac]
    have:=Ki l (fun i=>bR l d i) (yC d) (some true) (some false) (by
      show bR _ _ _ = _
      rw [mR,bm]; rfl) fun i hi=>by
        show bR _ _ _ = if _ then _ else bR _ _ _
        rw [mR]
        simp only [be hi,bA,cond_true,aC,Bool.or_true,bK hi,bc hi (by omega)]
        rw [qB,Option.bind_some]
        unfold yC
        by_cases c1:l[i].From≤d
        · by_cases c2:d < l[i].To
          · by_cases c3:0≤d
            · by_cases c4:d≤73048
              · simp [c1,c2,c3,c4,show d < 73049 by omega]
              · simp [c1,c2,c3,c4,show ¬ d < 73049 by omega]
            · simp [c1,c2,c3]
          · simp [c1,c2]
        · simp [c1]
    rw [this]
    cases l.any (yC d) <;> rfl
  · rw [List.any_eq_true]
    unfold cO
    constructor
    · rintro ⟨s,hs,h⟩
      simp only [yC,Bool.and_eq_true,decide_eq_true_eq] at h
      exact ⟨⟨s,hs,h.1⟩,h.2⟩
    · rintro ⟨⟨s,hs,h⟩,h2⟩
      exact ⟨s,hs,by simp only [yC,Bool.and_eq_true,decide_eq_true_eq]; exact ⟨h,h2⟩⟩
noncomputable def uM (out:List GSpan) (s:GSpan):List GSpan:=match out.getLast? with
  | none=>[s]
  | some x=>if x.To = s.From then out.dropLast++[⟨x.From,s.To⟩] else out++[s]
theorem Fg (p:List GSpan) (x s:GSpan):uM (p++[x]) s = if x.To = s.From then p++[⟨x.From,s.To⟩] else (p++[x])++[s]:=by
  unfold uM
  rw [List.getLast?_concat]
  simp
theorem GQ (out:List GSpan) (s:GSpan) (hn:out.length≤900000):AV out s = some (uM out s):=by
  rw [Ju]
  rcases iW out with rfl | ⟨p,x,rfl⟩
  · rw [show aa ((0:Int) < ((([]:List GSpan).length:Nat):Int)) = false from rfl]
    simp only [Bool.false_and,Bool.not_false,Bool.true_or,aC,cond_false]
    rw [bC (by simp),bC (by simp),im (by simp) (by simp)]
    rfl
  · have hl:(p++[x]).length = p.length+1:=by simp
    have hp:p.length≤1000000:=by omega
    have h0:aa ((0:Int) < (((p++[x]).length:Nat):Int)) = true:=bG (by omega)
    have hlt:aa (((p.length:Nat):Int) < (((p++[x]).length:Nat):Int)) = true:=bG (by omega)
    have hi0:aa ((0:Int)≤((p.length:Nat):Int)) = true:=bG (by omega)
    rw [J5 p x (by omega)]
    simp only [h0,hlt,hi0,Bool.or_true,aC,cond_true,Ke,Int.toNat_natCast,G7,Fg]
    by_cases hc:x.To = s.From
    · rw [dn.2 hc,cond_true,bC (by omega),bC (by omega),if_pos hc]
    · rw [lG.2 hc,cond_false,bC (by omega),bC (by omega),im (by omega) (by omega),if_neg hc]
theorem Nk {out:List GSpan} {s:GSpan} (hn:cg (-1) out) (hb:xN (-1) out≤s.From) (h1:0≤s.From) (h2:s.From < s.To) (h3:s.To≤73049) :
    cg (-1) (uM out s)∧(∀ d,cO (uM out s) d↔cO out d∨(s.From≤d∧d < s.To))∧xN (-1) (uM out s)≤s.To∧(uM out s).length≤out.length+1:=by
  rcases iW out with rfl | ⟨p,x,rfl⟩
  · refine ⟨⟨by omega,h2,h3,trivial⟩,fun d=>?_,Int.le_refl _,by simp [uM]⟩
    show cO [s] d↔_
    rw [aL]; simp [cQ]
  · obtain ⟨n1,n2,n3,n4⟩:=jS.1 hn
    rw [l9] at hb
    rw [Fg]
    by_cases hc:x.To = s.From
    · rw [if_pos hc]
      refine ⟨jS.2 ⟨n1,n2,by show x.From < s.To; omega,h3⟩,fun d=>?_,by rw [l9]; exact Int.le_refl _,by simp⟩
      rw [lZ,lZ,aL,aL]
      simp only [cQ,or_false]
      constructor
      · rintro (h | ⟨h4,h5⟩)
        · exact .inl (.inl h)
        · by_cases hd:d < x.To
          · exact .inl (.inr ⟨h4,hd⟩)
          · exact .inr ⟨by omega,h5⟩
      · rintro ((h | ⟨h4,h5⟩) | ⟨h4,h5⟩)
        · exact .inl h
        · exact .inr ⟨h4,by omega⟩
        · exact .inr ⟨by omega,h5⟩
    · rw [if_neg hc]
      refine ⟨jS.2 ⟨hn,by rw [l9]; omega,h2,h3⟩,fun d=>?_,by rw [l9]; exact Int.le_refl _,by simp⟩
      rw [lZ (b:=[s]),aL]; simp [cQ]
def mE (l:List GSpan) (d:Int):Bool:=l.any fun s=>decide (s.From≤d)&&decide (d < s.To)
theorem n9 {l:List GSpan} {d:Int}:mE l d = true↔cO l d:=by
  unfold mE cO
  rw [List.any_eq_true]
  constructor
  · rintro ⟨s,hs,h⟩
    rw [Bool.and_eq_true,decide_eq_true_iff,decide_eq_true_iff] at h
    exact ⟨s,hs,h⟩
  · rintro ⟨s,hs,h⟩
    exact ⟨s,hs,by rw [Bool.and_eq_true,decide_eq_true_iff,decide_eq_true_iff]; exact h⟩
def zN (f:Bool→Bool→Bool) (a b:List GSpan) (d:Int):Prop:=f (mE a d) (mE b d) = true∧0≤d∧d < 73049
def kC (kind:Int) (x y:Bool):Bool:=(bif (bif (bif (bif (kind == (1:Int)) then x else false) then y else false) then true else (bif (kind == (2:Int)) then (bif x then true else y) else false)) then true else (bif (bif (kind == (3:Int)) then x else false) then (!y) else false))
theorem IK {l:List GSpan} {x:Int} (h:i8 l x):0≤x∧x≤73049:=by
  obtain ⟨s,hs,hx⟩:=h
  have:=Kc l s hs
  omega
theorem JR {e:List Int} {a:List GSpan} {i:Nat} (he:qI e) (hi:i+1 < e.length) (hE:∀ x,i8 a x→x∈e) {d:Int} (h1:e[i]'(by omega)≤d) (h2:d < e[i+1]) :
    (cO a d∧0≤d∧d < 73049)↔(cO a (e[i]'(by omega))∧0≤e[i]'(by omega)∧e[i]'(by omega) < 73049):=by
  have hasc:∀ j k (hj:j < e.length) (hk:k < e.length),j < k→e[j] < e[k]:=fun j k hj hk h=>List.pairwise_iff_getElem.1 he j k hj hk h
  have hlo:∀ x∈e,x < e[i+1]→x≤e[i]'(by omega):=by
    intro x hx hlt
    obtain ⟨j,hj,rfl⟩:=List.getElem_of_mem hx
    rcases Nat.lt_trichotomy j i with h | h | h
    · have:=hasc j i hj (by omega) h; omega
    · subst h; exact Int.le_refl _
    · by_cases h':j = i+1
      · subst h'; omega
      · have:=hasc (i+1) j hi hj (by omega); omega
  have hhi:∀ x∈e,e[i]'(by omega) < x→e[i+1]≤x:=by
    intro x hx hlt
    obtain ⟨j,hj,rfl⟩:=List.getElem_of_mem hx
    rcases Nat.lt_trichotomy j (i+1) with h | h | h
    · by_cases h':j = i
      · subst h'; omega
      · have:=hasc j i hj (by omega) (by omega); omega
    · subst h; exact Int.le_refl _
    · have:=hasc (i+1) j hi hj h; omega
  rw [← qW, ← qW]
  constructor
  · rintro ⟨s,hs,h3,h4⟩
    have e1:=hE _ ⟨s,hs, .inl rfl⟩
    have:=hlo _ e1 (by omega)
    exact ⟨s,hs,this,by omega⟩
  · rintro ⟨s,hs,h3,h4⟩
    have e2:=hE _ ⟨s,hs, .inr rfl⟩
    have:=hhi _ e2 h4
    exact ⟨s,hs,by omega,by omega⟩
theorem It (a b:List GSpan) (e:List Int) (ha:a.length≤100000) (hb:b.length≤100000) (hel:e.length≤500000) (he:qI e) (hE:∀ x,x∈e↔i8 a x∨i8 b x) (kind:Int) :
    ∀ (n i:Nat) (out:List GSpan) (hi:i < e.length),e.length = i+1+n→cg (-1) out→xN (-1) out≤e[i]→(∀ d,cO out d↔zN (kC kind) a b d∧d < e[i])→out.length≤i →
    ∃ r,bQ a b kind e (i:Int) out = some r∧cg (-1) r∧(∀ d,cO r d↔zN (kC kind) a b d∧d < e[e.length - 1]'(by omega)):=by
  intro n
  induction n with
  | zero =>
    intro i out hi h hn ht hc ho
    refine ⟨out, ?_,hn, ?_⟩
    · rw [iX,uX (by omega),show i+1 = e.length by omega,bm,cond_false]
    · have:e.length - 1 = i:=by omega
      simp only [this]
      exact hc
  | succ n ih =>
    intro i out hi h hn ht hc ho
    have hi1:i+1 < e.length:=by omega
    have hlt:e[i] < e[i+1]:=List.pairwise_iff_getElem.1 he i (i+1) hi hi1 (by omega)
    have r0:∀ x∈e,0≤x∧x≤73049:=by
      intro x hx
      rcases (hE x).1 hx with h | h <;> exact IK h
    have ri:=r0 e[i] (List.getElem_mem hi)
    have rj:=r0 e[i+1] (List.getElem_mem hi1)
    obtain ⟨x,hx1,hx2⟩:=pN a e[i] (by omega)
    obtain ⟨y,hy1,hy2⟩:=pN b e[i] (by omega)
    have hstep:bQ a b kind e (i:Int) out = bif (kC kind x y) then bQ a b kind e ((i+1:Nat):Int) (uM out ⟨e[i],e[i+1]⟩) else bQ a b kind e ((i+1:Nat):Int) out:=by
      rw [iX,uX (by omega)]
      simp only [be hi1,be hi,bA,cond_true,aC,bK hi,bK hi1]
      rw [hx1,Option.bind_some,hy1,Option.bind_some,GQ _ _ (by omega),Option.bind_some]
      rfl
    have hbt:∀ d,e[i]≤d→d < e[i+1]→(zN (kC kind) a b d↔(kC kind x y) = true):=by
      intro d h1 h2
      have ba:=JR (a:=a) he hi1 (fun z hz=>(hE z).2 (.inl hz)) h1 h2
      have bb:=JR (a:=b) he hi1 (fun z hz=>(hE z).2 (.inr hz)) h1 h2
      have rd:0≤d∧d < 73049:=by omega
      have ex:mE a d = x:=by
        rw [Bool.eq_iff_iff,n9,hx2, ← ba]
        exact ⟨fun h=>⟨h,rd⟩,And.left⟩
      have ey:mE b d = y:=by
        rw [Bool.eq_iff_iff,n9,hy2, ← bb]
        exact ⟨fun h=>⟨h,rd⟩,And.left⟩
      unfold zN
      rw [ex,ey]
      exact ⟨And.left,fun h=>⟨h,rd⟩⟩
    rw [hstep]
    cases hxy:(kC kind x y) with
    | true =>
      rw [hxy] at hbt
      obtain ⟨s1,s2,s3,s4⟩:=Nk (s:=⟨e[i],e[i+1]⟩) hn ht ri.1 hlt rj.2
      rw [cond_true]
      refine ih (i+1) _ hi1 (by omega) s1 s3 (fun d=>?_) (by omega)
      rw [s2,hc]
      show (zN (kC kind) a b d∧d < e[i])∨(e[i]≤d∧d < e[i+1])↔_
      constructor
      · rintro (⟨h1,h2⟩ | ⟨h1,h2⟩)
        · exact ⟨h1,by omega⟩
        · exact ⟨(hbt d h1 h2).2 rfl,h2⟩
      · rintro ⟨h1,h2⟩
        by_cases h3:d < e[i]
        · exact .inl ⟨h1,h3⟩
        · exact .inr ⟨by omega,h2⟩
    | false =>
      rw [hxy] at hbt
      rw [cond_false]
      refine ih (i+1) _ hi1 (by omega) hn (by omega) (fun d=>?_) (by omega)
      rw [hc]
      constructor
      · rintro ⟨h1,h2⟩; exact ⟨h1,by omega⟩
      · rintro ⟨h1,h2⟩
        refine ⟨h1, ?_⟩
        by_cases h3:d < e[i]
        · exact h3
        · have:=(hbt d (by omega) h2).1 h1
          cases this
theorem pL (l b:List GSpan) (kind:Int) (hn:l.length≤100000) (hb:b.length≤100000) (hk:kC kind false false = false):∃ r,mO l b kind = some r∧cg (-1) r∧∀ d,cO r d↔zN (kC kind) l b d:=by
  obtain ⟨e,h1,h2,h3,h4⟩:=Ex l b hn hb
  have key:∃ r,bQ l b kind e 0 [] = some r∧cg (-1) r∧∀ d,cO r d↔zN (kC kind) l b d:=by
    have hin:∀ d,zN (kC kind) l b d→∃ x∈e, ∃ y∈e,x≤d∧d < y:=by
      intro d hd
      have hor:cO l d∨cO b d:=by
        rw [← n9, ← n9]
        have:=hd.1
        cases hx:mE l d <;> cases hy:mE b d <;> simp
        rw [hx,hy,hk] at this
        cases this
      rcases hor with hor | hor
      · obtain ⟨t,ht,h⟩:=(qW l d).2 ⟨hor,hd.2⟩
        exact ⟨t.From,(h3 _).2 (.inl ⟨t,ht, .inl rfl⟩),t.To,(h3 _).2 (.inl ⟨t,ht, .inr rfl⟩),h⟩
      · obtain ⟨t,ht,h⟩:=(qW b d).2 ⟨hor,hd.2⟩
        exact ⟨t.From,(h3 _).2 (.inr ⟨t,ht, .inl rfl⟩),t.To,(h3 _).2 (.inr ⟨t,ht, .inr rfl⟩),h⟩
    by_cases he:e.length = 0
    · have:e = []:=List.length_eq_zero_iff.1 he
      subst this
      refine ⟨[], ?_,trivial,fun d=>⟨fun h=>(cQ h).elim,fun h=>?_⟩⟩
      · rw [iX]; rfl
      · obtain ⟨x,hx,_⟩:=hin d h
        simp at hx
    · have h0:0 < e.length:=by omega
      have hfirst:∀ x∈e,e[0]≤x:=by
        intro x hx
        obtain ⟨j,hj,rfl⟩:=List.getElem_of_mem hx
        by_cases hj0:j = 0
        · subst hj0; exact Int.le_refl _
        · have:=List.pairwise_iff_getElem.1 h2 0 j h0 hj (by omega); omega
      have hlast:∀ x∈e,x≤e[e.length - 1]:=by
        intro x hx
        obtain ⟨j,hj,rfl⟩:=List.getElem_of_mem hx
        by_cases hj0:j = e.length - 1
        · subst hj0; exact Int.le_refl _
        · have:=List.pairwise_iff_getElem.1 h2 j (e.length - 1) hj (by omega) (by omega); omega
      have r0:0≤e[0]:=by
        rcases (h3 _).1 (List.getElem_mem h0) with h | h <;> exact (IK h).1
      obtain ⟨r,g1,g2,g3⟩:=It l b e hn hb h4 h2 h3 kind (e.length - 1) 0 [] h0 (by omega) trivial (by show (-1:Int)≤_; omega) (fun d=>⟨fun h=>(cQ h).elim,fun ⟨h,h'⟩=>by
        obtain ⟨x,hx,_,_,hxd,_⟩:=hin d h
        have:=hfirst x hx
        omega⟩) (by simp)
      refine ⟨r,g1,g2,fun d=>?_⟩
      rw [g3]
      constructor
      · exact And.left
      · intro h
        obtain ⟨_,_,y,hy,_,hd⟩:=hin d h
        have:=hlast y hy
        exact ⟨h,by omega⟩
  obtain ⟨r,g1,g2,g3⟩:=key
  refine ⟨r, ?_,g2,g3⟩
  rw [B7,h1,Option.bind_some]
  exact g1
theorem jY (l:List GSpan) (hn:l.length≤100000):gY l = some (aV l):=by
  obtain ⟨r,h1,h2,h3⟩:=pL l [] 2 hn (by simp) rfl
  obtain ⟨c1,c2,_⟩:=cw l
  rw [zi]
  have e:r = aV l:=sA h2 c1 fun d=>by
    rw [h3,c2]
    unfold zN
    rw [← n9]
    have:mE [] d = false:=rfl
    rw [this]
    cases mE l d <;> simp [kC]
  rw [h1,Option.bind_some,e]
theorem lI (l:List GSpan) (s:GSpan) (hn:l.length≤100000):mh l s = some (bp l s):=by
  obtain ⟨r,h1,h2,h3⟩:=pL l [s] 1 hn (by simp) rfl
  obtain ⟨c1,c2⟩:=iJ l s
  rw [G5]
  have e:r = bp l s:=sA h2 c1 fun d=>by
    rw [h3,c2]
    unfold zN
    have h:mE [s] d = true↔s.From≤d∧d < s.To:=by simp [mE]
    rw [← n9, ← h]
    cases mE l d <;> cases mE [s] d <;> simp [kC]
  rw [h1,Option.bind_some,e]
end Go.Ax
