import Derived.Test.YtokecajedkojlaaGreatYP9
set_option linter.all false
/- The document's combinations of spans. -/
set_option maxRecDepth 100000
namespace Go.Ax
def iY (l:List GSpan) (x:Int):Prop:=∃ s∈gv l,x = s.From∨x = s.To
theorem LC (s:GSpan) (l:List GSpan):gv (s :: l) = if (aL s).From < (aL s).To then aL s :: gv l else gv l:=by
  unfold gv
  rw [List.map_cons,List.filter_cons]
  unfold nB
  by_cases h:(aL s).From < (aL s).To
  · rw [if_pos (decide_eq_true h),if_pos h]
  · rw [if_neg (by rw [decide_eq_false h]; simp),if_neg h]
theorem Ee (s:GSpan) (l:List GSpan) (x:Int):iY (s :: l) x↔((aL s).From < (aL s).To∧(x = (aL s).From∨x = (aL s).To))∨iY l x:=by
  unfold iY
  rw [LC]
  by_cases h:(aL s).From < (aL s).To
  · rw [if_pos h]
    constructor
    · rintro ⟨t,ht,hx⟩
      rcases List.mem_cons.1 ht with rfl | ht
      · exact .inl ⟨h,hx⟩
      · exact .inr ⟨t,ht,hx⟩
    · rintro (⟨_,hx⟩ | ⟨t,ht,hx⟩)
      · exact ⟨_,List.mem_cons_self ..,hx⟩
      · exact ⟨t,List.mem_cons_of_mem _ ht,hx⟩
  · rw [if_neg h]
    constructor
    · exact .inr
    · rintro (⟨h',_⟩ | h')
      · exact (h h').elim
      · exact h'
theorem Iq (s:GSpan):qE s = some (aL s,aa ((aL s).From < (aL s).To)):=by
  rw [Bd]
  unfold aL
  by_cases h1:s.From < 0 <;> by_cases h2:73049 < s.To <;> simp [h1,h2]
theorem Lp (L:List (List GSpan)) (i:Nat) (hi:i < L.length) (hLn:L.length≤1000) (hl:(L[i]).length≤200000):∀ (n k:Nat) (out:List Int),(L[i]).length = k+n→qu out→out.length+2*n≤1000000 →
    ∃ r,cC L out (i:Int) (k:Int) = dV L r ((i+1:Nat):Int)∧qu r∧(∀ x,x∈r↔x∈out∨iY ((L[i]).drop k) x)∧r.length≤out.length+2*n:=by
  intro n
  induction n with
  | zero =>
    intro k out h ho hb
    have:k = (L[i]).length:=by omega
    subst this
    refine ⟨out, ?_,ho,fun x=>?_,by omega⟩
    · rw [mN]
      simp only [bG hi,cd,cond_true,aK,Bool.or_true,cy hi,bP hi (by omega)]
      rw [bU,cond_false]
    · rw [List.drop_length]
      simp [iY,gv]
  | succ n ih =>
    intro k out h ho hb
    have hk:k < (L[i]).length:=by omega
    have hstep:cC L out (i:Int) (k:Int) = bif aa ((aL (L[i])[k]).From < (aL (L[i])[k]).To) then (cS out (aL (L[i])[k]).From).bind fun r1=>(cS r1 (aL (L[i])[k]).To).bind fun r2=>cC L r2 (i:Int) ((k+1:Nat):Int) else cC L out (i:Int) ((k+1:Nat):Int):=by
      rw [mN]
      simp only [bG hi,cd,cond_true,aK,Bool.or_true,cy hi,bP hi (by omega)]
      simp only [bG hk,cd,cond_true,aK,Bool.or_true,cy hk,bP hk (by omega)]
      rw [Iq,Option.bind_some]
    rw [List.drop_eq_getElem_cons hk]
    by_cases hc:(aL (L[i])[k]).From < (aL (L[i])[k]).To
    · obtain ⟨r2,a1,a2,a3,a4⟩:=wq out (aL (L[i])[k]).From (by omega) ho
      obtain ⟨r3,b1,b2,b3,b4⟩:=wq r2 (aL (L[i])[k]).To (by omega) a2
      rw [bY hc,cond_true,a1,Option.bind_some,b1,Option.bind_some] at hstep
      obtain ⟨r,c1,c2,c3,c4⟩:=ih (k+1) r3 (by omega) b2 (by omega)
      refine ⟨r,by rw [hstep]; exact c1,c2,fun x=>?_,by omega⟩
      rw [c3,b3,a3,Ee]
      constructor
      · rintro (((h1 | h1) | h1) | h1)
        · exact .inl h1
        · exact .inr (.inl ⟨hc, .inl h1⟩)
        · exact .inr (.inl ⟨hc, .inr h1⟩)
        · exact .inr (.inr h1)
      · rintro (h1 | ⟨_,h1 | h1⟩ | h1)
        · exact .inl (.inl (.inl h1))
        · exact .inl (.inl (.inr h1))
        · exact .inl (.inr h1)
        · exact .inr h1
    · rw [em hc,cond_false] at hstep
      obtain ⟨r,c1,c2,c3,c4⟩:=ih (k+1) out (by omega) ho (by omega)
      refine ⟨r,by rw [hstep]; exact c1,c2,fun x=>?_,by omega⟩
      rw [c3,Ee]
      constructor
      · rintro (h1 | h1)
        · exact .inl h1
        · exact .inr (.inr h1)
      · rintro (h1 | ⟨h2,_⟩ | h1)
        · exact .inl h1
        · exact (hc h2).elim
        · exact .inr h1
theorem DY (L:List (List GSpan)) (i:Nat) (hi:i < L.length) (hl:(L[i]).length≤200000) (out:List Int) (ho:qu out) (hb:out.length+2*(L[i]).length≤1000000) (hn:L.length≤1000) :
    ∃ r,dV L out (i:Int) = dV L r ((i+1:Nat):Int)∧qu r∧(∀ x,x∈r↔x∈out∨iY (L[i]) x)∧r.length≤out.length+2*(L[i]).length:=by
  obtain ⟨r,h1,h2,h3,h4⟩:=Lp L i hi hn hl (L[i]).length 0 out (by omega) ho hb
  refine ⟨r, ?_,h2,by rw [List.drop_zero] at h3; exact h3,h4⟩
  rw [o5,bG hi,cond_true]
  exact h1
theorem CE (a b:List GSpan) (ha:a.length≤100000) (hb:b.length≤100000):∃ e,uo [a,b] = some e∧qu e∧(∀ x,x∈e↔iY a x∨iY b x)∧e.length≤500000:=by
  obtain ⟨r,h1,h2,h3,h4⟩:=DY [a,b] 0 (by simp) (by show a.length≤_; omega) [] List.Pairwise.nil (by show 0+2*a.length≤_; omega) (by simp)
  have h4':r.length≤0+2*a.length:=h4
  obtain ⟨q,g1,g2,g3,g4⟩:=DY [a,b] 1 (by simp) (by show b.length≤_; omega) r h2 (by show r.length+2*b.length≤_; omega) (by simp)
  have g4':q.length≤r.length+2*b.length:=g4
  refine ⟨q, ?_,g2,fun x=>?_,by omega⟩
  · rw [EY]
    refine Eq.trans h1 (Eq.trans g1 ?_)
    show dV [a,b] q (([a,b].length:Nat):Int) = _
    rw [o5,bU]; rfl
  · rw [g3,h3]
    simp
theorem qB (d:Int):fK d = some (bif decide ((0:Int)≤d) then decide (d≤(73048:Int)) else false):=by rw [qC]
def xH (d:Int) (s:GSpan):Bool:=(decide (s.From≤d)&&decide (d < s.To))&&(decide (0≤d)&&decide (d < 73049))
theorem pb (l:List GSpan) (d:Int) (hl:l.length≤1000000):∃ b,ld l d = some b∧(b = true↔bg l d∧0≤d∧d < 73049):=by
  refine ⟨l.any (xH d), ?_, ?_⟩
  · rw [z8]
    have:=I2 l (fun i=>bO l d i) (xH d) (some true) (some false) (by
      show bO _ _ _ = _
      rw [l3,bU]; rfl) fun i hi=>by
        show bO _ _ _ = if _ then _ else bO _ _ _
        rw [l3]
        simp only [bG hi,cd,cond_true,aK,Bool.or_true,cy hi,bP hi (by omega)]
        rw [qB,Option.bind_some]
        unfold xH
        by_cases c1:l[i].From≤d
        · by_cases c2:d < l[i].To
          · by_cases c3:0≤d
            · by_cases c4:d≤73048
              · simp [c1,c2,c3,c4,show d < 73049 by omega]
              · simp [c1,c2,c3,c4,show ¬ d < 73049 by omega]
            · simp [c1,c2,c3]
          · simp [c1,c2]
        · simp [c1]
    rw [this]
    cases l.any (xH d) <;> rfl
  · rw [List.any_eq_true]
    unfold bg
    constructor
    · rintro ⟨s,hs,h⟩
      simp only [xH,Bool.and_eq_true,decide_eq_true_eq] at h
      exact ⟨⟨s,hs,h.1⟩,h.2⟩
    · rintro ⟨⟨s,hs,h⟩,h2⟩
      exact ⟨s,hs,by simp only [xH,Bool.and_eq_true,decide_eq_true_eq]; exact ⟨h,h2⟩⟩
noncomputable def tY (out:List GSpan) (s:GSpan):List GSpan:=match out.getLast? with
  | none=>[s]
  | some x=>if x.To = s.From then out.dropLast++[⟨x.From,s.To⟩] else out++[s]
theorem Eu (p:List GSpan) (x s:GSpan):tY (p++[x]) s = if x.To = s.From then p++[⟨x.From,s.To⟩] else (p++[x])++[s]:=by
  unfold tY
  rw [List.getLast?_concat]
  simp
theorem Hc (out:List GSpan) (s:GSpan) (hn:out.length≤900000):za out s = some (tY out s):=by
  rw [Ig]
  rcases iK out with rfl | ⟨p,x,rfl⟩
  · rw [show aa ((0:Int) < ((([]:List GSpan).length:Nat):Int)) = false from rfl]
    simp only [Bool.false_and,Bool.not_false,Bool.true_or,aK,cond_false]
    rw [bH (by simp),bH (by simp),kN (by simp) (by simp)]
    rfl
  · have hl:(p++[x]).length = p.length+1:=by simp
    have hp:p.length≤1000000:=by omega
    have h0:aa ((0:Int) < (((p++[x]).length:Nat):Int)) = true:=bY (by omega)
    have hlt:aa (((p.length:Nat):Int) < (((p++[x]).length:Nat):Int)) = true:=bY (by omega)
    have hi0:aa ((0:Int)≤((p.length:Nat):Int)) = true:=bY (by omega)
    rw [I4 p x (by omega)]
    simp only [h0,hlt,hi0,Bool.or_true,aK,cond_true,I7,Int.toNat_natCast,Ha,Eu]
    by_cases hc:x.To = s.From
    · rw [fe.2 hc,cond_true,bH (by omega),bH (by omega),if_pos hc]
    · rw [rO.2 hc,cond_false,bH (by omega),bH (by omega),kN (by omega) (by omega),if_neg hc]
theorem MT {out:List GSpan} {s:GSpan} (hn:bF (-1) out) (hb:wP (-1) out≤s.From) (h1:0≤s.From) (h2:s.From < s.To) (h3:s.To≤73049) :
    bF (-1) (tY out s)∧(∀ d,bg (tY out s) d↔bg out d∨(s.From≤d∧d < s.To))∧wP (-1) (tY out s)≤s.To∧(tY out s).length≤out.length+1:=by
  rcases iK out with rfl | ⟨p,x,rfl⟩
  · refine ⟨⟨by omega,h2,h3,trivial⟩,fun d=>?_,Int.le_refl _,by simp [tY]⟩
    show bg [s] d↔_
    rw [aH]; simp [aY]
  · obtain ⟨n1,n2,n3,n4⟩:=jI.1 hn
    rw [lB] at hb
    rw [Eu]
    by_cases hc:x.To = s.From
    · rw [if_pos hc]
      refine ⟨jI.2 ⟨n1,n2,by show x.From < s.To; omega,h3⟩,fun d=>?_,by rw [lB]; exact Int.le_refl _,by simp⟩
      rw [ji,ji,aH,aH]
      simp only [aY,or_false]
      constructor
      · rintro (h | ⟨h4,h5⟩)
        · exact .inl (.inl h)
        · by_cases hd:d < x.To
          · exact .inl (.inr ⟨h4,hd⟩)
          · exact .inr ⟨by omega,h5⟩
      · rintro ((h | ⟨h4,h5⟩) | ⟨h4,h5⟩)
        · exact .inl h
        · exact .inr ⟨h4,by omega⟩
        · exact .inr ⟨by omega,h5⟩
    · rw [if_neg hc]
      refine ⟨jI.2 ⟨hn,by rw [lB]; omega,h2,h3⟩,fun d=>?_,by rw [lB]; exact Int.le_refl _,by simp⟩
      rw [ji (b:=[s]),aH]; simp [aY]
def jo (l:List GSpan) (d:Int):Bool:=l.any fun s=>decide (s.From≤d)&&decide (d < s.To)
theorem iH {l:List GSpan} {d:Int}:jo l d = true↔bg l d:=by
  unfold jo bg
  rw [List.any_eq_true]
  constructor
  · rintro ⟨s,hs,h⟩
    rw [Bool.and_eq_true,decide_eq_true_iff,decide_eq_true_iff] at h
    exact ⟨s,hs,h⟩
  · rintro ⟨s,hs,h⟩
    exact ⟨s,hs,by rw [Bool.and_eq_true,decide_eq_true_iff,decide_eq_true_iff]; exact h⟩
def Bb (f:Bool→Bool→Bool) (a b:List GSpan) (d:Int):Prop:=f (jo a d) (jo b d) = true∧0≤d∧d < 73049
def lh (kind:Int) (x y:Bool):Bool:=(bif (bif (bif (bif (kind == (1:Int)) then x else false) then y else false) then true else (bif (kind == (2:Int)) then (bif x then true else y) else false)) then true else (bif (bif (kind == (3:Int)) then x else false) then (!y) else false))
theorem FH {l:List GSpan} {x:Int} (h:iY l x):0≤x∧x≤73049:=by
  obtain ⟨s,hs,hx⟩:=h
  have:=Jx l s hs
  omega
theorem Jm {e:List Int} {a:List GSpan} {i:Nat} (he:qu e) (hi:i+1 < e.length) (hE:∀ x,iY a x→x∈e) {d:Int} (h1:e[i]'(by omega)≤d) (h2:d < e[i+1]) :
    (bg a d∧0≤d∧d < 73049)↔(bg a (e[i]'(by omega))∧0≤e[i]'(by omega)∧e[i]'(by omega) < 73049):=by
  have hasc:∀ j k (hj:j < e.length) (hk:k < e.length),j < k→e[j] < e[k]:=fun j k hj hk h=>List.pairwise_iff_getElem.1 he j k hj hk h
  have hlo:∀ x∈e,x < e[i+1]→x≤e[i]'(by omega):=by
    intro x hx hlt
    obtain ⟨j,hj,rfl⟩:=List.getElem_of_mem hx
    rcases Nat.lt_trichotomy j i with h | h | h
    · have:=hasc j i hj (by omega) h; omega
    · subst h; exact Int.le_refl _
    · by_cases h':j = i+1
      · subst h'; omega
      · have:=hasc (i+1) j hi hj (by omega); omega
  have hhi:∀ x∈e,e[i]'(by omega) < x→e[i+1]≤x:=by
    intro x hx hlt
    obtain ⟨j,hj,rfl⟩:=List.getElem_of_mem hx
    rcases Nat.lt_trichotomy j (i+1) with h | h | h
    · by_cases h':j = i
      · subst h'; omega
      · have:=hasc j i hj (by omega) (by omega); omega
    · subst h; exact Int.le_refl _
    · have:=hasc (i+1) j hi hj h; omega
  rw [← pU, ← pU]
  constructor
  · rintro ⟨s,hs,h3,h4⟩
    have e1:=hE _ ⟨s,hs, .inl rfl⟩
    have:=hlo _ e1 (by omega)
    exact ⟨s,hs,this,by omega⟩
  · rintro ⟨s,hs,h3,h4⟩
    have e2:=hE _ ⟨s,hs, .inr rfl⟩
    have:=hhi _ e2 h4
    exact ⟨s,hs,by omega,by omega⟩
theorem GX (a b:List GSpan) (e:List Int) (ha:a.length≤100000) (hb:b.length≤100000) (hel:e.length≤500000) (he:qu e) (hE:∀ x,x∈e↔iY a x∨iY b x) (kind:Int) :
    ∀ (n i:Nat) (out:List GSpan) (hi:i < e.length),e.length = i+1+n→bF (-1) out→wP (-1) out≤e[i]→(∀ d,bg out d↔Bb (lh kind) a b d∧d < e[i])→out.length≤i →
    ∃ r,bM a b kind e (i:Int) out = some r∧bF (-1) r∧(∀ d,bg r d↔Bb (lh kind) a b d∧d < e[e.length - 1]'(by omega)):=by
  intro n
  induction n with
  | zero =>
    intro i out hi h hn ht hc ho
    refine ⟨out, ?_,hn, ?_⟩
    · rw [iD,tD (by omega),show i+1 = e.length by omega,bU,cond_false]
    · have:e.length - 1 = i:=by omega
      simp only [this]
      exact hc
  | succ n ih =>
    intro i out hi h hn ht hc ho
    have hi1:i+1 < e.length:=by omega
    have hlt:e[i] < e[i+1]:=List.pairwise_iff_getElem.1 he i (i+1) hi hi1 (by omega)
    have r0:∀ x∈e,0≤x∧x≤73049:=by
      intro x hx
      rcases (hE x).1 hx with h | h <;> exact FH h
    have ri:=r0 e[i] (List.getElem_mem hi)
    have rj:=r0 e[i+1] (List.getElem_mem hi1)
    obtain ⟨x,hx1,hx2⟩:=pb a e[i] (by omega)
    obtain ⟨y,hy1,hy2⟩:=pb b e[i] (by omega)
    have hstep:bM a b kind e (i:Int) out = bif (lh kind x y) then bM a b kind e ((i+1:Nat):Int) (tY out ⟨e[i],e[i+1]⟩) else bM a b kind e ((i+1:Nat):Int) out:=by
      rw [iD,tD (by omega)]
      simp only [bG hi1,bG hi,cd,cond_true,aK,cy hi,cy hi1]
      rw [hx1,Option.bind_some,hy1,Option.bind_some,Hc _ _ (by omega),Option.bind_some]
      rfl
    have hbt:∀ d,e[i]≤d→d < e[i+1]→(Bb (lh kind) a b d↔(lh kind x y) = true):=by
      intro d h1 h2
      have ba:=Jm (a:=a) he hi1 (fun z hz=>(hE z).2 (.inl hz)) h1 h2
      have bb:=Jm (a:=b) he hi1 (fun z hz=>(hE z).2 (.inr hz)) h1 h2
      have rd:0≤d∧d < 73049:=by omega
      have ex:jo a d = x:=by
        rw [Bool.eq_iff_iff,iH,hx2, ← ba]
        exact ⟨fun h=>⟨h,rd⟩,And.left⟩
      have ey:jo b d = y:=by
        rw [Bool.eq_iff_iff,iH,hy2, ← bb]
        exact ⟨fun h=>⟨h,rd⟩,And.left⟩
      unfold Bb
      rw [ex,ey]
      exact ⟨And.left,fun h=>⟨h,rd⟩⟩
    rw [hstep]
    cases hxy:(lh kind x y) with
    | true =>
      rw [hxy] at hbt
      obtain ⟨s1,s2,s3,s4⟩:=MT (s:=⟨e[i],e[i+1]⟩) hn ht ri.1 hlt rj.2
      rw [cond_true]
      refine ih (i+1) _ hi1 (by omega) s1 s3 (fun d=>?_) (by omega)
      rw [s2,hc]
      show (Bb (lh kind) a b d∧d < e[i])∨(e[i]≤d∧d < e[i+1])↔_
      constructor
      · rintro (⟨h1,h2⟩ | ⟨h1,h2⟩)
        · exact ⟨h1,by omega⟩
        · exact ⟨(hbt d h1 h2).2 rfl,h2⟩
      · rintro ⟨h1,h2⟩
        by_cases h3:d < e[i]
        · exact .inl ⟨h1,h3⟩
        · exact .inr ⟨by omega,h2⟩
    | false =>
      rw [hxy] at hbt
      rw [cond_false]
      refine ih (i+1) _ hi1 (by omega) hn (by omega) (fun d=>?_) (by omega)
      rw [hc]
      constructor
      · rintro ⟨h1,h2⟩; exact ⟨h1,by omega⟩
      · rintro ⟨h1,h2⟩
        refine ⟨h1, ?_⟩
        by_cases h3:d < e[i]
        · exact h3
        · have:=(hbt d (by omega) h2).1 h1
          cases this
theorem yl (l b:List GSpan) (kind:Int) (hn:l.length≤100000) (hb:b.length≤100000) (hk:lh kind false false = false):∃ r,p5 l b kind = some r∧bF (-1) r∧∀ d,bg r d↔Bb (lh kind) l b d:=by
  obtain ⟨e,h1,h2,h3,h4⟩:=CE l b hn hb
  have key:∃ r,bM l b kind e 0 [] = some r∧bF (-1) r∧∀ d,bg r d↔Bb (lh kind) l b d:=by
    have hin:∀ d,Bb (lh kind) l b d→∃ x∈e, ∃ y∈e,x≤d∧d < y:=by
      intro d hd
      have hor:bg l d∨bg b d:=by
        rw [← iH, ← iH]
        have:=hd.1
        cases hx:jo l d <;> cases hy:jo b d <;> simp
        rw [hx,hy,hk] at this
        cases this
      rcases hor with hor | hor
      · obtain ⟨t,ht,h⟩:=(pU l d).2 ⟨hor,hd.2⟩
        exact ⟨t.From,(h3 _).2 (.inl ⟨t,ht, .inl rfl⟩),t.To,(h3 _).2 (.inl ⟨t,ht, .inr rfl⟩),h⟩
      · obtain ⟨t,ht,h⟩:=(pU b d).2 ⟨hor,hd.2⟩
        exact ⟨t.From,(h3 _).2 (.inr ⟨t,ht, .inl rfl⟩),t.To,(h3 _).2 (.inr ⟨t,ht, .inr rfl⟩),h⟩
    by_cases he:e.length = 0
    · have:e = []:=List.length_eq_zero_iff.1 he
      subst this
      refine ⟨[], ?_,trivial,fun d=>⟨fun h=>(aY h).elim,fun h=>?_⟩⟩
      · rw [iD]; rfl
      · obtain ⟨x,hx,_⟩:=hin d h
        simp at hx
    · have h0:0 < e.length:=by omega
      have hfirst:∀ x∈e,e[0]≤x:=by
        intro x hx
        obtain ⟨j,hj,rfl⟩:=List.getElem_of_mem hx
        by_cases hj0:j = 0
        · subst hj0; exact Int.le_refl _
        · have:=List.pairwise_iff_getElem.1 h2 0 j h0 hj (by omega); omega
      have hlast:∀ x∈e,x≤e[e.length - 1]:=by
        intro x hx
        obtain ⟨j,hj,rfl⟩:=List.getElem_of_mem hx
        by_cases hj0:j = e.length - 1
        · subst hj0; exact Int.le_refl _
        · have:=List.pairwise_iff_getElem.1 h2 j (e.length - 1) hj (by omega) (by omega); omega
      have r0:0≤e[0]:=by
        rcases (h3 _).1 (List.getElem_mem h0) with h | h <;> exact (FH h).1
      obtain ⟨r,g1,g2,g3⟩:=GX l b e hn hb h4 h2 h3 kind (e.length - 1) 0 [] h0 (by omega) trivial (by show (-1:Int)≤_; omega) (fun d=>⟨fun h=>(aY h).elim,fun ⟨h,h'⟩=>by
        obtain ⟨x,hx,_,_,hxd,_⟩:=hin d h
        have:=hfirst x hx
        omega⟩) (by simp)
      refine ⟨r,g1,g2,fun d=>?_⟩
      rw [g3]
      constructor
      · exact And.left
      · intro h
        obtain ⟨_,_,y,hy,_,hd⟩:=hin d h
        have:=hlast y hy
        exact ⟨h,by omega⟩
  obtain ⟨r,g1,g2,g3⟩:=key
  refine ⟨r, ?_,g2,g3⟩
  rw [A3,h1,Option.bind_some]
  exact g1
theorem vp (l:List GSpan) (s:GSpan) (hn:l.length≤100000):rE l s = some (aZ l s):=by
  obtain ⟨r,h1,h2,h3⟩:=yl l [s] 1 hn (by simp) rfl
  obtain ⟨c1,c2⟩:=ca l s
  rw [HY]
  have e:r = aZ l s:=ox h2 c1 fun d=>by
    rw [h3,c2]
    unfold Bb
    have h:jo [s] d = true↔s.From≤d∧d < s.To:=by simp [jo]
    rw [← iH, ← h]
    cases jo l d <;> cases jo [s] d <;> simp [lh]
  rw [h1,Option.bind_some,e]
end Go.Ax
