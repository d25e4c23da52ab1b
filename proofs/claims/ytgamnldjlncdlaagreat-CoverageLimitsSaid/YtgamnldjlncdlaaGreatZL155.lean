import Derived.Test.YtgamnldjlncdlaaGreatZL154
set_option linter.all false
/- Facts of functions of the program: what they compute. -/
set_option maxRecDepth 100000
namespace Go.Ax
open Go.Proofs
open Go.Proofs
noncomputable def DO (out:List ab) (s:ab):List ab:=match out.getLast? with
  | none=>[s]
  | some x=>if x.To = s.From then out.dropLast++[⟨x.From,s.To⟩] else out++[s]
theorem M9 (p:List ab) (x s:ab):DO (p++[x]) s = if x.To = s.From then p++[⟨x.From,s.To⟩] else (p++[x])++[s]:=by
  unfold DO
  rw [List.getLast?_concat]
  simp
theorem Q0 (out:List ab) (s:ab) (hn:out.length≤900000):Jg out s = some (DO out s):=by
  show (uz out s).opt = _
  simp only [uz,oT]
  rcases oV out with rfl | ⟨p,x,rfl⟩
  · rw [show decide ((0:Int) < ((([]:List ab).length:Nat):Int)) = false from rfl]
    simp only [Bool.false_and,Bool.false_eq_true,false_implies,Hl,cond_false]
    rw [aE (pz (by simp)),aE (pz (by simp))]
    rfl
  · have hl:(p++[x]).length = p.length+1:=by simp
    have hp:p.length≤1000000:=by omega
    have h0:decide ((0:Int) < (((p++[x]).length:Nat):Int)) = true:=decide_eq_true (by omega)
    have hlt:((p.length:Nat):Int) < (((p++[x]).length:Nat):Int):=by omega
    have hg:(p++[x]).getD (Int.toNat ((p.length:Nat):Int)) aq = x:=by
      rw [Int.toNat_natCast]; exact o4 p [] x aq
    have hg0:(p++[x]).getD (0+Int.toNat ((p.length:Nat):Int)) aq = x:=by
      rw [Nat.zero_add]; exact hg
    have hi0:(0:Int)≤((p.length:Nat):Int):=by omega
    rw [RR p x hp,h0,hg,hg0,aE (fun _=>hi0),aE (fun _=>hlt),cond_true,M9,Nat.zero_add,Int.toNat_natCast,Qi]
    by_cases hc:x.To = s.From
    · rw [beq_iff_eq.2 hc,cond_true,aE (pz (by omega)),aE ⟨hi0,hlt⟩,if_pos hc]
    · rw [beq_eq_false_iff_ne.2 hc,cond_false,aE (pz (by omega)),aE (pz (by omega)),if_neg hc]
theorem Xa {out:List ab} {s:ab} (hn:df (-1) out) (hb:FQ (-1) out≤s.From) (h1:0≤s.From) (h2:s.From < s.To) (h3:s.To≤73049) :
    df (-1) (DO out s)∧(∀ d,dD (DO out s) d↔dD out d∨(s.From≤d∧d < s.To))∧FQ (-1) (DO out s)≤s.To∧(DO out s).length≤out.length+1:=by
  rcases oV out with rfl | ⟨p,x,rfl⟩
  · refine ⟨⟨by omega,h2,h3,trivial⟩,fun d=>?_,Int.le_refl _,by simp [DO]⟩
    show dD [s] d↔_
    rw [cg]; simp [dp]
  · obtain ⟨n1,n2,n3,n4⟩:=nU.1 hn
    rw [q8] at hb
    rw [M9]
    by_cases hc:x.To = s.From
    · rw [if_pos hc]
      refine ⟨nU.2 ⟨n1,n2,by show x.From < s.To; omega,h3⟩,fun d=>?_,by rw [q8]; exact Int.le_refl _,by simp⟩
      rw [rt,rt,cg,cg]
      simp only [dp,or_false]
      constructor
      · rintro (h | ⟨h4,h5⟩)
        · exact .inl (.inl h)
        · by_cases hd:d < x.To
          · exact .inl (.inr ⟨h4,hd⟩)
          · exact .inr ⟨by omega,h5⟩
      · rintro ((h | ⟨h4,h5⟩) | ⟨h4,h5⟩)
        · exact .inl h
        · exact .inr ⟨h4,by omega⟩
        · exact .inr ⟨by omega,h5⟩
    · rw [if_neg hc]
      refine ⟨nU.2 ⟨hn,by rw [q8]; omega,h2,h3⟩,fun d=>?_,by rw [q8]; exact Int.le_refl _,by simp⟩
      rw [rt (b:=[s]),cg]; simp [dp]
def jh (l:List ab) (d:Int):Bool:=l.any fun s=>decide (s.From≤d)&&decide (d < s.To)
theorem jM {l:List ab} {d:Int}:jh l d = true↔dD l d:=by
  unfold jh dD
  rw [List.any_eq_true]
  constructor
  · rintro ⟨s,hs,h⟩
    rw [Bool.and_eq_true,decide_eq_true_iff,decide_eq_true_iff] at h
    exact ⟨s,hs,h⟩
  · rintro ⟨s,hs,h⟩
    exact ⟨s,hs,by rw [Bool.and_eq_true,decide_eq_true_iff,decide_eq_true_iff]; exact h⟩
def ID (f:Bool→Bool→Bool) (a b:List ab) (d:Int):Prop:=f (jh a d) (jh b d) = true∧0≤d∧d < 73049
def l5 (kind:Int) (x y:Bool):Bool:=(bif (bif (bif (bif (kind == (1:Int)) then x else false) then y else false) then true else (bif (kind == (2:Int)) then (bif x then true else y) else false)) then true else (bif (bif (kind == (3:Int)) then x else false) then (!y) else false))
theorem PX {l:List ab} {x:Int} (h:mE l x):0≤x∧x≤73049:=by
  obtain ⟨s,hs,hx⟩:=h
  have:=Rn l s hs
  omega
theorem RK {e:List Int} {a:List ab} {i:Nat} (he:m7 e) (hi:i+1 < e.length) (hE:∀ x,mE a x→x∈e) {d:Int} (h1:e[i]'(by omega)≤d) (h2:d < e[i+1]) :
    (dD a d∧0≤d∧d < 73049)↔(dD a (e[i]'(by omega))∧0≤e[i]'(by omega)∧e[i]'(by omega) < 73049):=by
  have hasc:∀ j k (hj:j < e.length) (hk:k < e.length),j < k→e[j] < e[k]:=fun j k hj hk h=>List.pairwise_iff_getElem.1 he j k hj hk h
  have hlo:∀ x∈e,x < e[i+1]→x≤e[i]'(by omega):=by
    intro x hx hlt
    obtain ⟨j,hj,rfl⟩:=List.getElem_of_mem hx
    rcases Nat.lt_trichotomy j i with h | h | h
    · have:=hasc j i hj (by omega) h; omega
    · subst h; exact Int.le_refl _
    · by_cases h':j = i+1
      · subst h'; omega
      · have:=hasc (i+1) j hi hj (by omega); omega
  have hhi:∀ x∈e,e[i]'(by omega) < x→e[i+1]≤x:=by
    intro x hx hlt
    obtain ⟨j,hj,rfl⟩:=List.getElem_of_mem hx
    rcases Nat.lt_trichotomy j (i+1) with h | h | h
    · by_cases h':j = i
      · subst h'; omega
      · have:=hasc j i hj (by omega) (by omega); omega
    · subst h; exact Int.le_refl _
    · have:=hasc (i+1) j hi hj h; omega
  rw [← yM, ← yM]
  constructor
  · rintro ⟨s,hs,h3,h4⟩
    have e1:=hE _ ⟨s,hs, .inl rfl⟩
    have:=hlo _ e1 (by omega)
    exact ⟨s,hs,this,by omega⟩
  · rintro ⟨s,hs,h3,h4⟩
    have e2:=hE _ ⟨s,hs, .inr rfl⟩
    have:=hhi _ e2 h4
    exact ⟨s,hs,by omega,by omega⟩
theorem OH (a b:List ab) (e:List Int) (ha:a.length≤100000) (hb:b.length≤100000) (hel:e.length≤500000) (he:m7 e) (hE:∀ x,x∈e↔mE a x∨mE b x) (kind:Int) :
    ∀ (n i:Nat) (out:List ab) (hi:i < e.length),e.length = i+1+n→df (-1) out→FQ (-1) out≤e[i]→(∀ d,dD out d↔ID (l5 kind) a b d∧d < e[i])→out.length≤i →
    ∃ r,fixL (iP a b kind e) (out,(i:Int)) = some r∧df (-1) r∧(∀ d,dD r d↔ID (l5 kind) a b d∧d < e[e.length - 1]'(by omega)):=by
  intro n
  induction n with
  | zero =>
    intro i out hi h hn ht hc ho
    refine ⟨out, ?_,hn, ?_⟩
    · rw [bS]
      show (gy a b kind e out (i:Int)).opt.bind _ = _
      simp only [gy,oT]
      rw [cP (by omega),show i+1 = e.length by omega,cu,cond_false]
      rfl
    · have:e.length - 1 = i:=by omega
      simp only [this]
      exact hc
  | succ n ih =>
    intro i out hi h hn ht hc ho
    have hi1:i+1 < e.length:=by omega
    have hlt:e[i] < e[i+1]:=List.pairwise_iff_getElem.1 he i (i+1) hi hi1 (by omega)
    have r0:∀ x∈e,0≤x∧x≤73049:=by
      intro x hx
      rcases (hE x).1 hx with h | h <;> exact PX h
    have ri:=r0 e[i] (List.getElem_mem hi)
    have rj:=r0 e[i+1] (List.getElem_mem hi1)
    obtain ⟨x,hx1,hx2⟩:=yO a e[i] (by omega)
    obtain ⟨y,hy1,hy2⟩:=yO b e[i] (by omega)
    have hstep:(gy a b kind e out (i:Int)).opt = bif (l5 kind x y) then some (.inl (DO out ⟨e[i],e[i+1]⟩,((i+1:Nat):Int))) else some (.inl (out,((i+1:Nat):Int))):=by
      simp only [gy,oT]
      rw [cP (by omega),dH hi1,cond_true,aE (bQ hi),fX e _ i hi,hx1,Option.bind_some,aE (bQ hi),hy1,Option.bind_some]
      rw [aE (bQ hi),aE (bQ hi1),fX e _ (i+1) hi1,Q0 _ _ (by omega),Option.bind_some]
      rfl
    have hbt:∀ d,e[i]≤d→d < e[i+1]→(ID (l5 kind) a b d↔(l5 kind x y) = true):=by
      intro d h1 h2
      have ba:=RK (a:=a) he hi1 (fun z hz=>(hE z).2 (.inl hz)) h1 h2
      have bb:=RK (a:=b) he hi1 (fun z hz=>(hE z).2 (.inr hz)) h1 h2
      have rd:0≤d∧d < 73049:=by omega
      have ex:jh a d = x:=by
        rw [Bool.eq_iff_iff,jM,hx2, ← ba]
        exact ⟨fun h=>⟨h,rd⟩,And.left⟩
      have ey:jh b d = y:=by
        rw [Bool.eq_iff_iff,jM,hy2, ← bb]
        exact ⟨fun h=>⟨h,rd⟩,And.left⟩
      unfold ID
      rw [ex,ey]
      exact ⟨And.left,fun h=>⟨h,rd⟩⟩
    rw [bS]
    show ∃ r,(gy a b kind e out (i:Int)).opt.bind _ = some r∧_
    rw [hstep]
    cases hxy:(l5 kind x y) with
    | true =>
      rw [hxy] at hbt
      obtain ⟨s1,s2,s3,s4⟩:=Xa (s:=⟨e[i],e[i+1]⟩) hn ht ri.1 hlt rj.2
      rw [cond_true,Option.bind_some]
      refine ih (i+1) _ hi1 (by omega) s1 s3 (fun d=>?_) (by omega)
      rw [s2,hc]
      show (ID (l5 kind) a b d∧d < e[i])∨(e[i]≤d∧d < e[i+1])↔_
      constructor
      · rintro (⟨h1,h2⟩ | ⟨h1,h2⟩)
        · exact ⟨h1,by omega⟩
        · exact ⟨(hbt d h1 h2).2 rfl,h2⟩
      · rintro ⟨h1,h2⟩
        by_cases h3:d < e[i]
        · exact .inl ⟨h1,h3⟩
        · exact .inr ⟨by omega,h2⟩
    | false =>
      rw [hxy] at hbt
      rw [cond_false,Option.bind_some]
      refine ih (i+1) _ hi1 (by omega) hn (by omega) (fun d=>?_) (by omega)
      rw [hc]
      constructor
      · rintro ⟨h1,h2⟩; exact ⟨h1,by omega⟩
      · rintro ⟨h1,h2⟩
        refine ⟨h1, ?_⟩
        by_cases h3:d < e[i]
        · exact h3
        · have:=(hbt d (by omega) h2).1 h1
          cases this
theorem pC (l b:List ab) (kind:Int) (hn:l.length≤100000) (hb:b.length≤100000) (hk:l5 kind false false = false):∃ r,iI l b kind = some r∧df (-1) r∧∀ d,dD r d↔ID (l5 kind) l b d:=by
  obtain ⟨e,h1,h2,h3,h4⟩:=Np l b hn hb
  have key:∃ r,fixL (iP l b kind e) (([]:List ab),(0:Int)) = some r∧df (-1) r∧∀ d,dD r d↔ID (l5 kind) l b d:=by
    have hin:∀ d,ID (l5 kind) l b d→∃ x∈e, ∃ y∈e,x≤d∧d < y:=by
      intro d hd
      have hor:dD l d∨dD b d:=by
        rw [← jM, ← jM]
        have:=hd.1
        cases hx:jh l d <;> cases hy:jh b d <;> simp
        rw [hx,hy,hk] at this
        cases this
      rcases hor with hor | hor
      · obtain ⟨t,ht,h⟩:=(yM l d).2 ⟨hor,hd.2⟩
        exact ⟨t.From,(h3 _).2 (.inl ⟨t,ht, .inl rfl⟩),t.To,(h3 _).2 (.inl ⟨t,ht, .inr rfl⟩),h⟩
      · obtain ⟨t,ht,h⟩:=(yM b d).2 ⟨hor,hd.2⟩
        exact ⟨t.From,(h3 _).2 (.inr ⟨t,ht, .inl rfl⟩),t.To,(h3 _).2 (.inr ⟨t,ht, .inr rfl⟩),h⟩
    by_cases he:e.length = 0
    · have:e = []:=List.length_eq_zero_iff.1 he
      subst this
      refine ⟨[], ?_,trivial,fun d=>⟨fun h=>(dp h).elim,fun h=>?_⟩⟩
      · rw [bS]; rfl
      · obtain ⟨x,hx,_⟩:=hin d h
        simp at hx
    · have h0:0 < e.length:=by omega
      have hfirst:∀ x∈e,e[0]≤x:=by
        intro x hx
        obtain ⟨j,hj,rfl⟩:=List.getElem_of_mem hx
        by_cases hj0:j = 0
        · subst hj0; exact Int.le_refl _
        · have:=List.pairwise_iff_getElem.1 h2 0 j h0 hj (by omega); omega
      have hlast:∀ x∈e,x≤e[e.length - 1]:=by
        intro x hx
        obtain ⟨j,hj,rfl⟩:=List.getElem_of_mem hx
        by_cases hj0:j = e.length - 1
        · subst hj0; exact Int.le_refl _
        · have:=List.pairwise_iff_getElem.1 h2 j (e.length - 1) hj (by omega) (by omega); omega
      have r0:0≤e[0]:=by
        rcases (h3 _).1 (List.getElem_mem h0) with h | h <;> exact (PX h).1
      obtain ⟨r,g1,g2,g3⟩:=OH l b e hn hb h4 h2 h3 kind (e.length - 1) 0 [] h0 (by omega) trivial (by show (-1:Int)≤_; omega) (fun d=>⟨fun h=>(dp h).elim,fun ⟨h,h'⟩=>by
        obtain ⟨x,hx,_,_,hxd,_⟩:=hin d h
        have:=hfirst x hx
        omega⟩) (by simp)
      refine ⟨r,g1,g2,fun d=>?_⟩
      rw [g3]
      constructor
      · exact And.left
      · intro h
        obtain ⟨_,_,y,hy,_,hd⟩:=hin d h
        have:=hlast y hy
        exact ⟨h,by omega⟩
  obtain ⟨r,g1,g2,g3⟩:=key
  refine ⟨r, ?_,g2,g3⟩
  show (xB [l,b]).bind _ = _
  rw [h1,Option.bind_some]
  show (fixL (iP l b kind e) (([]:List ab),(0:Int))).bind _ = _
  rw [g1,Option.bind_some]
  rfl
theorem wW (l:List ab) (hn:l.length≤100000):ll l = some (cy l):=by
  obtain ⟨r,h1,h2,h3⟩:=pC l [] 2 hn (by simp) rfl
  obtain ⟨c1,c2,_⟩:=cE l
  show (iI l [] 2).bind _ = _
  have e:r = cy l:=wd h2 c1 fun d=>by
    rw [h3,c2]
    unfold ID
    rw [← jM]
    have:jh [] d = false:=rfl
    rw [this]
    cases jh l d <;> simp [l5]
  rw [h1,Option.bind_some,e]
  rfl
theorem F3 (l:List ab) (s:ab) (hn:l.length≤100000):wc l s = some (da l s):=by
  obtain ⟨r,h1,h2,h3⟩:=pC l [s] 1 hn (by simp) rfl
  obtain ⟨c1,c2⟩:=fW l s
  show (iI l [s] 1).bind _ = _
  have e:r = da l s:=wd h2 c1 fun d=>by
    rw [h3,c2]
    unfold ID
    have h:jh [s] d = true↔s.From≤d∧d < s.To:=by simp [jh]
    rw [← jM, ← h]
    cases jh l d <;> cases jh [s] d <;> simp [l5]
  rw [h1,Option.bind_some,e]
  rfl
end Go.Ax
