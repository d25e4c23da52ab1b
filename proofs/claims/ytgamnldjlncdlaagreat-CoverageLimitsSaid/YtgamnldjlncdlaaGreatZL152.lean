import Derived.Test.YtgamnldjlncdlaaGreatZL151
set_option linter.all false
/- Facts of functions of the program: what they compute. -/
set_option maxRecDepth 100000
namespace Go.Ax
open Go.Proofs
open Go.Proofs
def dD (l:List ab) (d:Int):Prop:=∃ s∈l,s.From≤d∧d < s.To
def df (lo:Int):List ab→Prop
  | []=>True
  | s :: r=>lo < s.From∧s.From < s.To∧s.To≤73049∧df s.To r
def FQ (lo:Int):List ab→Int
  | []=>lo
  | s :: r=>FQ s.To r
theorem cg {s:ab} {r:List ab} {d:Int}:dD (s :: r) d↔(s.From≤d∧d < s.To)∨dD r d:=by simp [dD]
theorem dp {d:Int}:¬ dD [] d:=by simp [dD]
theorem rt {a b:List ab} {d:Int}:dD (a++b) d↔dD a d∨dD b d:=by
  unfold dD
  constructor
  · rintro ⟨s,hs,h⟩
    rcases List.mem_append.1 hs with hs | hs
    · exact .inl ⟨s,hs,h⟩
    · exact .inr ⟨s,hs,h⟩
  · rintro (⟨s,hs,h⟩ | ⟨s,hs,h⟩)
    · exact ⟨s,List.mem_append.2 (.inl hs),h⟩
    · exact ⟨s,List.mem_append.2 (.inr hs),h⟩
theorem iV:∀ {l:List ab} {lo d:Int},df lo l→dD l d→lo < d∧d < 73049
  | [],_,_,_,hc=>(dp hc).elim
  | s :: r,lo,d,⟨h1,h2,h3,h4⟩,hc=>by
    rcases cg.1 hc with h | h
    · omega
    · have:=iV h4 h
      omega
theorem wd:∀ {a b:List ab} {lo:Int},df lo a→df lo b→(∀ d,dD a d↔dD b d)→a = b
  | [],[],_,_,_,_=>rfl
  | [],t :: u,_,_,hb,h=>(dp ((h t.From).2 (cg.2 (.inl ⟨Int.le_refl _,hb.2.1⟩)))).elim
  | s :: r,[],_,ha,_,h=>(dp ((h s.From).1 (cg.2 (.inl ⟨Int.le_refl _,ha.2.1⟩)))).elim
  | s :: r,t :: u,lo,⟨a1,a2,a3,a4⟩,⟨b1,b2,b3,b4⟩,h=>by
    have hs:=(h s.From).1 (cg.2 (.inl ⟨Int.le_refl _,a2⟩))
    have ht:=(h t.From).2 (cg.2 (.inl ⟨Int.le_refl _,b2⟩))
    have e1:s.From = t.From:=by
      rcases cg.1 hs with hs | hs
      · rcases cg.1 ht with ht | ht
        · omega
        · have:=iV a4 ht; omega
      · have:=iV b4 hs
        rcases cg.1 ht with ht | ht
        · omega
        · have:=iV a4 ht; omega
    have e2:s.To = t.To:=by
      rcases Int.lt_trichotomy s.To t.To with hlt | he | hlt
      · have:=(h s.To).2 (cg.2 (.inl ⟨by omega,hlt⟩))
        rcases cg.1 this with hc | hc
        · omega
        · have:=iV a4 hc; omega
      · exact he
      · have:=(h t.To).1 (cg.2 (.inl ⟨by omega,hlt⟩))
        rcases cg.1 this with hc | hc
        · omega
        · have:=iV b4 hc; omega
    have e3:s = t:=by
      cases s; cases t
      simp only at e1 e2
      rw [e1,e2]
    subst e3
    rw [wd a4 b4 fun d=>?_]
    constructor
    · intro hc
      have h1:=iV a4 hc
      rcases cg.1 ((h d).1 (cg.2 (.inr hc))) with h2 | h2
      · omega
      · exact h2
    · intro hc
      have h1:=iV b4 hc
      rcases cg.1 ((h d).2 (cg.2 (.inr hc))) with h2 | h2
      · omega
      · exact h2
theorem q8 (lo:Int):∀ (l:List ab) (s:ab),FQ lo (l++[s]) = s.To
  | [],s=>rfl
  | t :: r,s=>q8 t.To r s
theorem nU:∀ {l:List ab} {s:ab} {lo:Int},df lo (l++[s])↔df lo l∧FQ lo l < s.From∧s.From < s.To∧s.To≤73049
  | [],s,lo=>by simp [df,FQ]
  | t :: r,s,lo=>by
    rw [List.cons_append]
    unfold df FQ
    rw [nU]
    constructor
    · rintro ⟨h1,h2,h3,h4,h5⟩; exact ⟨⟨h1,h2,h3,h4⟩,h5⟩
    · rintro ⟨⟨h1,h2,h3,h4⟩,h5⟩; exact ⟨h1,h2,h3,h4,h5⟩
theorem oV {T:Type} (l:List T):l = []∨∃ p x,l = p++[x]:=by
  rcases List.eq_nil_or_concat l with h | ⟨p,x,h⟩
  · exact .inl h
  · exact .inr ⟨p,x,by rw [h]; simp⟩
noncomputable def l6 (out:List ab) (s:ab):List ab:=match out.getLast? with
  | none=>[s]
  | some x=>if s.From≤x.To then out.dropLast++[⟨x.From,if x.To < s.To then s.To else x.To⟩] else out++[s]
theorem F4 (s:ab):l6 [] s = [s]:=rfl
theorem Dq (p:List ab) (x s:ab):l6 (p++[x]) s = if s.From≤x.To then p++[⟨x.From,if x.To < s.To then s.To else x.To⟩] else (p++[x])++[s]:=by
  unfold l6
  rw [List.getLast?_concat]
  simp
theorem Wv {out:List ab} {s:ab} (hn:df (-1) out) (hb:∀ x∈out,x.From≤s.From) (h1:0≤s.From) (h2:s.From < s.To) (h3:s.To≤73049) :
    df (-1) (l6 out s)∧(∀ d,dD (l6 out s) d↔dD out d∨(s.From≤d∧d < s.To))∧(∀ x∈l6 out s,x.From≤s.From)∧(l6 out s).length≤out.length+1:=by
  rcases oV out with rfl | ⟨p,x,rfl⟩
  · rw [F4]
    refine ⟨⟨by omega,h2,h3,trivial⟩,fun d=>?_,fun x hx=>?_,by simp⟩
    · rw [cg]; simp [dp]
    · rw [List.mem_singleton.1 hx]; exact Int.le_refl _
  · obtain ⟨n1,n2,n3,n4⟩:=nU.1 hn
    have hx:=hb x (by simp)
    rw [Dq]
    by_cases hc:s.From≤x.To
    · rw [if_pos hc]
      have hm:x.To≤(if x.To < s.To then s.To else x.To)∧s.To≤(if x.To < s.To then s.To else x.To)∧((if x.To < s.To then s.To else x.To) = x.To∨(if x.To < s.To then s.To else x.To) = s.To):=by
        split <;> omega
      generalize (if x.To < s.To then s.To else x.To) = m at hm
      refine ⟨nU.2 ⟨n1,n2,by show x.From < m; omega,by show m≤73049; omega⟩,fun d=>?_,fun y hy=>?_,by simp⟩
      · rw [rt,rt,cg,cg]
        simp only [dp,or_false]
        constructor
        · rintro (h | ⟨h4,h5⟩)
          · exact .inl (.inl h)
          · by_cases hd:d < x.To
            · exact .inl (.inr ⟨h4,hd⟩)
            · exact .inr ⟨by omega,by omega⟩
        · rintro ((h | ⟨h4,h5⟩) | ⟨h4,h5⟩)
          · exact .inl h
          · exact .inr ⟨h4,by omega⟩
          · exact .inr ⟨by omega,by omega⟩
      · rcases List.mem_append.1 hy with hy | hy
        · exact hb y (by simp [hy])
        · rw [List.mem_singleton.1 hy]; exact hx
    · rw [if_neg hc]
      refine ⟨nU.2 ⟨hn,by rw [q8]; omega,h2,h3⟩,fun d=>?_,fun y hy=>?_,by simp⟩
      · rw [rt (b:=[s]),cg]; simp [dp]
      · rcases List.mem_append.1 hy with hy | hy
        · exact hb y hy
        · rw [List.mem_singleton.1 hy]; exact Int.le_refl _
theorem MU:∀ (l out:List ab),df (-1) out→(∀ x∈out, ∀ s∈l,x.From≤s.From)→l.Pairwise (fun a b=>a.From≤b.From)→(∀ s∈l,0≤s.From∧s.From < s.To∧s.To≤73049) →
    df (-1) (l.foldl l6 out)∧(∀ d,dD (l.foldl l6 out) d↔dD out d∨dD l d)∧(l.foldl l6 out).length≤out.length+l.length
  | [],out,hn,_,_,_=>⟨hn,fun d=>by simp [dp],by simp⟩
  | s :: l,out,hn,hb,hp,ho=>by
    obtain ⟨o1,o2,o3⟩:=ho s (by simp)
    obtain ⟨j1,j2,j3,j4⟩:=Wv hn (fun x hx=>hb x hx s (by simp)) o1 o2 o3
    obtain ⟨p1,p2⟩:=List.pairwise_cons.1 hp
    obtain ⟨f1,f2,f3⟩:=MU l (l6 out s) j1 (fun x hx t ht=>by have:=j3 x hx; have:=p1 t ht; omega) p2 (fun t ht=>ho t (by simp [ht]))
    rw [List.foldl_cons]
    refine ⟨f1,fun d=>?_,by rw [List.length_cons]; omega⟩
    rw [f2,j2,cg,or_assoc]
open Go.Proofs
def cV (s:ab):ab:=ab.mk (if s.From < (0:Int) then (0:Int) else s.From) (if (73049:Int) < s.To then (73049:Int) else s.To)
def Dt (s:ab):Bool:=decide (s.From < s.To)
def gm (l:List ab):List ab:=(l.map cV).filter Dt
theorem MV (s:ab) (d:Int):((cV s).From≤d∧d < (cV s).To)↔(s.From≤d∧d < s.To)∧0≤d∧d < 73049:=by
  unfold cV
  simp only
  split <;> split <;> omega
theorem yM (l:List ab) (d:Int):dD (gm l) d↔dD l d∧0≤d∧d < 73049:=by
  unfold dD gm
  constructor
  · rintro ⟨s,hs,h⟩
    obtain ⟨h1,_⟩:=List.mem_filter.1 hs
    obtain ⟨t,ht,rfl⟩:=List.mem_map.1 h1
    have:=(MV t d).1 h
    exact ⟨⟨t,ht,this.1⟩,this.2⟩
  · rintro ⟨⟨t,ht,h⟩,h2⟩
    have:=(MV t d).2 ⟨h,h2⟩
    refine ⟨cV t,List.mem_filter.2 ⟨List.mem_map.2 ⟨t,ht,rfl⟩, ?_⟩,this⟩
    unfold Dt
    rw [decide_eq_true_iff]; omega
theorem Rn (l:List ab):∀ s∈gm l,0≤s.From∧s.From < s.To∧s.To≤73049:=by
  intro s hs
  obtain ⟨h1,h2⟩:=List.mem_filter.1 hs
  obtain ⟨t,ht,rfl⟩:=List.mem_map.1 h1
  unfold Dt at h2
  rw [decide_eq_true_iff] at h2
  refine ⟨?_,h2, ?_⟩ <;> (unfold cV; simp only; split <;> omega)
theorem PW (l:List ab):(gm l).length≤l.length:=by
  unfold gm
  have:=List.length_filter_le Dt (l.map cV)
  simpa using this
theorem pz {n:Nat} (h:n≤4000000):AT n 16:=⟨by omega,by omega⟩
theorem S5 (l:List ab) (hn:l.length≤1000000):∀ (n i:Nat) (out:List ab),l.length = i+n→out.length≤i→fixL (iT l) ((i:Int),out) = some (out++gm (l.drop i)):=by
  intro n
  induction n with
  | zero =>
    intro i out h ho
    rw [bS]
    show (kg l (i:Int) out).opt.bind _ = _
    simp only [kg,oT]
    have:i = l.length:=by omega
    subst this
    rw [cu,cond_false,List.drop_length]
    simp [gm]
  | succ n ih =>
    intro i out h ho
    have hi:i < l.length:=by omega
    rw [bS]
    show (kg l (i:Int) out).opt.bind _ = _
    simp only [kg,oT]
    rw [dH hi,cond_true,aE (bQ hi),eL l _ i hi]
    have e1:AH l[i] = some (cV l[i]):=rfl
    rw [e1,Option.bind_some,cP (by omega),List.drop_eq_getElem_cons hi]
    by_cases hk:(cV l[i]).From < (cV l[i]).To
    · have hk':decide ((cV l[i]).From < (cV l[i]).To) = true:=decide_eq_true hk
      have hc:gm (l[i] :: l.drop (i+1)) = cV l[i] :: gm (l.drop (i+1)):=by
        unfold gm
        rw [List.map_cons,List.filter_cons,if_pos (by unfold Dt; exact hk')]
      rw [hk',cond_true,aE (pz (by omega)),Option.bind_some,hc]
      show fixL (iT l) (((i+1:Nat):Int),out++[cV l[i]]) = _
      rw [ih (i+1) _ (by omega) (by simp; omega),List.append_assoc]
      rfl
    · have hk':decide ((cV l[i]).From < (cV l[i]).To) = false:=decide_eq_false hk
      have hc:gm (l[i] :: l.drop (i+1)) = gm (l.drop (i+1)):=by
        unfold gm
        rw [List.map_cons,List.filter_cons,if_neg (by unfold Dt; rw [hk']; simp)]
      rw [hk',cond_false,Option.bind_some,hc]
      show fixL (iT l) (((i+1:Nat):Int),out) = _
      rw [ih (i+1) _ (by omega) (by omega)]
theorem RR (p:List ab) (x:ab) (h:p.length≤1000000):ai ((((p++[x]).length:Nat):Int) - 1) = ((p.length:Nat):Int):=by
  have hl:(p++[x]).length = p.length+1:=by simp
  rw [bu (by omega) (by omega)]
  omega
theorem Qi (p:List ab) (x y:ab):(p++[x]).set p.length y = p++[y]:=by
  rw [List.set_append_right _ _ (Nat.le_refl _)]
  simp
theorem Sg (t out:List ab) (i:Nat) (hi:i < t.length) (ho:out.length≤1000000) (hn:t.length≤1000000) :
    (iW out t ((t.length:Nat):Int) (i:Int)).opt = some (.inl (l6 out t[i],t,((t.length:Nat):Int),((i+1:Nat):Int))):=by
  simp only [iW,oT]
  rw [dH hi,cond_true,aE (bQ hi),fX t _ i hi,cP (by omega)]
  rcases oV out with rfl | ⟨p,x,rfl⟩
  · rw [show decide ((0:Int) < ((([]:List ab).length:Nat):Int)) = false from rfl]
    simp only [Bool.false_and,Bool.false_eq_true,false_implies,Hl,cond_false]
    rw [aE (pz (by simp)),F4]
    rfl
  · have hp:p.length≤1000000:=by simp at ho; omega
    have hl:(p++[x]).length = p.length+1:=by simp
    have h0:decide ((0:Int) < (((p++[x]).length:Nat):Int)) = true:=decide_eq_true (by omega)
    have hlt:((p.length:Nat):Int) < (((p++[x]).length:Nat):Int):=by omega
    have hg:(p++[x]).getD (0+Int.toNat ((p.length:Nat):Int)) aq = x:=by
      rw [Nat.zero_add,Int.toNat_natCast]; exact o4 p [] x aq
    have hi0:(0:Int)≤((p.length:Nat):Int):=by omega
    rw [RR p x hp,h0,hg,aE (fun _=>hi0),aE (fun _=>hlt),cond_true,Dq,Nat.zero_add,Int.toNat_natCast,Qi]
    by_cases hc:t[i].From≤x.To
    · rw [decide_eq_true hc,cond_true,aE ⟨hi0,hlt⟩,aE ⟨hi0,hlt⟩,if_pos hc]
    · rw [decide_eq_false hc,cond_false,aE (pz (by omega)),if_neg hc]
theorem Uo (out:List ab) (s:ab):(l6 out s).length≤out.length+1:=by
  rcases oV out with rfl | ⟨p,x,rfl⟩
  · rw [F4]; simp
  · rw [Dq]; split <;> simp
theorem SR (t:List ab) (hn:t.length≤1000000):∀ (n i:Nat) (out:List ab),t.length = i+n→out.length≤i→fixL (mK t ((t.length:Nat):Int)) (out,t,((t.length:Nat):Int),(i:Int)) = some ((t.drop i).foldl l6 out):=by
  intro n
  induction n with
  | zero =>
    intro i out h ho
    rw [bS]
    show (iW out t ((t.length:Nat):Int) (i:Int)).opt.bind _ = _
    simp only [iW,oT]
    have:i = t.length:=by omega
    subst this
    rw [cu,cond_false,List.drop_length]
    rfl
  | succ n ih =>
    intro i out h ho
    have hi:i < t.length:=by omega
    have:=Uo out t[i]
    rw [bS]
    show (iW out t ((t.length:Nat):Int) (i:Int)).opt.bind _ = _
    rw [Sg t out i hi (by omega) hn,Option.bind_some,List.drop_eq_getElem_cons hi,List.foldl_cons]
    exact ih (i+1) _ (by omega) (by omega)
noncomputable def cy (l:List ab):List ab:=(fP co (gm l)).foldl l6 []
theorem EB:Go.Sort.SWO co:=⟨fun x=>by simp [co],fun x y z h1 h2=>by simp [co] at *; omega,fun x y z h1 h2=>by simp [co] at *; omega⟩
theorem mG (l:List ab) (hn:l.length≤1000000):mz l = some (cy l):=by
  have h1:=S5 l hn l.length 0 [] (by omega) (by simp)
  have hc:=PW l
  have hs:=GM EB (gm l)
  show (fixL (iT l) ((0:Int),([]:List ab))).bind (sj l) = _
  rw [show ((0:Nat):Int) = 0 from rfl,List.drop_zero,List.nil_append] at h1
  rw [h1,Option.bind_some]
  show (xo (gm l)).bind _ = _
  unfold xo
  rw [aE (by omega),Option.bind_some]
  have h2:=SR (fP co (gm l)) (by omega) (fP co (gm l)).length 0 [] (by omega) (by simp)
  show (fixL (mK (fP co (gm l)) (((fP co (gm l)).length:Nat):Int)) (([]:List ab),fP co (gm l),(((fP co (gm l)).length:Nat):Int),(0:Int))).bind _ = _
  rw [show ((0:Nat):Int) = 0 from rfl,List.drop_zero] at h2
  rw [h2,Option.bind_some]
  rfl
theorem cE (l:List ab):df (-1) (cy l)∧(∀ d,dD (cy l) d↔dD l d∧0≤d∧d < 73049)∧(cy l).length≤l.length:=by
  obtain ⟨hp,hs⟩:=JE EB (gm l)
  have hc:=PW l
  obtain ⟨f1,f2,f3⟩:=MU (fP co (gm l)) [] trivial (fun x hx=>by simp at hx) (hs.imp fun h=>by simp [co] at h; omega) (fun s h=>Rn l s (hp.mem_iff.1 h))
  refine ⟨f1,fun d=>?_, ?_⟩
  · unfold cy
    rw [f2, ← yM]
    constructor
    · rintro (h | ⟨s,h,h'⟩)
      · exact (dp h).elim
      · exact ⟨s,hp.mem_iff.1 h,h'⟩
    · rintro ⟨s,h,h'⟩
      exact .inr ⟨s,hp.mem_iff.2 h,h'⟩
  · unfold cy
    have:=hp.length_eq
    simp at f3
    omega
end Go.Ax
