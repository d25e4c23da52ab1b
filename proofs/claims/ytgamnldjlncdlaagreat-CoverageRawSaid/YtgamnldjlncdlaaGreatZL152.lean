import Derived.Test.YtgamnldjlncdlaaGreatZL151
set_option linter.all false
/- Facts of functions of the program: what they compute. -/
set_option maxRecDepth 100000
namespace Go.Ax
open Go.Proofs
open Go.Proofs
def eY (l:List ab) (d:Int):Prop:=∃ s∈l,s.From≤d∧d < s.To
def ee (lo:Int):List ab→Prop
  | []=>True
  | s :: r=>lo < s.From∧s.From < s.To∧s.To≤73049∧ee s.To r
def HF (lo:Int):List ab→Int
  | []=>lo
  | s :: r=>HF s.To r
theorem cy {s:ab} {r:List ab} {d:Int}:eY (s :: r) d↔(s.From≤d∧d < s.To)∨eY r d:=by simp [eY]
theorem eD {d:Int}:¬ eY [] d:=by simp [eY]
theorem rG {a b:List ab} {d:Int}:eY (a++b) d↔eY a d∨eY b d:=by
  unfold eY
  constructor
  · rintro ⟨s,hs,h⟩
    rcases List.mem_append.1 hs with hs | hs
    · exact .inl ⟨s,hs,h⟩
    · exact .inr ⟨s,hs,h⟩
  · rintro (⟨s,hs,h⟩ | ⟨s,hs,h⟩)
    · exact ⟨s,List.mem_append.2 (.inl hs),h⟩
    · exact ⟨s,List.mem_append.2 (.inr hs),h⟩
theorem kK:∀ {l:List ab} {lo d:Int},ee lo l→eY l d→lo < d∧d < 73049
  | [],_,_,_,hc=>(eD hc).elim
  | s :: r,lo,d,⟨h1,h2,h3,h4⟩,hc=>by
    rcases cy.1 hc with h | h
    · omega
    · have:=kK h4 h
      omega
theorem Ac:∀ {a b:List ab} {lo:Int},ee lo a→ee lo b→(∀ d,eY a d↔eY b d)→a = b
  | [],[],_,_,_,_=>rfl
  | [],t :: u,_,_,hb,h=>(eD ((h t.From).2 (cy.2 (.inl ⟨Int.le_refl _,hb.2.1⟩)))).elim
  | s :: r,[],_,ha,_,h=>(eD ((h s.From).1 (cy.2 (.inl ⟨Int.le_refl _,ha.2.1⟩)))).elim
  | s :: r,t :: u,lo,⟨a1,a2,a3,a4⟩,⟨b1,b2,b3,b4⟩,h=>by
    have hs:=(h s.From).1 (cy.2 (.inl ⟨Int.le_refl _,a2⟩))
    have ht:=(h t.From).2 (cy.2 (.inl ⟨Int.le_refl _,b2⟩))
    have e1:s.From = t.From:=by
      rcases cy.1 hs with hs | hs
      · rcases cy.1 ht with ht | ht
        · omega
        · have:=kK a4 ht; omega
      · have:=kK b4 hs
        rcases cy.1 ht with ht | ht
        · omega
        · have:=kK a4 ht; omega
    have e2:s.To = t.To:=by
      rcases Int.lt_trichotomy s.To t.To with hlt | he | hlt
      · have:=(h s.To).2 (cy.2 (.inl ⟨by omega,hlt⟩))
        rcases cy.1 this with hc | hc
        · omega
        · have:=kK a4 hc; omega
      · exact he
      · have:=(h t.To).1 (cy.2 (.inl ⟨by omega,hlt⟩))
        rcases cy.1 this with hc | hc
        · omega
        · have:=kK b4 hc; omega
    have e3:s = t:=by
      cases s; cases t
      simp only at e1 e2
      rw [e1,e2]
    subst e3
    rw [Ac a4 b4 fun d=>?_]
    constructor
    · intro hc
      have h1:=kK a4 hc
      rcases cy.1 ((h d).1 (cy.2 (.inr hc))) with h2 | h2
      · omega
      · exact h2
    · intro hc
      have h1:=kK b4 hc
      rcases cy.1 ((h d).2 (cy.2 (.inr hc))) with h2 | h2
      · omega
      · exact h2
theorem rT (lo:Int):∀ (l:List ab) (s:ab),HF lo (l++[s]) = s.To
  | [],s=>rfl
  | t :: r,s=>rT t.To r s
theorem oa:∀ {l:List ab} {s:ab} {lo:Int},ee lo (l++[s])↔ee lo l∧HF lo l < s.From∧s.From < s.To∧s.To≤73049
  | [],s,lo=>by simp [ee,HF]
  | t :: r,s,lo=>by
    rw [List.cons_append]
    unfold ee HF
    rw [oa]
    constructor
    · rintro ⟨h1,h2,h3,h4,h5⟩; exact ⟨⟨h1,h2,h3,h4⟩,h5⟩
    · rintro ⟨⟨h1,h2,h3,h4⟩,h5⟩; exact ⟨h1,h2,h3,h4,h5⟩
theorem pf {T:Type} (l:List T):l = []∨∃ p x,l = p++[x]:=by
  rcases List.eq_nil_or_concat l with h | ⟨p,x,h⟩
  · exact .inl h
  · exact .inr ⟨p,x,by rw [h]; simp⟩
noncomputable def mg (out:List ab) (s:ab):List ab:=match out.getLast? with
  | none=>[s]
  | some x=>if s.From≤x.To then out.dropLast++[⟨x.From,if x.To < s.To then s.To else x.To⟩] else out++[s]
theorem HL (s:ab):mg [] s = [s]:=rfl
theorem Eh (p:List ab) (x s:ab):mg (p++[x]) s = if s.From≤x.To then p++[⟨x.From,if x.To < s.To then s.To else x.To⟩] else (p++[x])++[s]:=by
  unfold mg
  rw [List.getLast?_concat]
  simp
theorem Xt {out:List ab} {s:ab} (hn:ee (-1) out) (hb:∀ x∈out,x.From≤s.From) (h1:0≤s.From) (h2:s.From < s.To) (h3:s.To≤73049) :
    ee (-1) (mg out s)∧(∀ d,eY (mg out s) d↔eY out d∨(s.From≤d∧d < s.To))∧(∀ x∈mg out s,x.From≤s.From)∧(mg out s).length≤out.length+1:=by
  rcases pf out with rfl | ⟨p,x,rfl⟩
  · rw [HL]
    refine ⟨⟨by omega,h2,h3,trivial⟩,fun d=>?_,fun x hx=>?_,by simp⟩
    · rw [cy]; simp [eD]
    · rw [List.mem_singleton.1 hx]; exact Int.le_refl _
  · obtain ⟨n1,n2,n3,n4⟩:=oa.1 hn
    have hx:=hb x (by simp)
    rw [Eh]
    by_cases hc:s.From≤x.To
    · rw [if_pos hc]
      have hm:x.To≤(if x.To < s.To then s.To else x.To)∧s.To≤(if x.To < s.To then s.To else x.To)∧((if x.To < s.To then s.To else x.To) = x.To∨(if x.To < s.To then s.To else x.To) = s.To):=by
        split <;> omega
      generalize (if x.To < s.To then s.To else x.To) = m at hm
      refine ⟨oa.2 ⟨n1,n2,by show x.From < m; omega,by show m≤73049; omega⟩,fun d=>?_,fun y hy=>?_,by simp⟩
      · rw [rG,rG,cy,cy]
        simp only [eD,or_false]
        constructor
        · rintro (h | ⟨h4,h5⟩)
          · exact .inl (.inl h)
          · by_cases hd:d < x.To
            · exact .inl (.inr ⟨h4,hd⟩)
            · exact .inr ⟨by omega,by omega⟩
        · rintro ((h | ⟨h4,h5⟩) | ⟨h4,h5⟩)
          · exact .inl h
          · exact .inr ⟨h4,by omega⟩
          · exact .inr ⟨by omega,by omega⟩
      · rcases List.mem_append.1 hy with hy | hy
        · exact hb y (by simp [hy])
        · rw [List.mem_singleton.1 hy]; exact hx
    · rw [if_neg hc]
      refine ⟨oa.2 ⟨hn,by rw [rT]; omega,h2,h3⟩,fun d=>?_,fun y hy=>?_,by simp⟩
      · rw [rG (b:=[s]),cy]; simp [eD]
      · rcases List.mem_append.1 hy with hy | hy
        · exact hb y hy
        · rw [List.mem_singleton.1 hy]; exact Int.le_refl _
theorem NY:∀ (l out:List ab),ee (-1) out→(∀ x∈out, ∀ s∈l,x.From≤s.From)→l.Pairwise (fun a b=>a.From≤b.From)→(∀ s∈l,0≤s.From∧s.From < s.To∧s.To≤73049) →
    ee (-1) (l.foldl mg out)∧(∀ d,eY (l.foldl mg out) d↔eY out d∨eY l d)∧(l.foldl mg out).length≤out.length+l.length
  | [],out,hn,_,_,_=>⟨hn,fun d=>by simp [eD],by simp⟩
  | s :: l,out,hn,hb,hp,ho=>by
    obtain ⟨o1,o2,o3⟩:=ho s (by simp)
    obtain ⟨j1,j2,j3,j4⟩:=Xt hn (fun x hx=>hb x hx s (by simp)) o1 o2 o3
    obtain ⟨p1,p2⟩:=List.pairwise_cons.1 hp
    obtain ⟨f1,f2,f3⟩:=NY l (mg out s) j1 (fun x hx t ht=>by have:=j3 x hx; have:=p1 t ht; omega) p2 (fun t ht=>ho t (by simp [ht]))
    rw [List.foldl_cons]
    refine ⟨f1,fun d=>?_,by rw [List.length_cons]; omega⟩
    rw [f2,j2,cy,or_assoc]
open Go.Proofs
def cZ (s:ab):ab:=ab.mk (if s.From < (0:Int) then (0:Int) else s.From) (if (73049:Int) < s.To then (73049:Int) else s.To)
def ET (s:ab):Bool:=decide (s.From < s.To)
def fZ (l:List ab):List ab:=(l.map cZ).filter ET
theorem N7 (s:ab) (d:Int):((cZ s).From≤d∧d < (cZ s).To)↔(s.From≤d∧d < s.To)∧0≤d∧d < 73049:=by
  unfold cZ
  simp only
  split <;> split <;> omega
theorem zi (l:List ab) (d:Int):eY (fZ l) d↔eY l d∧0≤d∧d < 73049:=by
  unfold eY fZ
  constructor
  · rintro ⟨s,hs,h⟩
    obtain ⟨h1,_⟩:=List.mem_filter.1 hs
    obtain ⟨t,ht,rfl⟩:=List.mem_map.1 h1
    have:=(N7 t d).1 h
    exact ⟨⟨t,ht,this.1⟩,this.2⟩
  · rintro ⟨⟨t,ht,h⟩,h2⟩
    have:=(N7 t d).2 ⟨h,h2⟩
    refine ⟨cZ t,List.mem_filter.2 ⟨List.mem_map.2 ⟨t,ht,rfl⟩, ?_⟩,this⟩
    unfold ET
    rw [decide_eq_true_iff]; omega
theorem Sl (l:List ab):∀ s∈fZ l,0≤s.From∧s.From < s.To∧s.To≤73049:=by
  intro s hs
  obtain ⟨h1,h2⟩:=List.mem_filter.1 hs
  obtain ⟨t,ht,rfl⟩:=List.mem_map.1 h1
  unfold ET at h2
  rw [decide_eq_true_iff] at h2
  refine ⟨?_,h2, ?_⟩ <;> (unfold cZ; simp only; split <;> omega)
theorem PF (l:List ab):(fZ l).length≤l.length:=by
  unfold fZ
  have:=List.length_filter_le ET (l.map cZ)
  simpa using this
theorem nw {n:Nat} (h:n≤4000000):zb n 16:=⟨by omega,by omega⟩
theorem UF (l:List ab) (hn:l.length≤1000000):∀ (n i:Nat) (out:List ab),l.length = i+n→out.length≤i→fixL (iP l) ((i:Int),out) = some (out++fZ (l.drop i)):=by
  intro n
  induction n with
  | zero =>
    intro i out h ho
    rw [bU]
    show (kc l (i:Int) out).opt.bind _ = _
    simp only [kc,oT]
    have:i = l.length:=by omega
    subst this
    rw [cl,cond_false,List.drop_length]
    simp [fZ]
  | succ n ih =>
    intro i out h ho
    have hi:i < l.length:=by omega
    rw [bU]
    show (kc l (i:Int) out).opt.bind _ = _
    simp only [kc,oT]
    rw [dg hi,cond_true,aD (bJ hi),er l _ i hi]
    have e1:Bx l[i] = some (cZ l[i]):=rfl
    rw [e1,Option.bind_some,cF (by omega),List.drop_eq_getElem_cons hi]
    by_cases hk:(cZ l[i]).From < (cZ l[i]).To
    · have hk':decide ((cZ l[i]).From < (cZ l[i]).To) = true:=decide_eq_true hk
      have hc:fZ (l[i] :: l.drop (i+1)) = cZ l[i] :: fZ (l.drop (i+1)):=by
        unfold fZ
        rw [List.map_cons,List.filter_cons,if_pos (by unfold ET; exact hk')]
      rw [hk',cond_true,aD (nw (by omega)),Option.bind_some,hc]
      show fixL (iP l) (((i+1:Nat):Int),out++[cZ l[i]]) = _
      rw [ih (i+1) _ (by omega) (by simp; omega),List.append_assoc]
      rfl
    · have hk':decide ((cZ l[i]).From < (cZ l[i]).To) = false:=decide_eq_false hk
      have hc:fZ (l[i] :: l.drop (i+1)) = fZ (l.drop (i+1)):=by
        unfold fZ
        rw [List.map_cons,List.filter_cons,if_neg (by unfold ET; rw [hk']; simp)]
      rw [hk',cond_false,Option.bind_some,hc]
      show fixL (iP l) (((i+1:Nat):Int),out) = _
      rw [ih (i+1) _ (by omega) (by omega)]
theorem SW (p:List ab) (x:ab) (h:p.length≤1000000):ai ((((p++[x]).length:Nat):Int) - 1) = ((p.length:Nat):Int):=by
  have hl:(p++[x]).length = p.length+1:=by simp
  rw [bu (by omega) (by omega)]
  omega
theorem PX (p:List ab) (x y:ab):(p++[x]).set p.length y = p++[y]:=by
  rw [List.set_append_right _ _ (Nat.le_refl _)]
  simp
theorem Uu (t out:List ab) (i:Nat) (hi:i < t.length) (ho:out.length≤1000000) (hn:t.length≤1000000) :
    (iO out t ((t.length:Nat):Int) (i:Int)).opt = some (.inl (mg out t[i],t,((t.length:Nat):Int),((i+1:Nat):Int))):=by
  simp only [iO,oT]
  rw [dg hi,cond_true,aD (bJ hi),fp t _ i hi,cF (by omega)]
  rcases pf out with rfl | ⟨p,x,rfl⟩
  · rw [show decide ((0:Int) < ((([]:List ab).length:Nat):Int)) = false from rfl]
    simp only [Bool.false_and,Bool.false_eq_true,false_implies,Iq,cond_false]
    rw [aD (nw (by simp)),HL]
    rfl
  · have hp:p.length≤1000000:=by simp at ho; omega
    have hl:(p++[x]).length = p.length+1:=by simp
    have h0:decide ((0:Int) < (((p++[x]).length:Nat):Int)) = true:=decide_eq_true (by omega)
    have hlt:((p.length:Nat):Int) < (((p++[x]).length:Nat):Int):=by omega
    have hg:(p++[x]).getD (0+Int.toNat ((p.length:Nat):Int)) aq = x:=by
      rw [Nat.zero_add,Int.toNat_natCast]; exact pB p [] x aq
    have hi0:(0:Int)≤((p.length:Nat):Int):=by omega
    rw [SW p x hp,h0,hg,aD (fun _=>hi0),aD (fun _=>hlt),cond_true,Eh,Nat.zero_add,Int.toNat_natCast,PX]
    by_cases hc:t[i].From≤x.To
    · rw [decide_eq_true hc,cond_true,aD ⟨hi0,hlt⟩,aD ⟨hi0,hlt⟩,if_pos hc]
    · rw [decide_eq_false hc,cond_false,aD (nw (by omega)),if_neg hc]
theorem XW (out:List ab) (s:ab):(mg out s).length≤out.length+1:=by
  rcases pf out with rfl | ⟨p,x,rfl⟩
  · rw [HL]; simp
  · rw [Eh]; split <;> simp
theorem Un (t:List ab) (hn:t.length≤1000000):∀ (n i:Nat) (out:List ab),t.length = i+n→out.length≤i→fixL (mP t ((t.length:Nat):Int)) (out,t,((t.length:Nat):Int),(i:Int)) = some ((t.drop i).foldl mg out):=by
  intro n
  induction n with
  | zero =>
    intro i out h ho
    rw [bU]
    show (iO out t ((t.length:Nat):Int) (i:Int)).opt.bind _ = _
    simp only [iO,oT]
    have:i = t.length:=by omega
    subst this
    rw [cl,cond_false,List.drop_length]
    rfl
  | succ n ih =>
    intro i out h ho
    have hi:i < t.length:=by omega
    have:=XW out t[i]
    rw [bU]
    show (iO out t ((t.length:Nat):Int) (i:Int)).opt.bind _ = _
    rw [Uu t out i hi (by omega) hn,Option.bind_some,List.drop_eq_getElem_cons hi,List.foldl_cons]
    exact ih (i+1) _ (by omega) (by omega)
noncomputable def da (l:List ab):List ab:=(fL cu (fZ l)).foldl mg []
theorem Gx:Go.Sort.SWO cu:=⟨fun x=>by simp [cu],fun x y z h1 h2=>by simp [cu] at *; omega,fun x y z h1 h2=>by simp [cu] at *; omega⟩
theorem m6 (l:List ab) (hn:l.length≤1000000):mF l = some (da l):=by
  have h1:=UF l hn l.length 0 [] (by omega) (by simp)
  have hc:=PF l
  have hs:=HP Gx (fZ l)
  show (fixL (iP l) ((0:Int),([]:List ab))).bind (so l) = _
  rw [show ((0:Nat):Int) = 0 from rfl,List.drop_zero,List.nil_append] at h1
  rw [h1,Option.bind_some]
  show (x9 (fZ l)).bind _ = _
  unfold x9
  rw [aD (by omega),Option.bind_some]
  have h2:=Un (fL cu (fZ l)) (by omega) (fL cu (fZ l)).length 0 [] (by omega) (by simp)
  show (fixL (mP (fL cu (fZ l)) (((fL cu (fZ l)).length:Nat):Int)) (([]:List ab),fL cu (fZ l),(((fL cu (fZ l)).length:Nat):Int),(0:Int))).bind _ = _
  rw [show ((0:Nat):Int) = 0 from rfl,List.drop_zero] at h2
  rw [h2,Option.bind_some]
  rfl
theorem fi (l:List ab):ee (-1) (da l)∧(∀ d,eY (da l) d↔eY l d∧0≤d∧d < 73049)∧(da l).length≤l.length:=by
  obtain ⟨hp,hs⟩:=KP Gx (fZ l)
  have hc:=PF l
  obtain ⟨f1,f2,f3⟩:=NY (fL cu (fZ l)) [] trivial (fun x hx=>by simp at hx) (hs.imp fun h=>by simp [cu] at h; omega) (fun s h=>Sl l s (hp.mem_iff.1 h))
  refine ⟨f1,fun d=>?_, ?_⟩
  · unfold da
    rw [f2, ← zi]
    constructor
    · rintro (h | ⟨s,h,h'⟩)
      · exact (eD h).elim
      · exact ⟨s,hp.mem_iff.1 h,h'⟩
    · rintro ⟨s,h,h'⟩
      exact .inr ⟨s,hp.mem_iff.2 h,h'⟩
  · unfold da
    have:=hp.length_eq
    simp at f3
    omega
end Go.Ax
