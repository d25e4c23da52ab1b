import Derived.Test.YtokecajedkojlaaGreatZP7
set_option linter.all false
/- Spans: lists that are joined; Make. -/
set_option maxRecDepth 100000
namespace Go.Ax
def cO (l:List GSpan) (d:Int):Prop:=∃ s∈l,s.From≤d∧d < s.To
def cg (lo:Int):List GSpan→Prop
  | []=>True
  | s :: r=>lo < s.From∧s.From < s.To∧s.To≤73049∧cg s.To r
def xN (lo:Int):List GSpan→Int
  | []=>lo
  | s :: r=>xN s.To r
theorem aL {s:GSpan} {r:List GSpan} {d:Int}:cO (s :: r) d↔(s.From≤d∧d < s.To)∨cO r d:=by simp [cO]
theorem cQ {d:Int}:¬ cO [] d:=by simp [cO]
theorem lZ {a b:List GSpan} {d:Int}:cO (a++b) d↔cO a d∨cO b d:=by
  unfold cO
  constructor
  · rintro ⟨s,hs,h⟩
    rcases List.mem_append.1 hs with hs | hs
    · exact .inl ⟨s,hs,h⟩
    · exact .inr ⟨s,hs,h⟩
  · rintro (⟨s,hs,h⟩ | ⟨s,hs,h⟩)
    · exact ⟨s,List.mem_append.2 (.inl hs),h⟩
    · exact ⟨s,List.mem_append.2 (.inr hs),h⟩
theorem gF:∀ {l:List GSpan} {lo d:Int},cg lo l→cO l d→lo < d∧d < 73049
  | [],_,_,_,hc=>(cQ hc).elim
  | s :: r,lo,d,⟨h1,h2,h3,h4⟩,hc=>by
    rcases aL.1 hc with h | h
    · omega
    · have:=gF h4 h
      omega
theorem sA:∀ {a b:List GSpan} {lo:Int},cg lo a→cg lo b→(∀ d,cO a d↔cO b d)→a = b
  | [],[],_,_,_,_=>rfl
  | [],t :: u,_,_,hb,h=>(cQ ((h t.From).2 (aL.2 (.inl ⟨Int.le_refl _,hb.2.1⟩)))).elim
  | s :: r,[],_,ha,_,h=>(cQ ((h s.From).1 (aL.2 (.inl ⟨Int.le_refl _,ha.2.1⟩)))).elim
  | s :: r,t :: u,lo,⟨a1,a2,a3,a4⟩,⟨b1,b2,b3,b4⟩,h=>by
    have hs:=(h s.From).1 (aL.2 (.inl ⟨Int.le_refl _,a2⟩))
    have ht:=(h t.From).2 (aL.2 (.inl ⟨Int.le_refl _,b2⟩))
    have e1:s.From = t.From:=by
      rcases aL.1 hs with hs | hs
      · rcases aL.1 ht with ht | ht
        · omega
        · have:=gF a4 ht; omega
      · have:=gF b4 hs
        rcases aL.1 ht with ht | ht
        · omega
        · have:=gF a4 ht; omega
    have e2:s.To = t.To:=by
      rcases Int.lt_trichotomy s.To t.To with hlt | he | hlt
      · have:=(h s.To).2 (aL.2 (.inl ⟨by omega,hlt⟩))
        rcases aL.1 this with hc | hc
        · omega
        · have:=gF a4 hc; omega
      · exact he
      · have:=(h t.To).1 (aL.2 (.inl ⟨by omega,hlt⟩))
        rcases aL.1 this with hc | hc
        · omega
        · have:=gF b4 hc; omega
    have e3:s = t:=by
      cases s; cases t
      simp only at e1 e2
      rw [e1,e2]
    subst e3
    rw [sA a4 b4 fun d=>?_]
    constructor
    · intro hc
      have h1:=gF a4 hc
      rcases aL.1 ((h d).1 (aL.2 (.inr hc))) with h2 | h2
      · omega
      · exact h2
    · intro hc
      have h1:=gF b4 hc
      rcases aL.1 ((h d).2 (aL.2 (.inr hc))) with h2 | h2
      · omega
      · exact h2
theorem l9 (lo:Int):∀ (l:List GSpan) (s:GSpan),xN lo (l++[s]) = s.To
  | [],s=>rfl
  | t :: r,s=>l9 t.To r s
theorem jS:∀ {l:List GSpan} {s:GSpan} {lo:Int},cg lo (l++[s])↔cg lo l∧xN lo l < s.From∧s.From < s.To∧s.To≤73049
  | [],s,lo=>by simp [cg,xN]
  | t :: r,s,lo=>by
    rw [List.cons_append]
    unfold cg xN
    rw [jS]
    constructor
    · rintro ⟨h1,h2,h3,h4,h5⟩; exact ⟨⟨h1,h2,h3,h4⟩,h5⟩
    · rintro ⟨⟨h1,h2,h3,h4⟩,h5⟩; exact ⟨h1,h2,h3,h4,h5⟩
theorem iW {T:Type} (l:List T):l = []∨∃ p x,l = p++[x]:=by
  rcases List.eq_nil_or_concat l with h | ⟨p,x,h⟩
  · exact .inl h
  · exact .inr ⟨p,x,by rw [h]; simp⟩
noncomputable def iU (out:List GSpan) (s:GSpan):List GSpan:=match out.getLast? with
  | none=>[s]
  | some x=>if s.From≤x.To then out.dropLast++[⟨x.From,if x.To < s.To then s.To else x.To⟩] else out++[s]
theorem xY (s:GSpan):iU [] s = [s]:=rfl
theorem uP (p:List GSpan) (x s:GSpan):iU (p++[x]) s = if s.From≤x.To then p++[⟨x.From,if x.To < s.To then s.To else x.To⟩] else (p++[x])++[s]:=by
  unfold iU
  rw [List.getLast?_concat]
  simp
theorem MK {out:List GSpan} {s:GSpan} (hn:cg (-1) out) (hb:∀ x∈out,x.From≤s.From) (h1:0≤s.From) (h2:s.From < s.To) (h3:s.To≤73049) :
    cg (-1) (iU out s)∧(∀ d,cO (iU out s) d↔cO out d∨(s.From≤d∧d < s.To))∧(∀ x∈iU out s,x.From≤s.From)∧(iU out s).length≤out.length+1:=by
  rcases iW out with rfl | ⟨p,x,rfl⟩
  · rw [xY]
    refine ⟨⟨by omega,h2,h3,trivial⟩,fun d=>?_,fun x hx=>?_,by simp⟩
    · rw [aL]; simp [cQ]
    · rw [List.mem_singleton.1 hx]; exact Int.le_refl _
  · obtain ⟨n1,n2,n3,n4⟩:=jS.1 hn
    have hx:=hb x (by simp)
    rw [uP]
    by_cases hc:s.From≤x.To
    · rw [if_pos hc]
      have hm:x.To≤(if x.To < s.To then s.To else x.To)∧s.To≤(if x.To < s.To then s.To else x.To)∧((if x.To < s.To then s.To else x.To) = x.To∨(if x.To < s.To then s.To else x.To) = s.To):=by
        split <;> omega
      generalize (if x.To < s.To then s.To else x.To) = m at hm
      refine ⟨jS.2 ⟨n1,n2,by show x.From < m; omega,by show m≤73049; omega⟩,fun d=>?_,fun y hy=>?_,by simp⟩
      · rw [lZ,lZ,aL,aL]
        simp only [cQ,or_false]
        constructor
        · rintro (h | ⟨h4,h5⟩)
          · exact .inl (.inl h)
          · by_cases hd:d < x.To
            · exact .inl (.inr ⟨h4,hd⟩)
            · exact .inr ⟨by omega,by omega⟩
        · rintro ((h | ⟨h4,h5⟩) | ⟨h4,h5⟩)
          · exact .inl h
          · exact .inr ⟨h4,by omega⟩
          · exact .inr ⟨by omega,by omega⟩
      · rcases List.mem_append.1 hy with hy | hy
        · exact hb y (by simp [hy])
        · rw [List.mem_singleton.1 hy]; exact hx
    · rw [if_neg hc]
      refine ⟨jS.2 ⟨hn,by rw [l9]; omega,h2,h3⟩,fun d=>?_,fun y hy=>?_,by simp⟩
      · rw [lZ (b:=[s]),aL]; simp [cQ]
      · rcases List.mem_append.1 hy with hy | hy
        · exact hb y hy
        · rw [List.mem_singleton.1 hy]; exact Int.le_refl _
theorem Fp:∀ (l out:List GSpan),cg (-1) out→(∀ x∈out, ∀ s∈l,x.From≤s.From)→l.Pairwise (fun a b=>a.From≤b.From)→(∀ s∈l,0≤s.From∧s.From < s.To∧s.To≤73049) →
    cg (-1) (l.foldl iU out)∧(∀ d,cO (l.foldl iU out) d↔cO out d∨cO l d)∧(l.foldl iU out).length≤out.length+l.length
  | [],out,hn,_,_,_=>⟨hn,fun d=>by simp [cQ],by simp⟩
  | s :: l,out,hn,hb,hp,ho=>by
    obtain ⟨o1,o2,o3⟩:=ho s (by simp)
    obtain ⟨j1,j2,j3,j4⟩:=MK hn (fun x hx=>hb x hx s (by simp)) o1 o2 o3
    obtain ⟨p1,p2⟩:=List.pairwise_cons.1 hp
    obtain ⟨f1,f2,f3⟩:=Fp l (iU out s) j1 (fun x hx t ht=>by have:=j3 x hx; have:=p1 t ht; omega) p2 (fun t ht=>ho t (by simp [ht]))
    rw [List.foldl_cons]
    refine ⟨f1,fun d=>?_,by rw [List.length_cons]; omega⟩
    rw [f2,j2,aL,or_assoc]
def aK (s:GSpan):GSpan:=GSpan.mk (if s.From < (0:Int) then (0:Int) else s.From) (if (73049:Int) < s.To then (73049:Int) else s.To)
def oc (s:GSpan):Bool:=decide (s.From < s.To)
def gC (l:List GSpan):List GSpan:=(l.map aK).filter oc
theorem Fj (s:GSpan) (d:Int):((aK s).From≤d∧d < (aK s).To)↔(s.From≤d∧d < s.To)∧0≤d∧d < 73049:=by
  unfold aK
  simp only
  split <;> split <;> omega
theorem qW (l:List GSpan) (d:Int):cO (gC l) d↔cO l d∧0≤d∧d < 73049:=by
  unfold cO gC
  constructor
  · rintro ⟨s,hs,h⟩
    obtain ⟨h1,_⟩:=List.mem_filter.1 hs
    obtain ⟨t,ht,rfl⟩:=List.mem_map.1 h1
    have:=(Fj t d).1 h
    exact ⟨⟨t,ht,this.1⟩,this.2⟩
  · rintro ⟨⟨t,ht,h⟩,h2⟩
    have:=(Fj t d).2 ⟨h,h2⟩
    refine ⟨aK t,List.mem_filter.2 ⟨List.mem_map.2 ⟨t,ht,rfl⟩, ?_⟩,this⟩
    unfold oc
    rw [decide_eq_true_iff]; omega
theorem Kc (l:List GSpan):∀ s∈gC l,0≤s.From∧s.From < s.To∧s.To≤73049:=by
  intro s hs
  obtain ⟨h1,h2⟩:=List.mem_filter.1 hs
  obtain ⟨t,ht,rfl⟩:=List.mem_map.1 h1
  unfold oc at h2
  rw [decide_eq_true_iff] at h2
  refine ⟨?_,h2, ?_⟩ <;> (unfold aK; simp only; split <;> omega)
theorem IW (l:List GSpan):(gC l).length≤l.length:=by
  unfold gC
  have:=List.length_filter_le oc (l.map aK)
  simpa using this
theorem J5 (p:List GSpan) (x:GSpan) (h:p.length≤1000000000):ac ((((p++[x]).length:Nat):Int) - 1) = ((p.length:Nat):Int):=by
  have hl:(p++[x]).length = p.length+1:=by simp
  rw [ak (by omega) (by omega)]
  omega
theorem G7 {T:Type} (p:List T) (x y:T):(p++[x]).set p.length y = p++[y]:=by
  rw [List.set_append_right _ _ (Nat.le_refl _)]
  simp
theorem Ke {T:Type} (p:List T) (x z:T):gD (p++[x]) p.length z = x:=vQ p [] x z
theorem KL (t out:List GSpan) (i:Nat) (hi:i < t.length) (ho:out.length≤1000000000) (hn:t.length≤1000000000) :
    db (t.length:Int) (i:Int) out t = db (t.length:Int) ((i+1:Nat):Int) (iU out t[i]) t:=by
  rw [pi]
  simp only [be hi,bA,cond_true,aC,Bool.or_true,bK hi,bc hi (by omega)]
  rcases iW out with rfl | ⟨p,x,rfl⟩
  · rw [show aa ((0:Int) < ((([]:List GSpan).length:Nat):Int)) = false from rfl]
    simp only [Bool.false_and,Bool.not_false,Bool.true_or,aC,cond_false]
    rw [im (by simp) (by simp),xY]
    rfl
  · have hp:p.length≤1000000000:=by simp at ho; omega
    have hl:(p++[x]).length = p.length+1:=by simp
    have h0:aa ((0:Int) < (((p++[x]).length:Nat):Int)) = true:=bG (by omega)
    have hlt:aa (((p.length:Nat):Int) < (((p++[x]).length:Nat):Int)) = true:=bG (by omega)
    have hi0:aa ((0:Int)≤((p.length:Nat):Int)) = true:=bG (by omega)
    rw [J5 p x hp]
    simp only [h0,hlt,hi0,Bool.or_true,aC,cond_true,Ke,Int.toNat_natCast,G7,uP]
    by_cases hc:t[i].From≤x.To
    · rw [bG hc,cond_true,if_pos hc]
      by_cases hd:x.To < t[i].To
      · rw [bG hd,if_pos hd]; rfl
      · rw [dB hd,if_neg hd]; rfl
    · rw [dB hc,cond_false,im (by omega) (by omega),if_neg hc]
theorem LI (out:List GSpan) (s:GSpan):(iU out s).length≤out.length+1:=by
  rcases iW out with rfl | ⟨p,x,rfl⟩
  · rw [xY]; simp
  · rw [uP]; split <;> simp
theorem Mm (s:GSpan):tj s = some (aK s):=by
  rw [DK]
  unfold aK
  by_cases h1:s.From < 0 <;> by_cases h2:73049 < s.To <;> simp [h1,h2]
theorem L4:Go.Sort.SWO fun (a b:GSpan)=>aa (a.From < b.From):=⟨fun x=>by simp,fun x y z h1 h2=>by simp at *; omega,fun x y z h1 h2=>by simp at *; omega⟩
noncomputable def aV (l:List GSpan):List GSpan:=(fw (gC l)).foldl iU []
theorem wh (l:List GSpan):(fw l).Perm l∧(fw l).Pairwise fun a b=>a.From≤b.From:=by
  obtain ⟨h1,h2⟩:=@Cq _ ⟨zS .GSpan⟩ _ L4 l
  exact ⟨h1,h2.imp fun h=>by simp at h; omega⟩
theorem ii (l:List GSpan) (hn:l.length≤1000000000):iS l = some (aV l):=by
  have hc:=IW l
  have hs:=(wh (gC l)).1.length_eq
  rw [Ga]
  have e:gC l = l.flatMap fun s=>if oc (aK s) = true then [aK s] else []:=by
    unfold gC
    rw [mT (fun s=>oc (aK s)) aK,List.filter_map]
    rfl
  refine (mn l (fun i out=>dt l (l.length:Int) i out) (fun s=>if oc (aK s) = true then [aK s] else []) 1 (fun x _=>by split <;> simp) fun i out hi ho=>?_).trans ?_
  · show dt _ _ _ _ = dt _ _ _ _
    rw [pF]
    simp only [be hi,bA,cond_true,aC,Bool.or_true,bK hi,bc hi (by omega)]
    rw [Mm,Option.bind_some,im (by omega) (by omega)]
    unfold oc
    by_cases hk:(aK l[i]).From < (aK l[i]).To
    · rw [bG hk,decide_eq_true hk]; rfl
    · rw [dB hk,decide_eq_false hk]; simp
  · rw [← e]
    show dt _ _ _ _ = _
    rw [pF,bm,cond_false,bC (by omega)]
    unfold aV
    generalize hg:fw (gC l) = t at hs
    refine ((Bv t (fun i out=>db (t.length:Int) i out t) iU (fun i out=>out.length≤i) (fun i out hi ho=>⟨KL t out i hi (by omega) (by omega),by have:=LI out t[i]; omega⟩) [] (by simp)).1).trans ?_
    show db _ _ _ _ = _
    rw [pi,bm]; rfl
theorem cw (l:List GSpan):cg (-1) (aV l)∧(∀ d,cO (aV l) d↔cO l d∧0≤d∧d < 73049)∧(aV l).length≤l.length:=by
  obtain ⟨hp,hs⟩:=wh (gC l)
  have hc:=IW l
  obtain ⟨f1,f2,f3⟩:=Fp (fw (gC l)) [] trivial (fun x hx=>by simp at hx) hs (fun s h=>Kc l s (hp.mem_iff.1 h))
  refine ⟨f1,fun d=>?_, ?_⟩
  · unfold aV
    rw [f2, ← qW]
    constructor
    · rintro (h | ⟨s,h,h'⟩)
      · exact (cQ h).elim
      · exact ⟨s,hp.mem_iff.1 h,h'⟩
    · rintro ⟨s,h,h'⟩
      exact .inr ⟨s,hp.mem_iff.2 h,h'⟩
  · unfold aV
    have:=hp.length_eq
    simp at f3
    omega
end Go.Ax
