import Derived.Test.YtgamnldjlncdlaaGreatZL162
set_option linter.all false
/- Functions that end: facts are made and merged. -/
set_option maxRecDepth 100000
namespace Go.Ax
open Go.Proofs
theorem aiY {tot:Prop} (n m:Int) (h:0 < m) (h':m≤100000000):En tot (fun y=>0≤y∧y < m) (bH n m) :=
  .of (lR n m h (by omega)) ⟨Int.emod_nonneg _ (by omega),Int.emod_lt_of_pos _ h⟩
theorem ajc {α:Type} {Q:α→Prop} {n m:Int} {f:Int→Option α} (h:0 < m∧m≤100000000) (hf:∀ y,0≤y→y < m→En True Q (f y)):En True Q ((bH n m).bind f) :=
  .bind (aiY n m h.1 h.2) fun y hy=>hf y hy.1 hy.2
theorem UU (n:Int):En True (fun _=>True) (vh n):=.of (LO n) trivial
theorem agn (a b:Int) (u:ByteArray) (hu:u.size≤1000) (i:Int) (h0:0≤i) (hi:i < (u.size:Int)) (r) (f:ae) :
    En True (fun x:(Int × ae) ⊕ ae=>∃ g,x = .inl (i+1,g)) (rQ a b u i r f).opt:=by
  simp only [rQ,eU,oT]
  rw [aE ⟨h0,hi⟩,bu (n:=i+1) (by omega) (by omega)]
  repeat' first
    | exact En.some ⟨_,rfl⟩
    | refine En.bif (fun _=>?_) (fun _=>?_)
    | refine ajc (by decide) fun y _ _=>?_
theorem ajt (a b:Int) (r) (f:ae):En True (fun _=>True) (jE a b r f).opt:=by
  simp only [jE,oT]
  rw [qi,Option.bind_some]
  have hu:(ak (eB f.Kind)).size≤6:=by rw [zZ]; exact yl _
  generalize ak (eB f.Kind) = u at hu
  refine En.bind (R:=fun _=>True) (En.fixL (fun s=>0≤s.1∧s.1≤(u.size:Int)) (fun s=>((u.size:Int) - s.1).toNat) ⟨by show (0:Int)≤0; omega,by show (0:Int)≤_; omega⟩ fun s hs=>?_) fun y _=>?_
  · obtain ⟨i,g⟩:=s
    obtain ⟨h1,h2⟩:=hs
    simp only [] at h1 h2
    show En _ _ (so a b u i r g).opt
    simp only [so,oT]
    refine En.bif (fun hc=>?_) (fun _=>.some trivial)
    have hi:=of_decide_eq_true hc
    refine (agn a b u (by omega) i h1 hi r g).weak fun x hx=>?_
    obtain ⟨g',rfl⟩:=hx
    exact ⟨⟨by omega,by omega⟩,by simp only []; omega⟩
  · show En _ _ (sf y).opt
    simp only [sf,oT]
    exact .some trivial
theorem RN (r):En True (fun _=>True) (zJ r):=by
  show En _ _ (se r).opt
  simp only [se,oT]
  repeat' first
    | exact ajt _ _ _ _
    | refine En.bif (fun _=>?_) (fun _=>?_)
    | refine ajc (by decide) fun y _ _=>?_
    | refine En.bind (UU _) fun y _=>?_
theorem ahe (b:List Int) (n size:Int) (hb:b.length≤1000) (h1:0≤size) (h2:size≤8):En True (fun l:List Int=>(l.length:Int)≤b.length+size) (cL b n size):=by
  show En _ _ (rN b n size).opt
  simp only [rN,oT]
  rw [bu (n:=size - 1) (by omega) (by omega)]
  refine En.bind (R:=fun l:List Int=>(l.length:Int)≤b.length+size) (En.fixL (fun s=>-1≤s.2∧s.2≤size - 1∧(s.1.length:Int)≤b.length+(size - 1 - s.2)) (fun s=>(s.2+1).toNat) ⟨by show (-1:Int)≤size - 1; omega,by show size - 1≤size - 1; omega,by show (b.length:Int)≤b.length+(size - 1 - (size - 1)); omega⟩ fun s hs=>?_) fun y hy=>?_
  · obtain ⟨l,i⟩:=s
    obtain ⟨g1,g2,g3⟩:=hs
    simp only [] at g1 g2 g3
    show En _ _ (ss l n i).opt
    simp only [ss,oT]
    refine En.bif (fun hc=>?_) (fun hc=>.some ?_)
    · have hi:=of_decide_eq_true hc
      rw [aE (by rw [IntKind.wrap_u64]; omega),aE ⟨by omega,by omega⟩,bu (n:=i - 1) (by omega) (by omega)]
      refine .some ⟨⟨by simp only []; omega,by simp only []; omega, ?_⟩,by simp only []; omega⟩
      simp only [List.length_append,List.length_singleton]
      omega
    · show (l.length:Int)≤_
      have hi:=of_decide_eq_false hc
      omega
  · show En _ _ (sJ y).opt
    simp only [sJ,oT]
    exact .some hy
theorem F8 {α:Type} {Q:α→Prop} {b:List Int} {n size:Int} {f:List Int→Option α} (X:Nat) (hX:X≤500) (hb:b.length≤X) (h:0≤size∧size≤8) (hf:∀ y:List Int,(y.length:Int)≤X+size→En True Q (f y)):En True Q ((cL b n size).bind f) :=
  .bind (ahe b n size (by omega) h.1 h.2) fun y hy=>hf y (by omega)
theorem Sm (b:List Int) (u:ByteArray) (hu:u.size≤6) (i:Int) (h0:0≤i) (hi:i < (u.size:Int)) (hb:(b.length:Int)≤8+6*i) (f:ae) :
    En True (fun x:(List Int × Int) ⊕ List Int=>∃ g:List Int,x = .inl (g,i+1)∧(g.length:Int)≤8+6*(i+1)) (jz b u i f).opt:=by
  simp only [jz,ej,oT]
  rw [decide_eq_true hi,cond_true,aE ⟨h0,hi⟩,bu (n:=i+1) (by omega) (by omega)]
  repeat' first
    | exact En.some ⟨_,rfl,by omega⟩
    | refine En.bif (fun _=>?_) (fun _=>?_)
    | refine F8 (8+6*i).toNat (by omega) (by omega) (by decide) fun y _=>?_
    | refine F8 (8+6*i+3).toNat (by omega) (by omega) (by decide) fun y _=>?_
theorem Ws (g:Int) (f:ae):En True (fun _=>True) (lp g f).opt:=by
  simp only [lp,oT]
  refine F8 0 (by omega) (by simp) (by decide) fun y1 h1=>?_
  refine F8 1 (by omega) (by omega) (by decide) fun y2 h2=>?_
  refine F8 3 (by omega) (by omega) (by decide) fun y3 h3=>?_
  refine F8 4 (by omega) (by omega) (by decide) fun y4 h4=>?_
  refine F8 5 (by omega) (by omega) (by decide) fun y5 h5=>?_
  refine F8 6 (by omega) (by omega) (by decide) fun y6 h6=>?_
  rw [qi,Option.bind_some]
  have hu:(ak (eB f.Kind)).size≤6:=by rw [zZ]; exact yl _
  generalize ak (eB f.Kind) = u at hu
  refine En.bind (R:=fun _=>True) (En.fixL (fun s=>0≤s.2∧s.2≤(u.size:Int)∧(s.1.length:Int)≤8+6*s.2) (fun s=>((u.size:Int) - s.2).toNat) ⟨by show (0:Int)≤0; omega,by show (0:Int)≤_; omega,by show (y6.length:Int)≤8+6*0; omega⟩ fun s hs=>?_) fun y _=>?_
  · obtain ⟨b,i⟩:=s
    obtain ⟨h1,h2,h3⟩:=hs
    simp only [] at h1 h2 h3
    by_cases hi:i < (u.size:Int)
    · refine (Sm b u hu i h1 hi h3 f).weak fun x hx=>?_
      obtain ⟨g',rfl,hg⟩:=hx
      exact ⟨⟨by simp only []; omega,by simp only []; omega,by simp only []; omega⟩,by simp only []; omega⟩
    · show En _ _ (jz b u i f).opt
      simp only [jz,oT]
      rw [decide_eq_false hi,cond_false]
      exact .some trivial
  · show En _ _ (o6 y).opt
    simp only [o6,oT]
    exact .some trivial
theorem Yc (f:ae):En True (fun _=>True) (dy f):=by
  show En _ _ (oO f).opt
  simp only [oO,oT]
  rw [lG,Option.bind_some]
  repeat' first
    | exact .some trivial
    | exact Ws _ _
    | refine En.bif (fun _=>?_) (fun _=>?_)
theorem Lr (a b:ae):∃ y,jF a b = some y:=by
  have e:jF a b = (uU a b).opt:=rfl
  rw [e]
  simp only [uU,oT]
  cases a.Issuer != b.Issuer <;> exact ⟨_,rfl⟩
theorem abc (a b:ae):En True (fun _=>True) (Eh a b):=by
  show En _ _ (qt a b)
  unfold qt
  rw [lG,Option.bind_some,lG,aE (p:=(!!jH a&&true) = true→(some (jH b)).isSome = true) (fun _=>rfl)]
  obtain ⟨y,hy⟩:=Lr a b
  rw [hy,Option.bind_some]
  repeat' first
    | exact .some trivial
    | refine En.bif (fun _=>?_) (fun _=>?_)
    | refine En.bind (Yc _) fun y _=>?_
theorem Ko {n:Nat} (h:n≤1000000):AT n 112:=⟨by omega,by omega⟩
theorem QD (l:List ae) (a n:Nat):(m4 aU l a n).length = n:=by simp [m4]
theorem SV (a b out:List ae) (i at_:Int) (f:ae) (ho:out.length≤1000) (hi:-1≤i∧i≤1000) (h0:0≤at_) (h1:at_≤(out.length:Int)) :
    En True (fun x:(List ae × Int) ⊕ List ae=>∃ o:List ae,x = .inl (o,i+1)∧o.length≤out.length+1) (lw a b out i at_ f).opt:=by
  simp only [lw,il,oT]
  have hlt:(decide (0 < at_)&&true) = true→0 < at_:=fun h=>by
    rw [Bool.and_true] at h
    exact of_decide_eq_true h
  rw [aE (fun h=>by have:=hlt h; rw [bu (by omega) (by omega)]; omega),aE (fun h=>by have:=hlt h; rw [bu (by omega) (by omega)]; omega),aE (fun _=>by obtain ⟨y,hy⟩:=Lr (out.getD (0+Int.toNat (ai (at_ - 1))) aU) f; rw [hy]; rfl),bu (n:=i+1) (by omega) (by omega)]
  refine En.bif (fun hc=>?_) (fun _=>?_)
  · have hp:0 < at_:=by
      by_cases h:0 < at_
      · exact h
      · rw [decide_eq_false h,cond_false] at hc; cases hc
    have e:ai (at_ - 1) = at_ - 1:=bu (by omega) (by omega)
    rw [aE ⟨by omega,by omega⟩]
    refine En.bind (abc _ _) fun y _=>?_
    refine En.bif (fun _=>?_) (fun _=>.some ⟨_,rfl,by omega⟩)
    rw [aE ⟨by omega,by omega⟩]
    exact .some ⟨_,rfl,by rw [List.length_set]; omega⟩
  · rw [aE ⟨by omega,by omega,by omega⟩,aE (Ko (by omega)),aE (Ko (by omega)),aE ⟨by omega,by omega,by omega⟩,aE (Ko (by omega))]
    refine .some ⟨_,rfl, ?_⟩
    simp only [List.length_append,QD,List.length_singleton]
    omega
theorem QT (a b out:List ae) (i:Int) (f:ae) (ho:out.length≤1000) :
    En True (fun r:List ae × Int × Int=>r.1 = out∧r.2.1 = i∧0≤r.2.2∧r.2.2≤(out.length:Int)) (fixL (oZ a b out i (out.length:Int) f) (out,i,(out.length:Int))):=by
  refine En.fixL (fun s=>s.1 = out∧s.2.1 = i∧0≤s.2.2∧s.2.2≤(out.length:Int)) (fun s=>s.2.2.toNat) ⟨rfl,rfl,by show (0:Int)≤(out.length:Int); omega,by show (out.length:Int)≤(out.length:Int); omega⟩ fun s hs=>?_
  obtain ⟨o,j,t⟩:=s
  obtain ⟨h1,h2,h3,h4⟩:=hs
  simp only [] at h1 h2 h3 h4
  subst h1
  subst h2
  show En _ _ (oM a b o j t f).opt
  simp only [oM,oT]
  have hlt:(decide (0 < t)&&true) = true→0 < t:=fun h=>by
    rw [Bool.and_true] at h
    exact of_decide_eq_true h
  rw [aE (fun h=>by have:=hlt h; rw [bu (by omega) (by omega)]; omega),aE (fun h=>by have:=hlt h; rw [bu (by omega) (by omega)]; omega),aE (fun _=>by obtain ⟨y,hy⟩:=Lr (o.getD (0+Int.toNat (ai (t - 1))) aU) f; rw [hy]; rfl)]
  refine En.bif (fun hc=>?_) (fun _=>.some ⟨rfl,rfl,h3,h4⟩)
  have hp:0 < t:=by
    by_cases h:0 < t
    · exact h
    · rw [decide_eq_false h,cond_false] at hc; cases hc
  have e:ai (t - 1) = t - 1:=bu (by omega) (by omega)
  rw [e]
  exact .some ⟨⟨rfl,rfl,by simp only []; omega,by simp only []; omega⟩,by simp only []; omega⟩
theorem Yr (a:List ae) (ha:a.length≤900):En True (fun o:List ae=>o.length≤a.length) (uP a []):=by
  show En _ _ ((fixL (pj a []) (([]:List ae),(0:Int))).bind _)
  refine En.bind (R:=fun o:List ae=>o.length≤a.length) (En.fixL (fun s=>0≤s.2∧s.2≤(a.length:Int)∧(s.1.length:Int)≤s.2) (fun s=>((a.length:Int) - s.2).toNat) ⟨by show (0:Int)≤0; omega,by show (0:Int)≤_; omega,by show (([]:List ae).length:Int)≤0; simp⟩ fun s hs=>?_) fun y hy=>?_
  · obtain ⟨o,i⟩:=s
    obtain ⟨h1,h2,h3⟩:=hs
    simp only [] at h1 h2 h3
    show En _ _ (oN a [] o i).opt
    simp only [oN,oT]
    have e0:ai ((a.length:Int)+(([]:List ae).length:Int)) = (a.length:Int):=by rw [bu] <;> simp <;> omega
    rw [e0]
    refine En.bif (fun hc=>?_) (fun _=>.some (by show o.length≤a.length; omega))
    have hi:=of_decide_eq_true hc
    show En _ _ (pb a [] o i).opt
    simp only [pb,oT]
    rw [hc,cond_true,aE ⟨h1,hi⟩]
    generalize a.getD i.toNat aU = f
    simp only [pn,oT]
    rw [lG,Option.bind_some]
    refine En.bif (fun _=>?_) (fun _=>?_)
    · simp only [il,oT]
      rw [bu (n:=i+1) (by omega) (by omega)]
      exact .some ⟨⟨by simp only []; omega,by simp only []; omega,by simp only []; omega⟩,by simp only []; omega⟩
    · unfold ub
      refine En.bind (QT a [] o i f (by omega)) fun r hr=>?_
      obtain ⟨o2,j,t⟩:=r
      obtain ⟨g1,g2,g3,g4⟩:=hr
      simp only [] at g1 g2 g3 g4
      subst g1
      subst g2
      show En _ _ (lw a [] o2 j t f).opt
      refine (SV a [] o2 j t f (by omega) (by omega) g3 g4).weak fun x hx=>?_
      obtain ⟨o',rfl,ho'⟩:=hx
      exact ⟨⟨by simp only []; omega,by simp only []; omega,by simp only []; omega⟩,by simp only []; omega⟩
  · show En _ _ (ph y).opt
    simp only [ph,oT]
    exact .some hy
end Go.Ax
