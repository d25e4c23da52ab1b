import Derived.Test.YtokecajedkojlaaGreatYP7
set_option linter.all false
/- Spans: lists that are joined; Make. -/
set_option maxRecDepth 100000
namespace Go.Ax
def bg (l:List GSpan) (d:Int):Prop:=∃ s∈l,s.From≤d∧d < s.To
def bF (lo:Int):List GSpan→Prop
  | []=>True
  | s :: r=>lo < s.From∧s.From < s.To∧s.To≤73049∧bF s.To r
def wP (lo:Int):List GSpan→Int
  | []=>lo
  | s :: r=>wP s.To r
theorem aH {s:GSpan} {r:List GSpan} {d:Int}:bg (s :: r) d↔(s.From≤d∧d < s.To)∨bg r d:=by simp [bg]
theorem aY {d:Int}:¬ bg [] d:=by simp [bg]
theorem ji {a b:List GSpan} {d:Int}:bg (a++b) d↔bg a d∨bg b d:=by
  unfold bg
  constructor
  · rintro ⟨s,hs,h⟩
    rcases List.mem_append.1 hs with hs | hs
    · exact .inl ⟨s,hs,h⟩
    · exact .inr ⟨s,hs,h⟩
  · rintro (⟨s,hs,h⟩ | ⟨s,hs,h⟩)
    · exact ⟨s,List.mem_append.2 (.inl hs),h⟩
    · exact ⟨s,List.mem_append.2 (.inr hs),h⟩
theorem cQ:∀ {l:List GSpan} {lo d:Int},bF lo l→bg l d→lo < d∧d < 73049
  | [],_,_,_,hc=>(aY hc).elim
  | s :: r,lo,d,⟨h1,h2,h3,h4⟩,hc=>by
    rcases aH.1 hc with h | h
    · omega
    · have:=cQ h4 h
      omega
theorem ox:∀ {a b:List GSpan} {lo:Int},bF lo a→bF lo b→(∀ d,bg a d↔bg b d)→a = b
  | [],[],_,_,_,_=>rfl
  | [],t :: u,_,_,hb,h=>(aY ((h t.From).2 (aH.2 (.inl ⟨Int.le_refl _,hb.2.1⟩)))).elim
  | s :: r,[],_,ha,_,h=>(aY ((h s.From).1 (aH.2 (.inl ⟨Int.le_refl _,ha.2.1⟩)))).elim
  | s :: r,t :: u,lo,⟨a1,a2,a3,a4⟩,⟨b1,b2,b3,b4⟩,h=>by
    have hs:=(h s.From).1 (aH.2 (.inl ⟨Int.le_refl _,a2⟩))
    have ht:=(h t.From).2 (aH.2 (.inl ⟨Int.le_refl _,b2⟩))
    have e1:s.From = t.From:=by
      rcases aH.1 hs with hs | hs
      · rcases aH.1 ht with ht | ht
        · omega
        · have:=cQ a4 ht; omega
      · have:=cQ b4 hs
        rcases aH.1 ht with ht | ht
        · omega
        · have:=cQ a4 ht; omega
    have e2:s.To = t.To:=by
      rcases Int.lt_trichotomy s.To t.To with hlt | he | hlt
      · have:=(h s.To).2 (aH.2 (.inl ⟨by omega,hlt⟩))
        rcases aH.1 this with hc | hc
        · omega
        · have:=cQ a4 hc; omega
      · exact he
      · have:=(h t.To).1 (aH.2 (.inl ⟨by omega,hlt⟩))
        rcases aH.1 this with hc | hc
        · omega
        · have:=cQ b4 hc; omega
    have e3:s = t:=by
      cases s; cases t
      simp only at e1 e2
      rw [e1,e2]
    subst e3
    rw [ox a4 b4 fun d=>?_]
    constructor
    · intro hc
      have h1:=cQ a4 hc
      rcases aH.1 ((h d).1 (aH.2 (.inr hc))) with h2 | h2
      · omega
      · exact h2
    · intro hc
      have h1:=cQ b4 hc
      rcases aH.1 ((h d).2 (aH.2 (.inr hc))) with h2 | h2
      · omega
      · exact h2
theorem lB (lo:Int):∀ (l:List GSpan) (s:GSpan),wP lo (l++[s]) = s.To
  | [],s=>rfl
  | t :: r,s=>lB t.To r s
theorem jI:∀ {l:List GSpan} {s:GSpan} {lo:Int},bF lo (l++[s])↔bF lo l∧wP lo l < s.From∧s.From < s.To∧s.To≤73049
  | [],s,lo=>by simp [bF,wP]
  | t :: r,s,lo=>by
    rw [List.cons_append]
    unfold bF wP
    rw [jI]
    constructor
    · rintro ⟨h1,h2,h3,h4,h5⟩; exact ⟨⟨h1,h2,h3,h4⟩,h5⟩
    · rintro ⟨⟨h1,h2,h3,h4⟩,h5⟩; exact ⟨h1,h2,h3,h4,h5⟩
theorem iK {T:Type} (l:List T):l = []∨∃ p x,l = p++[x]:=by
  rcases List.eq_nil_or_concat l with h | ⟨p,x,h⟩
  · exact .inl h
  · exact .inr ⟨p,x,by rw [h]; simp⟩
noncomputable def ii (out:List GSpan) (s:GSpan):List GSpan:=match out.getLast? with
  | none=>[s]
  | some x=>if s.From≤x.To then out.dropLast++[⟨x.From,if x.To < s.To then s.To else x.To⟩] else out++[s]
theorem xm (s:GSpan):ii [] s = [s]:=rfl
theorem uj (p:List GSpan) (x s:GSpan):ii (p++[x]) s = if s.From≤x.To then p++[⟨x.From,if x.To < s.To then s.To else x.To⟩] else (p++[x])++[s]:=by
  unfold ii
  rw [List.getLast?_concat]
  simp
theorem KU {out:List GSpan} {s:GSpan} (hn:bF (-1) out) (hb:∀ x∈out,x.From≤s.From) (h1:0≤s.From) (h2:s.From < s.To) (h3:s.To≤73049) :
    bF (-1) (ii out s)∧(∀ d,bg (ii out s) d↔bg out d∨(s.From≤d∧d < s.To))∧(∀ x∈ii out s,x.From≤s.From)∧(ii out s).length≤out.length+1:=by
  rcases iK out with rfl | ⟨p,x,rfl⟩
  · rw [xm]
    refine ⟨⟨by omega,h2,h3,trivial⟩,fun d=>?_,fun x hx=>?_,by simp⟩
    · rw [aH]; simp [aY]
    · rw [List.mem_singleton.1 hx]; exact Int.le_refl _
  · obtain ⟨n1,n2,n3,n4⟩:=jI.1 hn
    have hx:=hb x (by simp)
    rw [uj]
    by_cases hc:s.From≤x.To
    · rw [if_pos hc]
      have hm:x.To≤(if x.To < s.To then s.To else x.To)∧s.To≤(if x.To < s.To then s.To else x.To)∧((if x.To < s.To then s.To else x.To) = x.To∨(if x.To < s.To then s.To else x.To) = s.To):=by
        split <;> omega
      generalize (if x.To < s.To then s.To else x.To) = m at hm
      refine ⟨jI.2 ⟨n1,n2,by show x.From < m; omega,by show m≤73049; omega⟩,fun d=>?_,fun y hy=>?_,by simp⟩
      · rw [ji,ji,aH,aH]
        simp only [aY,or_false]
        constructor
        · rintro (h | ⟨h4,h5⟩)
          · exact .inl (.inl h)
          · by_cases hd:d < x.To
            · exact .inl (.inr ⟨h4,hd⟩)
            · exact .inr ⟨by omega,by omega⟩
        · rintro ((h | ⟨h4,h5⟩) | ⟨h4,h5⟩)
          · exact .inl h
          · exact .inr ⟨h4,by omega⟩
          · exact .inr ⟨by omega,by omega⟩
      · rcases List.mem_append.1 hy with hy | hy
        · exact hb y (by simp [hy])
        · rw [List.mem_singleton.1 hy]; exact hx
    · rw [if_neg hc]
      refine ⟨jI.2 ⟨hn,by rw [lB]; omega,h2,h3⟩,fun d=>?_,fun y hy=>?_,by simp⟩
      · rw [ji (b:=[s]),aH]; simp [aY]
      · rcases List.mem_append.1 hy with hy | hy
        · exact hb y hy
        · rw [List.mem_singleton.1 hy]; exact Int.le_refl _
theorem D3:∀ (l out:List GSpan),bF (-1) out→(∀ x∈out, ∀ s∈l,x.From≤s.From)→l.Pairwise (fun a b=>a.From≤b.From)→(∀ s∈l,0≤s.From∧s.From < s.To∧s.To≤73049) →
    bF (-1) (l.foldl ii out)∧(∀ d,bg (l.foldl ii out) d↔bg out d∨bg l d)∧(l.foldl ii out).length≤out.length+l.length
  | [],out,hn,_,_,_=>⟨hn,fun d=>by simp [aY],by simp⟩
  | s :: l,out,hn,hb,hp,ho=>by
    obtain ⟨o1,o2,o3⟩:=ho s (by simp)
    obtain ⟨j1,j2,j3,j4⟩:=KU hn (fun x hx=>hb x hx s (by simp)) o1 o2 o3
    obtain ⟨p1,p2⟩:=List.pairwise_cons.1 hp
    obtain ⟨f1,f2,f3⟩:=D3 l (ii out s) j1 (fun x hx t ht=>by have:=j3 x hx; have:=p1 t ht; omega) p2 (fun t ht=>ho t (by simp [ht]))
    rw [List.foldl_cons]
    refine ⟨f1,fun d=>?_,by rw [List.length_cons]; omega⟩
    rw [f2,j2,aH,or_assoc]
def aL (s:GSpan):GSpan:=GSpan.mk (if s.From < (0:Int) then (0:Int) else s.From) (if (73049:Int) < s.To then (73049:Int) else s.To)
def nB (s:GSpan):Bool:=decide (s.From < s.To)
def gv (l:List GSpan):List GSpan:=(l.map aL).filter nB
theorem D7 (s:GSpan) (d:Int):((aL s).From≤d∧d < (aL s).To)↔(s.From≤d∧d < s.To)∧0≤d∧d < 73049:=by
  unfold aL
  simp only
  split <;> split <;> omega
theorem pU (l:List GSpan) (d:Int):bg (gv l) d↔bg l d∧0≤d∧d < 73049:=by
  unfold bg gv
  constructor
  · rintro ⟨s,hs,h⟩
    obtain ⟨h1,_⟩:=List.mem_filter.1 hs
    obtain ⟨t,ht,rfl⟩:=List.mem_map.1 h1
    have:=(D7 t d).1 h
    exact ⟨⟨t,ht,this.1⟩,this.2⟩
  · rintro ⟨⟨t,ht,h⟩,h2⟩
    have:=(D7 t d).2 ⟨h,h2⟩
    refine ⟨aL t,List.mem_filter.2 ⟨List.mem_map.2 ⟨t,ht,rfl⟩, ?_⟩,this⟩
    unfold nB
    rw [decide_eq_true_iff]; omega
theorem Jx (l:List GSpan):∀ s∈gv l,0≤s.From∧s.From < s.To∧s.To≤73049:=by
  intro s hs
  obtain ⟨h1,h2⟩:=List.mem_filter.1 hs
  obtain ⟨t,ht,rfl⟩:=List.mem_map.1 h1
  unfold nB at h2
  rw [decide_eq_true_iff] at h2
  refine ⟨?_,h2, ?_⟩ <;> (unfold aL; simp only; split <;> omega)
theorem HW (l:List GSpan):(gv l).length≤l.length:=by
  unfold gv
  have:=List.length_filter_le nB (l.map aL)
  simpa using this
theorem I4 (p:List GSpan) (x:GSpan) (h:p.length≤1000000000):ac ((((p++[x]).length:Nat):Int) - 1) = ((p.length:Nat):Int):=by
  have hl:(p++[x]).length = p.length+1:=by simp
  rw [ak (by omega) (by omega)]
  omega
theorem Ha {T:Type} (p:List T) (x y:T):(p++[x]).set p.length y = p++[y]:=by
  rw [List.set_append_right _ _ (Nat.le_refl _)]
  simp
theorem I7 {T:Type} (p:List T) (x z:T):gD (p++[x]) p.length z = x:=uU p [] x z
theorem Kj (t out:List GSpan) (i:Nat) (hi:i < t.length) (ho:out.length≤1000000000) (hn:t.length≤1000000000) :
    cX (t.length:Int) (i:Int) out t = cX (t.length:Int) ((i+1:Nat):Int) (ii out t[i]) t:=by
  rw [oa]
  simp only [bG hi,cd,cond_true,aK,Bool.or_true,cy hi,bP hi (by omega)]
  rcases iK out with rfl | ⟨p,x,rfl⟩
  · rw [show aa ((0:Int) < ((([]:List GSpan).length:Nat):Int)) = false from rfl]
    simp only [Bool.false_and,Bool.not_false,Bool.true_or,aK,cond_false]
    rw [kN (by simp) (by simp),xm]
    rfl
  · have hp:p.length≤1000000000:=by simp at ho; omega
    have hl:(p++[x]).length = p.length+1:=by simp
    have h0:aa ((0:Int) < (((p++[x]).length:Nat):Int)) = true:=bY (by omega)
    have hlt:aa (((p.length:Nat):Int) < (((p++[x]).length:Nat):Int)) = true:=bY (by omega)
    have hi0:aa ((0:Int)≤((p.length:Nat):Int)) = true:=bY (by omega)
    rw [I4 p x hp]
    simp only [h0,hlt,hi0,Bool.or_true,aK,cond_true,I7,Int.toNat_natCast,Ha,uj]
    by_cases hc:t[i].From≤x.To
    · rw [bY hc,cond_true,if_pos hc]
      by_cases hd:x.To < t[i].To
      · rw [bY hd,if_pos hd]; rfl
      · rw [em hd,if_neg hd]; rfl
    · rw [em hc,cond_false,kN (by omega) (by omega),if_neg hc]
theorem K5 (out:List GSpan) (s:GSpan):(ii out s).length≤out.length+1:=by
  rcases iK out with rfl | ⟨p,x,rfl⟩
  · rw [xm]; simp
  · rw [uj]; split <;> simp
theorem Mc (s:GSpan):sM s = some (aL s):=by
  rw [Cn]
  unfold aL
  by_cases h1:s.From < 0 <;> by_cases h2:73049 < s.To <;> simp [h1,h2]
theorem KO:Go.Sort.SWO fun (a b:GSpan)=>aa (a.From < b.From):=⟨fun x=>by simp,fun x y z h1 h2=>by simp at *; omega,fun x y z h1 h2=>by simp at *; omega⟩
noncomputable def bc (l:List GSpan):List GSpan:=(fm (gv l)).foldl ii []
theorem vE (l:List GSpan):(fm l).Perm l∧(fm l).Pairwise fun a b=>a.From≤b.From:=by
  obtain ⟨h1,h2⟩:=@BP _ ⟨zS .GSpan⟩ _ KO l
  exact ⟨h1,h2.imp fun h=>by simp at h; omega⟩
theorem fc (l:List GSpan) (hn:l.length≤1000000000):fN l = some (bc l):=by
  have hc:=HW l
  have hs:=(vE (gv l)).1.length_eq
  rw [EJ]
  have e:gv l = l.flatMap fun s=>if nB (aL s) = true then [aL s] else []:=by
    unfold gv
    rw [l9 (fun s=>nB (aL s)) aL,List.filter_map]
    rfl
  refine (tx l (fun i out=>df l (l.length:Int) i out) (fun s=>if nB (aL s) = true then [aL s] else []) 1 (fun x _=>by split <;> simp) fun i out hi ho=>?_).trans ?_
  · show df _ _ _ _ = df _ _ _ _
    rw [pi]
    simp only [bG hi,cd,cond_true,aK,Bool.or_true,cy hi,bP hi (by omega)]
    rw [Mc,Option.bind_some,kN (by omega) (by omega)]
    unfold nB
    by_cases hk:(aL l[i]).From < (aL l[i]).To
    · rw [bY hk,decide_eq_true hk]; rfl
    · rw [em hk,decide_eq_false hk]; simp
  · rw [← e]
    show df _ _ _ _ = _
    rw [pi,bU,cond_false,bH (by omega)]
    unfold bc
    generalize hg:fm (gv l) = t at hs
    refine ((Bz t (fun i out=>cX (t.length:Int) i out t) ii (fun i out=>out.length≤i) (fun i out hi ho=>⟨Kj t out i hi (by omega) (by omega),by have:=K5 out t[i]; omega⟩) [] (by simp)).1).trans ?_
    show cX _ _ _ _ = _
    rw [oa,bU]; rfl
theorem bx (l:List GSpan):bF (-1) (bc l)∧(∀ d,bg (bc l) d↔bg l d∧0≤d∧d < 73049)∧(bc l).length≤l.length:=by
  obtain ⟨hp,hs⟩:=vE (gv l)
  have hc:=HW l
  obtain ⟨f1,f2,f3⟩:=D3 (fm (gv l)) [] trivial (fun x hx=>by simp at hx) hs (fun s h=>Jx l s (hp.mem_iff.1 h))
  refine ⟨f1,fun d=>?_, ?_⟩
  · unfold bc
    rw [f2, ← pU]
    constructor
    · rintro (h | ⟨s,h,h'⟩)
      · exact (aY h).elim
      · exact ⟨s,hp.mem_iff.1 h,h'⟩
    · rintro ⟨s,h,h'⟩
      exact .inr ⟨s,hp.mem_iff.2 h,h'⟩
  · unfold bc
    have:=hp.length_eq
    simp at f3
    omega
end Go.Ax
