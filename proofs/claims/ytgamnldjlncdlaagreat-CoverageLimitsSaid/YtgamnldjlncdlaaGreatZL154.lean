import Derived.Test.YtgamnldjlncdlaaGreatZL153
set_option linter.all false
/- Facts of functions of the program: what they compute. -/
set_option maxRecDepth 100000
namespace Go.Ax
open Go.Proofs
open Go.Proofs
theorem Xx {n:Nat} (h:n≤4000000):AT n 8:=⟨by omega,by omega⟩
theorem XE (l:List Int) (n:Int) (hl:l.length≤1000000):∀ (k:Nat),k≤l.length→∃ p s,l = p++s∧fixL (pS l n) ((k:Nat):Int) = some ((p.length:Nat):Int)∧(∀ x∈s.take (k - p.length),n≤x)∧p.length≤k∧(∀ q y,p = q++[y]→y < n):=by
  intro k
  induction k with
  | zero =>
    intro hk
    refine ⟨[],l,rfl, ?_,by simp,by simp,fun q y h=>by simp at h⟩
    rw [bS]
    show (jt l n (0:Int)).opt.bind _ = _
    simp only [jt,oT]
    rw [show decide ((0:Int) < (0:Int)) = false from rfl,aE (fun h=>by simp at h),aE (fun h=>by simp at h)]
    rfl
  | succ k ih =>
    intro hk
    have hk':k < l.length:=by omega
    have e1:ai (((k+1:Nat):Int) - 1) = (k:Int):=by rw [bu (by omega) (by omega)]; omega
    have h0:decide ((0:Int) < ((k+1:Nat):Int)) = true:=decide_eq_true (by omega)
    have hstep:(jt l n ((k+1:Nat):Int)).opt = if n≤l[k] then some (.inl (k:Int)) else some (.inr ((k+1:Nat):Int)):=by
      simp only [jt,oT]
      rw [e1,h0,aE (fun _=>(bQ hk').1),aE (fun _=>(bQ hk').2),cond_true,fX l _ k hk']
      by_cases hc:n≤l[k]
      · rw [decide_eq_true hc,cond_true,if_pos hc]
      · rw [decide_eq_false hc,cond_false,if_neg hc]
    rw [bS]
    by_cases hc:n≤l[k]
    · obtain ⟨p,s,h1,h2,h3,h4,h5⟩:=ih (by omega)
      refine ⟨p,s,h1, ?_,fun x hx=>?_,by omega,h5⟩
      · show (jt l n ((k+1:Nat):Int)).opt.bind _ = _
        rw [hstep,if_pos hc,Option.bind_some]
        exact h2
      · rw [show k+1 - p.length = (k - p.length)+1 by omega,List.take_succ] at hx
        rcases List.mem_append.1 hx with hx | hx
        · exact h3 x hx
        · have:s[k - p.length]? = some l[k]:=by
            have:l[k]? = some l[k]:=List.getElem?_eq_getElem hk'
            rw [← this]
            conv=>rhs; rw [h1]
            rw [List.getElem?_append_right h4]
          rw [this] at hx
          have:x = l[k]:=by simpa using hx
          rw [this]; exact hc
    · refine ⟨l.take (k+1),l.drop (k+1),(List.take_append_drop _ _).symm, ?_, ?_,by simp; omega,fun q y h=>?_⟩
      · show (jt l n ((k+1:Nat):Int)).opt.bind _ = _
        rw [hstep,if_neg hc,Option.bind_some,List.length_take,Nat.min_eq_left (by omega)]
      · rw [List.length_take,Nat.min_eq_left (by omega)]
        simp
      · have h6:l.take (k+1) = l.take k++[l[k]]:=by rw [List.take_succ,List.getElem?_eq_getElem hk']; rfl
        rw [h6] at h
        have:=List.append_inj_right' h rfl
        simp at this
        omega
def m7 (l:List Int):Prop:=l.Pairwise (fun a b=>a < b)
theorem Av (l:List Int) (n:Int) (hl:l.length≤1000000) (hs:m7 l):∃ r,fU l n = some r∧m7 r∧(∀ x,x∈r↔x∈l∨x = n)∧r.length≤l.length+1:=by
  obtain ⟨p,s,h1,h2,h3,h4,h5⟩:=XE l n hl l.length (Nat.le_refl _)
  have h3':∀ x∈s,n≤x:=by
    intro x hx
    refine h3 x ?_
    rw [List.take_of_length_le (by rw [h1]; simp)]
    exact hx
  have e:fU l n = (mY l n ((p.length:Nat):Int)).opt:=by
    show (fixL (pS l n) ((l.length:Nat):Int)).bind _ = _
    rw [h2,Option.bind_some]
  rw [e]
  have hlen:l.length = p.length+s.length:=by rw [h1]; simp
  have hpw:=hs
  unfold m7 at hpw
  rw [h1] at hpw
  obtain ⟨w1,w2,w3⟩:=List.pairwise_append.1 hpw
  have hp:∀ x∈p,x < n:=by
    intro x hx
    rcases oV p with rfl | ⟨q,y,rfl⟩
    · simp at hx
    · have hy:=h5 q y rfl
      rcases List.mem_append.1 hx with hx | hx
      · have:=(List.pairwise_append.1 w1).2.2 x hx y (by simp)
        omega
      · rw [List.mem_singleton.1 hx]; exact hy
  have hdone:∀ (_:∀ x∈s,n < x), ∃ r,(mY l n ((p.length:Nat):Int)).opt = some r∧m7 r∧(∀ x,x∈r↔x∈l∨x = n)∧r.length≤l.length+1:=by
    intro hgt
    refine ⟨(p++[n])++s, ?_, ?_,fun x=>?_,by simp; omega⟩
    · simp only [mY,oT]
      have hc:(bif decide (((p.length:Nat):Int) < ((l.length:Nat):Int)) then (l.getD (0+Int.toNat ((p.length:Nat):Int)) (0:Int) == n) else false) = false:=by
        by_cases hh:p.length < l.length
        · rw [dH hh,cond_true]
          match s,h1,hgt with
          | [],h1,_=>rw [h1] at hh; simp at hh
          | y :: s,h1,hgt =>
            rw [Nat.zero_add,Int.toNat_natCast,h1,o4,beq_eq_false_iff_ne]
            have:=hgt y (by simp)
            omega
        · rw [decide_eq_false (by omega),cond_false]
      rw [aE (fun _=>by omega),aE (fun h=>by simp at h; omega),hc,cond_false,aE (by omega),aE (Xx (by omega)),aE (Xx (by omega)),aE (by omega),aE (Xx (by omega))]
      have e1:Int.toNat (((p.length:Nat):Int) - 0) = p.length:=by omega
      have e2:Int.toNat (((l.length:Nat):Int) - ((p.length:Nat):Int)) = s.length:=by omega
      rw [e1,e2,Nat.zero_add,Int.toNat_natCast]
      conv=>lhs; rw [h1]
      rw [WD,Ye]
    · refine List.pairwise_append.2 ⟨List.pairwise_append.2 ⟨w1,List.pairwise_singleton _ _,fun x hx y hy=>?_⟩,w2,fun x hx y hy=>?_⟩
      · rw [List.mem_singleton.1 hy]; exact hp x hx
      · rcases List.mem_append.1 hx with hx | hx
        · exact w3 x hx y hy
        · rw [List.mem_singleton.1 hx]; exact hgt y hy
    · rw [h1]; simp only [List.mem_append,List.mem_singleton]
      constructor
      · rintro ((h | h) | h)
        · exact .inl (.inl h)
        · exact .inr h
        · exact .inl (.inr h)
      · rintro ((h | h) | h)
        · exact .inl (.inl h)
        · exact .inr h
        · exact .inl (.inr h)
  by_cases hmem:n∈s
  ·
    match s,h1,h3',hmem,w2,hlen with
    | [],_,_,hmem,_,_=>simp at hmem
    | y :: s,h1,h3',hmem,w2,hlen =>
      have hy:y = n:=by
        rcases List.mem_cons.1 hmem with h | h
        · exact h.symm
        · have:=(List.pairwise_cons.1 w2).1 n h
          have:=h3' y (by simp)
          omega
      refine ⟨l, ?_,hs,fun x=>?_,by omega⟩
      · simp only [mY,oT]
        have hh:p.length < l.length:=by rw [hlen]; simp
        rw [aE (fun _=>by omega),aE (fun _=>by omega),dH hh,cond_true]
        have:l.getD (0+Int.toNat ((p.length:Nat):Int)) (0:Int) = n:=by
          rw [Nat.zero_add,Int.toNat_natCast,h1,o4,hy]
        rw [this]
        simp
      · constructor
        · exact .inl
        · rintro (h | h)
          · exact h
          · rw [h,h1, ← hy]; simp
  · refine hdone fun x hx=>?_
    have:=h3' x hx
    have:x≠n:=fun h=>hmem (h ▸ hx)
    omega
open Go.Proofs
def mE (l:List ab) (x:Int):Prop:=∃ s∈gm l,x = s.From∨x = s.To
theorem Uz (s:ab) (l:List ab):gm (s :: l) = if (cV s).From < (cV s).To then cV s :: gm l else gm l:=by
  unfold gm
  rw [List.map_cons,List.filter_cons]
  unfold Dt
  by_cases h:(cV s).From < (cV s).To
  · rw [if_pos (decide_eq_true h),if_pos h]
  · rw [if_neg (by rw [decide_eq_false h]; simp),if_neg h]
theorem MI (s:ab) (l:List ab) (x:Int):mE (s :: l) x↔((cV s).From < (cV s).To∧(x = (cV s).From∨x = (cV s).To))∨mE l x:=by
  unfold mE
  rw [Uz]
  by_cases h:(cV s).From < (cV s).To
  · rw [if_pos h]
    constructor
    · rintro ⟨t,ht,hx⟩
      rcases List.mem_cons.1 ht with rfl | ht
      · exact .inl ⟨h,hx⟩
      · exact .inr ⟨t,ht,hx⟩
    · rintro (⟨_,hx⟩ | ⟨t,ht,hx⟩)
      · exact ⟨_,List.mem_cons_self ..,hx⟩
      · exact ⟨t,List.mem_cons_of_mem _ ht,hx⟩
  · rw [if_neg h]
    constructor
    · exact .inr
    · rintro (⟨h',_⟩ | h')
      · exact (h h').elim
      · exact h'
theorem VQ (L:List (List ab)) (o9:List Int) (i4:Int) (i:Nat) (hi:i < L.length) (hl:(L[i]).length≤200000):∀ (n k:Nat) (out:List Int),(L[i]).length = k+n→m7 out→out.length+2*n≤1000000 →
    ∃ r,fixL (mF L o9 i4) (out,(i:Int),(k:Int)) = some (r,(i:Int))∧m7 r∧(∀ x,x∈r↔x∈out∨mE ((L[i]).drop k) x)∧r.length≤out.length+2*n:=by
  have hg:L.getD (Int.toNat (i:Int)) ([]:List ab) = L[i]:=eL L _ i hi
  intro n
  induction n with
  | zero =>
    intro k out h ho hb
    have:k = (L[i]).length:=by omega
    subst this
    refine ⟨out, ?_,ho,fun x=>?_,by omega⟩
    · rw [bS]
      show (gK L out (i:Int) (((L[i]).length:Nat):Int)).opt.bind _ = _
      simp only [gK,oT]
      rw [aE (bQ hi),hg,cu,cond_false]
      rfl
    · rw [List.drop_length]
      simp [mE,gm]
  | succ n ih =>
    intro k out h ho hb
    have hk:k < (L[i]).length:=by omega
    have hstep:(gK L out (i:Int) (k:Int)).opt = bif decide ((cV (L[i])[k]).From < (cV (L[i])[k]).To) then (fU out (cV (L[i])[k]).From).bind fun r_2=>((fU r_2 (cV (L[i])[k]).To).bind fun r_3=>(some (Sum.inl (r_3,(i:Int),((k+1:Nat):Int))))) else some (Sum.inl (out,(i:Int),((k+1:Nat):Int))):=by
      simp only [gK,oT]
      rw [aE (bQ hi),hg,dH hk,cond_true,aE (bQ hi),aE (bQ hk),eL (L[i]) _ k hk,cP (by omega)]
      rfl
    rw [List.drop_eq_getElem_cons hk]
    by_cases hc:(cV (L[i])[k]).From < (cV (L[i])[k]).To
    · obtain ⟨r2,a1,a2,a3,a4⟩:=Av out (cV (L[i])[k]).From (by omega) ho
      obtain ⟨r3,b1,b2,b3,b4⟩:=Av r2 (cV (L[i])[k]).To (by omega) a2
      rw [decide_eq_true hc,cond_true,a1,Option.bind_some,b1,Option.bind_some] at hstep
      obtain ⟨r,c1,c2,c3,c4⟩:=ih (k+1) r3 (by omega) b2 (by omega)
      refine ⟨r, ?_,c2,fun x=>?_,by omega⟩
      · rw [bS]
        show (gK L out (i:Int) (k:Int)).opt.bind _ = _
        rw [hstep,Option.bind_some]
        exact c1
      · rw [c3,b3,a3,MI]
        constructor
        · rintro (((h1 | h1) | h1) | h1)
          · exact .inl h1
          · exact .inr (.inl ⟨hc, .inl h1⟩)
          · exact .inr (.inl ⟨hc, .inr h1⟩)
          · exact .inr (.inr h1)
        · rintro (h1 | ⟨_,h1 | h1⟩ | h1)
          · exact .inl (.inl (.inl h1))
          · exact .inl (.inl (.inr h1))
          · exact .inl (.inr h1)
          · exact .inr h1
    · rw [decide_eq_false hc,cond_false] at hstep
      obtain ⟨r,c1,c2,c3,c4⟩:=ih (k+1) out (by omega) ho (by omega)
      refine ⟨r, ?_,c2,fun x=>?_,by omega⟩
      · rw [bS]
        show (gK L out (i:Int) (k:Int)).opt.bind _ = _
        rw [hstep,Option.bind_some]
        exact c1
      · rw [c3,MI]
        constructor
        · rintro (h1 | h1)
          · exact .inl h1
          · exact .inr (.inr h1)
        · rintro (h1 | ⟨h2,_⟩ | h1)
          · exact .inl h1
          · exact (hc h2).elim
          · exact .inr h1
theorem MG (L:List (List ab)) (i:Nat) (hi:i < L.length) (hl:(L[i]).length≤200000) (out:List Int) (ho:m7 out) (hb:out.length+2*(L[i]).length≤1000000) (hn:L.length≤1000) :
    ∃ r,(qm L out (i:Int)).opt = some (.inl (r,((i+1:Nat):Int)))∧m7 r∧(∀ x,x∈r↔x∈out∨mE (L[i]) x)∧r.length≤out.length+2*(L[i]).length:=by
  obtain ⟨r,h1,h2,h3,h4⟩:=VQ L out (i:Int) i hi hl (L[i]).length 0 out (by omega) ho hb
  refine ⟨r, ?_,h2,by rw [List.drop_zero] at h3; exact h3,h4⟩
  simp only [qm,oT]
  rw [dH hi,cond_true]
  show (fixL (mF L out (i:Int)) (out,(i:Int),(0:Int))).bind _ = _
  rw [show ((0:Nat):Int) = 0 from rfl] at h1
  rw [h1,Option.bind_some]
  show some (Sum.inl (r,ai ((i:Int)+1))) = _
  rw [cP (by omega)]
theorem Np (a b:List ab) (ha:a.length≤100000) (hb:b.length≤100000):∃ e,xB [a,b] = some e∧m7 e∧(∀ x,x∈e↔mE a x∨mE b x)∧e.length≤500000:=by
  obtain ⟨r,h1,h2,h3,h4⟩:=MG [a,b] 0 (by simp) (by show a.length≤_; omega) [] List.Pairwise.nil (by show 0+2*a.length≤_; omega) (by simp)
  have h4':r.length≤0+2*a.length:=h4
  obtain ⟨q,g1,g2,g3,g4⟩:=MG [a,b] 1 (by simp) (by show b.length≤_; omega) r h2 (by show r.length+2*b.length≤_; omega) (by simp)
  have g4':q.length≤r.length+2*b.length:=g4
  refine ⟨q, ?_,g2,fun x=>?_,by omega⟩
  · show (fixL (fT [a,b]) (([]:List Int),(0:Int))).bind _ = _
    have:fixL (fT [a,b]) (([]:List Int),(0:Int)) = some q:=by
      rw [bS]
      have e1:fT [a,b] (([]:List Int),(0:Int)) = some (.inl (r,(1:Int))):=h1
      rw [e1,Option.bind_some]
      show fixL (fT [a,b]) (r,(1:Int)) = _
      rw [bS]
      have e2:fT [a,b] (r,(1:Int)) = some (.inl (q,(2:Int))):=g1
      rw [e2,Option.bind_some]
      show fixL (fT [a,b]) (q,(2:Int)) = _
      rw [bS]
      rfl
    rw [this,Option.bind_some]
    rfl
  · rw [g3,h3]
    simp
theorem Nc (l:List ab) (d:Int) (hl:l.length≤1000000):∀ (n k:Nat),l.length = k+n →
    ∃ r:Unit ⊕ Unit,fixL (jK l d) (k:Int) = some r∧(r = .inl ()↔dD (l.drop k) d∧0≤d∧d < 73049):=by
  intro n
  induction n with
  | zero =>
    intro k h
    have:k = l.length:=by omega
    subst this
    refine ⟨.inr (), ?_,by simp [dp]⟩
    rw [bS]
    show (eK l d ((l.length:Nat):Int)).opt.bind _ = _
    simp only [eK,oT]
    rw [cu,cond_false]
    rfl
  | succ n ih =>
    intro k h
    have hk:k < l.length:=by omega
    have hv:qh d = some (bif decide ((0:Int)≤d) then decide (d≤(73048:Int)) else false):=rfl
    have hstep:(eK l d (k:Int)).opt = if (l[k].From≤d∧d < l[k].To)∧0≤d∧d < 73049 then some (.inr (.inl ())) else some (.inl ((k+1:Nat):Int)):=by
      simp only [eK,oT]
      rw [dH hk,cond_true,aE (bQ hk),eL l _ k hk,cP (by omega),hv,aE (fun _=>(bQ hk).1),aE (fun _=>(bQ hk).2),aE (fun _=>Option.isSome_some),Option.getD_some]
      by_cases c1:l[k].From≤d
      · by_cases c2:d < l[k].To
        · by_cases c3:0≤d
          · by_cases c4:d≤73048
            · rw [decide_eq_true c1,decide_eq_true c2,decide_eq_true c3,decide_eq_true c4,if_pos (by omega)]; rfl
            · rw [decide_eq_true c1,decide_eq_true c2,decide_eq_true c3,decide_eq_false c4,if_neg (by omega)]; rfl
          · rw [decide_eq_true c1,decide_eq_true c2,decide_eq_false c3,if_neg (by omega)]; rfl
        · rw [decide_eq_true c1,decide_eq_false c2,if_neg (by omega)]; rfl
      · rw [decide_eq_false c1,if_neg (by omega)]; rfl
    rw [bS,List.drop_eq_getElem_cons hk]
    by_cases hc:(l[k].From≤d∧d < l[k].To)∧0≤d∧d < 73049
    · rw [if_pos hc] at hstep
      refine ⟨.inl (), ?_,by simp only [true_iff]; exact ⟨cg.2 (.inl hc.1),hc.2⟩⟩
      show (eK l d (k:Int)).opt.bind _ = _
      rw [hstep]
      rfl
    · rw [if_neg hc] at hstep
      obtain ⟨r,h1,h2⟩:=ih (k+1) (by omega)
      refine ⟨r, ?_, ?_⟩
      · show (eK l d (k:Int)).opt.bind _ = _
        rw [hstep]
        exact h1
      · rw [h2,cg]
        constructor
        · rintro ⟨h3,h4⟩; exact ⟨.inr h3,h4⟩
        · rintro ⟨h3 | h3,h4⟩
          · exact (hc ⟨h3,h4⟩).elim
          · exact ⟨h3,h4⟩
theorem yO (l:List ab) (d:Int) (hl:l.length≤1000000):∃ b,mL l d = some b∧(b = true↔dD l d∧0≤d∧d < 73049):=by
  obtain ⟨r,h1,h2⟩:=Nc l d hl l.length 0 (by omega)
  rw [show ((0:Nat):Int) = 0 from rfl,List.drop_zero] at *
  have e:mL l d = nP l d r:=by
    show (fixL (jK l d) (0:Int)).bind _ = _
    rw [h1,Option.bind_some]
  rw [e]
  match r,h2 with
  | .inl (),h2=>exact ⟨true,rfl,by rw [← h2]; simp⟩
  | .inr (),h2=>exact ⟨false,rfl,by rw [← h2]; simp⟩
end Go.Ax
