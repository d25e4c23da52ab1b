import Derived.Test.YtgamnldjlncdlaaGreatZL161
set_option linter.all false
/- What the states claim, by the program and by the document. -/
set_option maxRecDepth 100000
namespace Go.Ax
open Go.Proofs
theorem ZZ (l:List ac) (hl:l.length≤900) (law:List ar) (hw:law.length≤100000) (schemes:List an) (hn:schemes.length≤1000) (past:ab) (i:Nat) (hi:i < schemes.length) (hx:si schemes[i]) (out:List aj) (ho:out.length≤600000000) :
    eR l law schemes past ((i:Int),out) = some (.inl (((i+1:Nat):Int),out++Bn l law past schemes[i])):=by
  show (fV l law schemes (i:Int) out past).opt = _
  simp only [fV,oT]
  rw [dg hi,cond_true]
  show (ku l law schemes (i:Int) out past).opt = _
  simp only [ku,oT]
  rw [aD (bJ hi),er schemes _ i hi,Bj,Mg,GD law _ _ (by omega),Option.bind_some]
  have hu:=xR law schemes[i].State 3
  have hm:=(fi (iv law schemes[i].State 3)).2.2
  rw [mQ _ _ (by omega),Option.bind_some]
  have hf:=E5 law schemes[i] past
  have hc:=fF (da (iv law schemes[i].State 3)) past
  rw [xI _ _ _ _ (by omega) (by omega),Option.bind_some,aoa,Option.bind_some]
  show (fixL (eV l law schemes (i:Int) jK ((jK.length:Nat):Int) (out++yP law schemes[i] past) past schemes[i]) ((i:Int),(0:Int),out++yP law schemes[i] past)).bind _ = _
  rw [YS l hl law schemes (i:Int) _ (by rw [List.length_append]; omega) past schemes[i] hx,Option.bind_some]
  show (kC l law schemes (i:Int) ((out++yP law schemes[i] past)++kr.flatMap (yS l schemes[i] past)) past).opt = _
  simp only [kC,oT]
  rw [cF (by omega),List.append_assoc]
  rfl
noncomputable def yg (l:List ac) (law:List ar) (schemes:List an) (past:ab):List aj:=schemes.flatMap (Bn l law past)
theorem aac (l:List ac) (hl:l.length≤900) (law:List ar) (hw:law.length≤100000) (schemes:List an) (hn:schemes.length≤1000) (hx:∀ x∈schemes,si x) (past:ab) :
    fixL (eR l law schemes past) ((0:Int),([]:List aj)) = some (yg l law schemes past) :=
  iU (f:=eR l law schemes past) schemes (Bn l law past) (fun o i=>((i:Int),o)) (fun o=>o) 600000 (fun x _=>KA _ _ _ _) (fun i hi o ho=>ZZ l hl law hw schemes hn past i hi (hx _ (List.getElem_mem hi)) o (by
      have:i*600000≤1000*600000:=Nat.mul_le_mul_right _ (by omega)
      omega)) (fun o ho=>by
      show (fV l law schemes ((schemes.length:Nat):Int) o past).opt = _
      simp only [fV,oT]
      rw [cl,cond_false])
theorem Ko (l:List ac) (law:List ar) (schemes:List an) (b:Int) (out:List aj) (i s r:Int) (hr:r≤100) (hr0:0≤r) (d:List ab) (h1:d.length≤1000000) (h2:out.length≤1000000000) :
    (kq l law schemes b out i s r d).opt = some (.inl (out++Cp s r d,i,r+1)):=by
  have:=iU (f:=kB l law schemes b out i s r d) d (fun x=>[aj.mk s r x]) (fun o k=>(out++o,i,r,(k:Int))) (fun o=>(out++o,i,r)) 1 (fun _ _=>by simp) (fun k hk o ho=>by
      show (iI l law schemes b (out++o) i s r d (k:Int)).opt = _
      simp only [iI,oT]
      rw [dg hk,cond_true,aD (bJ hk),aD (am7 (by rw [List.length_append]; omega)),fp d _ k hk,cF (by omega),List.append_assoc]) (fun o ho=>by
      show (iI l law schemes b (out++o) i s r d ((d.length:Nat):Int)).opt = _
      simp only [iI,oT]
      rw [cl,cond_false])
  rw [Kh,List.append_nil,show ((0:Nat):Int) = 0 from rfl] at this
  show (fixL (kB l law schemes b out i s r d) (out,i,r,(0:Int))).bind _ = _
  rw [this,Option.bind_some]
  show (nV l law schemes b (out++Cp s r d) i s r).opt = _
  simp only [nV,oT]
  rw [bu (by omega) (by omega)]
noncomputable def II (l:List ac) (law:List ar) (past:ab) (x:an) (p:Int × Int):List aj:=if p.2 = 1 then yP law x past else yS l x past p
theorem WS (l:List ac) (law:List ar) (past:ab) (x:an) (p:Int × Int):(II l law past x p).length≤73050:=by
  unfold II
  split
  · exact E5 _ _ _
  · exact Ky _ _ _ _
def H3:List (Int × Int):=(0,1) :: kr
theorem aeb (l:List ac) (law:List ar) (past:ab) (x:an):H3.flatMap (II l law past x) = Bn l law past x:=rfl
theorem V9 (l:List ac) (hl:l.length≤900) (law:List ar) (hw:law.length≤99000) (schemes:List an) (b:Int) (i:Nat) (hi:i < schemes.length) (hx:si schemes[i]) (out:List aj) (ho:out.length≤900000000) (p:Int × Int)
    (hp:p.2 = 1∨p.2≠1∧eO p.2 = some p.1) (h1:0≤p.2) (h7:p.2≤7) :
    (gw l law schemes b out (i:Int) schemes[i].State p.2).opt = some (.inl (out++II l law ⟨0,b⟩ schemes[i] p,(i:Int),p.2+1)):=by
  simp only [gw,oT]
  rw [decide_eq_true h7,cond_true]
  show (nH l law schemes b out (i:Int) schemes[i].State p.2).opt = _
  simp only [nH,oT]
  unfold II
  rcases hp with hp | ⟨hp,hk⟩
  · have hu:=xR law schemes[i].State 3
    have hm:=(fi (iv law schemes[i].State 3)).2.2
    have hc:=fF (da (iv law schemes[i].State 3)) ⟨0,b⟩
    rw [if_pos hp,show (p.2 == 1) = true by simp [hp],cond_true,NF law _ _ (by omega),Option.bind_some,EV _ b 0 (by omega) (by omega) (by omega),Option.bind_some]
    have e:xj 0 (dD (da (iv law schemes[i].State 3)) ⟨0,b⟩) = dD (da (iv law schemes[i].State 3)) ⟨0,b⟩:=if_pos rfl
    rw [e,Ko _ _ _ _ _ _ _ _ (by omega) h1 _ (by omega) (by omega),hp]
    rfl
  · obtain ⟨c1,c2⟩:=JV p.1 _ hx.2
    rw [if_neg hp,show (p.2 == 1) = false by simp [hp],cond_false,aD (bJ hi),hk,Option.bind_some,er schemes _ i hi,Bj,M0 _ _ (by have:=hx.1; omega),Option.bind_some]
    unfold yS
    cases hc:(jU p.1 schemes[i].Version.Credits).2 with
    | false =>
      rw [cond_false,Ko _ _ _ _ _ _ _ _ (by omega) h1 _ (by simp) (by omega),if_neg (by simp)]
      rfl
    | true =>
      have hd:=GT l p.1 schemes[i].State ⟨0,b⟩ (jU p.1 schemes[i].Version.Credits).1
      rw [cond_true,Option.bind_some,R4 l hl _ _ _ _ (by omega) c1,Option.bind_some,Ko _ _ _ _ _ _ _ _ (by omega) h1 _ (by omega) (by omega),if_pos rfl]
theorem Z8:∀ (j:Nat) (h:j < H3.length),(H3[j]).2 = (j:Int)+1∧((H3[j]).2 = 1∨(H3[j]).2≠1∧eO (H3[j]).2 = some (H3[j]).1):=by
  intro j h
  have h7:H3.length = 7:=rfl
  obtain ⟨k2,k3,k4,k5,k6,k7⟩:=Wo
  have:j = 0∨j = 1∨j = 2∨j = 3∨j = 4∨j = 5∨j = 6:=by omega
  rcases this with e | e | e | e | e | e | e <;> subst e
  · exact ⟨rfl, .inl rfl⟩
  · exact ⟨rfl, .inr ⟨show (2:Int)≠1 by decide,k2⟩⟩
  · exact ⟨rfl, .inr ⟨show (3:Int)≠1 by decide,k3⟩⟩
  · exact ⟨rfl, .inr ⟨show (4:Int)≠1 by decide,k4⟩⟩
  · exact ⟨rfl, .inr ⟨show (5:Int)≠1 by decide,k5⟩⟩
  · exact ⟨rfl, .inr ⟨show (6:Int)≠1 by decide,k6⟩⟩
  · exact ⟨rfl, .inr ⟨show (7:Int)≠1 by decide,k7⟩⟩
theorem VM (l:List ac) (hl:l.length≤900) (law:List ar) (hw:law.length≤99000) (schemes:List an) (hn:schemes.length≤1000) (b:Int) (i:Nat) (hi:i < schemes.length) (hx:si schemes[i]) (out:List aj) (ho:out.length≤600000000) :
    gg l law schemes b (out,(i:Int)) = some (.inl (out++Bn l law ⟨0,b⟩ schemes[i],((i+1:Nat):Int))):=by
  have h7:H3.length = 7:=rfl
  have:=iU (f:=kx l law schemes b out (i:Int) schemes[i].State) H3 (II l law ⟨0,b⟩ schemes[i]) (fun o j=>(out++o,(i:Int),(j:Int)+1)) (fun o=>(out++o,(i:Int))) 73050 (fun _ _=>WS _ _ _ _ _) (fun j hj o hoo=>by
      obtain ⟨e1,e2⟩:=Z8 j hj
      show (gw l law schemes b (out++o) (i:Int) schemes[i].State ((j:Int)+1)).opt = _
      rw [← e1,V9 l hl law hw schemes b i hi hx (out++o) (by rw [List.length_append]; omega) (H3[j]) e2 (by omega) (by omega),List.append_assoc,e1]
      rfl) (fun o hoo=>by
      rw [h7]
      show (gw l law schemes b (out++o) (i:Int) schemes[i].State (((7:Nat):Int)+1)).opt = _
      simp only [gw,oT]
      rfl)
  rw [List.append_nil,aeb] at this
  show (ii l law schemes b out (i:Int)).opt = _
  simp only [ii,oT]
  rw [dg hi,cond_true]
  show (mo l law schemes b out (i:Int)).opt = _
  simp only [mo,oT]
  rw [aD (bJ hi),er schemes _ i hi]
  show (fixL (kx l law schemes b out (i:Int) schemes[i].State) (out,(i:Int),(1:Int))).bind _ = _
  rw [show (1:Int) = ((0:Nat):Int)+1 from rfl,this,Option.bind_some]
  show (nJ l law schemes b (out++Bn l law ⟨0,b⟩ schemes[i]) (i:Int)).opt = _
  simp only [nJ,oT]
  rw [cF (by omega)]
theorem XN (l:List ac) (hl:l.length≤900) (law:List ar) (hw:law.length≤99000) (schemes:List an) (hn:schemes.length≤1000) (hx:∀ x∈schemes,si x) (b:Int) :
    fixL (gg l law schemes b) (([]:List aj),(0:Int)) = some (yg l law schemes ⟨0,b⟩) :=
  iU (f:=gg l law schemes b) schemes (Bn l law ⟨0,b⟩) (fun o i=>(o,(i:Int))) (fun o=>o) 600000 (fun x _=>KA _ _ _ _) (fun i hi o ho=>VM l hl law hw schemes hn b i hi (hx _ (List.getElem_mem hi)) o (by
      have:i*600000≤1000*600000:=Nat.mul_le_mul_right _ (by omega)
      omega)) (fun o ho=>by
      show (ii l law schemes b o ((schemes.length:Nat):Int)).opt = _
      simp only [ii,oT]
      rw [cl,cond_false])
theorem TE (l:List ac) (law:List ar) (schemes:List an) (b:Int) (hn:schemes.length≤1000):∀ (n i:Nat),schemes.length = i+n →
    ∃ r,fixL (iz l law schemes b) (i:Int) = some r∧fixL (ky l law schemes b) (i:Int) = some r:=by
  intro n
  induction n with
  | zero =>
    intro i h
    have:i = schemes.length:=by omega
    subst this
    refine ⟨.inr (), ?_, ?_⟩
    · rw [bU]
      show ((fR l law schemes b ((schemes.length:Nat):Int)).opt).bind _ = _
      simp only [fR,oT]
      rw [cl,cond_false]; rfl
    · rw [bU]
      show ((iJ l law schemes b ((schemes.length:Nat):Int)).opt).bind _ = _
      simp only [iJ,oT]
      rw [cl,cond_false]; rfl
  | succ n ih =>
    intro i h
    have hi:i < schemes.length:=by omega
    have key:∃ c:Bool,iz l law schemes b (i:Int) = (bif c then some (.inr (.inl ())) else some (.inl ((i+1:Nat):Int)))∧ky l law schemes b (i:Int) = (bif c then some (.inr (.inl ())) else some (.inl ((i+1:Nat):Int))):=by
      refine ⟨(bif (bif (decide ((schemes.getD (Int.toNat (i:Int)) bz).State < 0)) then true else (decide (6≤(schemes.getD (Int.toNat (i:Int)) bz).State))) then true else (bif (decide (0 < (i:Int))) then (decide ((schemes.getD (Int.toNat (i:Int)) bz).State≤(schemes.getD (Int.toNat (ai ((i:Int) - 1))) bz).State)) else false)), ?_, ?_⟩
      · show (fR l law schemes b (i:Int)).opt = _
        simp only [fR,oT]
        rw [dg hi,cond_true,aD (bJ hi),aD,aD,cF (by omega)]
        · intro hc
          have h0:(0:Int) < (i:Int):=by
            have:=(Bool.and_eq_true _ _).mp hc
            exact of_decide_eq_true this.1
          rw [bu (by omega) (by omega)]; omega
        · intro hc
          have h0:(0:Int) < (i:Int):=by
            have:=(Bool.and_eq_true _ _).mp hc
            exact of_decide_eq_true this.1
          rw [bu (by omega) (by omega)]; omega
      · show (iJ l law schemes b (i:Int)).opt = _
        simp only [iJ,oT]
        rw [dg hi,cond_true,aD (bJ hi),aD,aD,cF (by omega)]
        · intro hc
          have h0:(0:Int) < (i:Int):=by
            have:=(Bool.and_eq_true _ _).mp hc
            exact of_decide_eq_true this.1
          rw [bu (by omega) (by omega)]; omega
        · intro hc
          have h0:(0:Int) < (i:Int):=by
            have:=(Bool.and_eq_true _ _).mp hc
            exact of_decide_eq_true this.1
          rw [bu (by omega) (by omega)]; omega
    obtain ⟨c,k1,k2⟩:=key
    obtain ⟨r,r1,r2⟩:=ih (i+1) (by omega)
    cases c with
    | true =>
      refine ⟨.inl (), ?_, ?_⟩
      · rw [bU,k1]; rfl
      · rw [bU,k2]; rfl
    | false =>
      refine ⟨r, ?_, ?_⟩
      · rw [bU,k1]; exact r1
      · rw [bU,k2]; exact r2
theorem RG (l:List ac) (hl:l.length≤900) (law:List ar) (hw:law.length≤99000) (schemes:List an) (hn:schemes.length≤1000) (hx:∀ x∈schemes,si x) (b:Int) :
    ∃ y,kw l law schemes b = some y∧td l law schemes b = some y∧(y = (([]:List aj),(1:Int))∨y = (yg l law schemes ⟨0,b⟩,(0:Int))):=by
  have e1:kw l law schemes b = (jP l law schemes b).opt:=rfl
  have e2:td l law schemes b = (mC l law schemes b).opt:=rfl
  rw [e1,e2]
  simp only [jP,mC,oT]
  cases hc:(bif decide (b < 0) then true else decide (73049 < b)) with
  | true=>exact ⟨_,rfl,rfl, .inl rfl⟩
  | false =>
    rw [cond_false,cond_false]
    obtain ⟨r,r1,r2⟩:=TE l law schemes b hn schemes.length 0 (by omega)
    rw [show ((0:Nat):Int) = 0 from rfl] at r1 r2
    have a1:=aac l hl law (by omega) schemes hn hx ⟨0,b⟩
    have a2:=XN l hl law hw schemes hn hx b
    unfold nv rm
    rw [r1,r2,Option.bind_some,Option.bind_some]
    rcases r with ⟨⟩ | ⟨⟩
    · exact ⟨_,rfl,rfl, .inl rfl⟩
    · refine ⟨(yg l law schemes ⟨0,b⟩,0), ?_, ?_, .inr rfl⟩
      · show (fixL (eR l law schemes ⟨0,b⟩) ((0:Int),([]:List aj))).bind _ = _
        rw [a1]; rfl
      · show (fixL (gg l law schemes b) (([]:List aj),(0:Int))).bind _ = _
        rw [a2]; rfl
end Go.Ax
