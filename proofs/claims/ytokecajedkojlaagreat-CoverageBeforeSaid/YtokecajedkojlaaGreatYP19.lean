import Derived.Test.YtokecajedkojlaaGreatYP18
set_option linter.all false
/- What is claimed before an earlier day. -/
set_option maxRecDepth 100000
namespace Go.Ax
theorem A6 {l:List GSpan} (h:bF (-1) l):bc l = l:=by
  obtain ⟨c1,c2,_⟩:=bx l
  refine ox c1 h fun d=>?_
  rw [c2]
  exact ⟨And.left,fun hc=>⟨hc,by have:=cQ h hc; omega⟩⟩
def lm (p:Nat→Bool):Nat→Nat
  | 0=>0
  | n+1=>lm p n+(if p n = true then 1 else 0)
theorem D5 (p q:Nat→Bool):∀ n:Nat,(∀ i,i < n→p i = true→q i = true→False)→lm (fun i=>p i||q i) n = lm p n+lm q n
  | 0,_=>rfl
  | n+1,h=>by
    have:=D5 p q n fun i hi=>h i (by omega)
    have hn:=h n (by omega)
    unfold lm
    cases hp:p n <;> cases hq:q n
    · simp; omega
    · simp; omega
    · simp; omega
    · exact (hn hp hq).elim
theorem GE {p:Nat→Bool}:∀ n:Nat,(∀ i,i < n→p i = false)→lm p n = 0
  | 0,_=>rfl
  | n+1,h=>by
    unfold lm
    rw [GE n fun i hi=>h i (by omega),h n (by omega)]
    rfl
theorem H5 (a b:Nat):∀ n:Nat,a≤b→lm (fun i=>decide (a≤i)&&decide (i < b)) n = min n b - min n a
  | 0,_=>by simp [lm]
  | n+1,h=>by
    have ih:=H5 a b n h
    unfold lm
    rw [ih]
    by_cases h1:a≤n
    · by_cases h2:n < b
      · rw [decide_eq_true h1,decide_eq_true h2]; simp; omega
      · rw [decide_eq_true h1,decide_eq_false h2]; simp; omega
    · rw [decide_eq_false h1]; simp; omega
def oS (l:List GSpan) (n:Nat):Nat:=lm (fun i=>jo l (i:Int)) n
theorem KV (s:GSpan) (r:List GSpan) (d:Int):jo (s :: r) d = ((decide (s.From≤d)&&decide (d < s.To))||jo r d):=rfl
theorem Lu {p q:Nat→Bool}:∀ (n:Nat),(∀ i,i < n→p i = q i)→lm p n = lm q n
  | 0,_=>rfl
  | n+1,h=>by
    unfold lm
    rw [Lu n fun i hi=>h i (by omega),h n (by omega)]
theorem L8 {s:GSpan} {r:List GSpan} {lo:Int} (h:bF lo (s :: r)) (h0:-1≤lo) (N:Nat):oS (s :: r) N = (min N s.To.toNat - min N s.From.toNat)+oS r N:=by
  obtain ⟨h1,h2,h3,h4⟩:=h
  have e:oS (s :: r) N = lm (fun i=>decide (s.From.toNat≤i)&&decide (i < s.To.toNat)) N+oS r N:=by
    unfold oS
    have:(fun i:Nat=>jo (s :: r) (i:Int)) = fun i:Nat=>(decide (s.From.toNat≤i)&&decide (i < s.To.toNat))||jo r (i:Int):=by
      funext i
      rw [KV]
      have a:decide (s.From≤(i:Int)) = decide (s.From.toNat≤i):=by
        by_cases hc:s.From≤(i:Int)
        · rw [decide_eq_true hc,decide_eq_true (by omega)]
        · rw [decide_eq_false hc,decide_eq_false (by omega)]
      have b:decide ((i:Int) < s.To) = decide (i < s.To.toNat):=by
        by_cases hc:(i:Int) < s.To
        · rw [decide_eq_true hc,decide_eq_true (by omega)]
        · rw [decide_eq_false hc,decide_eq_false (by omega)]
      rw [a,b]
    rw [this]
    refine D5 _ _ N fun i hi hp hq=>?_
    rw [Bool.and_eq_true] at hp
    have hp2:=of_decide_eq_true hp.2
    have:=cQ h4 (iH.1 hq)
    omega
  rw [e,H5 _ _ _ (by omega)]
theorem zd {r:List GSpan} {lo:Int} (h:bF lo r) {N:Nat} (hN:(N:Int)≤lo+1):oS r N = 0 :=
  GE N fun i hi=>by
    cases hc:jo r (i:Int) with
    | false=>rfl
    | true=>have:=cQ h (iH.1 hc); omega
theorem wo:∀ {l:List GSpan} {lo:Int} (n d:Int),bF lo l→-1≤lo→0≤d→(bg (io n l) d↔bg l d∧((oS l d.toNat:Nat):Int) < n)
  | [],_,n,d,_,_,_=>by
    rw [io]
    exact ⟨fun h=>(aY h).elim,fun h=>(aY h.1).elim⟩
  | s :: r,lo,n,d,h,h0,hd=>by
    have hcons:=L8 h h0 d.toNat
    obtain ⟨h1,h2,h3,h4⟩:=h
    have ih:=wo (n - (s.To - s.From)) d h4 (by omega) hd
    rw [io,hcons]
    by_cases hn:n < 1
    · rw [if_pos hn]
      exact ⟨fun h=>(aY h).elim,fun h=>by omega⟩
    · rw [if_neg hn]
      by_cases hc:n < s.To - s.From
      · rw [if_pos hc,aH,aH]
        simp only [aY,or_false]
        constructor
        · rintro ⟨a,b⟩
          have hz:oS r d.toNat = 0:=zd h4 (by omega)
          exact ⟨.inl ⟨a,by omega⟩,by omega⟩
        · rintro ⟨a | a,b⟩
          · have hz:oS r d.toNat = 0:=zd h4 (by omega)
            exact ⟨a.1,by omega⟩
          · have:=cQ h4 a
            omega
      · rw [if_neg hc,aH,aH,ih]
        constructor
        · rintro (⟨a,b⟩ | ⟨a,b⟩)
          · have hz:oS r d.toNat = 0:=zd h4 (by omega)
            exact ⟨.inl ⟨a,b⟩,by omega⟩
          · have:=cQ h4 a
            exact ⟨.inr a,by omega⟩
        · rintro ⟨a | a,b⟩
          · exact .inl a
          · have:=cQ h4 a
            exact .inr ⟨a,by omega⟩
theorem uG {S:List GSpan} {n E L:Int} (hE:E≤L) {d:Int} (h0:0≤d):bg (l5 n (aZ S ⟨0,E⟩)) d↔bg (l5 n (aZ S ⟨0,L⟩)) d∧d < E:=by
  have k:∀ B:Int,bg (aZ S ⟨0,B⟩) d↔(bg S d∧(0≤d∧d < B))∧0≤d∧d < 73049:=fun B=>(ca S ⟨0,B⟩).2 d
  unfold l5
  by_cases hn:n = 0
  · rw [if_pos hn,if_pos hn,k,k]
    constructor
    · rintro ⟨⟨a,b⟩,c⟩; exact ⟨⟨⟨a,b.1,by omega⟩,c⟩,b.2⟩
    · rintro ⟨⟨⟨a,b⟩,c⟩,e⟩; exact ⟨⟨a,b.1,e⟩,c⟩
  · rw [if_neg hn,if_neg hn,A6 (ca S ⟨0,E⟩).1,A6 (ca S ⟨0,L⟩).1,wo n d (ca S ⟨0,E⟩).1 (by omega) h0,wo n d (ca S ⟨0,L⟩).1 (by omega) h0,k,k]
    have ce:d≤E→oS (aZ S ⟨0,E⟩) d.toNat = oS (aZ S ⟨0,L⟩) d.toNat:=by
      intro hd
      refine Lu _ fun i hi=>?_
      rw [Bool.eq_iff_iff,iH,iH,(ca S ⟨0,E⟩).2,(ca S ⟨0,L⟩).2]
      constructor
      · rintro ⟨⟨a,b⟩,c⟩; exact ⟨⟨a,by simp only [] at b ⊢; omega⟩,c⟩
      · rintro ⟨⟨a,b⟩,c⟩; exact ⟨⟨a,by simp only [] at b ⊢; omega⟩,c⟩
    constructor
    · rintro ⟨⟨⟨a,b⟩,c⟩,e⟩
      rw [ce (by omega)] at e
      exact ⟨⟨⟨⟨a,b.1,by omega⟩,c⟩,e⟩,b.2⟩
    · rintro ⟨⟨⟨⟨a,b⟩,c⟩,e⟩,g⟩
      rw [← ce (by omega)] at e
      exact ⟨⟨⟨a,b.1,g⟩,c⟩,e⟩
theorem Iy (l:List GFact) (kind s lim:Int) {E L:Int} (hE:E≤L) {d:Int} (h0:0≤d):bg (ir l kind s ⟨0,E⟩ lim) d↔bg (ir l kind s ⟨0,L⟩ lim) d∧d < E:=by
  unfold ir
  by_cases hk:kind = 10
  · rw [if_pos hk,if_pos hk,(bx _).2.1,(bx _).2.1]
    unfold rt
    rw [ka,ka]
    have p:∀ i:Nat,bg (k8 l s ⟨0,E⟩ lim ((i:Int)+1)) d↔bg (k8 l s ⟨0,L⟩ lim ((i:Int)+1)) d∧d < E:=by
      intro i
      unfold k8
      split
      · exact uG hE h0
      · exact ⟨fun h=>(aY h).elim,fun h=>(aY h.1).elim⟩
    constructor
    · rintro ⟨⟨i,hi,h⟩,c⟩
      have:=(p i).1 h
      exact ⟨⟨⟨i,hi,this.1⟩,c⟩,this.2⟩
    · rintro ⟨⟨⟨i,hi,h⟩,c⟩,e⟩
      exact ⟨⟨i,hi,(p i).2 ⟨h,e⟩⟩,c⟩
  · rw [if_neg hk,if_neg hk]
    exact uG hE h0
def Da (s r:Int) (p:GPeriod):Bool:=ah p.State s&&(ah r 0||ah p.Rank r)
def ic (s r:Int) (c:List GPeriod):List GSpan:=(c.filter (Da s r)).map GPeriod.Span
theorem Ci (s r:Int) (a b:List GPeriod):ic s r (a++b) = ic s r a++ic s r b:=by simp [ic]
theorem qj {T:Type} (s r:Int) (g:T→List GPeriod):∀ l:List T,ic s r (l.flatMap g) = l.flatMap fun x=>ic s r (g x)
  | []=>rfl
  | x :: l=>by rw [List.flatMap_cons,Ci,qj s r g l,List.flatMap_cons]
theorem D4 (s r s' r':Int) (D:List GSpan):ic s r (l7 s' r' D) = if (ah s' s&&(ah r 0||ah r' r)) = true then D else []:=by
  unfold ic l7
  induction D with
  | nil=>simp
  | cons x D ih =>
    rw [List.map_cons,List.filter_cons]
    show List.map _ (if Da s r ⟨s',r',x⟩ = true then _ else _) = _
    have e:Da s r ⟨s',r',x⟩ = (ah s' s&&(ah r 0||ah r' r)):=rfl
    rw [e]
    by_cases hc:(ah s' s&&(ah r 0||ah r' r)) = true
    · rw [if_pos hc,if_pos hc,List.map_cons,ih,if_pos hc]
    · rw [if_neg hc,if_neg hc,ih,if_neg hc]
theorem DQ (l:List GFact) (law:List GSegment) (schemes:List GScheme) (s r:Int) {E L:Int} (hE:E≤L) {d:Int} (h0:0≤d):bg (ic s r (dM l law schemes ⟨0,E⟩)) d↔bg (ic s r (dM l law schemes ⟨0,L⟩)) d∧d < E:=by
  have one:∀ (s' r':Int) (D D':List GSpan),(bg D d↔bg D' d∧d < E)→(bg (ic s r (l7 s' r' D)) d↔bg (ic s r (l7 s' r' D')) d∧d < E):=by
    intro s' r' D D' h
    rw [D4,D4]
    split
    · exact h
    · exact ⟨fun h=>(aY h).elim,fun h=>(aY h.1).elim⟩
  have fst:∀ x:GScheme,bg (ic s r (lV law x ⟨0,E⟩)) d↔bg (ic s r (lV law x ⟨0,L⟩)) d∧d < E:=by
    intro x
    unfold lV
    refine one _ _ _ _ ?_
    have:=uG (S:=bc (mt law x.State 3)) (n:=0) hE h0
    unfold l5 at this
    rwa [if_pos rfl,if_pos rfl] at this
  have oth:∀ (x:GScheme) (q:Int × Int),bg (ic s r (lw l x ⟨0,E⟩ q)) d↔bg (ic s r (lw l x ⟨0,L⟩ q)) d∧d < E:=by
    intro x q
    unfold lw
    split
    · exact one _ _ _ _ (Iy l _ _ _ hE h0)
    · exact ⟨fun h=>(aY h).elim,fun h=>(aY h.1).elim⟩
  have all:∀ x:GScheme,bg (ic s r (sr l law ⟨0,E⟩ x)) d↔bg (ic s r (sr l law ⟨0,L⟩ x)) d∧d < E:=by
    intro x
    unfold sr
    rw [Ci,Ci,qj,qj,ji,ji,ka,ka,fst]
    constructor
    · rintro (h | ⟨q,hq,h⟩)
      · exact ⟨.inl h.1,h.2⟩
      · have:=(oth x q).1 h
        exact ⟨.inr ⟨q,hq,this.1⟩,this.2⟩
    · rintro ⟨h | ⟨q,hq,h⟩,e⟩
      · exact .inl ⟨h,e⟩
      · exact .inr ⟨q,hq,(oth x q).2 ⟨h,e⟩⟩
  unfold dM
  rw [qj,qj,ka,ka]
  constructor
  · rintro ⟨x,hx,h⟩
    have:=(all x).1 h
    exact ⟨⟨x,hx,this.1⟩,this.2⟩
  · rintro ⟨⟨x,hx,h⟩,e⟩
    exact ⟨x,hx,(all x).2 ⟨h,e⟩⟩
theorem N7 (s r:Int) (c:List GPeriod):(ic s r c).length≤c.length:=by
  unfold ic
  rw [List.length_map]
  exact List.length_filter_le _ _
theorem rn (c:List GPeriod) (s r:Int) (hc:c.length≤600000000):nL c s r = some (bc (ic s r c)):=by
  have hl:=N7 s r c
  rw [Dl]
  refine (AM c (fun i out=>cV s r c (c.length:Int) i out) (Da s r) GPeriod.Span fun i out hi ho=>?_).trans ?_
  · show cV _ _ _ _ _ _ = cV _ _ _ _ _ _
    rw [oC]
    simp only [bG hi,cd,cond_true,aK,Bool.or_true,cy hi,bP hi (by omega)]
    rw [kN (by omega) (by omega),ck,fp]
    show (bif Da s r c[i] then _ else _) = _
    cases Da s r c[i] <;> rfl
  · show cV _ _ _ _ _ (ic s r c) = _
    rw [oC,bU,cond_false,fc _ (by omega)]; rfl
theorem Im (v:List GPensionmade_Version):En (fun s=>Fs s∧∀ (i:Nat) (h:i < s.length),(s[i]).State = (i:Int)) (oR v 1):=by
  rw [zr]
  have key:∀ (k:Nat) (i:Int) (out:List GScheme),4 - i≤k→0≤i→i≤4→(out.length:Int) = i→(∀ x∈out,pn x)→(∀ (i:Nat) (h:i < out.length),(out[i]).State = (i:Int))→En (fun s=>Fs s∧∀ (i:Nat) (h:i < s.length),(s[i]).State = (i:Int)) (gx v 1 i out):=by
    intro k
    have fin:∀ out:List GScheme,Fs out→(∀ (i:Nat) (h:i < out.length),(out[i]).State = (i:Int))→En (fun s=>Fs s∧∀ (i:Nat) (h:i < s.length),(s[i]).State = (i:Int)) (gb ((!(aa (1 < (out.length:Int))&&true))||true)<|bif (bif aa (1 < (out.length:Int)) then (ah (Int.tmod 1 11) 0) else false) then gb (aa (0 < (out.length:Int)))<|some (List.set out 0 (⟨(Int.tmod 1 8),(gD out 0 (zS .GScheme)).Version⟩:GScheme)) else some out):=by
      intro out ho hs
      exact En.gb (by simp) (En.and (fun _ b=>absurd b (by decide)) fun _=>.some ⟨ho,hs⟩)
    induction k with
    | zero=>intro i out hk h0 hi ho hx hs; rw [l8]; exact En.and (fun _ e=>by have:=aE e; omega) fun _=>fin out ⟨by omega,hx⟩ hs
    | succ k ih =>
      intro i out hk h0 hi ho hx hs
      rw [l8,ak (n:=i+1) (by omega) (by omega)]
      refine En.and (fun a b=>?_) fun _=>fin out ⟨by omega,hx⟩ hs
      have a:=aE a
      have b:=aE b
      refine En.gd h0 (En.gd a (.bind (Po _) fun x hv=>En.gd (by omega) (En.gd (by omega) (ih _ _ (by omega) (by omega) (by omega) (by simp; omega) (fun y hy=>?_) fun j hj=>?_))))
      · rcases List.mem_append.1 hy with hy | hy
        · exact hx y hy
        · rw [List.mem_singleton.1 hy]; exact Ow hv i
      · by_cases h:j < out.length
        · rw [List.getElem_append_left h]; exact hs j h
        · have:j = out.length:=by simp at hj; omega
          subst this
          simp; omega
  exact key 4 0 [] (by omega) (by omega) (by omega) (by simp) (fun x hx=>by simp at hx) fun i h=>by simp at h
theorem Bk (l:List GFact) (hl:l.length≤900) (law:List GSegment) (hw:law.length≤99000) (schemes:List GScheme) (hn:schemes.length≤4) (hx:∀ x∈schemes,pn x) (hs:∀ (i:Nat) (h:i < schemes.length),(schemes[i]).State = (i:Int)) (b:Int) (hb:0≤b) (hb':b≤73049) :
    dn l law schemes b = some (dM l law schemes ⟨0,b⟩,(0:Int)):=by
  rw [nY,em (p:=b < 0) (by omega),em (p:=73049 < b) (by omega),cond_false,cond_false]
  have key:∀ (n i:Nat),schemes.length = i+n→cq l law schemes b schemes (schemes.length:Int) (i:Int) = some (dM l law schemes ⟨0,b⟩,(0:Int)):=by
    intro n
    induction n with
    | zero =>
      intro i h
      have:i = schemes.length:=by omega
      subst this
      rw [d9,bU,cond_false]
      exact Fv l hl law (by omega) schemes (by omega) hx ⟨0,b⟩
    | succ n ih =>
      intro i h
      have hi:i < schemes.length:=by omega
      have k1:cq l law schemes b schemes (schemes.length:Int) (i:Int) = if Dx schemes i = true then some ([],1) else cq l law schemes b schemes (schemes.length:Int) ((i+1:Nat):Int):=by
        rw [← JN schemes (by omega) i hi,d9,bG hi,cond_true,cond_true,bP hi (by omega)]
      have hbad:Dx schemes i = false:=by
        unfold Dx
        have e:(gD schemes i (zS .GScheme)) = schemes[i]:=by show schemes.getD i _ = _; rw [List.getD_eq_getElem?_getD,List.getElem?_eq_getElem hi]; rfl
        rw [e,hs i hi]
        by_cases h0:0 < i
        · have e2:(gD schemes (i - 1) (zS .GScheme)) = schemes[i - 1]'(by omega):=by show schemes.getD (i - 1) _ = _; rw [List.getD_eq_getElem?_getD,List.getElem?_eq_getElem (by omega)]; rfl
          rw [e2,hs (i - 1) (by omega)]
          simp; omega
        · simp [h0]; omega
      rw [k1,hbad,if_neg (by simp)]
      exact ih (i+1) (by omega)
  exact key schemes.length 0 (by omega)
theorem xq (l:List GPensionhand_Fact) (n:List Int) (v:List GPensionmade_Version) (early late state rank:Int):l6 l n v early late state rank = some true:=by
  rw [qV]
  cases hc:(bif aa (60 < (n.length:Int)) then true else aa (5 < (v.length:Int))) with
  | true=>rfl
  | false =>
    have hn:n.length≤60:=by
      rw [fp] at hc
      have:=pM (Bool.or_eq_false_iff.1 hc).1
      omega
    rw [cond_false]
    obtain ⟨a,ha,h1⟩:=Iw l n (by omega)
    obtain ⟨y,hy,h2⟩:=Oc n (by omega)
    obtain ⟨m1,m2⟩:=MF h2
    obtain ⟨w,hw,h3⟩:=OE a h1 y.2.1 m1 m2
    have p127:∀ E L:Int,20000≤E→E≤L→L≤50000→di v E L state rank a w = some true:=by
      intro E L hE1 hE hL
      obtain ⟨s,hs,⟨h4,h5⟩,h6⟩:=Im v
      have z1:=Bk a (by omega) w h3 s h4 h5 h6 E (by omega) (by omega)
      have z2:=Bk a (by omega) w h3 s h4 h5 h6 L (by omega) (by omega)
      have l1:=yR a w s (by omega) ⟨0,E⟩
      have l2:=yR a w s (by omega) ⟨0,L⟩
      rw [na,hs,Option.bind_some,z1,Option.bind_some,z2,Option.bind_some,iT state 4 (by omega),Option.bind_some,iT rank 8 (by omega),Option.bind_some]
      generalize (if (4:Int) < 1 then 0 else state % 4) = st
      generalize (if (8:Int) < 1 then 0 else rank % 8) = rk
      rw [rn _ st rk l1,Option.bind_some,rn _ st rk l2,Option.bind_some,N0,Option.bind_some,cond_true,zi,cond_true,cond_true]
      have n2:=pk (bx (ic st rk (dM a w s ⟨0,L⟩))).1
      rw [vp _ _ (by omega),Option.bind_some]
      have e:bc (ic st rk (dM a w s ⟨0,E⟩)) = aZ (bc (ic st rk (dM a w s ⟨0,L⟩))) ⟨0,E⟩:=by
        refine ox (bx _).1 (ca _ _).1 fun d=>?_
        rw [(bx _).2.1,(ca _ _).2,(bx _).2.1]
        constructor
        · rintro ⟨x,x1,x2⟩
          have:=(DQ a w s st rk hE x1).1 x
          exact ⟨⟨⟨this.1,x1,x2⟩,x1,this.2⟩,x1,x2⟩
        · rintro ⟨⟨⟨x,x1,x2⟩,x3,x4⟩,_⟩
          exact ⟨(DQ a w s st rk hE x1).2 ⟨x,x4⟩,x1,x2⟩
      rw [e,DE _ (by have:=pk (ca (bc (ic st rk (dM a w s ⟨0,L⟩))) ⟨0,E⟩).1; omega)]
      rfl
    have r1:0≤early % 30000∧early % 30000 < 30000:=⟨Int.emod_nonneg _ (by omega),Int.emod_lt_of_pos _ (by omega)⟩
    have r2:0≤late % 30000∧late % 30000 < 30000:=⟨Int.emod_nonneg _ (by omega),Int.emod_lt_of_pos _ (by omega)⟩
    rw [ha,Option.bind_some,hy,Option.bind_some,hw,Option.bind_some,iT early 30000 (by omega),Option.bind_some,iT late 30000 (by omega),Option.bind_some,if_neg (by omega),if_neg (by omega),ak (n:=20000+early % 30000) (by omega) (by omega),ak (n:=20000+late % 30000) (by omega) (by omega)]
    by_cases hlt:20000+late % 30000 < 20000+early % 30000
    · rw [bY hlt,cond_true]
      exact p127 _ _ (by omega) (by omega) (by omega)
    · rw [em hlt,cond_false]
      exact p127 _ _ (by omega) (by omega) (by omega)
end Go.Ax
