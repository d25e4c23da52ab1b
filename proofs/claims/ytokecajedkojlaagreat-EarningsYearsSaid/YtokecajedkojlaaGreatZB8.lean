import Derived.Test.YtokecajedkojlaaGreatZB7
set_option linter.all false
/- Regions, code, functions: the evaluation is sound. -/
namespace Go.Ax
open Go.RowKit
section
variable {R:Type} (Tb:kD) (X:XT) (N:Nat) (all:List Oper)
def Lp:List Oper→St→List FuncId→List FuncId→(St→Option R)→Option R
  | [],σ,_,_,k=>k { σ with tm:=pD σ.tm }
  | o :: r,σ,fT,fF,k=>JX Tb X N all σ σ.nx o fT fF fun σ rc fT fF=>Lp r { after σ rc with nx:=σ.nx+8 } fT fF k
def DE:List Oper→Nat→St→List FuncId→List FuncId→List ck→(List ck→St→Option R)→Option R
  | [],_,σ,_,_,rcs,k=>k rcs { σ with tm:=pD σ.tm }
  | o :: r,nid,σ,fT,fF,rcs,k=>JX Tb X N all σ nid o fT fF fun σ rc fT fF=>DE r (nid+8) (after σ rc) fT fF (rcs++[rc]) k
def zK (σ:St) (o:Oper) (k:St→Option R):Option R:=JX Tb X N all σ σ.nx { o with guard:=none } [] [] fun σ rc _ _=>k { after σ rc with nx:=σ.nx+8 }
def zj (σ:St) (o:Oper) (ch:aK) (k:St→Option R):Option R :=
  bif lx N o.dst&&gm o.dst ch then k { after σ (Ib o ch σ.nx) with nx:=σ.nx+8 } else none
def nY:List Oper→St→(St→Option R)→Option R
  | [],σ,k=>k { σ with tm:=pD σ.tm }
  | o :: r,σ,k=>match o.guard with
    | none=>zK Tb X N all σ o fun σ'=>nY r σ' k
    | some g =>
      match eF all σ.tm (some g) with
      | some ((t,w) :: ch)=>bif ((t,w) :: ch).all (fun x=>fH σ.tm ((t,w) :: ch) x.1) then
          (match ar σ.tm t with
          | some ⟨c0, .c (.lit (.bool b))⟩ =>
            bif holds σ.tm ch then
              (bif b then
                (bif w then zK Tb X N all { σ with tm:=gK σ.tm t ⟨c0,bl true⟩ } o fun σ'=>nY r σ' k
                else zj N { σ with tm:=gK σ.tm t ⟨c0,bl true⟩ } o ((t,w) :: ch) fun σ'=>nY r σ' k)
              else
                (bif w then zj N { σ with tm:=gK σ.tm t ⟨c0,bl false⟩ } o ((t,w) :: ch) fun σ'=>nY r σ' k
                else zK Tb X N all { σ with tm:=gK σ.tm t ⟨c0,bl false⟩ } o fun σ'=>nY r σ' k))
            else zj N σ o ((t,w) :: ch) fun σ'=>nY r σ' k
          | _=>none) else none
      | _=>none
end
section
variable {R:Type} {Tb:kD} {X:XT} {N:Nat} {all:List Oper} {y:R}
theorem Mu:∀ {l:List Oper} {σ:St} {fT fF:List FuncId} {k:St→Option R},Lp Tb X N all l σ fT fF k = some y→(∀ f∈fT,f ∉ fF) →
    ∃ Tf Ff:List FuncId,(∀ f∈fT,f∈Tf)∧(∀ f∈fF,f∈Ff)∧(∀ f∈Tf,f ∉ Ff)∧∀ Ff':List FuncId,(∀ f∈Ff,f∈Ff')→(∀ f∈Tf,f ∉ Ff') →
      ∃ ps σ',yz Tb.P (oN (fQ Tb X) Ff') N all l σ = some (ps,σ')∧(∀ p∈ps,p)∧k σ' = some y
  | [],σ,fT,fF,k,h,hd=>⟨fT,fF,fun _ h=>h,fun _ h=>h,hd,fun _ _ _=>⟨[],_,rfl,fun p hp=>by simp at hp,h⟩⟩
  | o :: l,σ,fT,fF,k,h,hd=>by
    unfold Lp at h
    obtain ⟨rc,fT',fF',h1,h2,h3,h4,_,h5⟩:=EM h
    obtain ⟨Tf,Ff,g1,g2,g3,g4⟩:=Mu h1 (h4 hd)
    refine ⟨Tf,Ff,fun f hf=>g1 f (h2 f hf),fun f hf=>g2 f (h3 f hf),g3,fun Ff' e1 e2=>?_⟩
    obtain ⟨ps,σ',a1,a2,a3⟩:=g4 Ff' e1 e2
    obtain ⟨b1,b2⟩:=h5 Ff' (fun f hf=>e1 f (g2 f hf)) fun f hf=>e2 f (g1 f hf)
    refine ⟨kp σ.tm rc.ch rc.res.pre++ps,σ', ?_,fun p hp=>?_,a3⟩
    · rw [yz,b1]
      simp only [a1]
    · rcases List.mem_append.1 hp with hp | hp
      · exact b2 p hp
      · exact a2 p hp
theorem Jh:∀ {l:List Oper} {nid:Nat} {σ:St} {fT fF:List FuncId} {rcs:List ck} {k:List ck→St→Option R},DE Tb X N all l nid σ fT fF rcs k = some y→(∀ f∈fT,f ∉ fF) →
    ∃ Tf Ff:List FuncId,(∀ f∈fT,f∈Tf)∧(∀ f∈fF,f∈Ff)∧(∀ f∈Tf,f ∉ Ff)∧∀ Ff':List FuncId,(∀ f∈Ff,f∈Ff')→(∀ f∈Tf,f ∉ Ff') →
      ∃ ps rs σ',NA Tb.P (oN (fQ Tb X) Ff') N all l nid σ = some (ps,rs,σ')∧(∀ p∈ps,p)∧k (rcs++rs) σ' = some y
  | [],nid,σ,fT,fF,rcs,k,h,hd=>⟨fT,fF,fun _ h=>h,fun _ h=>h,hd,fun _ _ _=>⟨[],[],_,rfl,fun p hp=>by simp at hp,by rw [List.append_nil]; exact h⟩⟩
  | o :: l,nid,σ,fT,fF,rcs,k,h,hd=>by
    unfold DE at h
    obtain ⟨rc,fT',fF',h1,h2,h3,h4,_,h5⟩:=EM h
    obtain ⟨Tf,Ff,g1,g2,g3,g4⟩:=Jh h1 (h4 hd)
    refine ⟨Tf,Ff,fun f hf=>g1 f (h2 f hf),fun f hf=>g2 f (h3 f hf),g3,fun Ff' e1 e2=>?_⟩
    obtain ⟨ps,rs,σ',a1,a2,a3⟩:=g4 Ff' e1 e2
    obtain ⟨b1,b2⟩:=h5 Ff' (fun f hf=>e1 f (g2 f hf)) fun f hf=>e2 f (g1 f hf)
    refine ⟨kp σ.tm rc.ch rc.res.pre++ps,rc :: rs,σ', ?_,fun p hp=>?_,by rw [List.append_assoc] at a3; exact a3⟩
    · rw [NA,b1]
      simp only [a1]
    · rcases List.mem_append.1 hp with hp | hp
      · exact b2 p hp
      · exact a2 p hp
theorem FY:∀ {ps:List Prop} {K:Prop},(∀ p∈ps,p)→K→Hq ps K
  | [],_,_,h=>h
  | p :: ps,_,hp,h=>⟨hp p (by simp),FY (fun q hq=>hp q (by simp [hq])) h⟩
theorem zx {σ:St} {o:Oper} {k:St→Option R} (h:zK Tb X N all σ o k = some y):qT Tb.P (oN (fQ Tb X) []) N all σ o fun σ'=>k σ' = some y:=by
  unfold zK at h
  obtain ⟨rc,fT',fF',h1,_,_,h4,h6,h5⟩:=EM h
  have hF:=h6 rfl
  subst hF
  obtain ⟨h7,h8⟩:=h5 [] (fun f hf=>hf) fun f _=>by simp
  have hch:rc.ch = []:=by
    obtain ⟨_,e,_⟩:=ff h7
    simpa [eF] using e.symm
  unfold qT
  rw [h7]
  refine FY (fun p hp=>?_) h1
  have:=h8 p
  rw [hch] at this
  exact this hp
theorem yl {σ:St} {o:Oper} {ch:aK} {k:St→Option R} (h:zj N σ o ch k = some y):qN N σ o ch fun σ'=>k σ' = some y:=by
  unfold zj at h
  unfold qN
  cases hc:(lx N o.dst&&gm o.dst ch) with
  | false=>rw [hc] at h; cases h
  | true=>rw [hc] at h; exact h
theorem J0:∀ {l:List Oper} {σ:St} {k:St→Option R},nY Tb X N all l σ k = some y→vP Tb.P (oN (fQ Tb X) []) N all l σ fun σ'=>k σ' = some y
  | [],σ,k,h=>h
  | o :: l,σ,k,h=>by
    unfold nY at h
    unfold vP
    have rec_:∀ σ',nY Tb X N all l σ' k = some y→vP Tb.P (oN (fQ Tb X) []) N all l σ' fun σ'=>k σ' = some y:=fun σ' h=>J0 h
    split at h
    · next hg =>
      rw [hg]
      exact zh rec_ (zx h)
    · next g hg =>
      rw [hg]
      simp only
      split at h
      · next t w ch hch =>
        rw [hch]
        simp only
        cases ha:(((t,w) :: ch).all fun x=>fH σ.tm ((t,w) :: ch) x.1) with
        | false=>rw [ha] at h; cases h
        | true =>
          rw [ha,cond_true] at h
          rw [cond_true]
          split at h
          · next c0 b hgt =>
            rw [hgt]
            simp only
            cases hh:holds σ.tm ch with
            | false=>rw [hh,cond_false] at h; exact ym rec_ (yl h)
            | true =>
              rw [hh,cond_true] at h
              rw [cond_true]
              cases b with
              | true =>
                cases w with
                | true=>exact zh rec_ (zx h)
                | false=>exact ym rec_ (yl h)
              | false =>
                cases w with
                | true=>exact ym rec_ (yl h)
                | false=>exact zh rec_ (zx h)
          · cases h
      · cases h
end
def VH (o:Oper):Bool:=match o.op with
  | .alloc _=>true
  | .box _ _=>true
  | .store ..=>true
  | .buildSlice ..=>true
  | .makeSlice ..=>true
  | .makeMap ..=>true
  | .mapUpdate ..=>true
  | .range ..=>true
  | .next ..=>true
  | .call { callee:=.builtin .append, .. }=>true
  | .call { callee:=.builtin .clear, .. }=>true
  | .call { callee:=.value _, .. }=>true
  | _=>false
def Mn {R:Type} (Tb:kD) (X:XT) (N:Nat) (ops:Array Oper) (dr:Bool) (σ:St) (k:St→Option R):Option R :=
  bif dr then DE Tb X N ops.toList ops.toList σ.nx { σ with nx:=σ.nx+8*ops.toList.length } [] [] [] fun rcs σ'=>bif qv 0 ops.toList&&xD (Cl ops.toList []) [] rcs then k σ' else none
  else bif ops.toList.any fun o=>o.guard.isSome&&VH o then nY Tb X N ops.toList ops.toList σ k
  else Lp Tb X N ops.toList ops.toList σ [] [] k
theorem bX.of_wp {P:Program} {N:Nat} {c:Code} {K:Exit→St→Prop} {σ:St} (h:∀ (B:iV) (E:ap) (a:Act) (w:World),bY N B σ E a w→c.wp P (KS N B K) a w):bX P N c K σ:=⟨h⟩
theorem Vh {R:Type} {Tb:kD} {X:XT} {N:Nat} {id:Nat} {ops:Array Oper} {dr:Bool} {σ:St} {k:St→Option R} {y:R} (hm:Tb.P.follows .mixedOrders = true) (hC:∀ f,bK Tb.P f (fQ Tb X f))
    (h:Mn Tb X N ops dr σ k = some y):bX Tb.P N (.region id ops dr) (fun e σ'=>e = .normal∧k σ' = some y) σ:=by
  have hM:∀ Ff, ∀ f con,oN (fQ Tb X) Ff f = some con→bK Tb.P f con:=by
    intro Ff f con hc
    unfold oN at hc
    cases hb:eL f Ff with
    | true =>
      rw [hb] at hc; cases hc
      intro ok w xs vs p out _ _ h1 h2
      cases h1; cases h2
    | false=>rw [hb] at hc; cases hc; exact hC f
  refine .of_wp fun B E a w hs=>?_
  unfold Mn at h
  cases dr with
  | true =>
    rw [cond_true] at h
    obtain ⟨Tf,Ff,_,_,g3,g4⟩:=Jh h (by simp)
    obtain ⟨ps,rs,σ',a1,a2,a3⟩:=g4 Ff (fun _ h=>h) g3
    rw [List.nil_append] at a3
    cases hc:(qv 0 ops.toList&&xD (Cl ops.toList []) [] rs) with
    | false=>rw [hc] at a3; cases a3
    | true =>
      rw [hc,cond_true] at a3
      rw [Bool.and_eq_true] at hc
      exact IB hm (hM Ff) a1 hc.1 hc.2 a2 hs fun E' a' w' hs'=>⟨σ',E',⟨rfl,a3⟩,hs'⟩
  | false =>
    rw [cond_false] at h
    cases he:(ops.toList.any fun o=>o.guard.isSome&&VH o) with
    | true =>
      rw [he,cond_true] at h
      exact Qj (hM []) (J0 h) hs fun σ' E' a' w' hk hs'=>⟨σ',E',⟨rfl,hk⟩,hs'⟩
    | false =>
      rw [he,cond_false] at h
      obtain ⟨Tf,Ff,_,_,g3,g4⟩:=Mu h (by simp)
      obtain ⟨ps,σ',a1,a2,a3⟩:=g4 Ff (fun _ h=>h) g3
      exact R4 (hM Ff) a1 a2 hs fun E' a' w' hs'=>⟨σ',E',⟨rfl,a3⟩,hs'⟩
abbrev KX (R:Type):=Exit→St→Option R
def uZ {R:Type} (id:Nat) (κ:KX R):KX R
  | .exit id',σ=>bif Nat.beq id' id then κ .normal σ else κ (.exit id') σ
  | e,σ=>κ e σ
def ml {R:Type} (Jc:(T:Tm)→HP T.tys→Option R) (T:Tm) (σ:St):Option R:=(Ft T σ).bind (Jc T)
def NC {R:Type} (J:(π:Nat)→(T:Tm)→HP T.tys→Option R) (cuts:List (Nat × Tm)) (π:Nat) (go:St→Option R) (κ:KX R):KX R
  | .normal,σ=>match dB cuts π with | some T=>ml (J π) T σ | none=>go σ
  | e,σ=>κ e σ
def B9 {R:Type} (J:(π:Nat)→(T:Tm)→HP T.tys→Option R) (cuts:List (Nat × Tm)) (π:Nat) (κ:KX R):KX R
  | .normal,σ=>match dB cuts π with | some T=>ml (J π) T σ | none=>none
  | e,σ=>κ e σ
section
variable {R:Type} (Tb:kD) (X:XT) (N:Nat) (J:(π:Nat)→(T:Tm)→HP T.tys→Option R) (cuts:List (Nat × Tm))
def xe:Code→Nat→KX R→St→Option R
  | .skip,_,κ,σ=>κ .normal σ
  | .label _,_,κ,σ=>κ .normal σ
  | .region _ ops dr,_,κ,σ=>Mn Tb X N ops dr σ (κ .normal)
  | .seq x y,π,κ,σ=>xe x (2*π) (NC J cuts (2*π+1) (xe y (2*π+1) κ) κ) σ
  | .cond c x y,π,κ,σ=>match ca σ [] c with
    | some (.c (.lit (.bool b)))=>bif b then xe x (2*π) κ σ else xe y (2*π+1) κ σ
    | _=>none
  | .block id x,π,κ,σ=>xe x (2*π) (uZ id κ) σ
  | .exit id,_,κ,σ=>κ (.exit id) σ
  | .ret,_,κ,σ=>κ .ret σ
  | .loop _,π,_,σ=>match dB cuts π with | some T=>ml (J π) T σ | none=>none
  | _,_,_,_=>none
def C4:List Bool→Code→Nat→KX R→Option (St→Option R)
  | [], .loop x,π,κ=>some (xe Tb X N J cuts x (2*π) (B9 J cuts π κ))
  | [],c,π,κ=>some (xe Tb X N J cuts c π κ)
  | true :: r, .seq _ y,π,κ=>C4 r y (2*π+1) κ
  | false :: r, .seq x y,π,κ=>C4 r x (2*π) (NC J cuts (2*π+1) (xe Tb X N J cuts y (2*π+1) κ) κ)
  | true :: r, .cond _ _ y,π,κ=>C4 r y (2*π+1) κ
  | false :: r, .cond _ x _,π,κ=>C4 r x (2*π) κ
  | false :: r, .block id x,π,κ=>C4 r x (2*π) (uZ id κ)
  | false :: r, .loop x,π,κ=>C4 r x (2*π) (B9 J cuts π κ)
  | _,_,_,_=>none
end
def ug (π:Nat):List Bool:=((List.range (Nat.log2 π)).map fun i=>Nat.testBit π i).reverse
def df.rdR (o:df) (σ:St) (v:V):Option (HP o.tys):=bif o.isGen then o.rdG σ v else o.rd σ.hp v
def Az (P:Program) (σ:St):List ResultVar→List Bool
  | []=>[]
  | .tmp _ :: r=>Az P σ r
  | .cell s T :: r=>(match ca σ [] (.tmp s) with | some x=>(match pi P σ.hp T x with | some q=>q.dec.bools | none=>[]) | none=>[])++Az P σ r
theorem yu {P:Program} {σ:St}:∀ {rs:List ResultVar},(∀ b∈Az P σ rs,b = true)→∀ x∈rs,AO P σ x
  | [],_,x,hx=>by simp at hx
  | .tmp t :: r,h,x,hx=>by
    rcases List.mem_cons.1 hx with rfl | hx
    · trivial
    · exact yu (rs:=r) h x hx
  | .cell s T :: r,h,x,hx=>by
    rcases List.mem_cons.1 hx with rfl | hx
    · intro y q h1 h2
      refine v8 q.dec fun b hb=>h b ?_
      rw [Az,h1]
      simp only [h2]
      exact List.mem_append_left _ hb
    · exact yu (rs:=r) (fun b hb=>h b (List.mem_append_right _ hb)) x hx
def BG (P:Program) (fi:FI):KX (HP fi.out.tys)
  | .ret,σ=>(match nN P σ fi.fn.results.toList with | some v=>gL (Az P σ fi.fn.results.toList) (fi.out.rdR σ v) | none=>none)
  | .normal,σ=>(match nN P σ fi.fn.results.toList with | some v=>gL (Az P σ fi.fn.results.toList) (fi.out.rdR σ v) | none=>none)
  | _,_=>none
def LL (fi:FI):Bool:=(fi.out.isGen||Nat.ble fi.ins.sl.length fi.fn.ntmps)&&Nat.ble fi.fn.ntmps 1000000
def TK {R:Type} (b:Option (St→Option R)) (σ:St):Option R:=match b with | some go=>go σ | none=>none
def Cg (Tb:kD) (J:JT) (fi:FI) (π:Nat) (T:Tm) (s:HP T.tys):Option (HP fi.out.tys) :=
  bif LL fi then TK (C4 Tb (fun fi a=>J fi 1 fi.ins a) fi.fn.ntmps (J fi) fi.cuts (ug π) fi.c 1 (BG Tb.P fi)) (C6 T s) else none
def Jn (Tb:kD):Nat→JT
  | 0=>fun _ _ _ _=>none
  | n+1=>fun fi π T s=>Cg Tb (Jn Tb n) fi π T s
end Go.Ax
