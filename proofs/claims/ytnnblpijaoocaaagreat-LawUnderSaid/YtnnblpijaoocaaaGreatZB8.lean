import Derived.Test.YtnnblpijaoocaaaGreatZB7
set_option linter.all false
/- Regions, code, functions: the evaluation is sound. -/
namespace Go.Ax
open Go.RowKit
section
variable {R:Type} (Tb:iy) (X:XT) (N:Nat) (all:List Oper)
def FZ:List Oper→St→List FuncId→List FuncId→(St→Option R)→Option R
  | [],σ,_,_,k=>k { σ with tm:=lJ σ.tm }
  | o :: r,σ,fT,fF,k=>Du Tb X N all σ σ.nx o fT fF fun σ rc fT fF=>FZ r { after σ rc with nx:=σ.nx+8 } fT fF k
def yR:List Oper→Nat→St→List FuncId→List FuncId→List bz→(List bz→St→Option R)→Option R
  | [],_,σ,_,_,rcs,k=>k rcs { σ with tm:=lJ σ.tm }
  | o :: r,nid,σ,fT,fF,rcs,k=>Du Tb X N all σ nid o fT fF fun σ rc fT fF=>yR r (nid+8) (after σ rc) fT fF (rcs++[rc]) k
def tr (σ:St) (o:Oper) (k:St→Option R):Option R:=Du Tb X N all σ σ.nx { o with guard:=none } [] [] fun σ rc _ _=>k { after σ rc with nx:=σ.nx+8 }
def tJ (σ:St) (o:Oper) (ch:aE) (k:St→Option R):Option R :=
  bif ja N o.dst&&eJ o.dst ch then k { after σ (BH o ch σ.nx) with nx:=σ.nx+8 } else none
def kO:List Oper→St→(St→Option R)→Option R
  | [],σ,k=>k { σ with tm:=lJ σ.tm }
  | o :: r,σ,k=>match o.guard with
    | none=>tr Tb X N all σ o fun σ'=>kO r σ' k
    | some g =>
      match dv all σ.tm (some g) with
      | some ((t,w) :: ch)=>bif ((t,w) :: ch).all (fun x=>eh σ.tm ((t,w) :: ch) x.1) then
          (match ar σ.tm t with
          | some ⟨c0, .c (.lit (.bool b))⟩ =>
            bif holds σ.tm ch then
              (bif b then
                (bif w then tr Tb X N all { σ with tm:=eX σ.tm t ⟨c0,bl true⟩ } o fun σ'=>kO r σ' k
                else tJ N { σ with tm:=eX σ.tm t ⟨c0,bl true⟩ } o ((t,w) :: ch) fun σ'=>kO r σ' k)
              else
                (bif w then tJ N { σ with tm:=eX σ.tm t ⟨c0,bl false⟩ } o ((t,w) :: ch) fun σ'=>kO r σ' k
                else tr Tb X N all { σ with tm:=eX σ.tm t ⟨c0,bl false⟩ } o fun σ'=>kO r σ' k))
            else tJ N σ o ((t,w) :: ch) fun σ'=>kO r σ' k
          | _=>none) else none
      | _=>none
end
section
variable {R:Type} {Tb:iy} {X:XT} {N:Nat} {all:List Oper} {y:R}
theorem Hh:∀ {l:List Oper} {σ:St} {fT fF:List FuncId} {k:St→Option R},FZ Tb X N all l σ fT fF k = some y→(∀ f∈fT,f ∉ fF) →
    ∃ Tf Ff:List FuncId,(∀ f∈fT,f∈Tf)∧(∀ f∈fF,f∈Ff)∧(∀ f∈Tf,f ∉ Ff)∧∀ Ff':List FuncId,(∀ f∈Ff,f∈Ff')→(∀ f∈Tf,f ∉ Ff') →
      ∃ ps σ',tW Tb.P (lQ (eA Tb X) Ff') N all l σ = some (ps,σ')∧(∀ p∈ps,p)∧k σ' = some y
  | [],σ,fT,fF,k,h,hd=>⟨fT,fF,fun _ h=>h,fun _ h=>h,hd,fun _ _ _=>⟨[],_,rfl,fun p hp=>by simp at hp,h⟩⟩
  | o :: l,σ,fT,fF,k,h,hd=>by
    unfold FZ at h
    obtain ⟨rc,fT',fF',h1,h2,h3,h4,_,h5⟩:=zk h
    obtain ⟨Tf,Ff,g1,g2,g3,g4⟩:=Hh h1 (h4 hd)
    refine ⟨Tf,Ff,fun f hf=>g1 f (h2 f hf),fun f hf=>g2 f (h3 f hf),g3,fun Ff' e1 e2=>?_⟩
    obtain ⟨ps,σ',a1,a2,a3⟩:=g4 Ff' e1 e2
    obtain ⟨b1,b2⟩:=h5 Ff' (fun f hf=>e1 f (g2 f hf)) fun f hf=>e2 f (g1 f hf)
    refine ⟨im σ.tm rc.ch rc.res.pre++ps,σ', ?_,fun p hp=>?_,a3⟩
    · rw [tW,b1]
      simp only [a1]
    · rcases List.mem_append.1 hp with hp | hp
      · exact b2 p hp
      · exact a2 p hp
theorem D1:∀ {l:List Oper} {nid:Nat} {σ:St} {fT fF:List FuncId} {rcs:List bz} {k:List bz→St→Option R},yR Tb X N all l nid σ fT fF rcs k = some y→(∀ f∈fT,f ∉ fF) →
    ∃ Tf Ff:List FuncId,(∀ f∈fT,f∈Tf)∧(∀ f∈fF,f∈Ff)∧(∀ f∈Tf,f ∉ Ff)∧∀ Ff':List FuncId,(∀ f∈Ff,f∈Ff')→(∀ f∈Tf,f ∉ Ff') →
      ∃ ps rs σ',GB Tb.P (lQ (eA Tb X) Ff') N all l nid σ = some (ps,rs,σ')∧(∀ p∈ps,p)∧k (rcs++rs) σ' = some y
  | [],nid,σ,fT,fF,rcs,k,h,hd=>⟨fT,fF,fun _ h=>h,fun _ h=>h,hd,fun _ _ _=>⟨[],[],_,rfl,fun p hp=>by simp at hp,by rw [List.append_nil]; exact h⟩⟩
  | o :: l,nid,σ,fT,fF,rcs,k,h,hd=>by
    unfold yR at h
    obtain ⟨rc,fT',fF',h1,h2,h3,h4,_,h5⟩:=zk h
    obtain ⟨Tf,Ff,g1,g2,g3,g4⟩:=D1 h1 (h4 hd)
    refine ⟨Tf,Ff,fun f hf=>g1 f (h2 f hf),fun f hf=>g2 f (h3 f hf),g3,fun Ff' e1 e2=>?_⟩
    obtain ⟨ps,rs,σ',a1,a2,a3⟩:=g4 Ff' e1 e2
    obtain ⟨b1,b2⟩:=h5 Ff' (fun f hf=>e1 f (g2 f hf)) fun f hf=>e2 f (g1 f hf)
    refine ⟨im σ.tm rc.ch rc.res.pre++ps,rc :: rs,σ', ?_,fun p hp=>?_,by rw [List.append_assoc] at a3; exact a3⟩
    · rw [GB,b1]
      simp only [a1]
    · rcases List.mem_append.1 hp with hp | hp
      · exact b2 p hp
      · exact a2 p hp
theorem Bd:∀ {ps:List Prop} {K:Prop},(∀ p∈ps,p)→K→Bl ps K
  | [],_,_,h=>h
  | p :: ps,_,hp,h=>⟨hp p (by simp),Bd (fun q hq=>hp q (by simp [hq])) h⟩
theorem tL {σ:St} {o:Oper} {k:St→Option R} (h:tr Tb X N all σ o k = some y):m9 Tb.P (lQ (eA Tb X) []) N all σ o fun σ'=>k σ' = some y:=by
  unfold tr at h
  obtain ⟨rc,fT',fF',h1,_,_,h4,h6,h5⟩:=zk h
  have hF:=h6 rfl
  subst hF
  obtain ⟨h7,h8⟩:=h5 [] (fun f hf=>hf) fun f _=>by simp
  have hch:rc.ch = []:=by
    obtain ⟨_,e,_⟩:=dO h7
    simpa [dv] using e.symm
  unfold m9
  rw [h7]
  refine Bd (fun p hp=>?_) h1
  have:=h8 p
  rw [hch] at this
  exact this hp
theorem tA {σ:St} {o:Oper} {ch:aE} {k:St→Option R} (h:tJ N σ o ch k = some y):nf N σ o ch fun σ'=>k σ' = some y:=by
  unfold tJ at h
  unfold nf
  cases hc:(ja N o.dst&&eJ o.dst ch) with
  | false=>rw [hc] at h; cases h
  | true=>rw [hc] at h; exact h
theorem Dn:∀ {l:List Oper} {σ:St} {k:St→Option R},kO Tb X N all l σ k = some y→qC Tb.P (lQ (eA Tb X) []) N all l σ fun σ'=>k σ' = some y
  | [],σ,k,h=>h
  | o :: l,σ,k,h=>by
    unfold kO at h
    unfold qC
    have rec_:∀ σ',kO Tb X N all l σ' k = some y→qC Tb.P (lQ (eA Tb X) []) N all l σ' fun σ'=>k σ' = some y:=fun σ' h=>Dn h
    split at h
    · next hg =>
      rw [hg]
      exact tO rec_ (tL h)
    · next g hg =>
      rw [hg]
      simp only
      split at h
      · next t w ch hch =>
        rw [hch]
        simp only
        cases ha:(((t,w) :: ch).all fun x=>eh σ.tm ((t,w) :: ch) x.1) with
        | false=>rw [ha] at h; cases h
        | true =>
          rw [ha,cond_true] at h
          rw [cond_true]
          split at h
          · next c0 b hgt =>
            rw [hgt]
            simp only
            cases hh:holds σ.tm ch with
            | false=>rw [hh,cond_false] at h; exact ud rec_ (tA h)
            | true =>
              rw [hh,cond_true] at h
              rw [cond_true]
              cases b with
              | true =>
                cases w with
                | true=>exact tO rec_ (tL h)
                | false=>exact ud rec_ (tA h)
              | false =>
                cases w with
                | true=>exact ud rec_ (tA h)
                | false=>exact tO rec_ (tL h)
          · cases h
      · cases h
end
def No (o:Oper):Bool:=match o.op with
  | .alloc _=>true
  | .box _ _=>true
  | .store ..=>true
  | .buildSlice ..=>true
  | .makeSlice ..=>true
  | .makeMap ..=>true
  | .mapUpdate ..=>true
  | .range ..=>true
  | .next ..=>true
  | .call { callee:=.builtin .append, .. }=>true
  | .call { callee:=.builtin .clear, .. }=>true
  | .call { callee:=.value _, .. }=>true
  | _=>false
def Fc {R:Type} (Tb:iy) (X:XT) (N:Nat) (ops:Array Oper) (dr:Bool) (σ:St) (k:St→Option R):Option R :=
  bif dr then yR Tb X N ops.toList ops.toList σ.nx { σ with nx:=σ.nx+8*ops.toList.length } [] [] [] fun rcs σ'=>bif mL 0 ops.toList&&rX (xc ops.toList []) [] rcs then k σ' else none
  else bif ops.toList.any fun o=>o.guard.isSome&&No o then kO Tb X N ops.toList ops.toList σ k
  else FZ Tb X N ops.toList ops.toList σ [] [] k
theorem bh.of_wp {P:Program} {N:Nat} {c:Code} {K:Exit→St→Prop} {σ:St} (h:∀ (B:fV) (E:ao) (a:Act) (w:World),bp N B σ E a w→c.wp P (KS N B K) a w):bh P N c K σ:=⟨h⟩
theorem M1 {R:Type} {Tb:iy} {X:XT} {N:Nat} {id:Nat} {ops:Array Oper} {dr:Bool} {σ:St} {k:St→Option R} {y:R} (hm:Tb.P.follows .mixedOrders = true) (hC:∀ f,aN Tb.P f (eA Tb X f))
    (h:Fc Tb X N ops dr σ k = some y):bh Tb.P N (.region id ops dr) (fun e σ'=>e = .normal∧k σ' = some y) σ:=by
  have hM:∀ Ff, ∀ f con,lQ (eA Tb X) Ff f = some con→aN Tb.P f con:=by
    intro Ff f con hc
    unfold lQ at hc
    cases hb:dm f Ff with
    | true =>
      rw [hb] at hc; cases hc
      intro ok w xs vs p out _ _ h1 h2
      cases h1; cases h2
    | false=>rw [hb] at hc; cases hc; exact hC f
  refine .of_wp fun B E a w hs=>?_
  unfold Fc at h
  cases dr with
  | true =>
    rw [cond_true] at h
    obtain ⟨Tf,Ff,_,_,g3,g4⟩:=D1 h (by simp)
    obtain ⟨ps,rs,σ',a1,a2,a3⟩:=g4 Ff (fun _ h=>h) g3
    rw [List.nil_append] at a3
    cases hc:(mL 0 ops.toList&&rX (xc ops.toList []) [] rs) with
    | false=>rw [hc] at a3; cases a3
    | true =>
      rw [hc,cond_true] at a3
      rw [Bool.and_eq_true] at hc
      exact BD hm (hM Ff) a1 hc.1 hc.2 a2 hs fun E' a' w' hs'=>⟨σ',E',⟨rfl,a3⟩,hs'⟩
  | false =>
    rw [cond_false] at h
    cases he:(ops.toList.any fun o=>o.guard.isSome&&No o) with
    | true =>
      rw [he,cond_true] at h
      exact I5 (hM []) (Dn h) hs fun σ' E' a' w' hk hs'=>⟨σ',E',⟨rfl,hk⟩,hs'⟩
    | false =>
      rw [he,cond_false] at h
      obtain ⟨Tf,Ff,_,_,g3,g4⟩:=Hh h (by simp)
      obtain ⟨ps,σ',a1,a2,a3⟩:=g4 Ff (fun _ h=>h) g3
      exact Kn (hM Ff) a1 a2 hs fun E' a' w' hs'=>⟨σ',E',⟨rfl,a3⟩,hs'⟩
abbrev KX (R:Type):=Exit→St→Option R
def pi {R:Type} (id:Nat) (κ:KX R):KX R
  | .exit id',σ=>bif Nat.beq id' id then κ .normal σ else κ (.exit id') σ
  | e,σ=>κ e σ
def jN {R:Type} (Jc:(T:Tm)→HP T.tys→Option R) (T:Tm) (σ:St):Option R:=(Aa T σ).bind (Jc T)
def E5 {R:Type} (J:(π:Nat)→(T:Tm)→HP T.tys→Option R) (cuts:List (Nat × Tm)) (π:Nat) (go:St→Option R) (κ:KX R):KX R
  | .normal,σ=>match cB cuts π with | some T=>jN (J π) T σ | none=>go σ
  | e,σ=>κ e σ
def wU {R:Type} (J:(π:Nat)→(T:Tm)→HP T.tys→Option R) (cuts:List (Nat × Tm)) (π:Nat) (κ:KX R):KX R
  | .normal,σ=>match cB cuts π with | some T=>jN (J π) T σ | none=>none
  | e,σ=>κ e σ
section
variable {R:Type} (Tb:iy) (X:XT) (N:Nat) (J:(π:Nat)→(T:Tm)→HP T.tys→Option R) (cuts:List (Nat × Tm))
def xe:Code→Nat→KX R→St→Option R
  | .skip,_,κ,σ=>κ .normal σ
  | .label _,_,κ,σ=>κ .normal σ
  | .region _ ops dr,_,κ,σ=>Fc Tb X N ops dr σ (κ .normal)
  | .seq x y,π,κ,σ=>xe x (2*π) (E5 J cuts (2*π+1) (xe y (2*π+1) κ) κ) σ
  | .cond c x y,π,κ,σ=>match bt σ [] c with
    | some (.c (.lit (.bool b)))=>bif b then xe x (2*π) κ σ else xe y (2*π+1) κ σ
    | _=>none
  | .block id x,π,κ,σ=>xe x (2*π) (pi id κ) σ
  | .exit id,_,κ,σ=>κ (.exit id) σ
  | .ret,_,κ,σ=>κ .ret σ
  | .loop _,π,_,σ=>match cB cuts π with | some T=>jN (J π) T σ | none=>none
  | _,_,_,_=>none
def xT:List Bool→Code→Nat→KX R→Option (St→Option R)
  | [], .loop x,π,κ=>some (xe Tb X N J cuts x (2*π) (wU J cuts π κ))
  | [],c,π,κ=>some (xe Tb X N J cuts c π κ)
  | true :: r, .seq _ y,π,κ=>xT r y (2*π+1) κ
  | false :: r, .seq x y,π,κ=>xT r x (2*π) (E5 J cuts (2*π+1) (xe Tb X N J cuts y (2*π+1) κ) κ)
  | true :: r, .cond _ _ y,π,κ=>xT r y (2*π+1) κ
  | false :: r, .cond _ x _,π,κ=>xT r x (2*π) κ
  | false :: r, .block id x,π,κ=>xT r x (2*π) (pi id κ)
  | false :: r, .loop x,π,κ=>xT r x (2*π) (wU J cuts π κ)
  | _,_,_,_=>none
end
def pN (π:Nat):List Bool:=((List.range (Nat.log2 π)).map fun i=>Nat.testBit π i).reverse
def cm.rdR (o:cm) (σ:St) (v:V):Option (HP o.tys):=bif o.isGen then o.rdG σ v else o.rd σ.hp v
def wq (P:Program) (σ:St):List ResultVar→List Bool
  | []=>[]
  | .tmp _ :: r=>wq P σ r
  | .cell s T :: r=>(match bt σ [] (.tmp s) with | some x=>(match lj P σ.hp T x with | some q=>q.dec.bools | none=>[]) | none=>[])++wq P σ r
theorem tY {P:Program} {σ:St}:∀ {rs:List ResultVar},(∀ b∈wq P σ rs,b = true)→∀ x∈rs,u7 P σ x
  | [],_,x,hx=>by simp at hx
  | .tmp t :: r,h,x,hx=>by
    rcases List.mem_cons.1 hx with rfl | hx
    · trivial
    · exact tY (rs:=r) h x hx
  | .cell s T :: r,h,x,hx=>by
    rcases List.mem_cons.1 hx with rfl | hx
    · intro y q h1 h2
      refine qk q.dec fun b hb=>h b ?_
      rw [wq,h1]
      simp only [h2]
      exact List.mem_append_left _ hb
    · exact tY (rs:=r) (fun b hb=>h b (List.mem_append_right _ hb)) x hx
def wv (P:Program) (fi:FI):KX (HP fi.out.tys)
  | .ret,σ=>(match kD P σ fi.fn.results.toList with | some v=>gL (wq P σ fi.fn.results.toList) (fi.out.rdR σ v) | none=>none)
  | .normal,σ=>(match kD P σ fi.fn.results.toList with | some v=>gL (wq P σ fi.fn.results.toList) (fi.out.rdR σ v) | none=>none)
  | _,_=>none
def F9 (fi:FI):Bool:=(fi.out.isGen||Nat.ble fi.ins.sl.length fi.fn.ntmps)&&Nat.ble fi.fn.ntmps 1000000
def Lm {R:Type} (b:Option (St→Option R)) (σ:St):Option R:=match b with | some go=>go σ | none=>none
def xb (Tb:iy) (J:JT) (fi:FI) (π:Nat) (T:Tm) (s:HP T.tys):Option (HP fi.out.tys) :=
  bif F9 fi then Lm (xT Tb (fun fi a=>J fi 1 fi.ins a) fi.fn.ntmps (J fi) fi.cuts (pN π) fi.c 1 (wv Tb.P fi)) (yg T s) else none
def Jn (Tb:iy):Nat→JT
  | 0=>fun _ _ _ _=>none
  | n+1=>fun fi π T s=>xb Tb (Jn Tb n) fi π T s
end Go.Ax
