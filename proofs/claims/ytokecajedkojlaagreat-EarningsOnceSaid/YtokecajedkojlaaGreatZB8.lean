import Derived.Test.YtokecajedkojlaaGreatZB7
set_option linter.all false
/- Regions, code, functions: the evaluation is sound. -/
namespace Go.Ax
open Go.RowKit
section
variable {R:Type} (Tb:kM) (X:XT) (N:Nat) (all:List Oper)
def M3:List Oper→St→List FuncId→List FuncId→(St→Option R)→Option R
  | [],σ,_,_,k=>k { σ with tm:=pS σ.tm }
  | o :: r,σ,fT,fF,k=>Km Tb X N all σ σ.nx o fT fF fun σ rc fT fF=>M3 r { after σ rc with nx:=σ.nx+8 } fT fF k
def EE:List Oper→Nat→St→List FuncId→List FuncId→List cd→(List cd→St→Option R)→Option R
  | [],_,σ,_,_,rcs,k=>k rcs { σ with tm:=pS σ.tm }
  | o :: r,nid,σ,fT,fF,rcs,k=>Km Tb X N all σ nid o fT fF fun σ rc fT fF=>EE r (nid+8) (after σ rc) fT fF (rcs++[rc]) k
def z7 (σ:St) (o:Oper) (k:St→Option R):Option R:=Km Tb X N all σ σ.nx { o with guard:=none } [] [] fun σ rc _ _=>k { after σ rc with nx:=σ.nx+8 }
def zh (σ:St) (o:Oper) (ch:aJ) (k:St→Option R):Option R :=
  bif lK N o.dst&&gw o.dst ch then k { after σ (Hw o ch σ.nx) with nx:=σ.nx+8 } else none
def ou:List Oper→St→(St→Option R)→Option R
  | [],σ,k=>k { σ with tm:=pS σ.tm }
  | o :: r,σ,k=>match o.guard with
    | none=>z7 Tb X N all σ o fun σ'=>ou r σ' k
    | some g =>
      match eI all σ.tm (some g) with
      | some ((t,w) :: ch)=>bif ((t,w) :: ch).all (fun x=>fX σ.tm ((t,w) :: ch) x.1) then
          (match ar σ.tm t with
          | some ⟨c0, .c (.lit (.bool b))⟩ =>
            bif holds σ.tm ch then
              (bif b then
                (bif w then z7 Tb X N all { σ with tm:=gV σ.tm t ⟨c0,bl true⟩ } o fun σ'=>ou r σ' k
                else zh N { σ with tm:=gV σ.tm t ⟨c0,bl true⟩ } o ((t,w) :: ch) fun σ'=>ou r σ' k)
              else
                (bif w then zh N { σ with tm:=gV σ.tm t ⟨c0,bl false⟩ } o ((t,w) :: ch) fun σ'=>ou r σ' k
                else z7 Tb X N all { σ with tm:=gV σ.tm t ⟨c0,bl false⟩ } o fun σ'=>ou r σ' k))
            else zh N σ o ((t,w) :: ch) fun σ'=>ou r σ' k
          | _=>none) else none
      | _=>none
end
section
variable {R:Type} {Tb:kM} {X:XT} {N:Nat} {all:List Oper} {y:R}
theorem NQ:∀ {l:List Oper} {σ:St} {fT fF:List FuncId} {k:St→Option R},M3 Tb X N all l σ fT fF k = some y→(∀ f∈fT,f ∉ fF) →
    ∃ Tf Ff:List FuncId,(∀ f∈fT,f∈Tf)∧(∀ f∈fF,f∈Ff)∧(∀ f∈Tf,f ∉ Ff)∧∀ Ff':List FuncId,(∀ f∈Ff,f∈Ff')→(∀ f∈Tf,f ∉ Ff') →
      ∃ ps σ',yq Tb.P (pW (gg Tb X) Ff') N all l σ = some (ps,σ')∧(∀ p∈ps,p)∧k σ' = some y
  | [],σ,fT,fF,k,h,hd=>⟨fT,fF,fun _ h=>h,fun _ h=>h,hd,fun _ _ _=>⟨[],_,rfl,fun p hp=>by simp at hp,h⟩⟩
  | o :: l,σ,fT,fF,k,h,hd=>by
    unfold M3 at h
    obtain ⟨rc,fT',fF',h1,h2,h3,h4,_,h5⟩:=DL h
    obtain ⟨Tf,Ff,g1,g2,g3,g4⟩:=NQ h1 (h4 hd)
    refine ⟨Tf,Ff,fun f hf=>g1 f (h2 f hf),fun f hf=>g2 f (h3 f hf),g3,fun Ff' e1 e2=>?_⟩
    obtain ⟨ps,σ',a1,a2,a3⟩:=g4 Ff' e1 e2
    obtain ⟨b1,b2⟩:=h5 Ff' (fun f hf=>e1 f (g2 f hf)) fun f hf=>e2 f (g1 f hf)
    refine ⟨kf σ.tm rc.ch rc.res.pre++ps,σ', ?_,fun p hp=>?_,a3⟩
    · rw [yq,b1]
      simp only [a1]
    · rcases List.mem_append.1 hp with hp | hp
      · exact b2 p hp
      · exact a2 p hp
theorem JN:∀ {l:List Oper} {nid:Nat} {σ:St} {fT fF:List FuncId} {rcs:List cd} {k:List cd→St→Option R},EE Tb X N all l nid σ fT fF rcs k = some y→(∀ f∈fT,f ∉ fF) →
    ∃ Tf Ff:List FuncId,(∀ f∈fT,f∈Tf)∧(∀ f∈fF,f∈Ff)∧(∀ f∈Tf,f ∉ Ff)∧∀ Ff':List FuncId,(∀ f∈Ff,f∈Ff')→(∀ f∈Tf,f ∉ Ff') →
      ∃ ps rs σ',MN Tb.P (pW (gg Tb X) Ff') N all l nid σ = some (ps,rs,σ')∧(∀ p∈ps,p)∧k (rcs++rs) σ' = some y
  | [],nid,σ,fT,fF,rcs,k,h,hd=>⟨fT,fF,fun _ h=>h,fun _ h=>h,hd,fun _ _ _=>⟨[],[],_,rfl,fun p hp=>by simp at hp,by rw [List.append_nil]; exact h⟩⟩
  | o :: l,nid,σ,fT,fF,rcs,k,h,hd=>by
    unfold EE at h
    obtain ⟨rc,fT',fF',h1,h2,h3,h4,_,h5⟩:=DL h
    obtain ⟨Tf,Ff,g1,g2,g3,g4⟩:=JN h1 (h4 hd)
    refine ⟨Tf,Ff,fun f hf=>g1 f (h2 f hf),fun f hf=>g2 f (h3 f hf),g3,fun Ff' e1 e2=>?_⟩
    obtain ⟨ps,rs,σ',a1,a2,a3⟩:=g4 Ff' e1 e2
    obtain ⟨b1,b2⟩:=h5 Ff' (fun f hf=>e1 f (g2 f hf)) fun f hf=>e2 f (g1 f hf)
    refine ⟨kf σ.tm rc.ch rc.res.pre++ps,rc :: rs,σ', ?_,fun p hp=>?_,by rw [List.append_assoc] at a3; exact a3⟩
    · rw [MN,b1]
      simp only [a1]
    · rcases List.mem_append.1 hp with hp | hp
      · exact b2 p hp
      · exact a2 p hp
theorem GI:∀ {ps:List Prop} {K:Prop},(∀ p∈ps,p)→K→I0 ps K
  | [],_,_,h=>h
  | p :: ps,_,hp,h=>⟨hp p (by simp),GI (fun q hq=>hp q (by simp [hq])) h⟩
theorem zF {σ:St} {o:Oper} {k:St→Option R} (h:z7 Tb X N all σ o k = some y):qV Tb.P (pW (gg Tb X) []) N all σ o fun σ'=>k σ' = some y:=by
  unfold z7 at h
  obtain ⟨rc,fT',fF',h1,_,_,h4,h6,h5⟩:=DL h
  have hF:=h6 rfl
  subst hF
  obtain ⟨h7,h8⟩:=h5 [] (fun f hf=>hf) fun f _=>by simp
  have hch:rc.ch = []:=by
    obtain ⟨_,e,_⟩:=fC h7
    simpa [eI] using e.symm
  unfold qV
  rw [h7]
  refine GI (fun p hp=>?_) h1
  have:=h8 p
  rw [hch] at this
  exact this hp
theorem yz {σ:St} {o:Oper} {ch:aJ} {k:St→Option R} (h:zh N σ o ch k = some y):rm N σ o ch fun σ'=>k σ' = some y:=by
  unfold zh at h
  unfold rm
  cases hc:(lK N o.dst&&gw o.dst ch) with
  | false=>rw [hc] at h; cases h
  | true=>rw [hc] at h; exact h
theorem JI:∀ {l:List Oper} {σ:St} {k:St→Option R},ou Tb X N all l σ k = some y→wo Tb.P (pW (gg Tb X) []) N all l σ fun σ'=>k σ' = some y
  | [],σ,k,h=>h
  | o :: l,σ,k,h=>by
    unfold ou at h
    unfold wo
    have rec_:∀ σ',ou Tb X N all l σ' k = some y→wo Tb.P (pW (gg Tb X) []) N all l σ' fun σ'=>k σ' = some y:=fun σ' h=>JI h
    split at h
    · next hg =>
      rw [hg]
      exact zf rec_ (zF h)
    · next g hg =>
      rw [hg]
      simp only
      split at h
      · next t w ch hch =>
        rw [hch]
        simp only
        cases ha:(((t,w) :: ch).all fun x=>fX σ.tm ((t,w) :: ch) x.1) with
        | false=>rw [ha] at h; cases h
        | true =>
          rw [ha,cond_true] at h
          rw [cond_true]
          split at h
          · next c0 b hgt =>
            rw [hgt]
            simp only
            cases hh:holds σ.tm ch with
            | false=>rw [hh,cond_false] at h; exact zQ rec_ (yz h)
            | true =>
              rw [hh,cond_true] at h
              rw [cond_true]
              cases b with
              | true =>
                cases w with
                | true=>exact zf rec_ (zF h)
                | false=>exact zQ rec_ (yz h)
              | false =>
                cases w with
                | true=>exact zQ rec_ (yz h)
                | false=>exact zf rec_ (zF h)
          · cases h
      · cases h
end
def WC (o:Oper):Bool:=match o.op with
  | .alloc _=>true
  | .box _ _=>true
  | .store ..=>true
  | .buildSlice ..=>true
  | .makeSlice ..=>true
  | .makeMap ..=>true
  | .mapUpdate ..=>true
  | .range ..=>true
  | .next ..=>true
  | .call { callee:=.builtin .append, .. }=>true
  | .call { callee:=.builtin .clear, .. }=>true
  | .call { callee:=.value _, .. }=>true
  | _=>false
def Nc {R:Type} (Tb:kM) (X:XT) (N:Nat) (ops:Array Oper) (dr:Bool) (σ:St) (k:St→Option R):Option R :=
  bif dr then EE Tb X N ops.toList ops.toList σ.nx { σ with nx:=σ.nx+8*ops.toList.length } [] [] [] fun rcs σ'=>bif qy 0 ops.toList&&yi (Cz ops.toList []) [] rcs then k σ' else none
  else bif ops.toList.any fun o=>o.guard.isSome&&WC o then ou Tb X N ops.toList ops.toList σ k
  else M3 Tb X N ops.toList ops.toList σ [] [] k
theorem bU.of_wp {P:Program} {N:Nat} {c:Code} {K:Exit→St→Prop} {σ:St} (h:∀ (B:jd) (E:ap) (a:Act) (w:World),bX N B σ E a w→c.wp P (KS N B K) a w):bU P N c K σ:=⟨h⟩
theorem VX {R:Type} {Tb:kM} {X:XT} {N:Nat} {id:Nat} {ops:Array Oper} {dr:Bool} {σ:St} {k:St→Option R} {y:R} (hm:Tb.P.follows .mixedOrders = true) (hC:∀ f,bI Tb.P f (gg Tb X f))
    (h:Nc Tb X N ops dr σ k = some y):bU Tb.P N (.region id ops dr) (fun e σ'=>e = .normal∧k σ' = some y) σ:=by
  have hM:∀ Ff, ∀ f con,pW (gg Tb X) Ff f = some con→bI Tb.P f con:=by
    intro Ff f con hc
    unfold pW at hc
    cases hb:eT f Ff with
    | true =>
      rw [hb] at hc; cases hc
      intro ok w xs vs p out _ _ h1 h2
      cases h1; cases h2
    | false=>rw [hb] at hc; cases hc; exact hC f
  refine .of_wp fun B E a w hs=>?_
  unfold Nc at h
  cases dr with
  | true =>
    rw [cond_true] at h
    obtain ⟨Tf,Ff,_,_,g3,g4⟩:=JN h (by simp)
    obtain ⟨ps,rs,σ',a1,a2,a3⟩:=g4 Ff (fun _ h=>h) g3
    rw [List.nil_append] at a3
    cases hc:(qy 0 ops.toList&&yi (Cz ops.toList []) [] rs) with
    | false=>rw [hc] at a3; cases a3
    | true =>
      rw [hc,cond_true] at a3
      rw [Bool.and_eq_true] at hc
      exact G7 hm (hM Ff) a1 hc.1 hc.2 a2 hs fun E' a' w' hs'=>⟨σ',E',⟨rfl,a3⟩,hs'⟩
  | false =>
    rw [cond_false] at h
    cases he:(ops.toList.any fun o=>o.guard.isSome&&WC o) with
    | true =>
      rw [he,cond_true] at h
      exact Q3 (hM []) (JI h) hs fun σ' E' a' w' hk hs'=>⟨σ',E',⟨rfl,hk⟩,hs'⟩
    | false =>
      rw [he,cond_false] at h
      obtain ⟨Tf,Ff,_,_,g3,g4⟩:=NQ h (by simp)
      obtain ⟨ps,σ',a1,a2,a3⟩:=g4 Ff (fun _ h=>h) g3
      exact Sf (hM Ff) a1 a2 hs fun E' a' w' hs'=>⟨σ',E',⟨rfl,a3⟩,hs'⟩
abbrev KX (R:Type):=Exit→St→Option R
def uB {R:Type} (id:Nat) (κ:KX R):KX R
  | .exit id',σ=>bif Nat.beq id' id then κ .normal σ else κ (.exit id') σ
  | e,σ=>κ e σ
def mw {R:Type} (Jc:(T:Tm)→HP T.tys→Option R) (T:Tm) (σ:St):Option R:=(Gn T σ).bind (Jc T)
def LO {R:Type} (J:(π:Nat)→(T:Tm)→HP T.tys→Option R) (cuts:List (Nat × Tm)) (π:Nat) (go:St→Option R) (κ:KX R):KX R
  | .normal,σ=>match dB cuts π with | some T=>mw (J π) T σ | none=>go σ
  | e,σ=>κ e σ
def Ct {R:Type} (J:(π:Nat)→(T:Tm)→HP T.tys→Option R) (cuts:List (Nat × Tm)) (π:Nat) (κ:KX R):KX R
  | .normal,σ=>match dB cuts π with | some T=>mw (J π) T σ | none=>none
  | e,σ=>κ e σ
section
variable {R:Type} (Tb:kM) (X:XT) (N:Nat) (J:(π:Nat)→(T:Tm)→HP T.tys→Option R) (cuts:List (Nat × Tm))
def xe:Code→Nat→KX R→St→Option R
  | .skip,_,κ,σ=>κ .normal σ
  | .label _,_,κ,σ=>κ .normal σ
  | .region _ ops dr,_,κ,σ=>Nc Tb X N ops dr σ (κ .normal)
  | .seq x y,π,κ,σ=>xe x (2*π) (LO J cuts (2*π+1) (xe y (2*π+1) κ) κ) σ
  | .cond c x y,π,κ,σ=>match bV σ [] c with
    | some (.c (.lit (.bool b)))=>bif b then xe x (2*π) κ σ else xe y (2*π+1) κ σ
    | _=>none
  | .block id x,π,κ,σ=>xe x (2*π) (uB id κ) σ
  | .exit id,_,κ,σ=>κ (.exit id) σ
  | .ret,_,κ,σ=>κ .ret σ
  | .loop _,π,_,σ=>match dB cuts π with | some T=>mw (J π) T σ | none=>none
  | _,_,_,_=>none
def Dl:List Bool→Code→Nat→KX R→Option (St→Option R)
  | [], .loop x,π,κ=>some (xe Tb X N J cuts x (2*π) (Ct J cuts π κ))
  | [],c,π,κ=>some (xe Tb X N J cuts c π κ)
  | true :: r, .seq _ y,π,κ=>Dl r y (2*π+1) κ
  | false :: r, .seq x y,π,κ=>Dl r x (2*π) (LO J cuts (2*π+1) (xe Tb X N J cuts y (2*π+1) κ) κ)
  | true :: r, .cond _ _ y,π,κ=>Dl r y (2*π+1) κ
  | false :: r, .cond _ x _,π,κ=>Dl r x (2*π) κ
  | false :: r, .block id x,π,κ=>Dl r x (2*π) (uB id κ)
  | false :: r, .loop x,π,κ=>Dl r x (2*π) (Ct J cuts π κ)
  | _,_,_,_=>none
end
def uw (π:Nat):List Bool:=((List.range (Nat.log2 π)).map fun i=>Nat.testBit π i).reverse
def dc.rdR (o:dc) (σ:St) (v:V):Option (HP o.tys):=bif o.isGen then o.rdG σ v else o.rd σ.hp v
def Bl (P:Program) (σ:St):List ResultVar→List Bool
  | []=>[]
  | .tmp _ :: r=>Bl P σ r
  | .cell s T :: r=>(match bV σ [] (.tmp s) with | some x=>(match pe P σ.hp T x with | some q=>q.dec.bools | none=>[]) | none=>[])++Bl P σ r
theorem yG {P:Program} {σ:St}:∀ {rs:List ResultVar},(∀ b∈Bl P σ rs,b = true)→∀ x∈rs,Cn P σ x
  | [],_,x,hx=>by simp at hx
  | .tmp t :: r,h,x,hx=>by
    rcases List.mem_cons.1 hx with rfl | hx
    · trivial
    · exact yG (rs:=r) h x hx
  | .cell s T :: r,h,x,hx=>by
    rcases List.mem_cons.1 hx with rfl | hx
    · intro y q h1 h2
      refine vZ q.dec fun b hb=>h b ?_
      rw [Bl,h1]
      simp only [h2]
      exact List.mem_append_left _ hb
    · exact yG (rs:=r) (fun b hb=>h b (List.mem_append_right _ hb)) x hx
def Ca (P:Program) (fi:FI):KX (HP fi.out.tys)
  | .ret,σ=>(match nW P σ fi.fn.results.toList with | some v=>gL (Bl P σ fi.fn.results.toList) (fi.out.rdR σ v) | none=>none)
  | .normal,σ=>(match nW P σ fi.fn.results.toList with | some v=>gL (Bl P σ fi.fn.results.toList) (fi.out.rdR σ v) | none=>none)
  | _,_=>none
def Ms (fi:FI):Bool:=(fi.out.isGen||Nat.ble fi.ins.sl.length fi.fn.ntmps)&&Nat.ble fi.fn.ntmps 1000000
def TX {R:Type} (b:Option (St→Option R)) (σ:St):Option R:=match b with | some go=>go σ | none=>none
def CK (Tb:kM) (J:JT) (fi:FI) (π:Nat) (T:Tm) (s:HP T.tys):Option (HP fi.out.tys) :=
  bif Ms fi then TX (Dl Tb (fun fi a=>J fi 1 fi.ins a) fi.fn.ntmps (J fi) fi.cuts (uw π) fi.c 1 (Ca Tb.P fi)) (Db T s) else none
def Jn (Tb:kM):Nat→JT
  | 0=>fun _ _ _ _=>none
  | n+1=>fun fi π T s=>CK Tb (Jn Tb n) fi π T s
end Go.Ax
