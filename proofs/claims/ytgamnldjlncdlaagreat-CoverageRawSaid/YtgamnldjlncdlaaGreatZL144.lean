import Derived.Test.YtgamnldjlncdlaaGreatZL143
set_option linter.all false
/- Trees of small size: they are made, measured and looked through to the end. -/
set_option maxRecDepth 100000
namespace Go.Ax
open Go.Proofs
def WT:Nat→az→Prop
  | 0,_=>False
  | n+1,e=>e.Args.length≤3∧(∀ a∈e.Args,WT n a)∧e.Name.size≤100∧Dc e.Value
theorem WT.up:∀ {n:Nat} {e:az},WT n e→WT (n+1) e
  | n+1,e,h=>⟨h.1,fun a ha=>WT.up (h.2.1 a ha),h.2.2⟩
theorem WT.le {n m:Nat} {e:az} (h:WT n e) (hm:n≤m):WT m e:=by
  induction hm with
  | refl=>exact h
  | step _ ih=>exact ih.up
theorem Dc.zero:Dc (aH.mk 0 0):=by unfold Dc; simp
theorem yW:(am []).size = 0:=by kernel_rfl
theorem zL (e:az):az.mk e.Op e.Value e.Dim e.Name e.Args = e:=by cases e; rfl
theorem HK {l:List az} {Q:az→Prop} (h:∀ a∈l,Q a) (i:Int) (h0:0≤i) (h1:i < (l.length:Int)):Q (l.getD (Int.toNat i) aO):=by
  have:i.toNat < l.length:=by omega
  rw [List.getD_eq_getElem?_getD,List.getElem?_eq_getElem this]
  exact h _ (List.getElem_mem _)
theorem Q8:∀ (h n:Nat) (e:az),WT h e→En (h≤n) (fun _=>True) ((wn n).F e)
  | 0,_,_,hw=>hw.elim
  | h+1,0,_,_=>.none (by omega)
  | h+1,n+1,e,hw=>by
    show En _ _ (@tf (wn n) e)
    unfold tf; simp only [tp,oT]; unfold s8
    refine En.bind (R:=fun _=>True) ?_ fun y hy=>.some trivial
    have hl:=hw.1
    refine En.fixL (fun s=>0≤s.2∧s.2≤(e.Args.length:Int)) (fun s=>(e.Args.length - s.2).toNat) ⟨by simp only []; omega,by simp only []; omega⟩ ?_
    rintro ⟨m,i⟩ ⟨h1,h2⟩
    simp only [] at h1 h2
    show En _ _ ((@nO (wn n) m i e).opt)
    simp only [nO,oT]
    refine En.bif (fun hc=>?_) fun _=>.some trivial
    have hc:i < (e.Args.length:Int):=by simpa using hc
    rw [zL]
    refine En.gd ⟨h1,hc⟩ (En.bind (R:=fun _=>True) ((Q8 h n _ (HK hw.2.1 i h1 hc)).imp (fun _=>by omega) fun _ _=>trivial) fun r _=>.some ?_)
    simp only []
    rw [bu (by omega) (by omega)]
    omega
theorem SX:∀ (h n:Nat) (e:az),WT h e→En (h≤n) (fun _=>True) ((wV n).F e)
  | 0,_,_,hw=>hw.elim
  | h+1,0,_,_=>.none (by omega)
  | h+1,n+1,e,hw=>by
    show En _ _ (@vu (wV n) e)
    unfold vu; simp only [uG,oT]; unfold tZ
    refine En.bind (R:=fun _=>True) ?_ fun y hy=>.some trivial
    have hl:=hw.1
    refine En.fixL (fun s=>0≤s.2∧s.2≤(e.Args.length:Int)) (fun s=>(e.Args.length - s.2).toNat) ⟨by simp only []; omega,by simp only []; omega⟩ ?_
    rintro ⟨m,i⟩ ⟨h1,h2⟩
    simp only [] at h1 h2
    show En _ _ ((@pk (wV n) m i e).opt)
    simp only [pk,oT]
    refine En.bif (fun hc=>?_) fun _=>.some trivial
    have hc:i < (e.Args.length:Int):=by simpa using hc
    rw [zL]
    refine En.gd ⟨h1,hc⟩ (En.bind (R:=fun _=>True) ((SX h n _ (HK hw.2.1 i h1 hc)).imp (fun _=>by omega) fun _ _=>trivial) fun r _=>.some ?_)
    simp only []
    rw [bu (by omega) (by omega)]
    omega
theorem Ov:∀ (h n:Nat) (e:az),WT h e→En (h≤n) (fun _=>True) ((wx n).F e)
  | 0,_,_,hw=>hw.elim
  | h+1,0,_,_=>.none (by omega)
  | h+1,n+1,e,hw=>by
    show En _ _ (@qn (wx n) e)
    unfold qn; simp only [ra,oT]
    refine En.bind ((Xq e.Op).imp (fun _=>trivial) fun _ h=>h) fun r _=>En.bif (fun _=>.some trivial) fun _=>?_
    generalize (bif (bif ((e.Value.Num == 0)&&((e.Value.Den == 0)&&true)) then (e.Dim == 0) else false) then (e.Name.toList == (am []).toList) else false) = zero
    simp only [rg,oT]
    refine En.bif (fun _=>?_) fun _=>En.bif (fun _=>?_) fun _=>En.bif (fun _=>.some trivial) fun _=>?_
    · exact En.bind ((Qy e.Value e.Dim hw.2.2.2).imp (fun _=>trivial) fun _ h=>h) fun _ _=>.some trivial
    · exact En.gd (fun _=>(WO e.Name (by have:=hw.2.2.1; omega)).isSome) (.some trivial)
    · unfold qW
      refine En.bind (R:=fun _=>True) ?_ fun y hy=>?_
      · have hl:=hw.1
        refine En.fixL (fun s=>0≤s∧s≤(e.Args.length:Int)) (fun s=>(e.Args.length - s).toNat) ⟨by omega,by omega⟩ ?_
        rintro i ⟨h1,h2⟩
        show En _ _ ((@mG (wx n) zero i e).opt)
        simp only [mG,oT]
        refine En.bif (fun hc=>?_) fun _=>.some trivial
        have hc:i < (e.Args.length:Int):=by simpa using hc
        rw [zL]
        refine En.gd ⟨h1,hc⟩ (En.bind (R:=fun _=>True) ((Ov h n _ (HK hw.2.1 i h1 hc)).imp (fun _=>by omega) fun _ _=>trivial) fun r _=>En.bif (fun _=>.some trivial) fun _=>.some ?_)
        simp only []
        rw [bu (by omega) (by omega)]
        omega
      · rcases y with ⟨⟩ | ⟨⟩ <;> exact .some trivial
theorem Y2 {tot:Prop} (h:Nat) (e:az) (hw:WT h e):En tot (fun _=>True) (jt e):=by
  unfold jt; simp only [pT,oT]
  rw [zL]
  have h1:En True (fun _=>True) (Fe e):=En.lim h fun n=>Q8 h n e hw
  have h2:En True (fun _=>True) (rU e):=En.lim h fun n=>SX h n e hw
  have h3:En True (fun _=>True) (uW e):=En.lim h fun n=>Ov h n e hw
  exact En.bind (h1.imp (fun _=>trivial) fun _ h=>h) fun r _=>En.gd (fun _=>h2.isSome) (En.gd (fun _=>h3.isSome) (.some trivial))
def it (env:List ax):Prop:=env.length≤5∧∀ b∈env,b.Name.size≤100
theorem it.getD {env:List ax} (h:it env) (i:Nat):(env.getD i cA).Name.size≤100:=by
  rw [List.getD_eq_getElem?_getD]
  cases e:env[i]? with
  | none=>exact (by rw [show ((none:Option ax).getD cA).Name = am [] from rfl,yW]; omega)
  | some b=>exact h.2 b (List.mem_of_getElem? e)
def pM (h A:Nat) (y:az × aa):Prop:=WT h y.1∧iS A y.2
theorem pM.mono {h h' A A':Nat} {y:az × aa} (hy:pM h A y) (hh:h≤h') (hA:A≤A'):pM h' A' y:=⟨hy.1.le hh,hy.2.mono hA⟩
theorem YH {tot:Prop} [v7] {A:Nat} (s:aa) (dim:Int) (env:List ax) (names:List ByteArray) (hn:hY 16 names) (hs:iS A s) (hA:A≤90000):En tot (pM 1 (A+4)) (gL dim names env s).opt:=by
  have h0:=hn.1
  simp only [gL,oT]
  have hw:ai ((names.length:Int)+3) = names.length+3:=bu (by omega) (by omega)
  rw [hw]
  refine En.bind (om s _ hs (by omega) (by omega) (by omega)) fun y hy=>En.bif (fun hc=>En.gd ⟨hy.1,by simpa using hc⟩ (.some ⟨⟨by simp,by simp, ?_,Dc.zero⟩,hy.2.2.mono (by omega)⟩)) fun hc=>En.bif (fun _=>?_) fun _=>?_
  · exact hn.getD _
  · refine En.bind (om y.2 5 hy.2.2 (by omega) (by omega) (by omega)) fun z hz=>.some ⟨⟨by simp,by simp,by show (am []).size≤100; rw [yW]; omega, ?_⟩,hz.2.2.mono (by omega)⟩
    have h1:=hz.1
    have h2:=hz.2.1
    show Dc (aH.mk (ai (1+z.1)) 1)
    rw [bu (by omega) (by omega)]
    exact ⟨by simp only []; omega,by simp only []; omega,by simp,by simp⟩
  · refine En.bind (RK y.2 hy.2.2 (by omega)) fun z hz=>.some ⟨⟨by simp,by simp,by show (am []).size≤100; rw [yW]; omega,hz.1⟩,hz.2.mono (by omega)⟩
theorem Zd {tot:Prop} [v7] {A:Nat} (s:aa) (dim:Int) (env:List ax) (he:it env) (hs:iS A s) (hA:A≤90000) (hd:dim≠1):En tot (pM 1 (A+4)) (fb s dim env):=by
  unfold fb; simp only [gK,oT]
  rw [show (dim == 1) = false from beq_false_of_ne hd,cond_false]
  refine En.bind ((RJ dim).imp (fun _=>trivial) fun _ h=>h) fun names hn=>?_
  unfold jY
  have hl:=he.1
  refine En.bind (R:=hY 16) ?_ fun y hy=>YH (aa.mk s.l s.at_ (ai (s.left - 1))) dim env y hy hs hA
  refine En.fixL (fun s=>0≤s.2∧s.2≤(env.length:Int)∧hY (11+s.2.toNat) s.1) (fun s=>(env.length - s.2).toNat) ⟨by simp,by simp only []; omega,hn⟩ ?_
  rintro ⟨out,i⟩ ⟨h1,h2,h3⟩
  simp only [] at h1 h2 h3
  show En _ _ (gM dim env out i (aa.mk s.l s.at_ (ai (s.left - 1)))).opt
  simp only [gM,oT]
  refine En.bif (fun hc=>?_) fun hc=>.some ⟨Nat.le_trans h3.1 (by omega),h3.2⟩
  have hlt:i < (env.length:Int):=by simpa using hc
  have hw:ai (i+1) = i+1:=bu (by omega) (by omega)
  refine En.gd ⟨h1,hlt⟩ (En.bif (fun _=>En.gd ⟨h1,hlt⟩ (En.gd ?_ (.some ?_))) fun _=>.some ?_)
  · have:=h3.1
    exact lp (by omega) (by omega)
  · simp only [hw]
    refine ⟨⟨by omega,by omega, ?_⟩,by omega⟩
    rw [show 11+(i+1).toNat = 11+i.toNat+1 by omega]
    exact h3.append (.one (he.getD _))
  · simp only [hw]
    exact ⟨⟨by omega,by omega,Nat.le_trans h3.1 (by omega),h3.2⟩,by omega⟩
theorem G9 {tot:Prop} (n:Nat) {A:Nat} (s:aa) (dim:Int) (env:List ax) (he:it env) (hs:iS A s) (hA:A≤90000) (hd:dim≠1):En (1≤n) (pM 1 (A+4)) ((mx n).F s dim env):=by
  cases n with
  | zero=>exact .none (by omega)
  | succ n=>exact @Zd _ (mx n) A s dim env he hs hA hd
theorem Yt (n:Nat) {A:Nat} (s:aa) (dim:Int) (env:List ax) (he:it env) (hs:iS A s) (hA:A≤80000):En (2≤n) (pM 2 (A+10)) ((mx n).F s dim env):=by
  by_cases hd:dim = 1
  · subst hd
    cases n with
    | zero=>exact .none (by omega)
    | succ n =>
      show En _ _ (@fb (mx n) s 1 env)
      unfold fb; simp only [gK,oT]
      rw [show ((1:Int) == 1) = true from rfl,cond_true]
      refine En.bind (om (A:=A) (aa.mk s.l s.at_ (ai (s.left - 1))) 3 hs (by omega) (by omega) (by omega)) fun x hx=>En.bind (om x.2 6 hx.2.2 (by omega) (by omega) (by omega)) fun y hy=>?_
      have hw:ai (2+x.1)≠1:=by
        have:=hx.1
        have:=hx.2.1
        rw [bu (by omega) (by omega)]
        omega
      refine En.bind ((G9 (tot:=True) n y.2 _ env he hy.2.2 (by omega) hw).imp (fun _=>by omega) fun _ h=>h) fun a ha=>En.bind ((G9 (tot:=True) n a.2 _ env he ha.2 (by omega) hw).imp (fun _=>by omega) fun _ h=>h) fun b hb=>.some ⟨⟨by simp, ?_,by show (am []).size≤100; rw [yW]; omega,Dc.zero⟩,hb.2⟩
      intro c hc
      rcases List.mem_cons.1 hc with rfl | hc
      · exact ha.1
      · rw [List.mem_singleton.1 hc]; exact hb.1
  · exact (G9 (tot:=True) n s dim env he hs (by omega) hd).imp (fun _=>by omega) fun y hy=>hy.mono (by omega) (by omega)
theorem SD {tot:Prop} {A:Nat} (s:aa) (dim:Int) (env:List ax) (he:it env) (hs:iS A s) (hA:A≤80000):En tot (pM 2 (A+10)) (cm s dim env) :=
  En.lim 2 fun n=>Yt n s dim env he hs hA
end Go.Ax
