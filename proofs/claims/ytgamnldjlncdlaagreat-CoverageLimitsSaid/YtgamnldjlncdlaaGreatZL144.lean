import Derived.Test.YtgamnldjlncdlaaGreatZL143
set_option linter.all false
/- Trees of small size: they are made, measured and looked through to the end. -/
set_option maxRecDepth 100000
namespace Go.Ax
open Go.Proofs
def WT:Nat→ay→Prop
  | 0,_=>False
  | n+1,e=>e.Args.length≤3∧(∀ a∈e.Args,WT n a)∧e.Name.size≤100∧Bq e.Value
theorem WT.up:∀ {n:Nat} {e:ay},WT n e→WT (n+1) e
  | n+1,e,h=>⟨h.1,fun a ha=>WT.up (h.2.1 a ha),h.2.2⟩
theorem WT.le {n m:Nat} {e:ay} (h:WT n e) (hm:n≤m):WT m e:=by
  induction hm with
  | refl=>exact h
  | step _ ih=>exact ih.up
theorem Bq.zero:Bq (aF.mk 0 0):=by unfold Bq; simp
theorem yo:(ak []).size = 0:=by kernel_rfl
theorem yG (e:ay):ay.mk e.Op e.Value e.Dim e.Name e.Args = e:=by cases e; rfl
theorem G5 {l:List ay} {Q:ay→Prop} (h:∀ a∈l,Q a) (i:Int) (h0:0≤i) (h1:i < (l.length:Int)):Q (l.getD (Int.toNat i) aM):=by
  have:i.toNat < l.length:=by omega
  rw [List.getD_eq_getElem?_getD,List.getElem?_eq_getElem this]
  exact h _ (List.getElem_mem _)
theorem O7:∀ (h n:Nat) (e:ay),WT h e→En (h≤n) (fun _=>True) ((vJ n).F e)
  | 0,_,_,hw=>hw.elim
  | h+1,0,_,_=>.none (by omega)
  | h+1,n+1,e,hw=>by
    show En _ _ (@rP (vJ n) e)
    unfold rP; simp only [sH,oT]; unfold sC
    refine En.bind (R:=fun _=>True) ?_ fun y hy=>.some trivial
    have hl:=hw.1
    refine En.fixL (fun s=>0≤s.2∧s.2≤(e.Args.length:Int)) (fun s=>(e.Args.length - s.2).toNat) ⟨by simp only []; omega,by simp only []; omega⟩ ?_
    rintro ⟨m,i⟩ ⟨h1,h2⟩
    simp only [] at h1 h2
    show En _ _ ((@nm (vJ n) m i e).opt)
    simp only [nm,oT]
    refine En.bif (fun hc=>?_) fun _=>.some trivial
    have hc:i < (e.Args.length:Int):=by simpa using hc
    rw [yG]
    refine En.gd ⟨h1,hc⟩ (En.bind (R:=fun _=>True) ((O7 h n _ (G5 hw.2.1 i h1 hc)).imp (fun _=>by omega) fun _ _=>trivial) fun r _=>.some ?_)
    simp only []
    rw [bu (by omega) (by omega)]
    omega
theorem Rm:∀ (h n:Nat) (e:ay),WT h e→En (h≤n) (fun _=>True) ((vR n).F e)
  | 0,_,_,hw=>hw.elim
  | h+1,0,_,_=>.none (by omega)
  | h+1,n+1,e,hw=>by
    show En _ _ (@uk (vR n) e)
    unfold uk; simp only [tT,oT]; unfold tt
    refine En.bind (R:=fun _=>True) ?_ fun y hy=>.some trivial
    have hl:=hw.1
    refine En.fixL (fun s=>0≤s.2∧s.2≤(e.Args.length:Int)) (fun s=>(e.Args.length - s.2).toNat) ⟨by simp only []; omega,by simp only []; omega⟩ ?_
    rintro ⟨m,i⟩ ⟨h1,h2⟩
    simp only [] at h1 h2
    show En _ _ ((@o5 (vR n) m i e).opt)
    simp only [o5,oT]
    refine En.bif (fun hc=>?_) fun _=>.some trivial
    have hc:i < (e.Args.length:Int):=by simpa using hc
    rw [yG]
    refine En.gd ⟨h1,hc⟩ (En.bind (R:=fun _=>True) ((Rm h n _ (G5 hw.2.1 i h1 hc)).imp (fun _=>by omega) fun _ _=>trivial) fun r _=>.some ?_)
    simp only []
    rw [bu (by omega) (by omega)]
    omega
theorem Na:∀ (h n:Nat) (e:ay),WT h e→En (h≤n) (fun _=>True) ((vD n).F e)
  | 0,_,_,hw=>hw.elim
  | h+1,0,_,_=>.none (by omega)
  | h+1,n+1,e,hw=>by
    show En _ _ (@qg (vD n) e)
    unfold qg; simp only [qC,oT]
    refine En.bind ((Vt e.Op).imp (fun _=>trivial) fun _ h=>h) fun r _=>En.bif (fun _=>.some trivial) fun _=>?_
    generalize (bif (bif ((e.Value.Num == 0)&&((e.Value.Den == 0)&&true)) then (e.Dim == 0) else false) then (e.Name.toList == (ak []).toList) else false) = zero
    simp only [qQ,oT]
    refine En.bif (fun _=>?_) fun _=>En.bif (fun _=>?_) fun _=>En.bif (fun _=>.some trivial) fun _=>?_
    · exact En.bind ((PZ e.Value e.Dim hw.2.2.2).imp (fun _=>trivial) fun _ h=>h) fun _ _=>.some trivial
    · exact En.gd (fun _=>(VO e.Name (by have:=hw.2.2.1; omega)).isSome) (.some trivial)
    · unfold qB
      refine En.bind (R:=fun _=>True) ?_ fun y hy=>?_
      · have hl:=hw.1
        refine En.fixL (fun s=>0≤s∧s≤(e.Args.length:Int)) (fun s=>(e.Args.length - s).toNat) ⟨by omega,by omega⟩ ?_
        rintro i ⟨h1,h2⟩
        show En _ _ ((@l4 (vD n) zero i e).opt)
        simp only [l4,oT]
        refine En.bif (fun hc=>?_) fun _=>.some trivial
        have hc:i < (e.Args.length:Int):=by simpa using hc
        rw [yG]
        refine En.gd ⟨h1,hc⟩ (En.bind (R:=fun _=>True) ((Na h n _ (G5 hw.2.1 i h1 hc)).imp (fun _=>by omega) fun _ _=>trivial) fun r _=>En.bif (fun _=>.some trivial) fun _=>.some ?_)
        simp only []
        rw [bu (by omega) (by omega)]
        omega
      · rcases y with ⟨⟩ | ⟨⟩ <;> exact .some trivial
theorem Xg {tot:Prop} (h:Nat) (e:ay) (hw:WT h e):En tot (fun _=>True) (jA e):=by
  unfold jA; simp only [pG,oT]
  rw [yG]
  have h1:En True (fun _=>True) (Dh e):=En.lim h fun n=>O7 h n e hw
  have h2:En True (fun _=>True) (ry e):=En.lim h fun n=>Rm h n e hw
  have h3:En True (fun _=>True) (ui e):=En.lim h fun n=>Na h n e hw
  exact En.bind (h1.imp (fun _=>trivial) fun _ h=>h) fun r _=>En.gd (fun _=>h2.isSome) (En.gd (fun _=>h3.isSome) (.some trivial))
def iy (env:List au):Prop:=env.length≤5∧∀ b∈env,b.Name.size≤100
theorem iy.getD {env:List au} (h:iy env) (i:Nat):(env.getD i cw).Name.size≤100:=by
  rw [List.getD_eq_getElem?_getD]
  cases e:env[i]? with
  | none=>exact (by rw [show ((none:Option au).getD cw).Name = ak [] from rfl,yo]; omega)
  | some b=>exact h.2 b (List.mem_of_getElem? e)
def py (h A:Nat) (y:ay × aa):Prop:=WT h y.1∧iU A y.2
theorem py.mono {h h' A A':Nat} {y:ay × aa} (hy:py h A y) (hh:h≤h') (hA:A≤A'):py h' A' y:=⟨hy.1.le hh,hy.2.mono hA⟩
theorem Xe {tot:Prop} [vp] {A:Nat} (s:aa) (dim:Int) (env:List au) (names:List ByteArray) (hn:iq 16 names) (hs:iU A s) (hA:A≤90000):En tot (py 1 (A+4)) (gO dim names env s).opt:=by
  have h0:=hn.1
  simp only [gO,oT]
  have hw:ai ((names.length:Int)+3) = names.length+3:=bu (by omega) (by omega)
  rw [hw]
  refine En.bind (oq s _ hs (by omega) (by omega) (by omega)) fun y hy=>En.bif (fun hc=>En.gd ⟨hy.1,by simpa using hc⟩ (.some ⟨⟨by simp,by simp, ?_,Bq.zero⟩,hy.2.2.mono (by omega)⟩)) fun hc=>En.bif (fun _=>?_) fun _=>?_
  · exact hn.getD _
  · refine En.bind (oq y.2 5 hy.2.2 (by omega) (by omega) (by omega)) fun z hz=>.some ⟨⟨by simp,by simp,by show (ak []).size≤100; rw [yo]; omega, ?_⟩,hz.2.2.mono (by omega)⟩
    have h1:=hz.1
    have h2:=hz.2.1
    show Bq (aF.mk (ai (1+z.1)) 1)
    rw [bu (by omega) (by omega)]
    exact ⟨by simp only []; omega,by simp only []; omega,by simp,by simp⟩
  · refine En.bind (QG y.2 hy.2.2 (by omega)) fun z hz=>.some ⟨⟨by simp,by simp,by show (ak []).size≤100; rw [yo]; omega,hz.1⟩,hz.2.mono (by omega)⟩
theorem X5 {tot:Prop} [vp] {A:Nat} (s:aa) (dim:Int) (env:List au) (he:iy env) (hs:iU A s) (hA:A≤90000) (hd:dim≠1):En tot (py 1 (A+4)) (fa s dim env):=by
  unfold fa; simp only [gW,oT]
  rw [show (dim == 1) = false from beq_false_of_ne hd,cond_false]
  refine En.bind ((QV dim).imp (fun _=>trivial) fun _ h=>h) fun names hn=>?_
  unfold kc
  have hl:=he.1
  refine En.bind (R:=iq 16) ?_ fun y hy=>Xe (aa.mk s.l s.at_ (ai (s.left - 1))) dim env y hy hs hA
  refine En.fixL (fun s=>0≤s.2∧s.2≤(env.length:Int)∧iq (11+s.2.toNat) s.1) (fun s=>(env.length - s.2).toNat) ⟨by simp,by simp only []; omega,hn⟩ ?_
  rintro ⟨out,i⟩ ⟨h1,h2,h3⟩
  simp only [] at h1 h2 h3
  show En _ _ (gY dim env out i (aa.mk s.l s.at_ (ai (s.left - 1)))).opt
  simp only [gY,oT]
  refine En.bif (fun hc=>?_) fun hc=>.some ⟨Nat.le_trans h3.1 (by omega),h3.2⟩
  have hlt:i < (env.length:Int):=by simpa using hc
  have hw:ai (i+1) = i+1:=bu (by omega) (by omega)
  refine En.gd ⟨h1,hlt⟩ (En.bif (fun _=>En.gd ⟨h1,hlt⟩ (En.gd ?_ (.some ?_))) fun _=>.some ?_)
  · have:=h3.1
    exact lC (by omega) (by omega)
  · simp only [hw]
    refine ⟨⟨by omega,by omega, ?_⟩,by omega⟩
    rw [show 11+(i+1).toNat = 11+i.toNat+1 by omega]
    exact h3.append (.one (he.getD _))
  · simp only [hw]
    exact ⟨⟨by omega,by omega,Nat.le_trans h3.1 (by omega),h3.2⟩,by omega⟩
theorem FU {tot:Prop} (n:Nat) {A:Nat} (s:aa) (dim:Int) (env:List au) (he:iy env) (hs:iU A s) (hA:A≤90000) (hd:dim≠1):En (1≤n) (py 1 (A+4)) ((mt n).F s dim env):=by
  cases n with
  | zero=>exact .none (by omega)
  | succ n=>exact @X5 _ (mt n) A s dim env he hs hA hd
theorem Y0 (n:Nat) {A:Nat} (s:aa) (dim:Int) (env:List au) (he:iy env) (hs:iU A s) (hA:A≤80000):En (2≤n) (py 2 (A+10)) ((mt n).F s dim env):=by
  by_cases hd:dim = 1
  · subst hd
    cases n with
    | zero=>exact .none (by omega)
    | succ n =>
      show En _ _ (@fa (mt n) s 1 env)
      unfold fa; simp only [gW,oT]
      rw [show ((1:Int) == 1) = true from rfl,cond_true]
      refine En.bind (oq (A:=A) (aa.mk s.l s.at_ (ai (s.left - 1))) 3 hs (by omega) (by omega) (by omega)) fun x hx=>En.bind (oq x.2 6 hx.2.2 (by omega) (by omega) (by omega)) fun y hy=>?_
      have hw:ai (2+x.1)≠1:=by
        have:=hx.1
        have:=hx.2.1
        rw [bu (by omega) (by omega)]
        omega
      refine En.bind ((FU (tot:=True) n y.2 _ env he hy.2.2 (by omega) hw).imp (fun _=>by omega) fun _ h=>h) fun a ha=>En.bind ((FU (tot:=True) n a.2 _ env he ha.2 (by omega) hw).imp (fun _=>by omega) fun _ h=>h) fun b hb=>.some ⟨⟨by simp, ?_,by show (ak []).size≤100; rw [yo]; omega,Bq.zero⟩,hb.2⟩
      intro c hc
      rcases List.mem_cons.1 hc with rfl | hc
      · exact ha.1
      · rw [List.mem_singleton.1 hc]; exact hb.1
  · exact (FU (tot:=True) n s dim env he hs (by omega) hd).imp (fun _=>by omega) fun y hy=>hy.mono (by omega) (by omega)
theorem Rv {tot:Prop} {A:Nat} (s:aa) (dim:Int) (env:List au) (he:iy env) (hs:iU A s) (hA:A≤80000):En tot (py 2 (A+10)) (cd s dim env) :=
  En.lim 2 fun n=>Y0 n s dim env he hs hA
end Go.Ax
