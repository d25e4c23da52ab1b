import Derived.Test.YtgamnldjlncdlaaGreatZL144
set_option linter.all false
/- Expressions are made, in full. -/
set_option maxRecDepth 100000
namespace Go.Ax
open Go.Proofs
theorem SO {t:Prop} {α:Type} {Q:α→Prop} {A:Nat} {s:aa} {k:Int} {f:Int × aa→Option α} (hs:iU A s) (hA:A≤100000) (hk:1≤k∧k≤10000) (h:∀ y:Int × aa,0≤y.1→y.1 < k→iU (A+1) y.2→En t Q (f y)):En t Q ((bi s k).bind f) :=
  En.bind (oq s k hs hA hk.1 hk.2) fun y hy=>h y hy.1 hy.2.1 hy.2.2
section
variable {t:Prop} {h D B:Nat} {deep:Int} {env:List au}
def GS [I:oE] (t:Prop) (h D B:Nat) (deep:Int) (env:List au):Prop:=∀ (A:Nat) s dim,iU A s→A≤B→En t (py h (A+D)) (oE.F s dim (ai (deep+1)) env)
theorem afB [I:oE] (hI:GS t h D B deep env) {A:Nat} (s:aa) (op:Int) (dims:List Int) (hs:iU A s) (hA:A+3*D≤B) (hd:dims.length≤3):En t (py (h+1) (A+3*D)) (av s op deep env dims):=by
  unfold av; simp only [j0,oT]; unfold j7
  refine En.bind (R:=fun r=>r.1.length≤3∧(∀ a∈r.1,WT h a)∧iU (A+3*D) r.2) ?_ fun y hy=>.some ⟨⟨hy.1,hy.2.1,by show (ak []).size≤100; rw [yo]; omega,Bq.zero⟩,hy.2.2⟩
  refine En.fixL (fun s=>0≤s.1∧s.1≤(dims.length:Int)∧iU (A+s.1.toNat*D) s.2.1∧s.2.2.length≤s.1.toNat∧∀ a∈s.2.2,WT h a) (fun s=>(dims.length - s.1).toNat) ⟨by simp,by simp,by simpa using hs,by simp,by simp⟩ ?_
  rintro ⟨i,s1,l⟩ ⟨h1,h2,h3,h4,h5⟩
  simp only [] at h1 h2 h3 h4 h5
  show En _ _ (gR deep env dims i s1 op l).opt
  simp only [gR,oT]
  have hm:∀ j:Nat,j≤3→A+j*D≤A+3*D:=fun j hj=>Nat.add_le_add_left (Nat.mul_le_mul_right D hj) A
  refine En.bif (fun hc=>?_) fun hc=>.some ⟨by simp only []; omega,h5,h3.mono (hm _ (by omega))⟩
  have hlt:i < (dims.length:Int):=by simpa using hc
  refine En.gd ⟨h1,hlt⟩ (En.bind (hI _ s1 _ h3 (Nat.le_trans (hm _ (by omega)) hA)) fun y hy=>En.gd (lC (by omega) (by omega)) (.some ?_))
  have hw:ai (i+1) = i+1:=bu (by omega) (by omega)
  simp only [hw]
  refine ⟨⟨by omega,by omega, ?_, ?_, ?_⟩,by omega⟩
  · have:=hy.2
    rwa [show A+(i+1).toNat*D = A+i.toNat*D+D by rw [show (i+1).toNat = i.toNat+1 by omega,Nat.succ_mul]; omega]
  · rw [List.length_append,List.length_singleton]; omega
  · intro a ha
    rcases List.mem_append.1 ha with ha | ha
    · exact h5 a ha
    · rw [List.mem_singleton.1 ha]; exact hy.1
theorem zT [I:oE] (hI:GS t h D B deep env) {A Z H:Nat} {s:aa} {op:Int} {dims:List Int} (hs:iU A s) (hA:A+3*D≤B) (hd:dims.length≤3) (hZ:A+3*D≤Z) (hH:h+1≤H):En t (py H Z) ((av s op deep env dims).bind fun r=>some (r.1,r.2)) :=
  En.bind (afB hI s op dims hs hA hd) fun y hy=>.some (hy.mono hH hZ)
theorem NZ (he:iy env) {A Z H:Nat} {s:aa} {dim:Int} (hs:iU A s) (hA:A≤80000) (hZ:A+10≤Z) (hH:2≤H):En t (py H Z) ((cd s dim env).bind fun r=>some (r.1,r.2)) :=
  En.bind (Rv s dim env he hs hA) fun y hy=>.some (hy.mono hH hZ)
theorem Yp [I:oE] (he:iy env) (hI:GS t h D B deep env) {A:Nat} (s:aa) (dim k:Int) (hs:iU A s) (hB:B≤80000) (hA:A+3*D+12≤B) (h1:1≤h) (hk:0≤k) (hk2:k < 14):En t (py (h+1) (A+3*D+12)) (gU dim deep env k s).opt:=by
  simp only [gU,oT]; simp only [cB,oT]
  repeat' first
    | refine En.bif (fun hc=>?_) (fun hc=>?_)
    | exact zT hI (by assumption) (by omega) (by decide) (by omega) (by omega)
    | exact zT hI (by assumption) (by omega) (by show (2:Nat)≤3; omega) (by omega) (by omega)
    | exact zT hI (by assumption) (by omega) (by show (1:Nat)≤3; omega) (by omega) (by omega)
    | exact zT hI (by assumption) (by omega) (by show (3:Nat)≤3; omega) (by omega) (by omega)
    | exact NZ he (by assumption) (by omega) (by omega) (by omega)
    | refine SO (by assumption) (by omega) (by decide) fun y h1 h2 h3=>?_
    | refine En.gd (by have:=eq_of_beq hc; omega) ?_
theorem X3 [I:oE] (he:iy env) (hI:GS t h D B deep env) {A:Nat} (s:aa) (dim k:Int) (b:Bool) (hs:iU A s) (hB:B≤80000) (hA:A+3*D+12≤B) (h1:1≤h) (hk:0≤k) (hk2:k < 14):En t (py (h+1) (A+3*D+12)) (gN dim deep env k b s).opt:=by
  simp only [gN,oT]
  repeat' first
    | exact Yp he hI s dim k hs hB hA h1 hk hk2
    | refine En.bif (fun hc=>?_) (fun hc=>?_)
    | exact zT hI (by assumption) (by omega) (by decide) (by omega) (by omega)
    | exact zT hI (by assumption) (by omega) (by show (2:Nat)≤3; omega) (by omega) (by omega)
    | exact zT hI (by assumption) (by omega) (by show (1:Nat)≤3; omega) (by omega) (by omega)
    | exact zT hI (by assumption) (by omega) (by show (3:Nat)≤3; omega) (by omega) (by omega)
    | exact NZ he (by assumption) (by omega) (by omega) (by omega)
    | refine SO (by assumption) (by omega) (by decide) fun y h1 h2 h3=>?_
    | refine En.gd (by have:=eq_of_beq hc; omega) ?_
end
def uo:Nat→Nat
  | 0=>10
  | k+1=>3*uo k+13
theorem XJ {k:Nat} (h:k≤5):uo k≤4003:=by
  have:k = 0∨k = 1∨k = 2∨k = 3∨k = 4∨k = 5:=by omega
  rcases this with rfl | rfl | rfl | rfl | rfl | rfl <;> decide
theorem Px (env:List au) (he:iy env):∀ (k n:Nat) (deep:Int),1≤deep→deep+k = 6→∀ (A:Nat) s dim,iU A s→A+2*uo k≤20000→En (k+1≤n) (py (k+2) (A+uo k)) ((kL n).F s dim deep env)
  | k,0,_,_,_,_,_,_,_,_=>.none (by omega)
  | 0,n+1,deep,h1,h2,A,s,dim,hs,hA=>by
    show En _ _ (@fc (kL n) s dim deep env)
    unfold fc; simp only [gV,oT]
    rw [show decide (6≤deep) = true by simp; omega]
    exact NZ he hs (by omega) (Nat.le_refl _) (Nat.le_refl _)
  | k+1,n+1,deep,h1,h2,A,s,dim,hs,hA=>by
    show En _ _ (@fc (kL n) s dim deep env)
    have hw:ai (deep+1) = deep+1:=bu (by omega) (by omega)
    have hD:uo (k+1) = 3*uo k+13:=rfl
    rw [hD] at hA
    have hI:@GS (kL n) (k+1≤n) (k+2) (uo k) (20000 - 2*uo k) deep env:=by
      intro A' s' dim' hs' hA'
      rw [hw]
      exact Px env he k n (deep+1) (by omega) (by omega) A' s' dim' hs' (by omega)
    rw [hD]
    unfold fc; simp only [gV,oT]
    refine En.bif (fun _=>NZ he hs (by omega) (by omega) (by omega)) fun _=>?_
    refine SO (A:=A) hs (by omega) (by decide) fun y h1 h2 h3=>?_
    exact (@X3 (k+1≤n) (k+2) (uo k) (20000 - 2*uo k) deep env (kL n) he hI (A+1) y.2 dim y.1 (dim == 1) h3 (by omega) (by omega) (by omega) h1 h2).imp (fun _=>by omega) fun z hz=>hz.mono (by omega) (by omega)
theorem CS {tot:Prop} (l:List Int) (dim:Int) (env:List au) (he:iy env):En tot (fun _=>True) (iw l dim env):=by
  unfold iw; simp only [uc,oT]
  have h5:=XJ (Nat.le_refl 5)
  have h:En tot (py 7 4003) (nQ (aa.mk l 0 24) dim 1 env) :=
    (En.lim (tot:=tot) 6 fun n=>Px env he 5 n 1 (by omega) (by omega) 0 (aa.mk l 0 24) dim ⟨by simp,by simp⟩ (by omega)).weak fun y hy=>hy.mono (by omega) (by omega)
  refine En.bind h fun y hy=>?_
  rw [yG]
  refine En.bind (Xg 7 y.1 hy.1) fun b _=>En.bif (fun _=>?_) fun _=>.some trivial
  exact En.bind (Rv (A:=4003) (aa.mk y.2.l y.2.at_ 0) dim env he hy.2 (by omega)) fun z _=>.some trivial
end Go.Ax
