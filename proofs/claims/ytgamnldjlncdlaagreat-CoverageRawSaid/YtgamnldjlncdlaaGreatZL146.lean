import Derived.Test.YtgamnldjlncdlaaGreatZL145
set_option linter.all false
/- Versions are made, in full: their credits and their series. -/
set_option maxRecDepth 100000
namespace Go.Ax
open Go.Proofs
def FOk (f:aH):Prop:=∃ a b:Nat,f = ⟨(a:Int),(b:Int)⟩∧1≤a∧a≤4000∧1≤b∧b≤1000∧Nat.gcd a b = 1
def pS (n:Nat) (l:List bi):Prop:=l.length≤n∧∀ x∈l,FOk x.Factor
def mz (n:Nat) (l:List av):Prop:=l.length≤n∧∀ x∈l,5≤x.Kind∧x.Kind≤10∧0≤x.Limit∧x.Limit≤900
def vt (v:aJ):Prop:=mz 4 v.Credits∧pS 6 v.Series∧0≤v.From∧v.From≤73048
theorem pS.app {n:Nat} {l:List bi} {x:bi} (h:pS n l) (hx:FOk x.Factor):pS (n+1) (l++[x]) :=
  ⟨by rw [List.length_append]; have:=h.1; simp only [List.length_singleton]; omega,fun y hy=>(List.mem_append.1 hy).elim (h.2 y) (fun e=>by rw [List.mem_singleton.1 e]; exact hx)⟩
theorem mz.app {n:Nat} {l:List av} {x:av} (h:mz n l) (hx:5≤x.Kind∧x.Kind≤10∧0≤x.Limit∧x.Limit≤900):mz (n+1) (l++[x]) :=
  ⟨by rw [List.length_append]; have:=h.1; simp only [List.length_singleton]; omega,fun y hy=>(List.mem_append.1 hy).elim (h.2 y) (fun e=>by rw [List.mem_singleton.1 e]; exact hx)⟩
theorem Ey {T:Type} {l:List T} {z:T} {i:Nat} (h:i < l.length):l.getD i z∈l:=by
  rw [List.getD_eq_getElem?_getD,List.getElem?_eq_getElem h]
  exact List.getElem_mem _
theorem Sk {T:Type} {l:List T} {i:Nat} {x y:T} (h:y∈l.set i x):y∈l∨y = x:=List.mem_or_eq_of_mem_set h
theorem it.app {env:List ax} {b:ax} (h:it env) (hl:env.length < 5) (hb:b.Name.size≤100):it (env++[b]) :=
  ⟨by rw [List.length_append]; simp only [List.length_singleton]; omega,fun y hy=>(List.mem_append.1 hy).elim (h.2 y) (fun e=>by rw [List.mem_singleton.1 e]; exact hb)⟩
theorem CU {b:Bool} {c:Bool} (h:(bif b then c else false) = true):b = true∧c = true:=by cases b <;> cases c <;> simp_all
theorem rF {tot:Prop} (n k:Int) (h:1≤k) (h':k≤4611686018427387903):En tot (fun y=>0≤y∧y < k) (fU n k):=by
  rw [zj n k h',if_neg (by omega)]
  exact .some ⟨Int.emod_nonneg _ (by omega),Int.emod_lt_of_pos _ (by omega)⟩
theorem XF {tot:Prop} (n:Int) (h:0≤n) (h':n < 4000):En tot (fun y=>FOk y.1) (fk (ai (n+1)) 1000):=by
  rw [bu (by omega) (by omega)]
  obtain ⟨k,rfl⟩:=Int.eq_ofNat_of_zero_le h
  refine En.of (show fk ((k:Int)+1) 1000 = _ from F0 (k+1) 1000 (by omega) (by omega) (by omega)) ?_
  obtain ⟨e,h1,h2,h3,h4⟩:=Jh (k+1) 1000 (by omega) (by omega) (by omega)
  rw [e]
  exact ⟨_,_,rfl,Nat.div_pos (Nat.gcd_le_left 1000 (by omega)) (Nat.gcd_pos_of_pos_right _ (by omega)),by omega,h3,h2,h4⟩
theorem Zf {tot:Prop} (v:aJ) (n:Int) (h:vt v):En tot vt (sO v n):=by
  obtain ⟨hc,hs,hf⟩:=h
  unfold sO; simp only [w6,oT]
  refine En.bif (fun e=>?_) fun _=>En.bif (fun e=>?_) fun _=>En.bif (fun e=>?_) fun _=>En.bif (fun e=>?_) fun _=>En.bif (fun e=>?_) fun _=>En.bif (fun e=>?_) fun _=>En.bif (fun e=>?_) fun _=>.some ⟨hc,hs,hf⟩
  all_goals have el:=of_decide_eq_true (CU e).2
  · exact En.gd (by omega) (En.gd (by omega) (.some ⟨hc,hs,hf⟩))
  · exact En.gd (by omega) (En.gd (by omega) (.some ⟨hc,hs,hf⟩))
  · exact En.gd (by omega) (En.gd (by omega) (.some ⟨hc,hs,hf⟩))
  · exact En.gd (by omega) (.some ⟨hc,hs,hf⟩)
  · refine En.gd (by omega) (En.gd (by omega) (.some ⟨hc,⟨by rw [List.length_set]; exact hs.1,fun x hx=>?_⟩,hf⟩))
    rcases Sk hx with hx | rfl
    · exact hs.2 x hx
    · exact hs.2 (v.Series.getD 1 eh) (Ey (l:=v.Series) (i:=1) (z:=eh) (by omega))
  · refine En.gd (by omega) (En.gd (by omega) (.some ⟨⟨by rw [List.length_set]; exact hc.1,fun x hx=>?_⟩,hs,hf⟩))
    rcases Sk hx with hx | rfl
    · exact hc.2 x hx
    · have h0:=hc.2 _ (Ey (l:=v.Credits) (i:=0) (z:=cU) (by omega))
      have h1:=hc.2 _ (Ey (l:=v.Credits) (i:=1) (z:=cU) (by omega))
      exact ⟨h0.1,h0.2.1,h1.2.2⟩
  · exact En.gd (by omega) (.some ⟨hc,hs,hf⟩)
section
variable {tot:Prop} (v:al) {o1 o2 o3:Int} (hf:0≤o1∧o1≤73048)
include hf
theorem Of5 {c:List av} {s:List bi} (lt:List bP) (g:List bF) (r:List cW) (hc:mz 4 c) (hs:pS 6 s):En tot vt (xU v o1 o2 o3 c s lt g r).opt:=by
  simp only [xU,oT]
  exact En.bif (fun _=>En.bind (rF _ 7 (by omega) (by omega)) fun k _=>En.bind (Zf _ k ⟨hc,hs,hf⟩) fun w hw=>.some hw) fun _=>.some ⟨hc,hs,hf⟩
theorem Of6 {env:List ax} {c:List av} {s:List bi} (lt:List bP) (g:List bF) (he:it env) (hc:mz 4 c) (hs:pS 6 s):En tot vt (xO env v o1 o2 o3 c s lt g):=by
  unfold xO
  refine En.bind (R:=fun r=>mz 4 r.1∧pS 6 r.2.1) ?_ fun y hy=>Of5 v hf _ _ _ hy.1 hy.2
  refine En.fixL (fun s=>it s.1∧0≤s.2.1∧s.2.1≤2∧mz 4 s.2.2.1∧pS 6 s.2.2.2.1∧s.2.2.2.2.2.2.length≤s.2.1.toNat) (fun s=>(2 - s.2.1).toNat) ⟨he,by simp,by simp,hc,hs,by simp⟩ ?_
  rintro ⟨e,i,c',s',l',g',r'⟩ ⟨h1,h2,h3,h4,h5,h6⟩
  simp only [] at h1 h2 h3 h4 h5 h6
  show En _ _ (ya e i v o1 o2 o3 c' s' l' g' r').opt
  simp only [ya,oT]
  refine En.bif (fun hb=>?_) fun _=>.some ⟨h4,h5⟩
  obtain ⟨hb1,hb2⟩:=CU hb
  have hb1:=of_decide_eq_true hb1
  have hb2:=of_decide_eq_true hb2
  have hw:ai (i+1) = i+1:=bu (by omega) (by omega)
  refine En.gd ⟨h2,hb1⟩ (En.bind (DK _ _ _ h1) fun x _=>En.gd (lp (by omega) (by omega)) (.some ?_))
  simp only [hw]
  exact ⟨⟨h1,by omega,by omega,h4,h5,by rw [List.length_append,List.length_singleton]; omega⟩,by omega⟩
theorem Of8 {env:List ax} {c:List av} {s:List bi} (lt:List bP) (he:it env) (hc:mz 4 c) (hs:pS 6 s):En tot vt (x8 env v o1 o2 o3 c s lt):=by
  unfold x8
  refine En.bind (R:=fun r=>it r.1∧mz 4 r.2.1∧pS 6 r.2.2.1) ?_ fun y hy=>Of6 v hf _ _ hy.1 hy.2.1 hy.2.2
  refine En.fixL (fun s=>it s.1∧0≤s.2.1∧s.2.1≤3∧mz 4 s.2.2.1∧pS 6 s.2.2.2.1∧s.2.2.2.2.2.length≤s.2.1.toNat) (fun s=>(3 - s.2.1).toNat) ⟨he,by simp,by simp,hc,hs,by simp⟩ ?_
  rintro ⟨e,i,c',s',l',g'⟩ ⟨h1,h2,h3,h4,h5,h6⟩
  simp only [] at h1 h2 h3 h4 h5 h6
  show En _ _ (xJ e i v o1 o2 o3 c' s' l' g').opt
  simp only [xJ,oT]
  refine En.bif (fun hb=>?_) fun _=>.some ⟨h1,h4,h5⟩
  obtain ⟨hb1,hb2⟩:=CU hb
  have hb1:=of_decide_eq_true hb1
  have hb2:=of_decide_eq_true hb2
  have hw:ai (i+1) = i+1:=bu (by omega) (by omega)
  refine En.gd ⟨h2,hb1⟩ (En.bind (DK _ _ _ h1) fun x _=>En.bif (fun hi=>En.gd ⟨h2,of_decide_eq_true hi⟩ (En.bind (DK _ _ _ h1) fun z _=>En.gd (lp (by omega) (by omega)) (.some ?_))) fun _=>En.bind (DK _ _ _ h1) fun z _=>En.gd (lp (by omega) (by omega)) (.some ?_))
  · simp only [hw]
    exact ⟨⟨h1,by omega,by omega,h4,h5,by rw [List.length_append,List.length_singleton]; omega⟩,by omega⟩
  · simp only [hw]
    exact ⟨⟨h1,by omega,by omega,h4,h5,by rw [List.length_append,List.length_singleton]; omega⟩,by omega⟩
theorem aqB {c:List av} {s:List bi} (hc:mz 4 c) (hs:pS 6 s):En tot vt (vI v o1 o2 o3 c s):=by
  unfold vI
  refine En.bind (R:=fun r=>it r.1∧mz 4 r.2.1∧pS 6 r.2.2.1) ?_ fun y hy=>Of8 v hf _ hy.1 hy.2.1 hy.2.2
  refine En.fixL (fun s=>it s.1∧0≤s.2.1∧s.2.1≤5∧mz 4 s.2.2.1∧pS 6 s.2.2.2.1∧s.2.2.2.2.length≤s.2.1.toNat∧s.1.length≤s.2.1.toNat) (fun s=>(5 - s.2.1).toNat) ⟨⟨by simp,by simp⟩,by simp,by simp,hc,hs,by simp,by simp⟩ ?_
  rintro ⟨e,i,c',s',l'⟩ ⟨h1,h2,h3,h4,h5,h6,h7⟩
  simp only [] at h1 h2 h3 h4 h5 h6 h7
  show En _ _ (xQ e i v o1 o2 o3 c' s' l').opt
  simp only [xQ,oT]
  refine En.bif (fun hb=>?_) fun _=>.some ⟨h1,h4,h5⟩
  obtain ⟨hb1,hb2⟩:=CU hb
  have hb1:=of_decide_eq_true hb1
  have hb2:=of_decide_eq_true hb2
  have hw:ai (i+1) = i+1:=bu (by omega) (by omega)
  refine En.gd ⟨h2,hb1⟩ (En.bind ((GX i).imp (fun _=>trivial) fun _ h=>h) fun n1 _=>En.gd ⟨h2,hb1⟩ (En.bind (DK _ _ _ h1) fun x _=>En.gd (lp (by omega) (by omega)) (En.bind ((GX i).imp (fun _=>trivial) fun _ h=>h) fun n2 hn2=>En.gd (lp (by omega) (by omega)) (.some ?_))))
  simp only [hw]
  exact ⟨⟨h1.app (by omega) hn2,by omega,by omega,h4,h5,by rw [List.length_append,List.length_singleton]; omega,by rw [List.length_append,List.length_singleton]; omega⟩,by omega⟩
theorem aqF {c:List av} (hc:mz 4 c):En tot vt (vE v o1 o2 o3 c):=by
  unfold vE
  refine En.bind (R:=fun r=>mz 4 r.1∧pS 6 r.2) ?_ fun y hy=>aqB v hf hy.1 hy.2
  refine En.fixL (fun s=>0≤s.1∧s.1≤6∧mz 4 s.2.1∧pS s.1.toNat s.2.2) (fun s=>(6 - s.1).toNat) ⟨by simp,by simp,hc,⟨by simp,by simp⟩⟩ ?_
  rintro ⟨i,c',s'⟩ ⟨h1,h2,h3,h4⟩
  simp only [] at h1 h2 h3 h4
  show En _ _ (xX i v o1 o2 o3 c' s').opt
  simp only [xX,oT]
  refine En.bif (fun hb=>?_) fun _=>.some ⟨h3,Nat.le_trans h4.1 (by omega),h4.2⟩
  obtain ⟨hb1,hb2⟩:=CU hb
  have hb1:=of_decide_eq_true hb1
  have hb2:=of_decide_eq_true hb2
  have hw:ai (i+1) = i+1:=bu (by omega) (by omega)
  have h41:=h4.1
  refine En.gd ⟨h1,hb1⟩ (En.bind (rF _ 4000 (by omega) (by omega)) fun k hk=>En.bind (XF k hk.1 hk.2) fun f hf=>En.gd ⟨h1,hb1⟩ (En.bind (rF _ 20 (by omega) (by omega)) fun k2 _=>En.gd (lp (by omega) (by omega)) (.some ?_)))
  simp only [hw]
  refine ⟨⟨by omega,by omega,h3, ?_⟩,by omega⟩
  rw [show (i+1).toNat = i.toNat+1 by omega]
  exact h4.app hf
theorem aqU:En tot vt (vd v o1 o2 o3):=by
  unfold vd
  refine En.bind (R:=mz 4) ?_ fun y hy=>aqF v hf hy
  refine En.fixL (fun s=>0≤s.1∧s.1≤4∧mz s.1.toNat s.2) (fun s=>(4 - s.1).toNat) ⟨by simp,by simp,⟨by simp,by simp⟩⟩ ?_
  rintro ⟨i,c'⟩ ⟨h1,h2,h3⟩
  simp only [] at h1 h2 h3
  show En _ _ (xM i v o1 o2 o3 c').opt
  simp only [xM,oT]
  refine En.bif (fun hb=>?_) fun _=>.some ⟨Nat.le_trans h3.1 (by omega),h3.2⟩
  obtain ⟨hb1,hb2⟩:=CU hb
  have hb1:=of_decide_eq_true hb1
  have hb2:=of_decide_eq_true hb2
  have hw:ai (i+1) = i+1:=bu (by omega) (by omega)
  have h31:=h3.1
  refine En.gd (by omega) (En.bind (rF _ 6 (by omega) (by omega)) fun k hk=>?_)
  have hk1:=hk.1
  have hk2:=hk.2
  have hm:Int.tmod (ai (i+k)) 6 = (i+k) % 6:=by rw [bu (by omega) (by omega),Int.tmod_eq_emod_of_nonneg (by omega)]
  rw [hm]
  have hkind:5≤([6,9,7,8,10,5]:List Int).getD (0+(Int.toNat ((i+k) % 6))) (0:Int)∧([6,9,7,8,10,5]:List Int).getD (0+(Int.toNat ((i+k) % 6))) (0:Int)≤10:=by
    generalize hj:(i+k) % 6 = j
    have:j = 0∨j = 1∨j = 2∨j = 3∨j = 4∨j = 5:=by omega
    rcases this with rfl | rfl | rfl | rfl | rfl | rfl <;> decide
  refine En.gd (by omega) (En.gd ⟨h1,hb1⟩ (En.bif (fun _=>En.gd ⟨h1,hb1⟩ (En.bind (rF _ 900 (by omega) (by omega)) fun k2 hk2=>En.gd (lp (by omega) (by omega)) (.some ?_))) fun _=>En.gd (lp (by omega) (by omega)) (.some ?_)))
  · have:=hk2.1
    have:=hk2.2
    have hw2:ai (k2+1) = k2+1:=bu (by omega) (by omega)
    simp only [hw,hw2]
    refine ⟨⟨by omega,by omega, ?_⟩,by omega⟩
    rw [show (i+1).toNat = i.toNat+1 by omega]
    exact h3.app ⟨hkind.1,hkind.2,by simp only []; omega,by simp only []; omega⟩
  · simp only [hw]
    refine ⟨⟨by omega,by omega, ?_⟩,by omega⟩
    rw [show (i+1).toNat = i.toNat+1 by omega]
    exact h3.app ⟨hkind.1,hkind.2,by simp,by simp⟩
end
theorem apU {tot:Prop} (v:al):En tot vt (Iv v):=by
  unfold Iv; simp only [Bo,oT]
  refine En.bind (rF _ 73049 (by omega) (by omega)) fun a ha=>En.bind (rF _ 4 (by omega) (by omega)) fun b hb=>En.bind (rF _ 5 (by omega) (by omega)) fun c hc=>En.gd ⟨hc.1,hc.2⟩ (aqU v ⟨ha.1,by have:=ha.2; omega⟩)
end Go.Ax
