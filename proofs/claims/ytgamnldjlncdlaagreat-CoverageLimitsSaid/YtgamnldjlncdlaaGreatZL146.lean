import Derived.Test.YtgamnldjlncdlaaGreatZL145
set_option linter.all false
/- Versions are made, in full: their credits and their series. -/
set_option maxRecDepth 100000
namespace Go.Ax
open Go.Proofs
def FOk (f:aF):Prop:=∃ a b:Nat,f = ⟨(a:Int),(b:Int)⟩∧1≤a∧a≤4000∧1≤b∧b≤1000∧Nat.gcd a b = 1
def pJ (n:Nat) (l:List aY):Prop:=l.length≤n∧∀ x∈l,FOk x.Factor
def mg (n:Nat) (l:List ap):Prop:=l.length≤n∧∀ x∈l,5≤x.Kind∧x.Kind≤10∧0≤x.Limit∧x.Limit≤900
def rL (v:az):Prop:=mg 4 v.Credits∧pJ 6 v.Series∧0≤v.From∧v.From≤73048
theorem pJ.app {n:Nat} {l:List aY} {x:aY} (h:pJ n l) (hx:FOk x.Factor):pJ (n+1) (l++[x]) :=
  ⟨by rw [List.length_append]; have:=h.1; simp only [List.length_singleton]; omega,fun y hy=>(List.mem_append.1 hy).elim (h.2 y) (fun e=>by rw [List.mem_singleton.1 e]; exact hx)⟩
theorem mg.app {n:Nat} {l:List ap} {x:ap} (h:mg n l) (hx:5≤x.Kind∧x.Kind≤10∧0≤x.Limit∧x.Limit≤900):mg (n+1) (l++[x]) :=
  ⟨by rw [List.length_append]; have:=h.1; simp only [List.length_singleton]; omega,fun y hy=>(List.mem_append.1 hy).elim (h.2 y) (fun e=>by rw [List.mem_singleton.1 e]; exact hx)⟩
theorem IT {T:Type} {l:List T} {z:T} {i:Nat} (h:i < l.length):l.getD i z∈l:=by
  rw [List.getD_eq_getElem?_getD,List.getElem?_eq_getElem h]
  exact List.getElem_mem _
theorem Rq {T:Type} {l:List T} {i:Nat} {x y:T} (h:y∈l.set i x):y∈l∨y = x:=List.mem_or_eq_of_mem_set h
theorem iy.app {env:List au} {b:au} (h:iy env) (hl:env.length < 5) (hb:b.Name.size≤100):iy (env++[b]) :=
  ⟨by rw [List.length_append]; simp only [List.length_singleton]; omega,fun y hy=>(List.mem_append.1 hy).elim (h.2 y) (fun e=>by rw [List.mem_singleton.1 e]; exact hb)⟩
theorem Ce {b:Bool} {c:Bool} (h:(bif b then c else false) = true):b = true∧c = true:=by cases b <;> cases c <;> simp_all
theorem rb {tot:Prop} (n k:Int) (h:1≤k) (h':k≤4611686018427387903):En tot (fun y=>0≤y∧y < k) (fu n k):=by
  rw [rK n k h',if_neg (by omega)]
  exact .some ⟨Int.emod_nonneg _ (by omega),Int.emod_lt_of_pos _ (by omega)⟩
theorem UP {tot:Prop} (n:Int) (h:0≤n) (h':n < 4000):En tot (fun y=>FOk y.1) (fm (ai (n+1)) 1000):=by
  rw [bu (by omega) (by omega)]
  obtain ⟨k,rfl⟩:=Int.eq_ofNat_of_zero_le h
  refine En.of (show fm ((k:Int)+1) 1000 = _ from EA (k+1) 1000 (by omega) (by omega) (by omega)) ?_
  obtain ⟨e,h1,h2,h3,h4⟩:=H8 (k+1) 1000 (by omega) (by omega) (by omega)
  rw [e]
  exact ⟨_,_,rfl,Nat.div_pos (Nat.gcd_le_left 1000 (by omega)) (Nat.gcd_pos_of_pos_right _ (by omega)),by omega,h3,h2,h4⟩
theorem YW {tot:Prop} (v:az) (n:Int) (h:rL v):En tot rL (sy v n):=by
  obtain ⟨hc,hs,hf⟩:=h
  unfold sy; simp only [wD,oT]
  refine En.bif (fun e=>?_) fun _=>En.bif (fun e=>?_) fun _=>En.bif (fun e=>?_) fun _=>En.bif (fun e=>?_) fun _=>En.bif (fun e=>?_) fun _=>En.bif (fun e=>?_) fun _=>En.bif (fun e=>?_) fun _=>.some ⟨hc,hs,hf⟩
  all_goals have el:=of_decide_eq_true (Ce e).2
  · exact En.gd (by omega) (En.gd (by omega) (.some ⟨hc,hs,hf⟩))
  · exact En.gd (by omega) (En.gd (by omega) (.some ⟨hc,hs,hf⟩))
  · exact En.gd (by omega) (En.gd (by omega) (.some ⟨hc,hs,hf⟩))
  · exact En.gd (by omega) (.some ⟨hc,hs,hf⟩)
  · refine En.gd (by omega) (En.gd (by omega) (.some ⟨hc,⟨by rw [List.length_set]; exact hs.1,fun x hx=>?_⟩,hf⟩))
    rcases Rq hx with hx | rfl
    · exact hs.2 x hx
    · exact hs.2 (v.Series.getD 1 eh) (IT (l:=v.Series) (i:=1) (z:=eh) (by omega))
  · refine En.gd (by omega) (En.gd (by omega) (.some ⟨⟨by rw [List.length_set]; exact hc.1,fun x hx=>?_⟩,hs,hf⟩))
    rcases Rq hx with hx | rfl
    · exact hc.2 x hx
    · have h0:=hc.2 _ (IT (l:=v.Credits) (i:=0) (z:=cX) (by omega))
      have h1:=hc.2 _ (IT (l:=v.Credits) (i:=1) (z:=cX) (by omega))
      exact ⟨h0.1,h0.2.1,h1.2.2⟩
  · exact En.gd (by omega) (.some ⟨hc,hs,hf⟩)
section
variable {tot:Prop} (v:al) {o1 o2 o3:Int} (hf:0≤o1∧o1≤73048)
include hf
theorem Of5 {c:List ap} {s:List aY} (lt:List bL) (g:List bC) (r:List cS) (hc:mg 4 c) (hs:pJ 6 s):En tot rL (xh v o1 o2 o3 c s lt g r).opt:=by
  simp only [xh,oT]
  exact En.bif (fun _=>En.bind (rb _ 7 (by omega) (by omega)) fun k _=>En.bind (YW _ k ⟨hc,hs,hf⟩) fun w hw=>.some hw) fun _=>.some ⟨hc,hs,hf⟩
theorem Of6 {env:List au} {c:List ap} {s:List aY} (lt:List bL) (g:List bC) (he:iy env) (hc:mg 4 c) (hs:pJ 6 s):En tot rL (xx env v o1 o2 o3 c s lt g):=by
  unfold xx
  refine En.bind (R:=fun r=>mg 4 r.1∧pJ 6 r.2.1) ?_ fun y hy=>Of5 v hf _ _ _ hy.1 hy.2
  refine En.fixL (fun s=>iy s.1∧0≤s.2.1∧s.2.1≤2∧mg 4 s.2.2.1∧pJ 6 s.2.2.2.1∧s.2.2.2.2.2.2.length≤s.2.1.toNat) (fun s=>(2 - s.2.1).toNat) ⟨he,by simp,by simp,hc,hs,by simp⟩ ?_
  rintro ⟨e,i,c',s',l',g',r'⟩ ⟨h1,h2,h3,h4,h5,h6⟩
  simp only [] at h1 h2 h3 h4 h5 h6
  show En _ _ (xy e i v o1 o2 o3 c' s' l' g' r').opt
  simp only [xy,oT]
  refine En.bif (fun hb=>?_) fun _=>.some ⟨h4,h5⟩
  obtain ⟨hb1,hb2⟩:=Ce hb
  have hb1:=of_decide_eq_true hb1
  have hb2:=of_decide_eq_true hb2
  have hw:ai (i+1) = i+1:=bu (by omega) (by omega)
  refine En.gd ⟨h2,hb1⟩ (En.bind (CS _ _ _ h1) fun x _=>En.gd (lC (by omega) (by omega)) (.some ?_))
  simp only [hw]
  exact ⟨⟨h1,by omega,by omega,h4,h5,by rw [List.length_append,List.length_singleton]; omega⟩,by omega⟩
theorem Of8 {env:List au} {c:List ap} {s:List aY} (lt:List bL) (he:iy env) (hc:mg 4 c) (hs:pJ 6 s):En tot rL (xm env v o1 o2 o3 c s lt):=by
  unfold xm
  refine En.bind (R:=fun r=>iy r.1∧mg 4 r.2.1∧pJ 6 r.2.2.1) ?_ fun y hy=>Of6 v hf _ _ hy.1 hy.2.1 hy.2.2
  refine En.fixL (fun s=>iy s.1∧0≤s.2.1∧s.2.1≤3∧mg 4 s.2.2.1∧pJ 6 s.2.2.2.1∧s.2.2.2.2.2.length≤s.2.1.toNat) (fun s=>(3 - s.2.1).toNat) ⟨he,by simp,by simp,hc,hs,by simp⟩ ?_
  rintro ⟨e,i,c',s',l',g'⟩ ⟨h1,h2,h3,h4,h5,h6⟩
  simp only [] at h1 h2 h3 h4 h5 h6
  show En _ _ (xg e i v o1 o2 o3 c' s' l' g').opt
  simp only [xg,oT]
  refine En.bif (fun hb=>?_) fun _=>.some ⟨h1,h4,h5⟩
  obtain ⟨hb1,hb2⟩:=Ce hb
  have hb1:=of_decide_eq_true hb1
  have hb2:=of_decide_eq_true hb2
  have hw:ai (i+1) = i+1:=bu (by omega) (by omega)
  refine En.gd ⟨h2,hb1⟩ (En.bind (CS _ _ _ h1) fun x _=>En.bif (fun hi=>En.gd ⟨h2,of_decide_eq_true hi⟩ (En.bind (CS _ _ _ h1) fun z _=>En.gd (lC (by omega) (by omega)) (.some ?_))) fun _=>En.bind (CS _ _ _ h1) fun z _=>En.gd (lC (by omega) (by omega)) (.some ?_))
  · simp only [hw]
    exact ⟨⟨h1,by omega,by omega,h4,h5,by rw [List.length_append,List.length_singleton]; omega⟩,by omega⟩
  · simp only [hw]
    exact ⟨⟨h1,by omega,by omega,h4,h5,by rw [List.length_append,List.length_singleton]; omega⟩,by omega⟩
theorem aoJ {c:List ap} {s:List aY} (hc:mg 4 c) (hs:pJ 6 s):En tot rL (uD v o1 o2 o3 c s):=by
  unfold uD
  refine En.bind (R:=fun r=>iy r.1∧mg 4 r.2.1∧pJ 6 r.2.2.1) ?_ fun y hy=>Of8 v hf _ hy.1 hy.2.1 hy.2.2
  refine En.fixL (fun s=>iy s.1∧0≤s.2.1∧s.2.1≤5∧mg 4 s.2.2.1∧pJ 6 s.2.2.2.1∧s.2.2.2.2.length≤s.2.1.toNat∧s.1.length≤s.2.1.toNat) (fun s=>(5 - s.2.1).toNat) ⟨⟨by simp,by simp⟩,by simp,by simp,hc,hs,by simp,by simp⟩ ?_
  rintro ⟨e,i,c',s',l'⟩ ⟨h1,h2,h3,h4,h5,h6,h7⟩
  simp only [] at h1 h2 h3 h4 h5 h6 h7
  show En _ _ (xz e i v o1 o2 o3 c' s' l').opt
  simp only [xz,oT]
  refine En.bif (fun hb=>?_) fun _=>.some ⟨h1,h4,h5⟩
  obtain ⟨hb1,hb2⟩:=Ce hb
  have hb1:=of_decide_eq_true hb1
  have hb2:=of_decide_eq_true hb2
  have hw:ai (i+1) = i+1:=bu (by omega) (by omega)
  refine En.gd ⟨h2,hb1⟩ (En.bind ((Gc i).imp (fun _=>trivial) fun _ h=>h) fun n1 _=>En.gd ⟨h2,hb1⟩ (En.bind (CS _ _ _ h1) fun x _=>En.gd (lC (by omega) (by omega)) (En.bind ((Gc i).imp (fun _=>trivial) fun _ h=>h) fun n2 hn2=>En.gd (lC (by omega) (by omega)) (.some ?_))))
  simp only [hw]
  exact ⟨⟨h1.app (by omega) hn2,by omega,by omega,h4,h5,by rw [List.length_append,List.length_singleton]; omega,by rw [List.length_append,List.length_singleton]; omega⟩,by omega⟩
theorem aoL {c:List ap} (hc:mg 4 c):En tot rL (vd v o1 o2 o3 c):=by
  unfold vd
  refine En.bind (R:=fun r=>mg 4 r.1∧pJ 6 r.2) ?_ fun y hy=>aoJ v hf hy.1 hy.2
  refine En.fixL (fun s=>0≤s.1∧s.1≤6∧mg 4 s.2.1∧pJ s.1.toNat s.2.2) (fun s=>(6 - s.1).toNat) ⟨by simp,by simp,hc,⟨by simp,by simp⟩⟩ ?_
  rintro ⟨i,c',s'⟩ ⟨h1,h2,h3,h4⟩
  simp only [] at h1 h2 h3 h4
  show En _ _ (xu i v o1 o2 o3 c' s').opt
  simp only [xu,oT]
  refine En.bif (fun hb=>?_) fun _=>.some ⟨h3,Nat.le_trans h4.1 (by omega),h4.2⟩
  obtain ⟨hb1,hb2⟩:=Ce hb
  have hb1:=of_decide_eq_true hb1
  have hb2:=of_decide_eq_true hb2
  have hw:ai (i+1) = i+1:=bu (by omega) (by omega)
  have h41:=h4.1
  refine En.gd ⟨h1,hb1⟩ (En.bind (rb _ 4000 (by omega) (by omega)) fun k hk=>En.bind (UP k hk.1 hk.2) fun f hf=>En.gd ⟨h1,hb1⟩ (En.bind (rb _ 20 (by omega) (by omega)) fun k2 _=>En.gd (lC (by omega) (by omega)) (.some ?_)))
  simp only [hw]
  refine ⟨⟨by omega,by omega,h3, ?_⟩,by omega⟩
  rw [show (i+1).toNat = i.toNat+1 by omega]
  exact h4.app hf
theorem anQ:En tot rL (vm v o1 o2 o3):=by
  unfold vm
  refine En.bind (R:=mg 4) ?_ fun y hy=>aoL v hf hy
  refine En.fixL (fun s=>0≤s.1∧s.1≤4∧mg s.1.toNat s.2) (fun s=>(4 - s.1).toNat) ⟨by simp,by simp,⟨by simp,by simp⟩⟩ ?_
  rintro ⟨i,c'⟩ ⟨h1,h2,h3⟩
  simp only [] at h1 h2 h3
  show En _ _ (xr i v o1 o2 o3 c').opt
  simp only [xr,oT]
  refine En.bif (fun hb=>?_) fun _=>.some ⟨Nat.le_trans h3.1 (by omega),h3.2⟩
  obtain ⟨hb1,hb2⟩:=Ce hb
  have hb1:=of_decide_eq_true hb1
  have hb2:=of_decide_eq_true hb2
  have hw:ai (i+1) = i+1:=bu (by omega) (by omega)
  have h31:=h3.1
  refine En.gd (by omega) (En.bind (rb _ 6 (by omega) (by omega)) fun k hk=>?_)
  have hk1:=hk.1
  have hk2:=hk.2
  have hm:Int.tmod (ai (i+k)) 6 = (i+k) % 6:=by rw [bu (by omega) (by omega),Int.tmod_eq_emod_of_nonneg (by omega)]
  rw [hm]
  have hkind:5≤([6,9,7,8,10,5]:List Int).getD (0+(Int.toNat ((i+k) % 6))) (0:Int)∧([6,9,7,8,10,5]:List Int).getD (0+(Int.toNat ((i+k) % 6))) (0:Int)≤10:=by
    generalize hj:(i+k) % 6 = j
    have:j = 0∨j = 1∨j = 2∨j = 3∨j = 4∨j = 5:=by omega
    rcases this with rfl | rfl | rfl | rfl | rfl | rfl <;> decide
  refine En.gd (by omega) (En.gd ⟨h1,hb1⟩ (En.bif (fun _=>En.gd ⟨h1,hb1⟩ (En.bind (rb _ 900 (by omega) (by omega)) fun k2 hk2=>En.gd (lC (by omega) (by omega)) (.some ?_))) fun _=>En.gd (lC (by omega) (by omega)) (.some ?_)))
  · have:=hk2.1
    have:=hk2.2
    have hw2:ai (k2+1) = k2+1:=bu (by omega) (by omega)
    simp only [hw,hw2]
    refine ⟨⟨by omega,by omega, ?_⟩,by omega⟩
    rw [show (i+1).toNat = i.toNat+1 by omega]
    exact h3.app ⟨hkind.1,hkind.2,by simp only []; omega,by simp only []; omega⟩
  · simp only [hw]
    refine ⟨⟨by omega,by omega, ?_⟩,by omega⟩
    rw [show (i+1).toNat = i.toNat+1 by omega]
    exact h3.app ⟨hkind.1,hkind.2,by simp,by simp⟩
end
theorem am6 {tot:Prop} (v:al):En tot rL (xN v):=by
  unfold xN; simp only [AR,oT]
  refine En.bind (rb _ 73049 (by omega) (by omega)) fun a ha=>En.bind (rb _ 4 (by omega) (by omega)) fun b hb=>En.bind (rb _ 5 (by omega) (by omega)) fun c hc=>En.gd ⟨hc.1,hc.2⟩ (anQ v ⟨ha.1,by have:=ha.2; omega⟩)
theorem abd (v:al):∃ x,xN v = some x∧rL x:=(am6 (tot:=True) v).ends
end Go.Ax
