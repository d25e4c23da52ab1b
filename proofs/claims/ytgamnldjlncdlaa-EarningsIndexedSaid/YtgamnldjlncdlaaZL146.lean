import Derived.Test.YtgamnldjlncdlaaZL145
set_option linter.all false
/- Versions are made, in full: their credits and their series. -/
set_option maxRecDepth 100000
namespace Go.Ax
open Go.Proofs
def zW (f : aq) : Prop := ∃ a b : Nat,f = ⟨(a : Int),(b : Int)⟩ ∧ 1 ≤ a ∧ a ≤ 4000 ∧ 1 ≤ b ∧ b ≤ 1000 ∧ Nat.gcd a b = 1
def kx (n : Nat) (l : List aD) : Prop := l.length ≤ n ∧ ∀ x ∈ l,zW x.Factor
def iU (n : Nat) (l : List av) : Prop := l.length ≤ n ∧ ∀ x ∈ l,5 ≤ x.Kind ∧ x.Kind ≤ 10 ∧ 0 ≤ x.Limit ∧ x.Limit ≤ 900
def jx (v : am) : Prop := iU 4 v.Credits ∧ kx 6 v.Series ∧ 0 ≤ v.From ∧ v.From ≤ 73048
theorem kx.app {n : Nat} {l : List aD} {x : aD} (h : kx n l) (hx : zW x.Factor) : kx (n + 1) (l ++ [x]) :=
  ⟨by rw [List.length_append]; have := h.1; simp only [List.length_singleton]; omega,fun y hy => (List.mem_append.1 hy).elim (h.2 y) (fun e => by rw [List.mem_singleton.1 e]; exact hx)⟩
theorem iU.app {n : Nat} {l : List av} {x : av} (h : iU n l) (hx : 5 ≤ x.Kind ∧ x.Kind ≤ 10 ∧ 0 ≤ x.Limit ∧ x.Limit ≤ 900) : iU (n + 1) (l ++ [x]) :=
  ⟨by rw [List.length_append]; have := h.1; simp only [List.length_singleton]; omega,fun y hy => (List.mem_append.1 hy).elim (h.2 y) (fun e => by rw [List.mem_singleton.1 e]; exact hx)⟩
theorem sG {T : Type} {l : List T} {z : T} {i : Nat} (h : i < l.length) : l.getD i z ∈ l := by
  rw [List.getD_eq_getElem?_getD,List.getElem?_eq_getElem h]
  exact List.getElem_mem _
theorem C7 {T : Type} {l : List T} {i : Nat} {x y : T} (h : y ∈ l.set i x) : y ∈ l ∨ y = x := List.mem_or_eq_of_mem_set h
theorem fm.app {env : List al} {b : al} (h : fm env) (hl : env.length < 5) (hb : b.Name.size ≤ 100) : fm (env ++ [b]) :=
  ⟨by rw [List.length_append]; simp only [List.length_singleton]; omega,fun y hy => (List.mem_append.1 hy).elim (h.2 y) (fun e => by rw [List.mem_singleton.1 e]; exact hb)⟩
theorem rW {b : Bool} {c : Bool} (h : (bif b then c else false) = true) : b = true ∧ c = true := by cases b <;> cases c <;> simp_all
theorem jj {tot : Prop} (n k : Int) (h : 1 ≤ k) (h' : k ≤ 4611686018427387903) : En tot (fun y => 0 ≤ y ∧ y < k) (bb n k) := by
  rw [pU n k h',if_neg (by omega)]
  exact .some ⟨Int.emod_nonneg _ (by omega),Int.emod_lt_of_pos _ (by omega)⟩
theorem GY {tot : Prop} (n : Int) (h : 0 ≤ n) (h' : n < 4000) : En tot (fun y => zW y.1) (cM (ak (n + 1)) 1000) := by
  rw [bQ (by omega) (by omega)]
  obtain ⟨k,rfl⟩ := Int.eq_ofNat_of_zero_le h
  refine En.of (show cM ((k : Int) + 1) 1000 = _ from tz (k + 1) 1000 (by omega) (by omega) (by omega)) ?_
  obtain ⟨e,h1,h2,h3,h4⟩ := wA (k + 1) 1000 (by omega) (by omega) (by omega)
  rw [e]
  exact ⟨_,_,rfl,Nat.div_pos (Nat.gcd_le_left 1000 (by omega)) (Nat.gcd_pos_of_pos_right _ (by omega)),by omega,h3,h2,h4⟩
theorem HW {tot : Prop} (v : am) (n : Int) (h : jx v) : En tot jx (bN v n) := by
  obtain ⟨hc,hs,hf⟩ := h
  unfold bN oo
  refine En.bif (fun e => ?_) fun _ => En.bif (fun e => ?_) fun _ => En.bif (fun e => ?_) fun _ => En.bif (fun e => ?_) fun _ => En.bif (fun e => ?_) fun _ => En.bif (fun e => ?_) fun _ => En.bif (fun e => ?_) fun _ => .some ⟨hc,hs,hf⟩
  all_goals have el := of_decide_eq_true (rW e).2
  · exact En.gd (by omega) (En.gd (by omega) (.some ⟨hc,hs,hf⟩))
  · exact En.gd (by omega) (En.gd (by omega) (.some ⟨hc,hs,hf⟩))
  · exact En.gd (by omega) (En.gd (by omega) (.some ⟨hc,hs,hf⟩))
  · exact En.gd (by omega) (.some ⟨hc,hs,hf⟩)
  · refine En.gd (by omega) (En.gd (by omega) (.some ⟨hc,⟨by rw [List.length_set]; exact hs.1,fun x hx => ?_⟩,hf⟩))
    rcases C7 hx with hx | rfl
    · exact hs.2 x hx
    · exact hs.2 (v.Series.getD 1 cg) (sG (l := v.Series) (i := 1) (z := cg) (by omega))
  · refine En.gd (by omega) (En.gd (by omega) (.some ⟨⟨by rw [List.length_set]; exact hc.1,fun x hx => ?_⟩,hs,hf⟩))
    rcases C7 hx with hx | rfl
    · exact hc.2 x hx
    · have h0 := hc.2 _ (sG (l := v.Credits) (i := 0) (z := dA) (by omega))
      have h1 := hc.2 _ (sG (l := v.Credits) (i := 1) (z := dA) (by omega))
      exact ⟨h0.1,h0.2.1,h1.2.2⟩
  · exact En.gd (by omega) (.some ⟨hc,hs,hf⟩)
section
variable {tot : Prop} (v : ae) {o1 o2 o3 : Int} (hf : 0 ≤ o1 ∧ o1 ≤ 73048)
include hf
theorem QT {c : List av} {s : List aD} (lt : List bk) (g : List bf) (r : List bJ) (hc : iU 4 c) (hs : kx 6 s) : En tot jx (oX v o1 o2 o3 c s lt g r) := by
  unfold oX
  exact En.bif (fun _ => En.bind (jj _ 7 (by omega) (by omega)) fun k _ => En.bind (HW _ k ⟨hc,hs,hf⟩) fun w hw => .some hw) fun _ => .some ⟨hc,hs,hf⟩
theorem QJ {env : List al} {c : List av} {s : List aD} (lt : List bk) (g : List bf) (he : fm env) (hc : iU 4 c) (hs : kx 6 s) : En tot jx (pc env v o1 o2 o3 c s lt g) := by
  unfold pc
  refine En.bind (R := fun r => iU 4 r.1 ∧ kx 6 r.2.1) ?_ fun y hy => QT v hf _ _ _ hy.1 hy.2
  refine En.fixL (fun s => fm s.1 ∧ 0 ≤ s.2.1 ∧ s.2.1 ≤ 2 ∧ iU 4 s.2.2.1 ∧ kx 6 s.2.2.2.1 ∧ s.2.2.2.2.2.2.length ≤ s.2.1.toNat) (fun s => (2 - s.2.1).toNat) ⟨he,by simp,by simp,hc,hs,by simp⟩ ?_
  rintro ⟨e,i,c',s',l',g',r'⟩ ⟨h1,h2,h3,h4,h5,h6⟩
  simp only [] at h1 h2 h3 h4 h5 h6
  show En _ _ (pg e i v o1 o2 o3 c' s' l' g' r')
  unfold pg
  refine En.bif (fun hb => ?_) fun _ => .some ⟨h4,h5⟩
  obtain ⟨hb1,hb2⟩ := rW hb
  have hb1 := of_decide_eq_true hb1
  have hb2 := of_decide_eq_true hb2
  have hw : ak (i + 1) = i + 1 := bQ (by omega) (by omega)
  refine En.gd ⟨h2,hb1⟩ (En.bind (rY _ _ _ h1) fun x _ => En.gd (fK (by omega) (by omega)) (.some ?_))
  simp only [hw]
  exact ⟨⟨h1,by omega,by omega,h4,h5,by rw [List.length_append,List.length_singleton]; omega⟩,by omega⟩
theorem Q3 {env : List al} {c : List av} {s : List aD} (lt : List bk) (he : fm env) (hc : iU 4 c) (hs : kx 6 s) : En tot jx (oR env v o1 o2 o3 c s lt) := by
  unfold oR
  refine En.bind (R := fun r => fm r.1 ∧ iU 4 r.2.1 ∧ kx 6 r.2.2.1) ?_ fun y hy => QJ v hf _ _ hy.1 hy.2.1 hy.2.2
  refine En.fixL (fun s => fm s.1 ∧ 0 ≤ s.2.1 ∧ s.2.1 ≤ 3 ∧ iU 4 s.2.2.1 ∧ kx 6 s.2.2.2.1 ∧ s.2.2.2.2.2.length ≤ s.2.1.toNat) (fun s => (3 - s.2.1).toNat) ⟨he,by simp,by simp,hc,hs,by simp⟩ ?_
  rintro ⟨e,i,c',s',l',g'⟩ ⟨h1,h2,h3,h4,h5,h6⟩
  simp only [] at h1 h2 h3 h4 h5 h6
  show En _ _ (oU e i v o1 o2 o3 c' s' l' g')
  unfold oU
  refine En.bif (fun hb => ?_) fun _ => .some ⟨h1,h4,h5⟩
  obtain ⟨hb1,hb2⟩ := rW hb
  have hb1 := of_decide_eq_true hb1
  have hb2 := of_decide_eq_true hb2
  have hw : ak (i + 1) = i + 1 := bQ (by omega) (by omega)
  refine En.gd ⟨h2,hb1⟩ (En.bind (rY _ _ _ h1) fun x _ => En.bif (fun hi => En.gd ⟨h2,of_decide_eq_true hi⟩ (En.bind (rY _ _ _ h1) fun z _ => En.gd (fK (by omega) (by omega)) (.some ?_))) fun _ => En.bind (rY _ _ _ h1) fun z _ => En.gd (fK (by omega) (by omega)) (.some ?_))
  · simp only [hw]
    exact ⟨⟨h1,by omega,by omega,h4,h5,by rw [List.length_append,List.length_singleton]; omega⟩,by omega⟩
  · simp only [hw]
    exact ⟨⟨h1,by omega,by omega,h4,h5,by rw [List.length_append,List.length_singleton]; omega⟩,by omega⟩
theorem QB {c : List av} {s : List aD} (hc : iU 4 c) (hs : kx 6 s) : En tot jx (nA v o1 o2 o3 c s) := by
  unfold nA
  refine En.bind (R := fun r => fm r.1 ∧ iU 4 r.2.1 ∧ kx 6 r.2.2.1) ?_ fun y hy => Q3 v hf _ hy.1 hy.2.1 hy.2.2
  refine En.fixL (fun s => fm s.1 ∧ 0 ≤ s.2.1 ∧ s.2.1 ≤ 5 ∧ iU 4 s.2.2.1 ∧ kx 6 s.2.2.2.1 ∧ s.2.2.2.2.length ≤ s.2.1.toNat ∧ s.1.length ≤ s.2.1.toNat) (fun s => (5 - s.2.1).toNat) ⟨⟨by simp,by simp⟩,by simp,by simp,hc,hs,by simp,by simp⟩ ?_
  rintro ⟨e,i,c',s',l'⟩ ⟨h1,h2,h3,h4,h5,h6,h7⟩
  simp only [] at h1 h2 h3 h4 h5 h6 h7
  show En _ _ (oO e i v o1 o2 o3 c' s' l')
  unfold oO
  refine En.bif (fun hb => ?_) fun _ => .some ⟨h1,h4,h5⟩
  obtain ⟨hb1,hb2⟩ := rW hb
  have hb1 := of_decide_eq_true hb1
  have hb2 := of_decide_eq_true hb2
  have hw : ak (i + 1) = i + 1 := bQ (by omega) (by omega)
  refine En.gd ⟨h2,hb1⟩ (En.bind ((vt i).imp (fun _ => trivial) fun _ h => h) fun n1 _ => En.gd ⟨h2,hb1⟩ (En.bind (rY _ _ _ h1) fun x _ => En.gd (fK (by omega) (by omega)) (En.bind ((vt i).imp (fun _ => trivial) fun _ h => h) fun n2 hn2 => En.gd (fK (by omega) (by omega)) (.some ?_))))
  simp only [hw]
  exact ⟨⟨h1.app (by omega) hn2,by omega,by omega,h4,h5,by rw [List.length_append,List.length_singleton]; omega,by rw [List.length_append,List.length_singleton]; omega⟩,by omega⟩
theorem Qm {c : List av} (hc : iU 4 c) : En tot jx (nm v o1 o2 o3 c) := by
  unfold nm
  refine En.bind (R := fun r => iU 4 r.1 ∧ kx 6 r.2) ?_ fun y hy => QB v hf hy.1 hy.2
  refine En.fixL (fun s => 0 ≤ s.1 ∧ s.1 ≤ 6 ∧ iU 4 s.2.1 ∧ kx s.1.toNat s.2.2) (fun s => (6 - s.1).toNat) ⟨by simp,by simp,hc,⟨by simp,by simp⟩⟩ ?_
  rintro ⟨i,c',s'⟩ ⟨h1,h2,h3,h4⟩
  simp only [] at h1 h2 h3 h4
  show En _ _ (oM i v o1 o2 o3 c' s')
  unfold oM
  refine En.bif (fun hb => ?_) fun _ => .some ⟨h3,Nat.le_trans h4.1 (by omega),h4.2⟩
  obtain ⟨hb1,hb2⟩ := rW hb
  have hb1 := of_decide_eq_true hb1
  have hb2 := of_decide_eq_true hb2
  have hw : ak (i + 1) = i + 1 := bQ (by omega) (by omega)
  have h41 := h4.1
  refine En.gd ⟨h1,hb1⟩ (En.bind (jj _ 4000 (by omega) (by omega)) fun k hk => En.bind (GY k hk.1 hk.2) fun f hf => En.gd ⟨h1,hb1⟩ (En.bind (jj _ 20 (by omega) (by omega)) fun k2 _ => En.gd (fK (by omega) (by omega)) (.some ?_)))
  simp only [hw]
  refine ⟨⟨by omega,by omega,h3, ?_⟩,by omega⟩
  rw [show (i + 1).toNat = i.toNat + 1 by omega]
  exact h4.app hf
theorem Qx : En tot jx (nb v o1 o2 o3) := by
  unfold nb
  refine En.bind (R := iU 4) ?_ fun y hy => Qm v hf hy
  refine En.fixL (fun s => 0 ≤ s.1 ∧ s.1 ≤ 4 ∧ iU s.1.toNat s.2) (fun s => (4 - s.1).toNat) ⟨by simp,by simp,⟨by simp,by simp⟩⟩ ?_
  rintro ⟨i,c'⟩ ⟨h1,h2,h3⟩
  simp only [] at h1 h2 h3
  show En _ _ (pm i v o1 o2 o3 c')
  unfold pm
  refine En.bif (fun hb => ?_) fun _ => .some ⟨Nat.le_trans h3.1 (by omega),h3.2⟩
  obtain ⟨hb1,hb2⟩ := rW hb
  have hb1 := of_decide_eq_true hb1
  have hb2 := of_decide_eq_true hb2
  have hw : ak (i + 1) = i + 1 := bQ (by omega) (by omega)
  have h31 := h3.1
  refine En.gd (by omega) (En.bind (jj _ 6 (by omega) (by omega)) fun k hk => ?_)
  have hk1 := hk.1
  have hk2 := hk.2
  have hm : Int.tmod (ak (i + k)) 6 = (i + k) % 6 := by rw [bQ (by omega) (by omega),Int.tmod_eq_emod_of_nonneg (by omega)]
  rw [hm]
  have hkind : 5 ≤ ([6,9,7,8,10,5] : List Int).getD (0 + (Int.toNat ((i + k) % 6))) (0 : Int) ∧ ([6,9,7,8,10,5] : List Int).getD (0 + (Int.toNat ((i + k) % 6))) (0 : Int) ≤ 10 := by
    generalize hj : (i + k) % 6 = j
    have : j = 0 ∨ j = 1 ∨ j = 2 ∨ j = 3 ∨ j = 4 ∨ j = 5 := by omega
    rcases this with rfl | rfl | rfl | rfl | rfl | rfl <;> decide
  refine En.gd (by omega) (En.gd ⟨h1,hb1⟩ (En.bif (fun _ => En.gd ⟨h1,hb1⟩ (En.bind (jj _ 900 (by omega) (by omega)) fun k2 hk2 => En.gd (fK (by omega) (by omega)) (.some ?_))) fun _ => En.gd (fK (by omega) (by omega)) (.some ?_)))
  · have := hk2.1
    have := hk2.2
    have hw2 : ak (k2 + 1) = k2 + 1 := bQ (by omega) (by omega)
    simp only [hw,hw2]
    refine ⟨⟨by omega,by omega, ?_⟩,by omega⟩
    rw [show (i + 1).toNat = i.toNat + 1 by omega]
    exact h3.app ⟨hkind.1,hkind.2,by simp only []; omega,by simp only []; omega⟩
  · simp only [hw]
    refine ⟨⟨by omega,by omega, ?_⟩,by omega⟩
    rw [show (i + 1).toNat = i.toNat + 1 by omega]
    exact h3.app ⟨hkind.1,hkind.2,by simp,by simp⟩
end
theorem PW {tot : Prop} (v : ae) : En tot jx (ce v) := by
  unfold ce ra
  refine En.bind (jj _ 73049 (by omega) (by omega)) fun a ha => En.bind (jj _ 4 (by omega) (by omega)) fun b hb => En.bind (jj _ 5 (by omega) (by omega)) fun c hc => En.gd ⟨hc.1,hc.2⟩ (Qx v ⟨ha.1,by have := ha.2; omega⟩)
theorem JK (v : ae) : ∃ x,ce v = some x ∧ jx x := (PW (tot := True) v).ends
end Go.Ax
