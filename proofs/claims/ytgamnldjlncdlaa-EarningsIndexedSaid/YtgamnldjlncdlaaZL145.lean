import Derived.Test.YtgamnldjlncdlaaZL144
set_option linter.all false
/- Expressions are made, in full. -/
set_option maxRecDepth 100000
namespace Go.Ax
open Go.Proofs
theorem Et {t : Prop} {α : Type} {Q : α → Prop} {A : Nat} {s : ab} {k : Int} {f : Int × ab → Option α} (hs : fN A s) (hA : A ≤ 100000) (hk : 1 ≤ k ∧ k ≤ 10000) (h : ∀ y : Int × ab,0 ≤ y.1 → y.1 < k → fN (A + 1) y.2 → En t Q (f y)) : En t Q ((ac s k).bind f) :=
  En.bind (jJ s k hs hA hk.1 hk.2) fun y hy => h y hy.1 hy.2.1 hy.2.2
section
variable {t : Prop} {h D B : Nat} {deep : Int} {env : List al}
def vw [I : dS] (t : Prop) (h D B : Nat) (deep : Int) (env : List al) : Prop := ∀ (A : Nat) s dim,fN A s → A ≤ B → En t (kC h (A + D)) (dS.F s dim (ak (deep + 1)) env)
theorem KH [I : dS] (hI : vw t h D B deep env) {A : Nat} (s : ab) (op : Int) (dims : List Int) (hs : fN A s) (hA : A + 3 * D ≤ B) (hd : dims.length ≤ 3) : En t (kC (h + 1) (A + 3 * D)) (ah s op deep env dims) := by
  unfold ah gA gy
  refine En.bind (R := fun r => r.1.length ≤ 3 ∧ (∀ a ∈ r.1,WT h a) ∧ fN (A + 3 * D) r.2) ?_ fun y hy => .some ⟨⟨hy.1,hy.2.1,by show (ao []).size ≤ 100; rw [pM]; omega,si.zero⟩,hy.2.2⟩
  refine En.fixL (fun s => 0 ≤ s.1 ∧ s.1 ≤ (dims.length : Int) ∧ fN (A + s.1.toNat * D) s.2.1 ∧ s.2.2.length ≤ s.1.toNat ∧ ∀ a ∈ s.2.2,WT h a) (fun s => (dims.length - s.1).toNat) ⟨by simp,by simp,by simpa using hs,by simp,by simp⟩ ?_
  rintro ⟨i,s1,l⟩ ⟨h1,h2,h3,h4,h5⟩
  simp only [] at h1 h2 h3 h4 h5
  show En _ _ (eR deep env dims i s1 op l)
  unfold eR
  have hm : ∀ j : Nat,j ≤ 3 → A + j * D ≤ A + 3 * D := fun j hj => Nat.add_le_add_left (Nat.mul_le_mul_right D hj) A
  refine En.bif (fun hc => ?_) fun hc => .some ⟨by simp only []; omega,h5,h3.mono (hm _ (by omega))⟩
  have hlt : i < (dims.length : Int) := by simpa using hc
  refine En.gd ⟨h1,hlt⟩ (En.bind (hI _ s1 _ h3 (Nat.le_trans (hm _ (by omega)) hA)) fun y hy => En.gd (fK (by omega) (by omega)) (.some ?_))
  have hw : ak (i + 1) = i + 1 := bQ (by omega) (by omega)
  simp only [hw]
  refine ⟨⟨by omega,by omega, ?_, ?_, ?_⟩,by omega⟩
  · have := hy.2
    rwa [show A + (i + 1).toNat * D = A + i.toNat * D + D by rw [show (i + 1).toNat = i.toNat + 1 by omega,Nat.succ_mul]; omega]
  · rw [List.length_append,List.length_singleton]; omega
  · intro a ha
    rcases List.mem_append.1 ha with ha | ha
    · exact h5 a ha
    · rw [List.mem_singleton.1 ha]; exact hy.1
theorem qG [I : dS] (hI : vw t h D B deep env) {A Z H : Nat} {s : ab} {op : Int} {dims : List Int} (hs : fN A s) (hA : A + 3 * D ≤ B) (hd : dims.length ≤ 3) (hZ : A + 3 * D ≤ Z) (hH : h + 1 ≤ H) : En t (kC H Z) ((ah s op deep env dims).bind fun r => some (r.1,r.2)) :=
  En.bind (KH hI s op dims hs hA hd) fun y hy => .some (hy.mono hH hZ)
theorem AH (he : fm env) {A Z H : Nat} {s : ab} {dim : Int} (hs : fN A s) (hA : A ≤ 80000) (hZ : A + 10 ≤ Z) (hH : 2 ≤ H) : En t (kC H Z) ((aO s dim env).bind fun r => some (r.1,r.2)) :=
  En.bind (C3 s dim env he hs hA) fun y hy => .some (hy.mono hH hZ)
theorem HJ [I : dS] (he : fm env) (hI : vw t h D B deep env) {A : Nat} (s : ab) (dim k : Int) (hs : fN A s) (hB : B ≤ 80000) (hA : A + 3 * D + 12 ≤ B) (h1 : 1 ≤ h) (hk : 0 ≤ k) (hk2 : k < 14) : En t (kC (h + 1) (A + 3 * D + 12)) (eP dim deep env k s) := by
  unfold eP cj
  repeat' first
    | refine En.bif (fun hc => ?_) (fun hc => ?_)
    | exact qG hI (by assumption) (by omega) (by decide) (by omega) (by omega)
    | exact qG hI (by assumption) (by omega) (by show (2 : Nat) ≤ 3; omega) (by omega) (by omega)
    | exact qG hI (by assumption) (by omega) (by show (1 : Nat) ≤ 3; omega) (by omega) (by omega)
    | exact qG hI (by assumption) (by omega) (by show (3 : Nat) ≤ 3; omega) (by omega) (by omega)
    | exact AH he (by assumption) (by omega) (by omega) (by omega)
    | refine Et (by assumption) (by omega) (by decide) fun y h1 h2 h3 => ?_
    | refine En.gd (by have := eq_of_beq hc; omega) ?_
theorem HN [I : dS] (he : fm env) (hI : vw t h D B deep env) {A : Nat} (s : ab) (dim k : Int) (b : Bool) (hs : fN A s) (hB : B ≤ 80000) (hA : A + 3 * D + 12 ≤ B) (h1 : 1 ≤ h) (hk : 0 ≤ k) (hk2 : k < 14) : En t (kC (h + 1) (A + 3 * D + 12)) (eU dim deep env k b s) := by
  unfold eU
  repeat' first
    | exact HJ he hI s dim k hs hB hA h1 hk hk2
    | refine En.bif (fun hc => ?_) (fun hc => ?_)
    | exact qG hI (by assumption) (by omega) (by decide) (by omega) (by omega)
    | exact qG hI (by assumption) (by omega) (by show (2 : Nat) ≤ 3; omega) (by omega) (by omega)
    | exact qG hI (by assumption) (by omega) (by show (1 : Nat) ≤ 3; omega) (by omega) (by omega)
    | exact qG hI (by assumption) (by omega) (by show (3 : Nat) ≤ 3; omega) (by omega) (by omega)
    | exact AH he (by assumption) (by omega) (by omega) (by omega)
    | refine Et (by assumption) (by omega) (by decide) fun y h1 h2 h3 => ?_
    | refine En.gd (by have := eq_of_beq hc; omega) ?_
end
def nk : Nat → Nat
  | 0 => 10
  | k + 1 => 3 * nk k + 13
theorem G9 {k : Nat} (h : k ≤ 5) : nk k ≤ 4003 := by
  have : k = 0 ∨ k = 1 ∨ k = 2 ∨ k = 3 ∨ k = 4 ∨ k = 5 := by omega
  rcases this with rfl | rfl | rfl | rfl | rfl | rfl <;> decide
theorem B0 (env : List al) (he : fm env) : ∀ (k n : Nat) (deep : Int),1 ≤ deep → deep + k = 6 → ∀ (A : Nat) s dim,fN A s → A + 2 * nk k ≤ 20000 → En (k + 1 ≤ n) (kC (k + 2) (A + nk k)) ((gV n).F s dim deep env)
  | k,0,_,_,_,_,_,_,_,_ => .none (by omega)
  | 0,n + 1,deep,h1,h2,A,s,dim,hs,hA => by
    show En _ _ (@dF (gV n) s dim deep env)
    unfold dF eQ
    rw [show decide (6 ≤ deep) = true by simp; omega]
    exact AH he hs (by omega) (Nat.le_refl _) (Nat.le_refl _)
  | k + 1,n + 1,deep,h1,h2,A,s,dim,hs,hA => by
    show En _ _ (@dF (gV n) s dim deep env)
    have hw : ak (deep + 1) = deep + 1 := bQ (by omega) (by omega)
    have hD : nk (k + 1) = 3 * nk k + 13 := rfl
    rw [hD] at hA
    have hI : @vw (gV n) (k + 1 ≤ n) (k + 2) (nk k) (20000 - 2 * nk k) deep env := by
      intro A' s' dim' hs' hA'
      rw [hw]
      exact B0 env he k n (deep + 1) (by omega) (by omega) A' s' dim' hs' (by omega)
    rw [hD]
    unfold dF eQ
    refine En.bif (fun _ => AH he hs (by omega) (by omega) (by omega)) fun _ => ?_
    refine Et (A := A) hs (by omega) (by decide) fun y h1 h2 h3 => ?_
    exact (@HN (k + 1 ≤ n) (k + 2) (nk k) (20000 - 2 * nk k) deep env (gV n) he hI (A + 1) y.2 dim y.1 (dim == 1) h3 (by omega) (by omega) (by omega) h1 h2).imp (fun _ => by omega) fun z hz => hz.mono (by omega) (by omega)
theorem rY {tot : Prop} (l : List Int) (dim : Int) (env : List al) (he : fm env) : En tot (fun _ => True) (aP l dim env) := by
  unfold aP mM
  have h5 := G9 (Nat.le_refl 5)
  have h : En tot (kC 7 4003) (cR (ab.mk l 0 24) dim 1 env) :=
    (En.lim (tot := tot) 6 fun n => B0 env he 5 n 1 (by omega) (by omega) 0 (ab.mk l 0 24) dim ⟨by simp,by simp⟩ (by omega)).weak fun y hy => hy.mono (by omega) (by omega)
  refine En.bind h fun y hy => ?_
  rw [pB]
  refine En.bind (Hy 7 y.1 hy.1) fun b _ => En.bif (fun _ => ?_) fun _ => .some trivial
  exact En.bind (C3 (A := 4003) (ab.mk y.2.l y.2.at_ 0) dim env he hy.2 (by omega)) fun z _ => .some trivial
end Go.Ax
