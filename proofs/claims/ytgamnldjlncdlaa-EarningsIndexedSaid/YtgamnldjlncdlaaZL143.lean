import Derived.Test.YtgamnldjlncdlaaZL142
set_option linter.all false
/- Words, names, inputs, the source's numbers: they end. -/
set_option maxRecDepth 100000
namespace Go.Ax
open Go.Proofs
theorem Gt (s : ByteArray) (h : s.size ≤ 1000) : En True (fun _ => True) (jg s) := by
  unfold jg mG m8
  refine En.bind (R := fun _ => True) ?_ fun y hy => ?_
  · refine En.fixL (fun i => 0 ≤ i ∧ i ≤ (s.size : Int)) (fun i => ((s.size : Int) - i).toNat) ⟨by omega,by omega⟩ ?_
    intro i hi
    show En True _ (kh s i)
    unfold kh
    refine En.bif (fun hc => ?_) fun hc => .some trivial
    have hlt : i < (s.size : Int) := by simpa using hc
    refine En.gd (by omega) (En.bind (R := fun _ => True) (En.of (y := bif decide (97 ≤ ((s.data.getD (Int.toNat i) 0).toNat : Int)) then decide (((s.data.getD (Int.toNat i) 0).toNat : Int) ≤ 122) else false) rfl trivial) fun r _ => ?_)
    refine En.gd (fun _ => by omega) (En.gd (fun _ => hlt) (En.gd (fun _ => rfl) (En.gd (fun _ => by omega) (En.gd (fun _ => hlt) (En.bif (fun _ => .some trivial) fun _ => .some ?_)))))
    simp only []
    rw [bQ (by omega) (by omega)]
    omega
  · rcases y with ⟨⟩ | ⟨⟩ <;> exact .some trivial
theorem Ci (s : ByteArray) : En True (fun _ => True) (gb s) := by
  unfold gb lS bA
  repeat' first | exact .some trivial | refine En.bif (fun _ => ?_) (fun _ => ?_)
theorem Gd (s : ByteArray) (h : s.size ≤ 1000) : En True (fun _ => True) (hF s) := by
  unfold hF mJ
  exact En.bind (Gt s h) fun r _ => En.gd (fun _ => (Ci s).isSome) (.some trivial)
theorem Gu (n : Int) : En True (fun _ => True) (lD n) := by
  unfold lD pX
  repeat' first | exact .some trivial | refine En.bif (fun _ => ?_) (fun _ => ?_)
theorem DV (s : ByteArray) : En True (fun _ => True) (kc s) := by
  unfold kc oA bM
  repeat' first | exact .some trivial | refine En.bif (fun _ => ?_) (fun _ => ?_)
theorem CI (l : List Int) : (pu l).size = l.length := by
  unfold pu
  simp [ByteArray.size]
theorem vt (i : Int) : En True (fun s => s.size ≤ 100) (eu i) := by
  unfold eu l8
  refine .some ?_
  rw [CI]
  exact (by decide : 3 ≤ 100)
def fc (n : Nat) (l : List ByteArray) : Prop := l.length ≤ n ∧ ∀ b ∈ l,b.size ≤ 100
theorem fc.append {n m : Nat} {l l' : List ByteArray} (h : fc n l) (h' : fc m l') : fc (n + m) (l ++ l') :=
  ⟨by rw [List.length_append]; have := h.1; have := h'.1; omega,fun b hb => (List.mem_append.1 hb).elim (h.2 b) (h'.2 b)⟩
theorem fc.one {b : ByteArray} (h : b.size ≤ 100) : fc 1 [b] := ⟨Nat.le_refl 1,fun c hc => by rw [List.mem_singleton.1 hc]; exact h⟩
theorem fc.getD {n : Nat} {l : List ByteArray} (h : fc n l) (i : Nat) : (l.getD i (ao [])).size ≤ 100 := by
  rw [List.getD_eq_getElem?_getD]
  cases e : l[i]? with
  | none => exact Nat.zero_le 100
  | some b => exact h.2 b (List.mem_of_getElem? e)
theorem El : ∃ l,j3 = some l ∧ fc 11 l ∧ l.length = 11 := by
  refine ⟨_,rfl,⟨Nat.le_refl 11, ?_⟩,rfl⟩
  have key : (j3.getD []).all (fun b => Nat.ble b.size 100) = true := by kernel_rfl
  intro b hb
  exact Nat.le_of_ble_eq_true (List.all_eq_true.1 key b hb)
theorem CS (dim : Int) : En True (fc 11) (ji dim) := by
  obtain ⟨l,hl,hl1,hl2⟩ := El
  unfold ji mO
  rw [hl,Option.bind_some]
  unfold mT
  refine En.bind (R := fc 11) ?_ fun y hy => .some hy
  refine En.fixL (fun s => 0 ≤ s.2 ∧ s.2 ≤ 11 ∧ fc s.2.toNat s.1) (fun s => (11 - s.2).toNat) ⟨by simp,by simp,by exact ⟨Nat.le_refl 0,fun b hb => nomatch hb⟩⟩ ?_
  rintro ⟨out,i⟩ ⟨h1,h2,h3⟩
  simp only [] at h1 h2 h3
  show En True _ (j8 dim l out i)
  unfold j8
  refine En.bif (fun hc => ?_) fun hc => .some ⟨Nat.le_trans h3.1 (by omega),h3.2⟩
  have hlt : i < 11 := by rw [hl2] at hc; simpa using hc
  have hi : i < (l.length : Int) := by omega
  have hw : ak (i + 1) = i + 1 := bQ (by omega) (by omega)
  refine En.gd (by omega) (En.bind (DV _) fun r _ => En.bif (fun _ => En.gd (by omega) (En.gd ?_ (.some ?_))) fun _ => .some ?_)
  · have := h3.1
    exact fK (by omega) (by omega)
  · simp only [hw]
    refine ⟨⟨by omega,by omega, ?_⟩,by omega⟩
    rw [show (i + 1).toNat = i.toNat + 1 by omega]
    exact h3.append (.one (hl1.getD _))
  · simp only [hw]
    exact ⟨⟨by omega,by omega,Nat.le_trans h3.1 (by omega),h3.2⟩,by omega⟩
def fN (A : Nat) (s : ab) : Prop := 0 ≤ s.at_ ∧ s.at_ ≤ (A : Int)
theorem fN.mono {A B : Nat} {s : ab} (h : fN A s) (hb : A ≤ B) : fN B s := ⟨h.1,by have := h.2; omega⟩
theorem jJ {tot : Prop} {A : Nat} (s : ab) (k : Int) (hs : fN A s) (hA : A ≤ 100000) (hk : 1 ≤ k) (hk2 : k ≤ 10000) : En tot (fun y => 0 ≤ y.1 ∧ y.1 < k ∧ fN (A + 1) y.2) (ac s k) := by
  have hp : ∀ n,En tot (fun y : Int × ab => 0 ≤ y.1 ∧ y.1 < k ∧ fN (A + 1) y.2) (eX k n s) := by
    intro n
    unfold eX
    rw [pU n k (by omega),Option.bind_some]
    obtain ⟨h1,h2⟩ := hs
    refine .some ⟨?_, ?_, ?_, ?_⟩
    · rw [if_neg (by omega)]; exact Int.emod_nonneg _ (by omega)
    · rw [if_neg (by omega)]; exact Int.emod_lt_of_pos _ (by omega)
    · simp only []; rw [bQ (by omega) (by omega)]; omega
    · simp only []; rw [bQ (by omega) (by omega)]; omega
  unfold ac jl
  exact En.bif (fun hc => En.gd ⟨hs.1,by simpa using hc⟩ (hp _)) fun _ => hp _
theorem Ff (n d : Nat) (hn : n ≤ 4000) (hd : d ≤ 10000) (h0 : 0 < d) : si (vH n d).1 := by
  obtain ⟨e,h1,h2,h3,h4⟩ := wA n d h0 (by omega) (by omega)
  rw [e]
  generalize n / Nat.gcd n d = a at *
  generalize d / Nat.gcd n d = b at *
  exact ⟨by simp only []; omega,by simp only []; omega,by simp only []; omega,by simp only []; omega⟩
theorem Fn {tot : Prop} (n d : Int) (h : 0 ≤ n) (hn : n ≤ 4000) (hd : d ≤ 10000) (h0 : 0 < d) : En tot (fun y => si y.1) (cM n d) := by
  obtain ⟨n,rfl⟩ := Int.eq_ofNat_of_zero_le h
  obtain ⟨d,rfl⟩ := Int.eq_ofNat_of_zero_le (by omega : 0 ≤ d)
  exact .of (tz n d (by omega) (by omega) (by omega)) (Ff n d (by omega) (by omega) (by omega))
theorem CQ {tot : Prop} {A : Nat} (s : ab) (hs : fN A s) (hA : A ≤ 99990) : En tot (fun y => si y.1 ∧ fN (A + 2) y.2) (dz s) := by
  unfold dz iy
  refine En.bind (jJ s 4000 hs (by omega) (by omega) (by omega)) fun y hy => En.bind (jJ y.2 7 hy.2.2 (by omega) (by omega) (by omega)) fun z hz => En.gd (by have := hz.1; have := hz.2.1; omega) ?_
  have hd : 0 < ([1,1,1,10,4,1000,10000] : List Int).getD (0 + Int.toNat z.1) (0 : Int) ∧ ([1,1,1,10,4,1000,10000] : List Int).getD (0 + Int.toNat z.1) (0 : Int) ≤ 10000 := by
    have h : z.1 = 0 ∨ z.1 = 1 ∨ z.1 = 2 ∨ z.1 = 3 ∨ z.1 = 4 ∨ z.1 = 5 ∨ z.1 = 6 := by have := hz.1; have := hz.2.1; omega
    rcases h with h | h | h | h | h | h | h <;> rw [h] <;> decide
  exact En.bind (Fn _ _ hy.1 (by have := hy.2.1; omega) hd.2 hd.1) fun w hw => .some ⟨hw,hz.2.2⟩
end Go.Ax
