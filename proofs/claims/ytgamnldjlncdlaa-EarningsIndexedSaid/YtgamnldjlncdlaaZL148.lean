import Derived.Test.YtgamnldjlncdlaaZL147
set_option linter.all false
/- The law: the amounts of all years, indexed. -/
set_option maxRecDepth 100000
namespace Go.Ax
open Go.Proofs
theorem An (a : List Int) (hn : a.length ≤ 1000000) : fM a a = some true := by
  have key : ∀ (n i : Nat),a.length = i + n → fixL (iI a a) (i : Int) = some (.inr ()) := by
    intro n
    induction n with
    | zero =>
      intro i h
      rw [rD]
      obtain rfl : i = a.length := by omega
      show (fd a a ((a.length : Nat) : Int)).bind _ = _
      unfold fd
      rw [DR]
      rfl
    | succ n ih =>
      intro i h
      rw [rD]
      show (fd a a (i : Int)).bind _ = _
      unfold fd
      have hi : i < a.length := by omega
      rw [OV hi,cond_true]
      simp only [cV (NO hi),bne_self_eq_false,cond_false,Option.bind_some,Hs (by omega : i < 9223372036854775807)]
      exact ih (i + 1) (by omega)
  show iF a a = _
  unfold iF
  rw [bne_self_eq_false,cond_false]
  unfold la
  rw [show (0 : Int) = ((0 : Nat) : Int) from rfl,key a.length 0 (by omega)]
  rfl
theorem JU : kM = some true := by kernel_rfl
theorem Ee (v : am) (l : List aF) (r : Int) (h : jx v) : cZ l v r = cT l v r := by
  have hf : fJ l r v = gn r l v := by
    funext s
    obtain ⟨out,i⟩ := s
    show fE l r out i v = dQ r out l i v
    unfold fE dQ
    obtain ⟨x,h1,h2⟩ := ul v ((l.getD (Int.toNat i) bY).Amount) ((l.getD (Int.toNat i) bY).Year) r h
    rw [h1,h2]
    by_cases hi : 0 ≤ i ∧ i < (l.length : Int)
    · rw [cV hi,cV hi]
    · rw [ym hi,ym hi]
  have hg : gv l r v = iv r l v := by
    funext s
    rcases s with s | s <;> rfl
  show fI l r v = eZ r l v
  unfold fI eZ
  rw [hf,hg]
theorem Hw (v : am) (l : List aF) (r : Int) (h : jx v) (hl : l.length ≤ 60) : En True (fun y => y.1.length ≤ 60) (cT l v r) := by
  unfold cT jm eZ
  refine En.bind (R := fun x => match x with | .inl _ => True | .inr l => l.length ≤ 60) ?_ fun y hy => ?_
  · refine En.fixL (fun s => 0 ≤ s.2 ∧ s.2 ≤ (l.length : Int) ∧ s.1.length ≤ s.2.toNat) (fun s => (l.length - s.2).toNat) ⟨by simp,by simp,by simp⟩ ?_
    rintro ⟨out,i⟩ ⟨h1,h2,h3⟩
    simp only [] at h1 h2 h3
    show En _ _ (dQ r out l i v)
    unfold dQ
    refine En.bif (fun hc => ?_) fun _ => .some (by simp only []; omega)
    have hc := of_decide_eq_true hc
    obtain ⟨x,hx,_⟩ := ul v ((l.getD (Int.toNat i) bY).Amount) ((l.getD (Int.toNat i) bY).Year) r h
    rw [hx,Option.bind_some]
    refine En.gd ⟨h1,hc⟩ (En.bif (fun _ => .some trivial) fun _ => En.gd (fK (by omega) (by omega)) (.some ?_))
    simp only [bQ (n := i + 1) (by omega) (by omega)]
    exact ⟨⟨by omega,by omega,by rw [List.length_append,List.length_singleton]; omega⟩,by omega⟩
  · rcases y with y | y
    · exact .some (by simp)
    · exact .some hy
theorem x7 (r : Int) (m : List aF) (v : ae) (hm : m.length ≤ 60) : dC r m v = some true := by
  unfold dC
  obtain ⟨x,hx,hv⟩ := JK v
  obtain ⟨y,hy,hl⟩ := (Hw x m r hv hm).ends
  rw [hx]
  simp only [Option.bind_some,Ee x m r hv,hy,JU,cond_true]
  have hs : fM y.1 y.1 = some true := An y.1 (by omega)
  rw [hs,cV (by simp)]
  simp [mq]
theorem D4 (r : Int) (raw : Bool) (m : List aF) (v : ae) (hm : m.length ≤ 60) : eH r raw m v = some true := by
  unfold eH
  cases raw with
  | false => simp only [Bool.not_false,cond_true,pU _ 200 (by omega),Option.bind_some]; exact x7 _ m v hm
  | true => exact x7 _ m v hm
theorem ub (l : List aF) (v : ae) (r : Int) (raw : Bool) : eh l v r raw = some true := by
  show ez l v r raw = _
  unfold ez
  by_cases h : l.length ≤ 60
  · rw [show decide ((60 : Int) < (l.length : Int)) = false from decide_eq_false (by omega),cond_false]
    unfold gf
    have key : En True (fun m : List aF => m.length ≤ 60) (fixL (eC l r raw v) (([] : List aF),0)) := by
      refine En.fixL (fun s => 0 ≤ s.2 ∧ s.2 ≤ (l.length : Int) ∧ s.1.length ≤ s.2.toNat) (fun s => (l.length - s.2).toNat) ⟨by simp,by simp,by simp⟩ ?_
      rintro ⟨m,i⟩ ⟨h1,h2,h3⟩
      simp only [] at h1 h2 h3
      show En _ _ (eG l r raw m i v)
      unfold eG
      refine En.bif (fun hc => ?_) fun _ => .some (by simp only []; omega)
      have hc := of_decide_eq_true hc
      have hw : ak (i + 1) = i + 1 := bQ (by omega) (by omega)
      refine En.gd ⟨h1,hc⟩ (En.bif (fun _ => En.bind (jj _ 200 (by omega) (by omega)) fun a _ => En.bind (jj _ 10000000 (by omega) (by omega)) fun b _ => En.gd (fK (by omega) (by omega)) (.some ?_)) fun _ => En.gd (fK (by omega) (by omega)) (.some ?_))
      · simp only [hw]
        exact ⟨⟨by omega,by omega,by rw [List.length_append,List.length_singleton]; omega⟩,by omega⟩
      · simp only [hw]
        exact ⟨⟨by omega,by omega,by rw [List.length_append,List.length_singleton]; omega⟩,by omega⟩
    obtain ⟨m,hm,hl⟩ := key.ends
    rw [hm,Option.bind_some]
    exact D4 r raw m v hl
  · rw [show decide ((60 : Int) < (l.length : Int)) = true from decide_eq_true (by omega),cond_true]
end Go.Ax
