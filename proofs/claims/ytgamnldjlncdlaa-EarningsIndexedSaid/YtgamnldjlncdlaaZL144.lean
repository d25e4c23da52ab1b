import Derived.Test.YtgamnldjlncdlaaZL143
set_option linter.all false
/- Trees of small size: they are made, measured and looked through to the end. -/
set_option maxRecDepth 100000
namespace Go.Ax
open Go.Proofs
def WT : Nat → ar → Prop
  | 0,_ => False
  | n + 1,e => e.Args.length ≤ 3 ∧ (∀ a ∈ e.Args,WT n a) ∧ e.Name.size ≤ 100 ∧ si e.Value
theorem WT.up : ∀ {n : Nat} {e : ar},WT n e → WT (n + 1) e
  | n + 1,e,h => ⟨h.1,fun a ha => WT.up (h.2.1 a ha),h.2.2⟩
theorem WT.le {n m : Nat} {e : ar} (h : WT n e) (hm : n ≤ m) : WT m e := by
  induction hm with
  | refl => exact h
  | step _ ih => exact ih.up
theorem si.zero : si (aq.mk 0 0) := by unfold si; simp
theorem pM : (ao []).size = 0 := by kernel_rfl
theorem pB (e : ar) : ar.mk e.Op e.Value e.Dim e.Name e.Args = e := by cases e; rfl
theorem uC {l : List ar} {Q : ar → Prop} (h : ∀ a ∈ l,Q a) (i : Int) (h0 : 0 ≤ i) (h1 : i < (l.length : Int)) : Q (l.getD (Int.toNat i) ap) := by
  have : i.toNat < l.length := by omega
  rw [List.getD_eq_getElem?_getD,List.getElem?_eq_getElem this]
  exact h _ (List.getElem_mem _)
theorem Bh : ∀ (h n : Nat) (e : ar),WT h e → En (h ≤ n) (fun _ => True) ((oe n).F e)
  | 0,_,_,hw => hw.elim
  | h + 1,0,_,_ => .none (by omega)
  | h + 1,n + 1,e,hw => by
    show En _ _ (@mh (oe n) e)
    unfold mh l6 lO
    refine En.bind (R := fun _ => True) ?_ fun y hy => .some trivial
    have hl := hw.1
    refine En.fixL (fun s => 0 ≤ s.2 ∧ s.2 ≤ (e.Args.length : Int)) (fun s => (e.Args.length - s.2).toNat) ⟨by simp only []; omega,by simp only []; omega⟩ ?_
    rintro ⟨m,i⟩ ⟨h1,h2⟩
    simp only [] at h1 h2
    show En _ _ (@ju (oe n) m i e)
    unfold ju
    refine En.bif (fun hc => ?_) fun _ => .some trivial
    have hc : i < (e.Args.length : Int) := by simpa using hc
    rw [pB]
    refine En.gd ⟨h1,hc⟩ (En.bind (R := fun _ => True) ((Bh h n _ (uC hw.2.1 i h1 hc)).imp (fun _ => by omega) fun _ _ => trivial) fun r _ => .some ?_)
    simp only []
    rw [bQ (by omega) (by omega)]
    omega
theorem Dm : ∀ (h n : Nat) (e : ar),WT h e → En (h ≤ n) (fun _ => True) ((nV n).F e)
  | 0,_,_,hw => hw.elim
  | h + 1,0,_,_ => .none (by omega)
  | h + 1,n + 1,e,hw => by
    show En _ _ (@nw (nV n) e)
    unfold nw m2 m5
    refine En.bind (R := fun _ => True) ?_ fun y hy => .some trivial
    have hl := hw.1
    refine En.fixL (fun s => 0 ≤ s.2 ∧ s.2 ≤ (e.Args.length : Int)) (fun s => (e.Args.length - s.2).toNat) ⟨by simp only []; omega,by simp only []; omega⟩ ?_
    rintro ⟨m,i⟩ ⟨h1,h2⟩
    simp only [] at h1 h2
    show En _ _ (@ka (nV n) m i e)
    unfold ka
    refine En.bif (fun hc => ?_) fun _ => .some trivial
    have hc : i < (e.Args.length : Int) := by simpa using hc
    rw [pB]
    refine En.gd ⟨h1,hc⟩ (En.bind (R := fun _ => True) ((Dm h n _ (uC hw.2.1 i h1 hc)).imp (fun _ => by omega) fun _ _ => trivial) fun r _ => .some ?_)
    simp only []
    rw [bQ (by omega) (by omega)]
    omega
theorem z9 : ∀ (h n : Nat) (e : ar),WT h e → En (h ≤ n) (fun _ => True) ((nW n).F e)
  | 0,_,_,hw => hw.elim
  | h + 1,0,_,_ => .none (by omega)
  | h + 1,n + 1,e,hw => by
    show En _ _ (@kU (nW n) e)
    unfold kU lh
    refine En.bind ((Gu e.Op).imp (fun _ => trivial) fun _ h => h) fun r _ => En.bif (fun _ => .some trivial) fun _ => ?_
    generalize (bif (bif ((e.Value.Num == 0) && ((e.Value.Den == 0) && true)) then (e.Dim == 0) else false) then (e.Name.toList == (ao []).toList) else false) = zero
    unfold li
    refine En.bif (fun _ => ?_) fun _ => En.bif (fun _ => ?_) fun _ => En.bif (fun _ => .some trivial) fun _ => ?_
    · exact En.bind ((Bm e.Value e.Dim hw.2.2.2).imp (fun _ => trivial) fun _ h => h) fun _ _ => .some trivial
    · exact En.gd (fun _ => (Gd e.Name (by have := hw.2.2.1; omega)).isSome) (.some trivial)
    · unfold lg
      refine En.bind (R := fun _ => True) ?_ fun y hy => ?_
      · have hl := hw.1
        refine En.fixL (fun s => 0 ≤ s ∧ s ≤ (e.Args.length : Int)) (fun s => (e.Args.length - s).toNat) ⟨by omega,by omega⟩ ?_
        rintro i ⟨h1,h2⟩
        show En _ _ (@iQ (nW n) zero i e)
        unfold iQ
        refine En.bif (fun hc => ?_) fun _ => .some trivial
        have hc : i < (e.Args.length : Int) := by simpa using hc
        rw [pB]
        refine En.gd ⟨h1,hc⟩ (En.bind (R := fun _ => True) ((z9 h n _ (uC hw.2.1 i h1 hc)).imp (fun _ => by omega) fun _ _ => trivial) fun r _ => En.bif (fun _ => .some trivial) fun _ => .some ?_)
        simp only []
        rw [bQ (by omega) (by omega)]
        omega
      · rcases y with ⟨⟩ | ⟨⟩ <;> exact .some trivial
theorem Hy {tot : Prop} (h : Nat) (e : ar) (hw : WT h e) : En tot (fun _ => True) (fb e) := by
  unfold fb kq
  rw [pB]
  have h1 : En True (fun _ => True) (oN e) := En.lim h fun n => Bh h n e hw
  have h2 : En True (fun _ => True) (jB e) := En.lim h fun n => Dm h n e hw
  have h3 : En True (fun _ => True) (kJ e) := En.lim h fun n => z9 h n e hw
  exact En.bind (h1.imp (fun _ => trivial) fun _ h => h) fun r _ => En.gd (fun _ => h2.isSome) (En.gd (fun _ => h3.isSome) (.some trivial))
def fm (env : List al) : Prop := env.length ≤ 5 ∧ ∀ b ∈ env,b.Name.size ≤ 100
theorem fm.getD {env : List al} (h : fm env) (i : Nat) : (env.getD i cf).Name.size ≤ 100 := by
  rw [List.getD_eq_getElem?_getD]
  cases e : env[i]? with
  | none => exact (by rw [show ((none : Option al).getD cf).Name = ao [] from rfl,pM]; omega)
  | some b => exact h.2 b (List.mem_of_getElem? e)
def kC (h A : Nat) (y : ar × ab) : Prop := WT h y.1 ∧ fN A y.2
theorem kC.mono {h h' A A' : Nat} {y : ar × ab} (hy : kC h A y) (hh : h ≤ h') (hA : A ≤ A') : kC h' A' y := ⟨hy.1.le hh,hy.2.mono hA⟩
theorem Hj {tot : Prop} [bi] {A : Nat} (s : ab) (dim : Int) (env : List al) (names : List ByteArray) (hn : fc 16 names) (hs : fN A s) (hA : A ≤ 90000) : En tot (kC 1 (A + 4)) (eW dim names env s) := by
  have h0 := hn.1
  unfold eW
  have hw : ak ((names.length : Int) + 3) = names.length + 3 := bQ (by omega) (by omega)
  rw [hw]
  refine En.bind (jJ s _ hs (by omega) (by omega) (by omega)) fun y hy => En.bif (fun hc => En.gd ⟨hy.1,by simpa using hc⟩ (.some ⟨⟨by simp,by simp, ?_,si.zero⟩,hy.2.2.mono (by omega)⟩)) fun hc => En.bif (fun _ => ?_) fun _ => ?_
  · exact hn.getD _
  · refine En.bind (jJ y.2 5 hy.2.2 (by omega) (by omega) (by omega)) fun z hz => .some ⟨⟨by simp,by simp,by show (ao []).size ≤ 100; rw [pM]; omega, ?_⟩,hz.2.2.mono (by omega)⟩
    have h1 := hz.1
    have h2 := hz.2.1
    show si (aq.mk (ak (1 + z.1)) 1)
    rw [bQ (by omega) (by omega)]
    exact ⟨by simp only []; omega,by simp only []; omega,by simp,by simp⟩
  · refine En.bind (CQ y.2 hy.2.2 (by omega)) fun z hz => .some ⟨⟨by simp,by simp,by show (ao []).size ≤ 100; rw [pM]; omega,hz.1⟩,hz.2.mono (by omega)⟩
theorem Hx {tot : Prop} [bi] {A : Nat} (s : ab) (dim : Int) (env : List al) (he : fm env) (hs : fN A s) (hA : A ≤ 90000) (hd : dim ≠ 1) : En tot (kC 1 (A + 4)) (dE s dim env) := by
  unfold dE eS
  rw [show (dim == 1) = false from beq_false_of_ne hd,cond_false]
  refine En.bind ((CS dim).imp (fun _ => trivial) fun _ h => h) fun names hn => ?_
  unfold gp
  have hl := he.1
  refine En.bind (R := fc 16) ?_ fun y hy => Hj (ab.mk s.l s.at_ (ak (s.left - 1))) dim env y hy hs hA
  refine En.fixL (fun s => 0 ≤ s.2 ∧ s.2 ≤ (env.length : Int) ∧ fc (11 + s.2.toNat) s.1) (fun s => (env.length - s.2).toNat) ⟨by simp,by simp only []; omega,hn⟩ ?_
  rintro ⟨out,i⟩ ⟨h1,h2,h3⟩
  simp only [] at h1 h2 h3
  show En _ _ (eV dim env out i (ab.mk s.l s.at_ (ak (s.left - 1))))
  unfold eV
  refine En.bif (fun hc => ?_) fun hc => .some ⟨Nat.le_trans h3.1 (by omega),h3.2⟩
  have hlt : i < (env.length : Int) := by simpa using hc
  have hw : ak (i + 1) = i + 1 := bQ (by omega) (by omega)
  refine En.gd ⟨h1,hlt⟩ (En.bif (fun _ => En.gd ⟨h1,hlt⟩ (En.gd ?_ (.some ?_))) fun _ => .some ?_)
  · have := h3.1
    exact fK (by omega) (by omega)
  · simp only [hw]
    refine ⟨⟨by omega,by omega, ?_⟩,by omega⟩
    rw [show 11 + (i + 1).toNat = 11 + i.toNat + 1 by omega]
    exact h3.append (.one (he.getD _))
  · simp only [hw]
    exact ⟨⟨by omega,by omega,Nat.le_trans h3.1 (by omega),h3.2⟩,by omega⟩
theorem uz {tot : Prop} (n : Nat) {A : Nat} (s : ab) (dim : Int) (env : List al) (he : fm env) (hs : fN A s) (hA : A ≤ 90000) (hd : dim ≠ 1) : En (1 ≤ n) (kC 1 (A + 4)) ((iR n).F s dim env) := by
  cases n with
  | zero => exact .none (by omega)
  | succ n => exact @Hx _ (iR n) A s dim env he hs hA hd
theorem Hc (n : Nat) {A : Nat} (s : ab) (dim : Int) (env : List al) (he : fm env) (hs : fN A s) (hA : A ≤ 80000) : En (2 ≤ n) (kC 2 (A + 10)) ((iR n).F s dim env) := by
  by_cases hd : dim = 1
  · subst hd
    cases n with
    | zero => exact .none (by omega)
    | succ n =>
      show En _ _ (@dE (iR n) s 1 env)
      unfold dE eS
      rw [show ((1 : Int) == 1) = true from rfl,cond_true]
      refine En.bind (jJ (A := A) (ab.mk s.l s.at_ (ak (s.left - 1))) 3 hs (by omega) (by omega) (by omega)) fun x hx => En.bind (jJ x.2 6 hx.2.2 (by omega) (by omega) (by omega)) fun y hy => ?_
      have hw : ak (2 + x.1) ≠ 1 := by
        have := hx.1
        have := hx.2.1
        rw [bQ (by omega) (by omega)]
        omega
      refine En.bind ((uz (tot := True) n y.2 _ env he hy.2.2 (by omega) hw).imp (fun _ => by omega) fun _ h => h) fun a ha => En.bind ((uz (tot := True) n a.2 _ env he ha.2 (by omega) hw).imp (fun _ => by omega) fun _ h => h) fun b hb => .some ⟨⟨by simp, ?_,by show (ao []).size ≤ 100; rw [pM]; omega,si.zero⟩,hb.2⟩
      intro c hc
      rcases List.mem_cons.1 hc with rfl | hc
      · exact ha.1
      · rw [List.mem_singleton.1 hc]; exact hb.1
  · exact (uz (tot := True) n s dim env he hs (by omega) hd).imp (fun _ => by omega) fun y hy => hy.mono (by omega) (by omega)
theorem C3 {tot : Prop} {A : Nat} (s : ab) (dim : Int) (env : List al) (he : fm env) (hs : fN A s) (hA : A ≤ 80000) : En tot (kC 2 (A + 10)) (aO s dim env) :=
  En.lim 2 fun n => Hc n s dim env he hs hA
end Go.Ax
