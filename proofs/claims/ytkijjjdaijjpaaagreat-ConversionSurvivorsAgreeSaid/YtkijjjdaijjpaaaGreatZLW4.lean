import Derived.Test.YtkijjjdaijjpaaaGreatZLW2
import Derived.Test.YtkijjjdaijjpaaaGreatZLW3
set_option linter.all false
/- The survivors. -/
set_option maxRecDepth 100000
namespace Go.Ax
section
open Go.Proofs
def AQ (kind ref : Int) (f : aa) : Bool := bif f.Kind == kind then f.Ref == ref else false
def dj (l : List aa) (kind ref : Int) : List ac := (l.filter (AQ kind ref)).map fun f => f.Span
theorem Qd (l : List aa) (kind ref : Int) (hl : l.length ≤ 100000) : ∀ (n i : Nat) (out : List ac),l.length = i + n → out.length ≤ i →
    aN (eW kind ref l) (out,(i : Int)) = some (out ++ dj (l.drop i) kind ref) := by
  intro n
  induction n with
  | zero =>
    intro i out h ho
    have : i = l.length := by omega
    subst this
    rw [aV]
    show (gW kind ref out l ((l.length : Nat) : Int)).bind _ = _
    unfold gW
    rw [bH,cond_false,List.drop_length]
    simp [dj]
  | succ n ih =>
    intro i out h ho
    have hi : i < l.length := by omega
    rw [aV]
    show (gW kind ref out l (i : Int)).bind _ = _
    unfold gW
    have hc : ∀ x (r : List aa),dj (x :: r) kind ref = bif AQ kind ref x then x.Span :: dj r kind ref else dj r kind ref := by
      intro x r
      unfold dj
      rw [List.filter_cons]
      cases AQ kind ref x <;> rfl
    rw [cG hi,cond_true,an (bI hi),cM l _ i hi,ca (by omega),List.drop_eq_getElem_cons hi,hc]
    have e : (bif l[i].Kind == kind then l[i].Ref == ref else false) = AQ kind ref l[i] := rfl
    rw [e]
    cases AQ kind ref l[i] with
    | true =>
      rw [cond_true,an (xW (by omega)),Option.bind_some,cond_true]
      show aN (eW kind ref l) (out ++ [l[i].Span],((i + 1 : Nat) : Int)) = _
      rw [ih (i + 1) _ (by omega) (by simp; omega),List.append_assoc]
      rfl
    | false =>
      rw [cond_false,Option.bind_some,cond_false]
      show aN (eW kind ref l) (out,((i + 1 : Nat) : Int)) = _
      rw [ih (i + 1) _ (by omega) (by omega)]
theorem ou (l : List aa) (kind ref : Int) (hl : l.length ≤ 100000) : ck l kind ref = some (dj l kind ref) := by
  have := Qd l kind ref hl l.length 0 [] (by omega) (by simp)
  rw [show ((0 : Nat) : Int) = 0 from rfl,List.drop_zero,List.nil_append] at this
  show (aN (eW kind ref l) (([] : List ac),(0 : Int))).bind _ = _
  rw [this]
  rfl
theorem wG (l : List aa) (kind ref : Int) : (dj l kind ref).length ≤ l.length := by
  unfold dj
  rw [List.length_map]
  exact List.length_filter_le _ _
def dt (l : List aa) (p : Int) : List aa := l.filter (H5 p)
theorem xg (l : List aa) (p : Int) : (dt l p).length ≤ l.length := List.length_filter_le _ _
def jx (l : List aa) (p day : Int) : Bool := bif !(hT (dt l p) 12).2 then true else decide (day ≤ (hT (dt l p) 12).1)
theorem om (l : List aa) (p day : Int) (hl : l.length ≤ 100000) : dH l p day = some (jx l p day) := by
  show (dZ l p).bind _ = _
  rw [xu l p (by omega),Option.bind_some,y4 _ (by have := xg l p; unfold dt at this; omega),Option.bind_some]
  rfl
def oW (d : Int) (s : ac) : Bool := bif decide (s.From ≤ d) then decide (d < s.To) else false
def HM (d : Int) : Bool := !(bif decide (d < 0) then true else decide (73049 ≤ d))
def ml (l : List ac) (d : Int) : Bool := HM d && l.any (oW d)
theorem L8 (l : List ac) (d : Int) (hl : l.length ≤ 100000) : ∀ (n i : Nat),l.length = i + n → ∃ r : Int ⊕ Unit,aN (cm l d) (i : Int) = some r ∧ (match r with | .inl k => 0 ≤ k ∧ (l.drop i).any (oW d) = true | .inr _ => (l.drop i).any (oW d) = false) := by
  intro n
  induction n with
  | zero =>
    intro i h
    have : i = l.length := by omega
    subst this
    refine ⟨.inr (), ?_,by rw [List.drop_length]; rfl⟩
    rw [aV]
    show (bR l d ((l.length : Nat) : Int)).bind _ = _
    unfold bR
    rw [bH,cond_false]
    rfl
  | succ n ih =>
    intro i h
    have hi : i < l.length := by omega
    have hs : jk l[i] d = some (oW d l[i]) := rfl
    rw [aV]
    show ∃ r,(bR l d (i : Int)).bind _ = some r ∧ _
    unfold bR
    rw [cG hi,cond_true,an (bI hi),cM l _ i hi,hs,Option.bind_some,ca (by omega),List.drop_eq_getElem_cons hi,List.any_cons]
    cases oW d l[i] with
    | true => exact ⟨.inl (i : Int),rfl,by omega,rfl⟩
    | false =>
      rw [cond_false,Option.bind_some,Bool.false_or]
      exact ih (i + 1) (by omega)
theorem wv (l : List ac) (d : Int) (hl : l.length ≤ 100000) : iu l d = some (ml l d) := by
  show l4 l d = _
  unfold l4 ml HM
  cases (bif decide (d < (0 : Int)) then true else decide ((73049 : Int) ≤ d)) with
  | true => rfl
  | false =>
    obtain ⟨r,h1,h2⟩ := L8 l d hl l.length 0 (by omega)
    rw [show ((0 : Nat) : Int) = 0 from rfl,List.drop_zero] at *
    rw [cond_false,Bool.not_false,Bool.true_and]
    have : bQ l d = some (l.any (oW d)) := by
      show (bK l d).bind _ = _
      have e : bK l d = dx l d r := by
        show (aN (cm l d) (0 : Int)).bind _ = _
        rw [h1]; rfl
      rw [e]
      match r,h2 with
      | .inl k,h2 =>
        show some (decide ((0 : Int) ≤ k)) = _
        rw [h2.2,decide_eq_true h2.1]
      | .inr (),h2 =>
        rw [h2]; rfl
    rw [this]
    rfl
def jl (l : List aa) (c day : Int) : Nat → Int → Bool
  | 0,_ => false
  | n + 1,p => bif (bif p != c then (bif jx l p day then ml (dj (dt l p) 10 c) day else false) else false) then true else jl l c day n (p + 1)
theorem Oy (l : List aa) (c day : Int) (hl : l.length ≤ 100000) : ∀ (n : Nat) (p : Int),p + n = 100 → 1 ≤ p → ∃ r : Unit ⊕ Unit,aN (iE l c day) p = some r ∧ (r = .inl () ↔ jl l c day n p = true) := by
  intro n
  induction n with
  | zero =>
    intro p h h1
    refine ⟨.inr (), ?_,by simp [jl]⟩
    rw [aV]
    show (gn l c day p).bind _ = _
    unfold gn
    rw [decide_eq_false (by omega),cond_false]
    rfl
  | succ n ih =>
    intro p h h1
    have ho := xg l p
    have hr := wG (dt l p) 10 c
    have hw : ak (p + 1) = p + 1 := bG (by omega) (by omega)
    obtain ⟨r,i1,i2⟩ := ih (p + 1) (by omega) (by omega)
    have hof : dZ l p = some (dt l p) := xu l p (by omega)
    rw [aV]
    show ∃ r,(gn l c day p).bind _ = some r ∧ _
    unfold gn jl
    rw [decide_eq_true (by omega),cond_true,om l p day hl,Option.bind_some,hof,Option.bind_some,ou _ _ _ (by omega),Option.bind_some,wv _ _ (by omega),Option.bind_some,hw]
    cases (p != c) with
    | false =>
      rw [cond_false,Option.bind_some,cond_false,cond_false]
      exact ⟨r,i1,i2⟩
    | true =>
      rw [cond_true,cond_true]
      cases jx l p day with
      | false =>
        rw [cond_false,Option.bind_some,cond_false,cond_false]
        exact ⟨r,i1,i2⟩
      | true =>
        rw [cond_true,cond_true]
        cases ml (dj (dt l p) 10 c) day with
        | false =>
          rw [cond_false,Option.bind_some,cond_false]
          exact ⟨r,i1,i2⟩
        | true =>
          rw [cond_true,Option.bind_some,cond_true]
          exact ⟨.inl (),rfl,by simp⟩
theorem B7 (l : List aa) (c day : Int) (hl : l.length ≤ 100000) : j0 l c day = some (jl l c day 99 1) := by
  obtain ⟨r,h1,h2⟩ := Oy l c day hl 99 1 rfl (by omega)
  have e : j0 l c day = lS l c day r := by
    show (aN (iE l c day) (1 : Int)).bind _ = _
    rw [h1]; rfl
  rw [e]
  match r,h2 with
  | .inl (),h2 => rw [h2.1 rfl]; rfl
  | .inr (),h2 =>
    have : jl l c day 99 1 = false := by
      cases hb : jl l c day 99 1 with
      | false => rfl
      | true => cases h2.2 hb
    rw [this]; rfl
noncomputable def oP (own : List aa) (q died : Int) : Int := iA (eY (uN (dj own 14 q) ⟨0,died + 1⟩))
noncomputable def ur (l : List aa) (person day : Int) (own : List aa) (died q : Int) : Bool := bif (bif q != person then decide (0 < oP own q died) else false) then jx l q day else false
noncomputable def jZ (l : List aa) (person day : Int) (own : List aa) (died : Int) : Nat → Int → List af × List Bool → List af × List Bool
  | 0,_,s => s
  | n + 1,q,s => jZ l person day own died n (q + 1) (bif ur l person day own died q then (s.1 ++ [⟨q,1,oP own q died⟩],s.2.set q.toNat true) else s)
theorem M8 {n : Nat} (h : n ≤ 1000) : cL n 24 := ⟨by omega,by omega⟩
theorem EM : ∀ (a b : List ac),(kS a b).length ≤ a.length + b.length
  | [],b => by rw [sP]; simp
  | s :: r,[] => by rw [uW]; simp
  | s :: r,t :: u => by
    rw [uR,List.length_append]
    have h1 := Pm s t
    by_cases hc : s.To < t.To
    · rw [if_pos hc]
      have := EM r (t :: u)
      simp only [List.length_cons] at this ⊢
      omega
    · rw [if_neg hc]
      have := EM (s :: r) u
      simp only [List.length_cons] at this ⊢
      omega
termination_by a b => a.length + b.length
theorem K7 (l : List ac) (s : ac) : (uN l s).length ≤ l.length + 1 := by
  have h1 := (ng l).2.2
  have h2 : (eY [s]).length ≤ 1 := (ng [s]).2.2
  have h3 := EM (eY l) (eY [s])
  unfold uN
  omega
theorem MO (l : List aa) (person day : Int) (own : List aa) (died : Int) (hl : l.length ≤ 50000) (ho : own.length ≤ 50000) (hd : -1 ≤ died ∧ died ≤ 100000) : ∀ (n : Nat) (q : Int) (s : List af × List Bool),q + n = 100 → 1 ≤ q → s.1.length ≤ q → s.2.length = 100 →
    aN (gx l person day own died) (s.1,q,s.2) = some (jZ l person day own died n q s) := by
  intro n
  induction n with
  | zero =>
    intro q s h h1 h2 h3
    rw [aV]
    show (eG l person day own died s.1 q s.2).bind _ = _
    unfold eG
    rw [decide_eq_false (by omega),cond_false]
    rfl
  | succ n ih =>
    intro q s h h1 h2 h3
    have hr := wG own 14 q
    have hc := K7 (dj own 14 q) ⟨0,died + 1⟩
    have hw : ak (q + 1) = q + 1 := bG (by omega) (by omega)
    have hw2 : ak (died + 1) = died + 1 := bG (by omega) (by omega)
    rw [aV]
    show (eG l person day own died s.1 q s.2).bind _ = _
    unfold eG jZ
    rw [decide_eq_true (by omega),cond_true,ou own 14 q (by omega),Option.bind_some,hw2,Lx _ _ (by omega),Option.bind_some,L3 _ (by omega),Option.bind_some,om l q day (by omega),an (fun _ => Option.isSome_some),Option.getD_some,hw,an h3,an (by omega),an (M8 (by omega))]
    have e : (bif (bif q != person then decide (0 < iA (eY (uN (dj own 14 q) ⟨0,died + 1⟩))) else false) then jx l q day else false) = ur l person day own died q := rfl
    rw [e]
    cases ur l person day own died q with
    | true =>
      rw [cond_true,Option.bind_some,cond_true]
      exact ih (q + 1) (s.1 ++ [⟨q,1,oP own q died⟩],s.2.set q.toNat true) (by omega) (by omega) (by simp; omega) (by simp [h3])
    | false =>
      rw [cond_false,Option.bind_some,cond_false]
      exact ih (q + 1) s (by omega) (by omega) (by omega) h3
noncomputable def Nx (l : List aa) (person day : Int) (own : List aa) (sp : List Bool) (c : Int) : Bool := !(bif c == person then true else sp.getD c.toNat false) && (ml (dj own 10 c) day && jx l c day)
noncomputable def mO (l : List aa) (person day : Int) (own : List aa) (sp : List Bool) : Nat → Int → List af → List af
  | 0,_,out => out
  | n + 1,c,out => mO l person day own sp n (c + 1) (bif Nx l person day own sp c then out ++ [⟨c,bif jl l c day 99 1 then 2 else 3,0⟩] else out)
theorem LZ (l : List aa) (person day : Int) (own : List aa) (sp : List Bool) (out2 : List af) (hl : l.length ≤ 50000) (ho : own.length ≤ 50000) (h3 : sp.length = 100) : ∀ (n : Nat) (c : Int) (out : List af),c + n = 100 → 1 ≤ c → out.length ≤ 100 + c →
    aN (gv l person day own out2 sp) (out,c) = some (mO l person day own sp n c out) := by
  intro n
  induction n with
  | zero =>
    intro c out h h1 h2
    rw [aV]
    show (eH l person day own out c sp).bind _ = _
    unfold eH
    rw [decide_eq_false (by omega),cond_false]
    rfl
  | succ n ih =>
    intro c out h h1 h2
    have hr := wG own 10 c
    have hw : ak (c + 1) = c + 1 := bG (by omega) (by omega)
    have hp1 : ∀ o,cR l person day own o c sp = some (.inl (o,c + 1)) := by
      intro o
      unfold cR
      rw [hw]
    rw [aV]
    show (eH l person day own out c sp).bind _ = _
    unfold eH mO Nx
    simp only [hp1]
    rw [decide_eq_true (by omega),cond_true,an h3,an (by omega),ou own 10 c (by omega),Option.bind_some,wv _ _ (by omega),Option.bind_some,om l c day (by omega),Option.bind_some,B7 l c day (by omega),Option.bind_some,an (M8 (by omega)),an (M8 (by omega))]
    cases (c == person) with
    | true => rw [cond_true,Option.bind_some]; exact ih (c + 1) out (by omega) (by omega) (by omega)
    | false =>
      rw [cond_false,cond_false]
      cases sp.getD c.toNat false with
      | true => rw [cond_true,Option.bind_some]; exact ih (c + 1) out (by omega) (by omega) (by omega)
      | false =>
        rw [cond_false]
        cases ml (dj own 10 c) day with
        | false => exact ih (c + 1) out (by omega) (by omega) (by omega)
        | true =>
          rw [Bool.not_true,cond_false]
          cases jx l c day with
          | false => exact ih (c + 1) out (by omega) (by omega) (by omega)
          | true =>
            rw [Bool.not_true,cond_false]
            cases jl l c day 99 1 with
            | true => exact ih (c + 1) (out ++ [⟨c,2,0⟩]) (by omega) (by omega) (by simp; omega)
            | false => exact ih (c + 1) (out ++ [⟨c,3,0⟩]) (by omega) (by omega) (by simp; omega)
def hU : List Bool := List.replicate 100 false
noncomputable def jM (l : List aa) (person day died : Int) : List af × List Bool := jZ l person day (dt l person) died 99 1 ([],hU)
noncomputable def CP (l : List aa) (person day died : Int) : List af := mO l person day (dt l person) (jM l person day died).2 99 1 (jM l person day died).1
theorem sS (l : List aa) (person day : Int) (own : List aa) (died : Int) : ∀ (n : Nat) (q : Int) (s : List af × List Bool),(jZ l person day own died n q s).1.length ≤ s.1.length + n
  | 0,q,s => Nat.le_refl _
  | n + 1,q,s => by
    unfold jZ
    cases ur l person day own died q with
    | true =>
      have := sS l person day own died n (q + 1) (s.1 ++ [⟨q,1,oP own q died⟩],s.2.set q.toNat true)
      rw [cond_true]
      simp at this ⊢
      omega
    | false =>
      have := sS l person day own died n (q + 1) s
      rw [cond_false]
      omega
theorem zC (l : List aa) (person day : Int) (own : List aa) (died : Int) : ∀ (n : Nat) (q : Int) (s : List af × List Bool),(jZ l person day own died n q s).2.length = s.2.length
  | 0,q,s => rfl
  | n + 1,q,s => by
    unfold jZ
    rw [zC l person day own died n (q + 1)]
    cases ur l person day own died q <;> simp
noncomputable def yQ (l : List aa) (person day : Int) : List af :=
  bif (bif (bif (bif decide (person < 1) then true else decide (99 < person)) then true else decide (day < 0)) then true else decide (73048 < day)) then []
  else bif (bif !(hT (dt l person) 12).2 then true else decide (day ≤ (hT (dt l person) 12).1)) then []
  else (CP l person day (hT (dt l person) 12).1).take 12
theorem Lv (l : List aa) : -1 ≤ (hT l 12).1 ∧ (hT l 12).1 ≤ 100000 := by
  have key : ∀ (m : List aa) (a : Int × Bool),(∀ f ∈ m,bN f = true) → -1 ≤ a.1 ∧ a.1 ≤ 100000 → -1 ≤ (m.foldl (fun a f => Ef 12 f a) a).1 ∧ (m.foldl (fun a f => Ef 12 f a) a).1 ≤ 100000 := by
    intro m
    induction m with
    | nil => intro a _ h; exact h
    | cons f m ih =>
      intro a hv h
      rw [List.foldl_cons]
      refine ih _ (fun g hg => hv g (by simp [hg])) ?_
      unfold Ef
      split
      · next hc =>
        have := NG (hv f (by simp))
        show -1 ≤ f.Span.From ∧ f.Span.From ≤ 100000
        omega
      · exact h
  exact key _ (0,false) (fun f hf => by
    have := (List.mem_filter.1 hf).2
    unfold jm at this
    rw [Bool.and_eq_true] at this
    exact this.1) (by simp)
theorem pZ (f : List aa) (person day : Int) (hf : f.length ≤ 40000) : cY f person day = some (yQ ((dA f []).filter jm) person day) := by
  show jd f person day = _
  unfold jd yQ
  have hm := vX f []
  have hc := List.length_filter_le jm (dA f [])
  rw [IH f [] (by omega) (by simp),Option.bind_some,Gq _ (by simp at hm; omega),Option.bind_some]
  have hlen : ((dA f []).filter jm).length ≤ 40000 := by simp at hm; omega
  generalize (dA f []).filter jm = l at hlen
  have ho := xg l person
  have hof : dZ l person = some (dt l person) := xu l person (by omega)
  rw [hof,Option.bind_some,y4 _ (by omega),Option.bind_some]
  cases (bif (bif (bif decide (person < (1 : Int)) then true else decide ((99 : Int) < person)) then true else decide (day < (0 : Int))) then true else decide ((73048 : Int) < day)) with
  | true => rfl
  | false =>
    rw [cond_false,cond_false]
    cases (bif !(hT (dt l person) 12).2 then true else decide (day ≤ (hT (dt l person) 12).1)) with
    | true => rfl
    | false =>
      rw [cond_false,cond_false]
      have hd := Lv (dt l person)
      generalize (hT (dt l person) 12).1 = died at hd
      show (aN (gx l person day (dt l person) died) (([] : List af),(1 : Int),hU)).bind _ = _
      rw [show (([] : List af),(1 : Int),hU) = ((([] : List af),hU).1,(1 : Int),(([] : List af),hU).2) from rfl,MO l person day (dt l person) died (by omega) (by omega) hd 99 1 ([],hU) rfl (by omega) (by simp) (by simp [hU]),Option.bind_some]
      have hg : ∀ r : List af × List Bool,j7 l person day (dt l person) died r = (aN (gv l person day (dt l person) r.1 r.2) (r.1,(1 : Int))).bind (kr l person day (dt l person) r.1 r.2) := fun r => rfl
      have hS : jZ l person day (dt l person) died 99 1 ([],hU) = jM l person day died := by rw [jM]
      rw [hg,hS]
      have hsl : (jM l person day died).1.length ≤ 99 := by
        have := sS l person day (dt l person) died 99 1 ([],hU)
        rw [hS] at this
        simpa using this
      have hsp : (jM l person day died).2.length = 100 := by
        have := zC l person day (dt l person) died 99 1 ([],hU)
        rw [hS] at this
        rw [this]
        simp [hU]
      rw [LZ l person day (dt l person) (jM l person day died).2 (jM l person day died).1 (by omega) (by omega) hsp 99 1 (jM l person day died).1 rfl (by omega) (by omega),Option.bind_some]
      have hA : mO l person day (dt l person) (jM l person day died).2 99 1 (jM l person day died).1 = CP l person day died := by rw [CP]
      rw [hA]
      generalize CP l person day died = a
      show jc a = _
      unfold jc
      have h12 : (if (12 : Int) < ((a.length : Nat) : Int) then (12 : Int) else ((a.length : Nat) : Int)) = ((min 12 a.length : Nat) : Int) := by
        split <;> omega
      rw [h12,an (by omega)]
      congr 1
      rw [show Int.toNat (((min 12 a.length : Nat) : Int) - 0) = min 12 a.length by omega,rM (by omega),List.drop_zero]
      rcases Nat.le_total 12 a.length with h | h
      · rw [Nat.min_eq_left h]
      · rw [Nat.min_eq_right h,List.take_of_length_le h,List.take_length]
end
section
open Go.Proofs
theorem JO (a : List af) (hn : a.length ≤ 1000) : es a a = some true := by
  have key : ∀ n i : Nat,a.length = i + n → aN (hY a a) (i : Int) = some (.inr ()) := by
    intro n
    induction n with
    | zero =>
      intro i h
      have : i = a.length := by omega
      subst this
      rw [aV]
      show (eQ a a ((a.length : Nat) : Int)).bind _ = _
      unfold eQ
      rw [bH,cond_false]
      rfl
    | succ n ih =>
      intro i h
      have hi : i < a.length := by omega
      rw [aV]
      show (eQ a a (i : Int)).bind _ = _
      unfold eQ
      rw [cG hi,cond_true,an (bI hi),an (bI hi),beq_self_eq_true,beq_self_eq_true,beq_self_eq_true,ca (by omega)]
      exact ih (i + 1) (by omega)
  have := key a.length 0 (by omega)
  show jv a a = _
  unfold jv
  rw [bne_self_eq_false,cond_false]
  show (aN (hY a a) (0 : Int)).bind _ = _
  rw [show ((0 : Nat) : Int) = 0 from rfl] at this
  rw [this]
  rfl
theorem TU (l : List aa) (person day : Int) : (yQ l person day).length ≤ 12 := by
  unfold yQ
  cases (bif (bif (bif decide (person < 1) then true else decide (99 < person)) then true else decide (day < 0)) then true else decide (73048 < day)) with
  | true => simp
  | false =>
    rw [cond_false]
    cases (bif !(hT (dt l person) 12).2 then true else decide (day ≤ (hT (dt l person) 12).1)) with
    | true => simp
    | false => rw [cond_false,List.length_take]; omega
end
section
open Go.Proofs
end
section
open Go.Proofs
theorem uf (l : List aa) (p day : Int) (hl : l.length ≤ 100000) : dQ l p day = some (jx l p day) := by
  show (jY l p).bind _ = _
  rw [GZ l p (by omega),Option.bind_some,Bo _ (by have := xg l p; unfold dt at this; omega),Option.bind_some]
  rfl
theorem DN (x : aa) (r : List aa) (p kind ref : Int) : dj (dt (x :: r) p) kind ref = bif (bif (bif x.Person == p then x.Kind == kind else false) then x.Ref == ref else false) then x.Span :: dj (dt r p) kind ref else dj (dt r p) kind ref := by
  unfold dj dt
  rw [List.filter_cons]
  unfold H5
  cases h1 : (x.Person == p) with
  | false => rfl
  | true =>
    rw [cond_true,if_pos rfl,List.filter_cons]
    have e : AQ kind ref x = bif x.Kind == kind then x.Ref == ref else false := rfl
    rw [e]
    cases (x.Kind == kind) <;> cases (x.Ref == ref) <;> rfl
theorem LK (l : List aa) (p q d : Int) (hl : l.length ≤ 100000) : ∀ (n i : Nat) (out : List ac),l.length = i + n → out.length ≤ i →
    aN (iq l p q d) (out,(i : Int)) = some (out ++ dj (dt (l.drop i) p) 14 q) := by
  intro n
  induction n with
  | zero =>
    intro i out h ho
    have : i = l.length := by omega
    subst this
    rw [aV]
    show (jq l p q d out ((l.length : Nat) : Int)).bind _ = _
    unfold jq
    rw [bH,cond_false,List.drop_length]
    simp [dj,dt]
  | succ n ih =>
    intro i out h ho
    have hi : i < l.length := by omega
    have hx := bI hi
    rw [aV]
    show (jq l p q d out (i : Int)).bind _ = _
    unfold jq
    rw [cG hi,cond_true,an hx,cM l _ i hi,an (fun _ => hx.1),an (fun _ => hx.2),an (fun _ => hx.1),an (fun _ => hx.2),an hx,ca (by omega),List.drop_eq_getElem_cons hi,DN]
    cases (bif (bif l[i].Person == p then l[i].Kind == 14 else false) then l[i].Ref == q else false) with
    | true =>
      rw [cond_true,an (xW (by omega)),Option.bind_some,cond_true]
      show aN (iq l p q d) (out ++ [l[i].Span],((i + 1 : Nat) : Int)) = _
      rw [ih (i + 1) _ (by omega) (by simp; omega),List.append_assoc]
      rfl
    | false =>
      rw [cond_false,Option.bind_some,cond_false]
      show aN (iq l p q d) (out,((i + 1 : Nat) : Int)) = _
      rw [ih (i + 1) _ (by omega) (by omega)]
theorem Hj (l : List aa) (p q d : Int) (hl : l.length ≤ 50000) (hd : -1 ≤ d ∧ d ≤ 100000) : nL l p q d = some (oP (dt l p) q d) := by
  have := LK l p q d (by omega) l.length 0 [] (by omega) (by simp)
  rw [show ((0 : Nat) : Int) = 0 from rfl,List.drop_zero,List.nil_append] at this
  show (aN (iq l p q d) (([] : List ac),(0 : Int))).bind _ = _
  rw [this,Option.bind_some]
  show m9 d (dj (dt l p) 14 q) = _
  unfold m9 oP
  have h1 := wG (dt l p) 14 q
  have h2 := xg l p
  have h3 := K7 (dj (dt l p) 14 q) ⟨0,d + 1⟩
  rw [bG (n := d + 1) (by omega) (by omega),ML _ _ (by omega),Option.bind_some,Nq _ (by omega)]
  rfl
theorem N7 (l : List aa) (p c day : Int) (hl : l.length ≤ 100000) : ∀ (n i : Nat),l.length = i + n → ∃ r : Unit ⊕ Unit,aN (lx l p c day) (i : Int) = some r ∧ (r = .inl () ↔ (dj (dt (l.drop i) p) 10 c).any (oW day) = true) := by
  intro n
  induction n with
  | zero =>
    intro i h
    have : i = l.length := by omega
    subst this
    refine ⟨.inr (), ?_,by rw [List.drop_length]; simp [dj,dt]⟩
    rw [aV]
    show (jI l p c day ((l.length : Nat) : Int)).bind _ = _
    unfold jI
    rw [bH,cond_false]
    rfl
  | succ n ih =>
    intro i h
    have hi : i < l.length := by omega
    have hx := bI hi
    obtain ⟨r,i1,i2⟩ := ih (i + 1) (by omega)
    rw [aV]
    show ∃ r,(jI l p c day (i : Int)).bind _ = some r ∧ _
    unfold jI
    rw [cG hi,cond_true,an hx,cM l _ i hi,an (fun _ => hx.1),an (fun _ => hx.2),an (fun _ => hx.1),an (fun _ => hx.2),an (fun _ => hx.1),an (fun _ => hx.2),an (fun _ => hx.1),an (fun _ => hx.2),ca (by omega),List.drop_eq_getElem_cons hi,DN]
    cases (bif (bif l[i].Person == p then l[i].Kind == 10 else false) then l[i].Ref == c else false) with
    | false =>
      rw [cond_false,cond_false,cond_false,Option.bind_some,cond_false]
      exact ⟨r,i1,i2⟩
    | true =>
      rw [cond_true,cond_true,List.any_cons]
      have e : (bif decide (l[i].Span.From ≤ day) then decide (day < l[i].Span.To) else false) = oW day l[i].Span := rfl
      rw [e]
      cases oW day l[i].Span with
      | true => exact ⟨.inl (),rfl,by simp⟩
      | false =>
        rw [cond_false,Option.bind_some,Bool.false_or]
        exact ⟨r,i1,i2⟩
theorem yJ (l : List aa) (p c day : Int) (hl : l.length ≤ 100000) (hd : HM day = true) : iR l p c day = some (ml (dj (dt l p) 10 c) day) := by
  obtain ⟨r,h1,h2⟩ := N7 l p c day hl l.length 0 (by omega)
  rw [show ((0 : Nat) : Int) = 0 from rfl,List.drop_zero] at *
  have e : iR l p c day = qa l p c day r := by
    show (aN (lx l p c day) (0 : Int)).bind _ = _
    rw [h1]; rfl
  unfold ml
  rw [e,hd,Bool.true_and]
  match r,h2 with
  | .inl (),h2 => rw [h2.1 rfl]; rfl
  | .inr (),h2 =>
    have : (dj (dt l p) 10 c).any (oW day) = false := by
      cases hb : (dj (dt l p) 10 c).any (oW day) with
      | false => rfl
      | true => cases h2.2 hb
    rw [this]; rfl
theorem LD (l : List aa) (person day died : Int) (hl : l.length ≤ 50000) (hd : -1 ≤ died ∧ died ≤ 100000) : ∀ (n : Nat) (q : Int) (s : List af × List Bool),q + n = 100 → 1 ≤ q → s.1.length ≤ q → s.2.length = 100 →
    aN (mN person day l died) (s.1,q,s.2) = some (jZ l person day (dt l person) died n q s) := by
  intro n
  induction n with
  | zero =>
    intro q s h h1 h2 h3
    rw [aV]
    show (kA person day l died s.1 q s.2).bind _ = _
    unfold kA
    rw [decide_eq_false (by omega),cond_false]
    rfl
  | succ n ih =>
    intro q s h h1 h2 h3
    have hw : ak (q + 1) = q + 1 := bG (by omega) (by omega)
    rw [aV]
    show (kA person day l died s.1 q s.2).bind _ = _
    unfold kA jZ
    rw [decide_eq_true (by omega),cond_true,Hj l person q died hl hd,Option.bind_some,uf l q day (by omega),an (fun _ => Option.isSome_some),Option.getD_some,hw,an h3,an (by omega),an (M8 (by omega))]
    have e : (bif (bif q != person then decide (0 < oP (dt l person) q died) else false) then jx l q day else false) = ur l person day (dt l person) died q := rfl
    rw [e]
    cases ur l person day (dt l person) died q with
    | true =>
      rw [cond_true,Option.bind_some,cond_true]
      exact ih (q + 1) (s.1 ++ [⟨q,1,oP (dt l person) q died⟩],s.2.set q.toNat true) (by omega) (by omega) (by simp; omega) (by simp [h3])
    | false =>
      rw [cond_false,Option.bind_some,cond_false]
      exact ih (q + 1) s (by omega) (by omega) (by omega) h3
theorem UN (l : List aa) (person day : Int) (out9 : List af) (c4 : Int) (sp : List Bool) (hl : l.length ≤ 50000) (hd : HM day = true) (hdead : jx l person day = false) (out : List af) (c : Int) : ∀ (n : Nat) (r kind : Int),r + n = 100 → 1 ≤ r →
    aN (mq person day l out9 c4 sp) (out,c,kind,r) = some (out,c,bif jl l c day n r then 2 else kind) := by
  intro n
  induction n with
  | zero =>
    intro r kind h h1
    rw [aV]
    show (kI person day l out c kind r sp).bind _ = _
    unfold kI
    rw [decide_eq_false (by omega),cond_false]
    rfl
  | succ n ih =>
    intro r kind h h1
    have hw : ak (r + 1) = r + 1 := bG (by omega) (by omega)
    rw [aV]
    show (kI person day l out c kind r sp).bind _ = _
    unfold kI jl
    rw [decide_eq_true (by omega),cond_true,uf l r day (by omega),an (fun _ => Option.isSome_some),yJ l r c day (by omega) hd,an (fun _ => Option.isSome_some),Option.getD_some,Option.getD_some,hw]
    have e : (bif (bif (bif (r != person) then (r != c) else false) then jx l r day else false) then ml (dj (dt l r) 10 c) day else false) = (bif r != c then (bif jx l r day then ml (dj (dt l r) 10 c) day else false) else false) := by
      by_cases hp : r = person
      · rw [hp,hdead,bne_self_eq_false]
        cases (person != c) <;> rfl
      · have : (r != person) = true := by rw [bne_iff_ne]; exact hp
        rw [this]
        cases (r != c) <;> cases jx l r day <;> rfl
    rw [e]
    cases (bif r != c then (bif jx l r day then ml (dj (dt l r) 10 c) day else false) else false) with
    | true =>
      rw [cond_true,Option.bind_some,cond_true,cond_true]
      show aN (mq person day l out9 c4 sp) (out,c,2,r + 1) = _
      rw [ih (r + 1) 2 (by omega) (by omega)]
      cases jl l c day n (r + 1) <;> rfl
    | false =>
      rw [cond_false,Option.bind_some,cond_false]
      exact ih (r + 1) kind (by omega) (by omega)
theorem JV (l : List aa) (person day : Int) (sp : List Bool) (out2 : List af) (hl : l.length ≤ 50000) (hd : HM day = true) (hdead : jx l person day = false) (h3 : sp.length = 100) : ∀ (n : Nat) (c : Int) (out : List af),c + n = 100 → 1 ≤ c → out.length ≤ 100 + c →
    aN (mx person day l out2 sp) (out,c) = some (mO l person day (dt l person) sp n c out) := by
  intro n
  induction n with
  | zero =>
    intro c out h h1 h2
    rw [aV]
    show (kB person day l out c sp).bind _ = _
    unfold kB
    rw [decide_eq_false (by omega),cond_false]
    rfl
  | succ n ih =>
    intro c out h h1 h2
    have hw : ak (c + 1) = c + 1 := bG (by omega) (by omega)
    have hp1 : ∀ o,mH person day l o c sp = some (.inl (o,c + 1)) := by
      intro o
      unfold mH
      rw [hw]
    have hp4 : pp person day l out c sp = some (.inl (out ++ [⟨c,bif jl l c day 99 1 then 2 else 3,0⟩],c + 1)) := by
      unfold pp
      rw [UN l person day out c sp hl hd hdead out c 99 1 3 rfl (by omega),Option.bind_some]
      show pk person day l out c (bif jl l c day 99 1 then 2 else 3) sp = _
      unfold pk
      rw [an (M8 (by omega)),hp1]
    rw [aV]
    show (kB person day l out c sp).bind _ = _
    unfold kB
    rw [decide_eq_true (by omega),cond_true]
    show (pn person day l out c sp).bind _ = _
    unfold pn mO Nx
    rw [an (fun _ => h3),an (fun _ => by omega),an (fun _ => by omega),uf l c day (by omega),an (fun _ => Option.isSome_some),yJ l person c day (by omega) hd,an (fun _ => Option.isSome_some),Option.getD_some,Option.getD_some,hp1,hp4]
    cases (bif c == person then true else sp.getD (Int.toNat c) false) with
    | true => exact ih (c + 1) out (by omega) (by omega) (by omega)
    | false =>
      rw [cond_false,Bool.not_false,Bool.true_and]
      cases jx l c day with
      | false =>
        cases ml (dj (dt l person) 10 c) day <;> exact ih (c + 1) out (by omega) (by omega) (by omega)
      | true =>
        cases ml (dj (dt l person) 10 c) day with
        | false => exact ih (c + 1) out (by omega) (by omega) (by omega)
        | true => exact ih (c + 1) (out ++ [⟨c,bif jl l c day 99 1 then 2 else 3,0⟩]) (by omega) (by omega) (by simp; omega)
theorem Be (f : List aa) (person day : Int) (hf : f.length ≤ 40000) : iD f person day = some (yQ ((dA f []).filter jm) person day) := by
  have hm := vX f []
  have hc := List.length_filter_le jm (dA f [])
  have hfacts : lP f = some ((dA f []).filter jm) := by
    show (lR f []).bind _ = _
    rw [KI f [] (by omega) (by simp),Option.bind_some, ← IO,ye _ (by simp at hm; omega)]
    rfl
  show oE f person day = _
  unfold oE yQ
  have hlen : ((dA f []).filter jm).length ≤ 40000 := by simp at hm; omega
  have hv : eL day = some (bif decide (0 ≤ day) then decide (day ≤ 73048) else false) := rfl
  rw [hv,an (fun _ => Option.isSome_some),Option.getD_some,hfacts,Option.bind_some]
  generalize (dA f []).filter jm = l at hlen
  have ho := xg l person
  have hof : jY l person = some (dt l person) := GZ l person (by omega)
  rw [hof,Option.bind_some,Bo _ (by omega),Option.bind_some]
  have econd : (bif (bif decide (person < 1) then true else decide (99 < person)) then true else !(bif decide (0 ≤ day) then decide (day ≤ 73048) else false)) = (bif (bif (bif decide (person < 1) then true else decide (99 < person)) then true else decide (day < 0)) then true else decide (73048 < day)) := by
    by_cases a : 0 ≤ day
    · by_cases b : day ≤ 73048
      · rw [decide_eq_true a,decide_eq_true b,decide_eq_false (show ¬ day < 0 by omega),decide_eq_false (show ¬ 73048 < day by omega)]
        cases decide (person < 1) <;> cases decide (99 < person) <;> rfl
      · rw [decide_eq_true a,decide_eq_false b,decide_eq_false (show ¬ day < 0 by omega),decide_eq_true (show 73048 < day by omega)]
        cases decide (person < 1) <;> cases decide (99 < person) <;> rfl
    · rw [decide_eq_false a,decide_eq_true (show day < 0 by omega)]
      cases decide (person < 1) <;> cases decide (99 < person) <;> rfl
  rw [econd]
  cases hcond : (bif (bif (bif decide (person < (1 : Int)) then true else decide ((99 : Int) < person)) then true else decide (day < (0 : Int))) then true else decide ((73048 : Int) < day)) with
  | true => rfl
  | false =>
    rw [cond_false,cond_false]
    have hday : HM day = true := by
      unfold HM
      rw [lm,Bool.or_eq_false_iff,lm,Bool.or_eq_false_iff,decide_eq_false_iff_not,decide_eq_false_iff_not] at hcond
      rw [decide_eq_false hcond.1.2,decide_eq_false (by omega)]
      rfl
    cases hdead : (bif !(hT (dt l person) 12).2 then true else decide (day ≤ (hT (dt l person) 12).1)) with
    | true => rfl
    | false =>
      rw [cond_false,cond_false]
      have hal : jx l person day = false := hdead
      have hd := Lv (dt l person)
      generalize (hT (dt l person) 12).1 = died at hd
      show (aN (mN person day l died) (([] : List af),(1 : Int),hU)).bind _ = _
      rw [show (([] : List af),(1 : Int),hU) = ((([] : List af),hU).1,(1 : Int),(([] : List af),hU).2) from rfl,LD l person day died (by omega) hd 99 1 ([],hU) rfl (by omega) (by simp) (by simp [hU]),Option.bind_some]
      have hg : ∀ r : List af × List Bool,qd person day l died r = (aN (mx person day l r.1 r.2) (r.1,(1 : Int))).bind (rD person day l r.1 r.2) := fun r => rfl
      have hS : jZ l person day (dt l person) died 99 1 ([],hU) = jM l person day died := by rw [jM]
      rw [hg,hS]
      have hsl : (jM l person day died).1.length ≤ 99 := by
        have := sS l person day (dt l person) died 99 1 ([],hU)
        rw [hS] at this
        simpa using this
      have hsp : (jM l person day died).2.length = 100 := by
        have := zC l person day (dt l person) died 99 1 ([],hU)
        rw [hS] at this
        rw [this]
        simp [hU]
      rw [JV l person day (jM l person day died).2 (jM l person day died).1 (by omega) hday hal hsp 99 1 (jM l person day died).1 rfl (by omega) (by omega),Option.bind_some]
      have hA : mO l person day (dt l person) (jM l person day died).2 99 1 (jM l person day died).1 = CP l person day died := by rw [CP]
      rw [hA]
      generalize CP l person day died = a
      show pL a = _
      unfold pL
      have h12 : (if (12 : Int) < ((a.length : Nat) : Int) then (12 : Int) else ((a.length : Nat) : Int)) = ((min 12 a.length : Nat) : Int) := by
        split <;> omega
      rw [h12,an (by omega)]
      congr 1
      rw [show Int.toNat (((min 12 a.length : Nat) : Int) - 0) = min 12 a.length by omega,rM (by omega),List.drop_zero]
      rcases Nat.le_total 12 a.length with h | h
      · rw [Nat.min_eq_left h]
      · rw [Nat.min_eq_right h,List.take_of_length_le h,List.take_length]
theorem uo (n : List Int) (l : List s6) (person day : Int) (hn : n.length ≤ maxLen) : iH n l person day = some true := by
  have hmax : maxLen ≤ 9223372036854775807 := by decide
  obtain ⟨a,a1,a2,_⟩ := Jn n (Nat.le_trans hn hmax)
  obtain ⟨b,b1,b2,_⟩ := Js l
  have hf : (a ++ b).length = a.length + b.length := List.length_append
  show eE n l person day = _
  unfold eE
  rw [a1,Option.bind_some,b1,Option.bind_some,an (lL (by omega)),bL person 5 (by omega) (by omega),Option.bind_some,bL day 5000 (by omega) (by omega),Option.bind_some,KA,Option.bind_some,cond_true]
  have hs : ∀ p d,es (yQ ((dA (a ++ b) []).filter jm) p d) (yQ ((dA (a ++ b) []).filter jm) p d) = some true := fun p d => JO _ (by have := TU ((dA (a ++ b) []).filter jm) p d; omega)
  rw [pZ (a ++ b) _ _ (by omega),Option.bind_some,Be (a ++ b) _ _ (by omega),Option.bind_some,hs,Option.bind_some,cond_true,pZ (a ++ b) _ _ (by omega),Option.bind_some,Be (a ++ b) _ _ (by omega),Option.bind_some,hs]
  rfl
end
end Go.Ax
