import Derived.Test.YtkijjjdaijjpaaaGreatZL0
import Derived.Test.YtkijjjdaijjpaaaGreatZFs
import Derived.Test.YtkijjjdaijjpaaaGreatZLW1
set_option linter.all false
/- The conversion's days, and what awake gives. -/
set_option maxRecDepth 100000
namespace Go.Ax
theorem Ll {T : Type} {f : Int → Option (Int ⊕ (Int ⊕ Unit))} (l : List T) (p : T → Bool) (hl : l.length ≤ 9223372036854775807)
    (hf : ∀ (i : Nat) (hi : i < l.length),f (i : Int) = some (if p l[i] then .inr (.inl (i : Int)) else .inl (ak ((i : Int) + 1))))
    (he : f (l.length : Int) = some (.inr (.inr ()))) : ∀ (n i : Nat),l.length = i + n → aN f (i : Int) = some (match (l.drop i).findIdx? p with | some k => .inl (((i + k : Nat)) : Int) | none => .inr ())
  | 0,i,h => by
    have : i = l.length := by omega
    subst this
    rw [aV,he,List.drop_length]
    rfl
  | n + 1,i,h => by
    have hi : i < l.length := by omega
    rw [aV,hf i hi,List.drop_eq_getElem_cons hi,List.findIdx?_cons]
    cases hp : p l[i] with
    | true => simp
    | false =>
      rw [if_neg (by simp),ca (by omega)]
      show aN f ((i + 1 : Nat) : Int) = _
      rw [Ll l p hl hf he n (i + 1) (by omega)]
      cases hq : (l.drop (i + 1)).findIdx? p with
      | none => rfl
      | some k => simp; omega
def EC {T : Type} (p : T → Bool) (l : List T) : Int := match l.findIdx? p with | some k => (k : Int) | none => -1
theorem Ju {T : Type} {f : Int → Option (Int ⊕ (Int ⊕ Unit))} (l : List T) (p : T → Bool) (hl : l.length ≤ 9223372036854775807)
    (hf : ∀ (i : Nat) (hi : i < l.length),f (i : Int) = some (if p l[i] then .inr (.inl (i : Int)) else .inl (ak ((i : Int) + 1))))
    (he : f (l.length : Int) = some (.inr (.inr ()))) : aN f 0 = some (match l.findIdx? p with | some k => .inl (k : Int) | none => .inr ()) := by
  have := Ll l p hl hf he l.length 0 (by omega)
  simpa using this
def Cy (old n : ay) : Bool := (n.State == old.State && n.Benefit == 1) && decide (0 < n.Amount)
def Hx (old n : ay) : Bool := (n.State == old.State && n.Benefit == 2) && n.Currency == old.Currency
theorem L6 (l : List ay) (x : ay) (hl : l.length ≤ 2513169434843) : cf l x = some (EC (Cy x) l) := by
  show (aN (cW l x) 0).bind _ = _
  rw [Ju l (Cy x) (by omega) ?_ ?_,Option.bind_some]
  · unfold EC
    cases l.findIdx? (Cy x) <;> rfl
  · intro i hi
    show bZ l x i = _
    unfold bZ
    rw [cG hi,cond_true,an (bI hi),cM l cF i hi]
    show (jb l[i] x).bind _ = _
    unfold jb
    rw [Option.bind_some,iN,iN]
    show (bif Cy x l[i] then _ else _) = _
    cases Cy x l[i] <;> rfl
  · show bZ l x l.length = _
    unfold bZ
    rw [bH,cond_false]
theorem LG (l : List ay) (x : ay) (hl : l.length ≤ 2513169434843) : bu l x = some (EC (Hx x) l) := by
  show (aN (cU l x) 0).bind _ = _
  rw [Ju l (Hx x) (by omega) ?_ ?_,Option.bind_some]
  · unfold EC
    cases l.findIdx? (Hx x) <;> rfl
  · intro i hi
    show bY l x i = _
    unfold bY
    rw [cG hi,cond_true,an (bI hi),cM l cF i hi]
    show (je l[i] x).bind _ = _
    unfold je
    rw [Option.bind_some,iN,iN]
    show (bif Hx x l[i] then _ else _) = _
    cases Hx x l[i] <;> rfl
  · show bY l x l.length = _
    unfold bY
    rw [bH,cond_false]
theorem TO {T : Type} (p : T → Bool) (l : List T) : (EC p l = -1 ∧ l.findIdx? p = none) ∨ ∃ k, ∃ h : k < l.length,EC p l = (k : Int) ∧ l.findIdx? p = some k ∧ p l[k] = true := by
  unfold EC
  cases h : l.findIdx? p with
  | none => exact .inl ⟨rfl,rfl⟩
  | some k =>
    obtain ⟨h1,h2,_⟩ := List.findIdx?_eq_some_iff_getElem.1 h
    exact .inr ⟨k,h1,rfl,rfl,h2⟩
def uY (l : List ay) (x : ay) (i : Nat) (s : List Int × List Bool) : List Int × List Bool :=
  if EC (Cy x) l = (i : Int) then (match l.findIdx? (Hx x) with | some k => (s.1.set i (max x.Amount (l.getD k cF).Amount),s.2.set k true) | none => s) else s
def FX : List ay → List Int → List Bool → List ay
  | x :: l,a :: am,b :: lf => if b then FX l am lf else ⟨x.State,x.Benefit,x.Currency,x.Independent,x.ProRata,x.Deducted,a⟩ :: FX l am lf
  | _,_,_ => []
def FP {R : Type} (l : List ay) (x : ay) (a : (List Int × List Bool) × Nat) : ((List Int × List Bool) × Nat) ⊕ R := .inl (uY l x a.2 a.1,a.2 + 1)
def vh (l : List ay) : List Int × List Bool := mX (FP l) (·.1) l ((l.map (·.Amount),List.replicate l.length false),0)
def WD (l : List ay) : List ay := FX l (vh l).1 (vh l).2
theorem Lu {l : List ay} {x : ay} {i : Nat} {s : List Int × List Bool} : (uY l x i s).1.length = s.1.length ∧ (uY l x i s).2.length = s.2.length := by
  unfold uY
  split
  · split <;> simp
  · simp
theorem IB (l : List ay) : ∀ (r : List ay) (a : (List Int × List Bool) × Nat),(mX (FP l) (·.1) r a).1.length = a.1.1.length ∧ (mX (FP l) (·.1) r a).2.length = a.1.2.length
  | [],a => ⟨rfl,rfl⟩
  | x :: r,a => by
    show (mX (FP l) (·.1) r (uY l x a.2 a.1,a.2 + 1)).1.length = _ ∧ (mX (FP l) (·.1) r (uY l x a.2 a.1,a.2 + 1)).2.length = _
    have := IB l r (uY l x a.2 a.1,a.2 + 1)
    have h2 := @Lu l x a.2 a.1
    exact ⟨this.1.trans h2.1,this.2.trans h2.2⟩
theorem RX (l : List ay) : (vh l).1.length = l.length ∧ (vh l).2.length = l.length := by
  have := IB l l ((l.map (·.Amount),List.replicate l.length false),0)
  simpa [vh] using this
theorem aiv (a b : Int) : (if a < b then b else a) = max a b := by omega
theorem Qr (l : List ay) (am0 : List Int) (lf0 : List Bool) (hl : l.length ≤ 2513169434843) : aN (fj l am0 lf0) (l.map (·.Amount),List.replicate l.length false,0) = some (vh l) := by
  have := kg (f := fj l am0 lf0) l (fun i (a : (List Int × List Bool) × Nat) => (a.1.1,a.1.2,(i : Int))) (fun i a => a.2 = i ∧ a.1.1.length = l.length ∧ a.1.2.length = l.length) (FP l) (·.1) ((l.map (·.Amount),List.replicate l.length false),0) ⟨rfl,by simp,by simp⟩ ?_ ?_ ?_
  · exact this
  · rintro i hi ⟨⟨am,lf⟩,j⟩ ⟨rfl,h1,h2⟩
    show fu l am lf j = some (.inl ((uY l l[j] j (am,lf)).1,(uY l l[j] j (am,lf)).2,((j + 1 : Nat) : Int)))
    have h1 : am.length = l.length := h1
    have h2 : lf.length = l.length := h2
    have hi : j < l.length := hi
    unfold fu
    rw [cG hi,cond_true,an (bI hi),cM l cF j hi,L6 l _ hl,Option.bind_some,ca (by omega)]
    unfold uY
    by_cases hc : EC (Cy l[j]) l = (j : Int)
    · rw [show (EC (Cy l[j]) l != (j : Int)) = false from by rw [hc]; simp,cond_false,if_pos hc,LG l _ hl,Option.bind_some]
      rcases TO (Hx l[j]) l with ⟨e1,e2⟩ | ⟨k,hk,e1,e2,e3⟩
      · rw [e1,e2,decide_eq_false (by omega),cond_false]
      · rw [e1,e2,decide_eq_true (by omega),cond_true,an (bI hk),an (by omega),an (by omega),Nat.zero_add,Nat.zero_add,Int.toNat_natCast,Int.toNat_natCast,aiv]
    · rw [show (EC (Cy l[j]) l != (j : Int)) = true from by simpa using hc,cond_true,if_neg hc]
  · rintro i hi ⟨⟨am,lf⟩,j⟩ a' ⟨rfl,h1,h2⟩ hg
    cases hg
    have := @Lu l l[j] j (am,lf)
    exact ⟨rfl,this.1.trans h1,this.2.trans h2⟩
  · rintro ⟨⟨am,lf⟩,j⟩ ⟨h0,h1,h2⟩
    show fu l am lf l.length = _
    unfold fu
    rw [bH,cond_false]
theorem Df {T : Type} (v : T) : ∀ (l : List T) (i : Nat),i < l.length → (l.set i v).take (i + 1) = l.take i ++ [v]
  | [],i,h => by simp at h
  | x :: l,0,h => by simp
  | x :: l,i + 1,h => by
    have := Df v l i (by simpa using h)
    simp [this]
theorem HY (l : List ay) (lf : List Bool) (am0 : List Int) (hl : l.length ≤ 2513169434843) : ∀ (n i : Nat) (am : List Int),l.length = i + n → am.length = l.length → aN (fq l am0 lf) (am,(i : Int)) = some (am.take i ++ (l.drop i).map (·.Amount))
  | 0,i,am,h,ha => by
    have : i = l.length := by omega
    subst this
    rw [aV]
    show (fB l am lf l.length).bind _ = _
    unfold fB
    rw [bH,cond_false,List.drop_length,List.take_of_length_le (by omega)]
    simp
  | n + 1,i,am,h,ha => by
    have hi : i < l.length := by omega
    rw [aV]
    show (fB l am lf i).bind _ = _
    unfold fB
    rw [cG hi,cond_true,an (bI hi),an (by omega),cM l cF i hi,ca (by omega),Nat.zero_add,Int.toNat_natCast]
    show aN (fq l am0 lf) (am.set i l[i].Amount,((i + 1 : Nat) : Int)) = _
    rw [HY l lf am0 hl n (i + 1) _ (by omega) (by simpa using ha),List.drop_eq_getElem_cons hi,List.map_cons]
    rw [Df _ _ _ (by omega),List.append_assoc]
    rfl
theorem Ca (l : List ay) (am : List Int) (lf : List Bool) (a0 : List Int) (b0 : List Bool) (hl : l.length ≤ 2513169434843) (h1 : am.length = l.length) (h2 : lf.length = l.length) : ∀ (n i : Nat) (out : List ay),l.length = i + n → out.length ≤ i →
    aN (eB a0 b0 l) (am,lf,out,(i : Int)) = some (out ++ FX (l.drop i) (am.drop i) (lf.drop i))
  | 0,i,out,h,ho => by
    have : i = l.length := by omega
    subst this
    rw [aV]
    show (fm am lf out l l.length).bind _ = _
    unfold fm
    rw [bH,cond_false,List.drop_length]
    simp [FX]
  | n + 1,i,out,h,ho => by
    have hi : i < l.length := by omega
    rw [aV]
    show (fm am lf out l i).bind _ = _
    unfold fm
    rw [cG hi,cond_true,an (bI hi),an (by omega),i7 lf false i (by omega),ca (by omega),List.drop_eq_getElem_cons hi,List.drop_eq_getElem_cons (l := am) (by omega),List.drop_eq_getElem_cons (l := lf) (by omega)]
    unfold FX
    cases hb : lf[i]'(by omega) with
    | true =>
      rw [if_pos rfl]
      show aN (eB a0 b0 l) (am,lf,out,((i + 1 : Nat) : Int)) = _
      exact Ca l am lf a0 b0 hl h1 h2 n (i + 1) out (by omega) (by omega)
    | false =>
      rw [if_neg (by simp),show (!false) = true from rfl,cond_true,an (by omega),an (xn (by omega) (by omega)),cM l cF i hi,i7 am 0 i (by omega)]
      show aN (eB a0 b0 l) (am,lf,out ++ [_],((i + 1 : Nat) : Int)) = _
      rw [Ca l am lf a0 b0 hl h1 h2 n (i + 1) _ (by omega) (by simp; omega),List.append_assoc]
      rfl
theorem Bw (l : List ay) (hl : l.length ≤ 2513169434843) : lC l = some (WD l) := by
  show jS l = _
  unfold jS
  rw [an (by omega),an (by omega)]
  show (aN (fq l (List.replicate l.length 0) (List.replicate l.length false)) (List.replicate l.length 0,((0 : Nat) : Int))).bind _ = _
  rw [HY l _ _ hl l.length 0 _ (by omega) (by simp),Option.bind_some,List.take_zero,List.drop_zero,List.nil_append]
  show (aN (fj l (l.map (·.Amount)) (List.replicate l.length false)) (l.map (·.Amount),List.replicate l.length false,0)).bind _ = _
  rw [Qr l _ _ hl,Option.bind_some]
  have hs := RX l
  show (aN (eB (vh l).1 (vh l).2 l) ((vh l).1,(vh l).2,[],((0 : Nat) : Int))).bind _ = _
  rw [Ca l _ _ _ _ hl hs.1 hs.2 l.length 0 [] (by omega) (by simp),Option.bind_some]
  rfl
theorem Vy (x : Int) {m : Int} (h : 0 < m) : 0 ≤ x % m ∧ x % m < m := ⟨Int.emod_nonneg _ (by omega),Int.emod_lt_of_pos _ h⟩
def u5 (h : af) : Bool := (decide (1 ≤ h.Person) && decide (h.Person ≤ 99)) && (if h.Kind = 1 then decide (1 ≤ h.Days) && decide (h.Days ≤ 73049) else (h.Kind == 2 || h.Kind == 3) && h.Days == 0)
def sK (h : af) (pre : List af) : List af ⊕ (Unit ⊕ Unit) := if u5 h && !(pre.any fun x => x.Person == h.Person) then .inl (pre ++ [h]) else .inr (.inr ())
def NK (l : List af) : Unit ⊕ Unit := mX sK (fun _ => .inl ()) l []
def iy (l : List af) : Bool := if 12 < l.length then false else match NK l with | .inl _ => true | .inr _ => false
theorem G9 (l : List af) (q0 : Int) (t : List af) (a0 : Int) (h : af) (q : Int) (ht : t.length ≤ 1000) : ∀ (m k : Nat),t.length = k + m →
    aN (jh l q0 t a0 h) (q,(t.length : Int),(k : Int)) = some (if (t.drop k).any (fun x => x.Person == h.Person) then .inr () else .inl q)
  | 0,k,e => by
    have : k = t.length := by omega
    subst this
    rw [aV]
    show (gQ l q t t.length t.length h).bind _ = _
    unfold gQ
    rw [bH,cond_false,List.drop_length]
    rfl
  | m + 1,k,e => by
    have hk : k < t.length := by omega
    rw [aV]
    show (gQ l q t t.length k h).bind _ = _
    unfold gQ
    rw [cG hk,cond_true,an (bI hk),cM t bq k hk,ca (by omega),List.drop_eq_getElem_cons hk,List.any_cons]
    cases hp : (t[k].Person == h.Person) with
    | true => rfl
    | false =>
      rw [Bool.false_or]
      exact G9 l q0 t a0 h q ht m (k + 1) (by omega)
theorem Qi (l : List af) (i : Nat) (hi : i < l.length) (hl : l.length ≤ 1000) : gP l i = some (match sK l[i] (l.take i) with | .inl _ => .inl ((i + 1 : Nat) : Int) | .inr r => .inr r) := by
  unfold gP
  rw [cG hi,cond_true]
  show k9 l i = _
  unfold k9
  rw [an (bI hi),cM l bq i hi]
  have key : gV l i i l[i] = some (if (l.take i).any (fun x => x.Person == l[i].Person) then .inr (.inr ()) else .inl ((i + 1 : Nat) : Int)) := by
    unfold gV
    rw [an (by omega),show Int.toNat ((i : Int) - 0) = i by omega,rM (by omega),List.drop_zero]
    have ht : (l.take i).length = i := by simp; omega
    show (aN (jh l i (l.take i) i l[i]) ((i : Int),((i : Nat) : Int),((0 : Nat) : Int))).bind _ = _
    have := G9 l i (l.take i) i l[i] i (by omega) i 0 (by omega)
    rw [ht] at this
    rw [this,Option.bind_some,List.drop_zero]
    split
    · rfl
    · show ld l i = _
      unfold ld
      rw [ca (by omega)]
  rw [key]
  generalize l[i] = h
  unfold sK u5
  generalize (l.take i).any (fun x => x.Person == h.Person) = b
  simp only [lm]
  by_cases p1 : h.Person < 1
  · simp [p1,show ¬ 1 ≤ h.Person by omega]
  by_cases p2 : 99 < h.Person
  · simp [p1,p2,show ¬ h.Person ≤ 99 by omega]
  have e1 : decide (1 ≤ h.Person) = true := by simp; omega
  have e2 : decide (h.Person ≤ 99) = true := by simp; omega
  rw [decide_eq_false p1,decide_eq_false p2,e1,e2]
  simp only [Bool.or_false,cond_false,Bool.true_and,Bool.and_true]
  by_cases k1 : h.Kind = 1
  · rw [if_pos k1,show (h.Kind == 1) = true from beq_iff_eq.2 k1,cond_true]
    by_cases d1 : h.Days < 1
    · simp [d1,show ¬ 1 ≤ h.Days by omega]
    by_cases d2 : 73049 < h.Days
    · simp [d1,d2,show ¬ h.Days ≤ 73049 by omega]
    have f1 : decide (1 ≤ h.Days) = true := by simp; omega
    have f2 : decide (h.Days ≤ 73049) = true := by simp; omega
    rw [decide_eq_false d1,decide_eq_false d2,f1,f2]
    cases b <;> rfl
  rw [if_neg k1,show (h.Kind == 1) = false from beq_eq_false_iff_ne.2 k1,cond_false]
  by_cases k2 : h.Kind = 2
  · rw [show (h.Kind == 2) = true from beq_iff_eq.2 k2]
    simp only [cond_true,Bool.true_or,Bool.true_and]
    cases hd : (h.Days == 0) with
    | true => rw [show (h.Days != 0) = false from by unfold bne; rw [hd]; rfl]; cases b <;> rfl
    | false => rw [show (h.Days != 0) = true from by unfold bne; rw [hd]; rfl]; cases b <;> rfl
  rw [show (h.Kind == 2) = false from beq_eq_false_iff_ne.2 k2,cond_false]
  by_cases k3 : h.Kind = 3
  · rw [show (h.Kind == 3) = true from beq_iff_eq.2 k3]
    simp only [cond_true,Bool.false_or,Bool.true_and]
    cases hd : (h.Days == 0) with
    | true => rw [show (h.Days != 0) = false from by unfold bne; rw [hd]; rfl]; cases b <;> rfl
    | false => rw [show (h.Days != 0) = true from by unfold bne; rw [hd]; rfl]; cases b <;> rfl
  · rw [show (h.Kind == 3) = false from beq_eq_false_iff_ne.2 k3]
    rfl
theorem Ri {f : Int → Option (Int ⊕ (Unit ⊕ Unit))} (l : List af) (hf : ∀ (i : Nat) (hi : i < l.length),f (i : Int) = some (match sK l[i] (l.take i) with | .inl _ => .inl ((i + 1 : Nat) : Int) | .inr r => .inr r)) (he : f (l.length : Int) = some (.inr (.inl ()))) : aN f 0 = some (NK l) := by
  refine kg (f := f) l (fun i (_ : List af) => (i : Int)) (fun i a => a = l.take i) sK (fun _ => .inl ()) [] (by simp) ?_ ?_ ?_
  · rintro i hi a rfl
    rw [hf i hi]
    cases sK l[i] (l.take i) <;> rfl
  · rintro i hi a a' rfl hg
    unfold sK at hg
    split at hg
    · cases hg; simp
    · cases hg
  · rintro a _
    exact he
theorem DX (l : List af) : kQ l = some (iy l) := by
  show lc l = _
  unfold lc iy
  by_cases h : 12 < l.length
  · rw [if_pos h,decide_eq_true (by omega)]; rfl
  · rw [if_neg h,decide_eq_false (by omega),cond_false]
    show (aN (jg l) 0).bind _ = _
    rw [Ri (f := jg l) l (fun i hi => Qi l i hi (by omega)) ?_,Option.bind_some]
    · cases NK l <;> rfl
    · show gP l l.length = _
      unfold gP
      rw [bH,cond_false]
theorem Ic : ∀ (l pre : List af),mX sK (fun _ => Sum.inl ()) l pre = (Sum.inl () : Unit ⊕ Unit) → ∀ h ∈ l,u5 h = true
  | [],_,_,_,hm => by simp at hm
  | x :: l,pre,e,h,hm => by
    unfold mX sK at e
    cases hb : (u5 x && !(pre.any fun y => y.Person == x.Person)) with
    | false => rw [hb] at e; simp at e
    | true =>
      rw [hb,if_pos rfl] at e
      rw [Bool.and_eq_true] at hb
      rcases List.mem_cons.1 hm with rfl | hm
      · exact hb.1
      · exact Ic l _ e h hm
theorem kW {l : List af} (h : iy l = true) : l.length ≤ 12 ∧ ∀ x ∈ l,u5 x = true := by
  unfold iy at h
  split at h
  · cases h
  · next hn =>
    refine ⟨by omega, ?_⟩
    split at h
    · next u hu => exact Ic l [] hu
    · cases h
theorem S2 {n : Int} (h : 0 ≤ n) (h' : n < 18446744073709551616) : IntKind.u64.wrap n = n := by rw [IntKind.wrap_u64]; omega
theorem Pn (k : Nat) (h : k < 18446744073709551616) : IntKind.u64.wrap (k : Int) = k := S2 (Int.natCast_nonneg k) (by omega)
theorem wo (n : Int) (h : 0 ≤ n) (h' : n ≤ 9223372036854775807) : fU n = some n := by
  show mR n = _
  unfold mR
  rw [decide_eq_false (by omega),cond_false,S2 h (by omega)]
theorem Ny {f : Int × Int → Option ((Int × Int) ⊕ Int)} (hf : ∀ a b,f (a,b) = (bif (b != (0 : Int)) then gd (b ≠ (0 : Int)) (some (Sum.inl (b,Int.tmod a b))) else some (Sum.inr a))) : ∀ (k a b : Nat),b ≤ k → aN f ((a : Int),(b : Int)) = some (Nat.gcd a b : Int)
  | 0,a,b,h => by
    have : b = 0 := by omega
    subst this
    rw [aV,hf]
    simp
  | k + 1,a,b,h => by
    rw [aV,hf]
    by_cases hb : b = 0
    · subst hb; simp
    · have e : ((b : Int) != 0) = true := by simp; omega
      rw [e,cond_true,an (by omega)]
      show aN f ((b : Int),Int.tmod (a : Int) (b : Int)) = _
      have : Int.tmod (a : Int) (b : Int) = ((a % b : Nat) : Int) := by
        rw [Int.tmod_eq_emod_of_nonneg (by omega)]; omega
      rw [this,Ny hf k b (a % b) (by have := Nat.mod_lt a (show b > 0 by omega); omega)]
      rw [Nat.gcd_comm b, ← Nat.gcd_rec,Nat.gcd_comm]
theorem Iz (a b : Nat) : ta a b = some (Nat.gcd a b : Int) := by
  show (aN (lE a b) ((a : Int),(b : Int))).bind (qe a b) = _
  rw [Ny (f := lE a b) (fun _ _ => rfl) b a b (Nat.le_refl _)]
  rfl
def po (n d : Nat) : aR × Int :=
  if 1000000000000000 < n / Nat.gcd n d ∨ 1000000000 < d / Nat.gcd n d then (⟨0,0⟩,2) else (⟨((n / Nat.gcd n d : Nat) : Int),((d / Nat.gcd n d : Nat) : Int)⟩,0)
theorem XX (a b : Nat) : Int.tdiv (a : Int) (b : Int) = ((a / b : Nat) : Int) := by
  rw [Int.tdiv_eq_ediv_of_nonneg (by omega)]; omega
theorem qc (n d : Nat) (hn : n ≤ 9223372036854775807) (hd : d ≤ 9223372036854775807) (h0 : 0 < d) : dW n d = some (po n d) := by
  show nd n d = _
  unfold nd
  have e0 : ((d : Int) == 0) = false := by simp; omega
  have g0 : 0 < Nat.gcd n d := Nat.gcd_pos_of_pos_right _ h0
  have q1 : n / Nat.gcd n d ≤ n := Nat.div_le_self _ _
  have q2 : d / Nat.gcd n d ≤ d := Nat.div_le_self _ _
  rw [e0,cond_false,wo _ (by omega) (by omega),Option.bind_some,wo _ (by omega) (by omega),Option.bind_some,Iz,Option.bind_some,an (by omega),an (by omega),XX,XX,Pn _ (by omega),Pn _ (by omega),decide_eq_false (show ¬ (n : Int) < 0 by omega),decide_eq_false (show ¬ (d : Int) < 0 by omega)]
  show (lu false ⟨0,((n / Nat.gcd n d : Nat) : Int)⟩ ⟨0,((d / Nat.gcd n d : Nat) : Int)⟩).bind _ = _
  unfold lu po
  generalize n / Nat.gcd n d = a at q1 ⊢
  generalize d / Nat.gcd n d = b at q2 ⊢
  simp only [lm,bne_self_eq_false,Bool.false_or,cond_false]
  by_cases h : 1000000000000000 < a ∨ 1000000000 < b
  · have : (decide ((1000000000000000 : Int) < (a : Int)) || false || decide ((1000000000 : Int) < (b : Int))) = true := by simp; omega
    rw [if_pos h]
    simp only [Bool.or_false] at this ⊢
    rw [this]; rfl
  · have : (decide ((1000000000000000 : Int) < (a : Int)) || false || decide ((1000000000 : Int) < (b : Int))) = false := by simp; omega
    rw [if_neg h]
    simp only [Bool.or_false] at this ⊢
    rw [this,bG (by omega) (by omega),bG (by omega) (by omega)]; rfl
theorem GL (n d : Nat) (hd : 0 < d) (h1 : n ≤ 1000000000000000) (h2 : d ≤ 1000000000) : po n d = (⟨((n / Nat.gcd n d : Nat) : Int),((d / Nat.gcd n d : Nat) : Int)⟩,0) ∧ n / Nat.gcd n d ≤ n ∧ d / Nat.gcd n d ≤ d ∧ 0 < d / Nat.gcd n d ∧ Nat.gcd (n / Nat.gcd n d) (d / Nat.gcd n d) = 1 := by
  have g0 : 0 < Nat.gcd n d := Nat.gcd_pos_of_pos_right _ hd
  have q1 : n / Nat.gcd n d ≤ n := Nat.div_le_self _ _
  have q2 : d / Nat.gcd n d ≤ d := Nat.div_le_self _ _
  refine ⟨?_,q1,q2,Nat.div_pos (Nat.le_of_dvd hd (Nat.gcd_dvd_right n d)) g0,Nat.coprime_div_gcd_div_gcd g0⟩
  unfold po
  rw [if_neg (by omega)]
def g9 (h : af) : Int := if h.Kind = 1 then h.Days else 0
def sE (h : af) : Int := if h.Kind = 1 then 0 else if h.Kind = 2 then 20 else 30
def gD (l : List af) : Int := (l.map g9).sum
def Cf (l : List af) : Int := (l.map sE).sum
theorem nX {h : af} (e : u5 h = true) : (1 ≤ h.Person ∧ h.Person ≤ 99) ∧ ((h.Kind = 1 ∧ 1 ≤ h.Days ∧ h.Days ≤ 73049) ∨ (h.Kind = 2 ∧ h.Days = 0) ∨ (h.Kind = 3 ∧ h.Days = 0)) := by
  unfold u5 at e
  rw [Bool.and_eq_true] at e
  refine ⟨by simpa using e.1, ?_⟩
  have e2 := e.2
  by_cases k : h.Kind = 1
  · rw [if_pos k] at e2
    simp only [Bool.and_eq_true,decide_eq_true_eq] at e2
    exact .inl ⟨k,e2⟩
  · rw [if_neg k] at e2
    simp only [Bool.and_eq_true,Bool.or_eq_true,beq_iff_eq] at e2
    rcases e2 with ⟨h1 | h1,h2⟩
    · exact .inr (.inl ⟨h1,h2⟩)
    · exact .inr (.inr ⟨h1,h2⟩)
theorem pz {h : af} (e : u5 h = true) : 0 ≤ g9 h ∧ g9 h ≤ 73049 := by
  have := (nX e).2
  unfold g9
  split <;> omega
theorem Lj (h : af) : 0 ≤ sE h ∧ sE h ≤ 30 := by
  unfold sE
  split
  · omega
  · split <;> omega
theorem Bd (f : af → Int) (m : Int) (hm : 0 ≤ m) : ∀ (l : List af),(∀ x ∈ l,0 ≤ f x ∧ f x ≤ m) → 0 ≤ (l.map f).sum ∧ (l.map f).sum ≤ m * l.length
  | [],_ => by simp
  | x :: l,h => by
    have := Bd f m hm l (fun y hy => h y (List.mem_cons_of_mem _ hy))
    have hx := h x List.mem_cons_self
    rw [List.map_cons,List.sum_cons,List.length_cons,Int.natCast_add,Int.mul_add]
    omega
def ptG (h : af) (a : Int × Int) : (Int × Int) ⊕ (Int × Int) := .inl (a.1 + sE h,a.2 + g9 h)
theorem G1 : ∀ (l : List af) (a : Int × Int),mX ptG id l a = (a.1 + Cf l,a.2 + gD l)
  | [],a => by simp [mX,Cf,gD]
  | x :: l,a => by
    show mX ptG id l (a.1 + sE x,a.2 + g9 x) = _
    rw [G1 l]
    simp only [Cf,gD,List.map_cons,List.sum_cons]
    rw [Int.add_assoc,Int.add_assoc]
theorem vD {l : List af} (h : iy l = true) : (0 ≤ gD l ∧ gD l ≤ 876588) ∧ (0 ≤ Cf l ∧ Cf l ≤ 360) := by
  obtain ⟨h1,h2⟩ := kW h
  have a := Bd g9 73049 (by omega) l fun x hx => pz (h2 x hx)
  have b := Bd sE 30 (by omega) l fun x _ => Lj x
  unfold gD Cf
  omega
def hZ (l : List af) : Int := if 0 < gD l then Cf l + 60 else Cf l
theorem s5 (l : List af) (hv : iy l = true) : eT l = some (hZ l,gD l) := by
  obtain ⟨h1,h2⟩ := kW hv
  have hr := vD hv
  show (aN (iV l) ((0 : Int),(0 : Int),((0 : Nat) : Int))).bind _ = _
  have := kg (f := iV l) l (fun i (a : Int × Int) => (a.1,a.2,(i : Int))) (fun i a => (0 ≤ a.1 ∧ a.1 ≤ 30 * i) ∧ (0 ≤ a.2 ∧ a.2 ≤ 73049 * i)) ptG id (0,0) (by simp) ?_ ?_ ?_
  · rw [this,G1,Option.bind_some]
    show kc (0 + Cf l) (0 + gD l) = _
    unfold kc hZ
    rw [Int.zero_add,Int.zero_add]
    by_cases h : 0 < gD l
    · rw [decide_eq_true h,cond_true,if_pos h,bG (by omega) (by omega)]
    · rw [decide_eq_false h,cond_false,if_neg h]
  · rintro i hi ⟨p,d⟩ ⟨b1,b2⟩
    show gq p d l i = some (.inl (p + sE l[i],d + g9 l[i],((i + 1 : Nat) : Int)))
    have b1 : 0 ≤ p ∧ p ≤ 30 * (i : Int) := b1
    have b2 : 0 ≤ d ∧ d ≤ 73049 * (i : Int) := b2
    unfold gq
    rw [cG hi,cond_true,an (bI hi),cM l bq i hi]
    have hx := (nX (h2 l[i] (List.getElem_mem hi))).2
    unfold gu sE g9
    rw [ca (by omega)]
    rcases hx with ⟨k,d1,d2⟩ | ⟨k,d1⟩ | ⟨k,d1⟩
    · rw [k,if_pos rfl,if_pos rfl,show ((1 : Int) == 1) = true from rfl,cond_true,bG (by omega) (by omega),Int.add_zero]
    · rw [k,if_neg (by omega),if_pos rfl,if_neg (by omega),show ((2 : Int) == 1) = false from rfl,cond_false,show ((2 : Int) == 2) = true from rfl,cond_true,bG (by omega) (by omega),Int.add_zero]
    · rw [k,if_neg (by omega),if_neg (by omega),if_neg (by omega),show ((3 : Int) == 1) = false from rfl,cond_false,show ((3 : Int) == 2) = false from rfl,cond_false,show ((3 : Int) == 3) = true from rfl,cond_true,bG (by omega) (by omega),Int.add_zero]
  · rintro i hi ⟨p,d⟩ a' ⟨b1,b2⟩ hg
    cases hg
    have c1 := Lj l[i]
    have c2 := pz (h2 l[i] (List.getElem_mem hi))
    have b1 : 0 ≤ p ∧ p ≤ 30 * (i : Int) := b1
    have b2 : 0 ≤ d ∧ d ≤ 73049 * (i : Int) := b2
    show (0 ≤ p + sE l[i] ∧ p + sE l[i] ≤ 30 * ((i + 1 : Nat) : Int)) ∧ (0 ≤ d + g9 l[i] ∧ d + g9 l[i] ≤ 73049 * ((i + 1 : Nat) : Int))
    omega
  · rintro ⟨p,d⟩ _
    show gq p d l l.length = _
    unfold gq
    rw [bH,cond_false]
    rfl
def gX (l : List af) : Int := max 100 (hZ l)
def cB (l : List af) (h : af) : aR :=
  if h.Kind = 1 then (po (60 * h.Days).toNat (gD l * gX l).toNat).1 else if h.Kind = 3 then (po 30 (gX l).toNat).1 else (po 20 (gX l).toNat).1
theorem Ct {l : List af} (h : iy l = true) : 0 ≤ hZ l ∧ hZ l ≤ 420 := by
  have := vD h
  unfold hZ
  split <;> omega
theorem Ew : ∀ (l : List af),(∀ x ∈ l,u5 x = true) → ∀ h ∈ l,h.Kind = 1 → 0 < gD l
  | [],_,h,hm,_ => by simp at hm
  | x :: l,hb,h,hm,hk => by
    have h0 := (Bd g9 73049 (by omega) l fun y hy => pz (hb y (List.mem_cons_of_mem _ hy))).1
    have hx := pz (hb x List.mem_cons_self)
    show 0 < ((x :: l).map g9).sum
    rw [List.map_cons,List.sum_cons]
    rcases List.mem_cons.1 hm with rfl | hm
    · have := (nX (hb h List.mem_cons_self)).2
      have : g9 h = h.Days := by unfold g9; rw [if_pos hk]
      omega
    · have := Ew l (fun y hy => hb y (List.mem_cons_of_mem _ hy)) h hm hk
      unfold gD at this
      omega
theorem Ns {T : Type} (g : af → T) : ∀ (l : List af) (a : List T),l.foldl (fun a x => a ++ [g x]) a = a ++ l.map g
  | [],a => by simp
  | x :: l,a => by rw [List.foldl_cons,Ns g l]; simp
theorem tr (l : List af) : cE l = some (if iy l then (l.map (cB l),0) else ([],1)) := by
  show kh l = _
  unfold kh
  rw [DX,Option.bind_some]
  cases hv : iy l with
  | false => rfl
  | true =>
    obtain ⟨h1,h2⟩ := kW hv
    have hr := vD hv
    have ha := Ct hv
    have hw : (if (100 : Int) < hZ l then hZ l else 100) = gX l := by unfold gX; omega
    have hwr : 100 ≤ gX l ∧ gX l ≤ 420 := by unfold gX; omega
    rw [show (!true) = false from rfl,cond_false,s5 l hv,Option.bind_some,if_pos rfl]
    show nc (gD l) (if (100 : Int) < hZ l then hZ l else 100) l = _
    rw [hw]
    show (aN (iU (gD l) (gX l) l) ([],((0 : Nat) : Int))).bind _ = _
    have := kg (f := iU (gD l) (gX l) l) l (fun i (o : List aR) => (o,(i : Int))) (fun i o => o.length = i) (fun h o => .inl (o ++ [cB l h])) id [] rfl ?_ ?_ ?_
    · rw [this,vO,Ns,Option.bind_some]
      rfl
    · intro i hi o ho
      show gi (gD l) (gX l) o l i = _
      unfold gi
      have hx := (nX (h2 l[i] (List.getElem_mem hi))).2
      have hd := Ew l h2 l[i] (List.getElem_mem hi)
      obtain ⟨w,hw2⟩ : ∃ w : Nat,gX l = (w : Int) := ⟨(gX l).toNat,by omega⟩
      rw [cG hi,cond_true,an (bI hi),cM l bq i hi,ca (by omega)]
      have hcap : cL (o.length + 1) 16 := xn (by omega) (by omega)
      simp only [an hcap]
      unfold cB
      rw [hw2] at hwr ⊢
      rcases hx with ⟨k,d1,d2⟩ | ⟨k,d1⟩ | ⟨k,d1⟩
      · have hdp := hd k
        obtain ⟨x,hx⟩ : ∃ x : Nat,l[i].Days = (x : Int) := ⟨l[i].Days.toNat,by omega⟩
        obtain ⟨d,hdd⟩ : ∃ d : Nat,gD l = (d : Int) := ⟨(gD l).toNat,by omega⟩
        rw [hx] at d1 d2 ⊢
        rw [hdd] at hr hdp ⊢
        have hm : d * w ≤ 876588 * 420 := Nat.mul_le_mul (by omega) (by omega)
        have hm0 : 0 < d * w := Nat.mul_pos (by omega) (by omega)
        rw [k,show ((1 : Int) == 1) = true from rfl,cond_true,if_pos rfl,bG (n := 60 * (x : Int)) (by omega) (by omega),show (d : Int) * (w : Int) = ((d * w : Nat) : Int) from by rw [Int.natCast_mul],bG (n := ((d * w : Nat) : Int)) (by omega) (by omega),show (60 : Int) * (x : Int) = ((60 * x : Nat) : Int) by omega,qc (60 * x) (d * w) (by omega) (by omega) hm0,Option.bind_some,Int.toNat_natCast,Int.toNat_natCast]
      · rw [k,show ((2 : Int) == 1) = false from rfl,cond_false,show ((2 : Int) == 3) = false from rfl,cond_false,if_neg (by omega),if_neg (by omega),show (20 : Int) = ((20 : Nat) : Int) from rfl,qc 20 w (by omega) (by omega) (by omega),Option.bind_some,Int.toNat_natCast]
      · rw [k,show ((3 : Int) == 1) = false from rfl,cond_false,show ((3 : Int) == 3) = true from rfl,cond_true,if_neg (by omega),if_pos rfl,show (30 : Int) = ((30 : Nat) : Int) from rfl,qc 30 w (by omega) (by omega) (by omega),Option.bind_some,Int.toNat_natCast]
    · intro i hi o o' ho hg
      cases hg
      simp [ho]
    · intro o ho
      show gi (gD l) (gX l) o l l.length = _
      unfold gi
      rw [bH,cond_false]
      rfl
theorem Iv {l : List af} (hv : iy l = true) : 100 ≤ gX l ∧ gX l ≤ 420 := by
  have := Ct hv
  unfold gX; omega
def Ae (x : ae) : Prop := (0 ≤ x.num ∧ x.num ≤ 1000000000) ∧ (0 ≤ x.den ∧ x.den ≤ 1000000000)
theorem NC {a b : Int} (ha : 0 ≤ a ∧ a ≤ 1000000000) (hb : 0 ≤ b ∧ b ≤ 1000000000) : 0 ≤ a * b ∧ a * b ≤ 1000000000000000000 := by
  refine ⟨Int.mul_nonneg ha.1 hb.1, ?_⟩
  have := Int.mul_le_mul ha.2 hb.2 hb.1 (by omega)
  omega
def vF (l : List ae) (r : ae) : Nat → Nat
  | 0 => 0
  | k + 1 => if (l.getD k aK).num * r.den < r.num * (l.getD k aK).den then vF l r k else k + 1
theorem E6 (l : List ae) (r : ae) : ∀ k,vF l r k ≤ k
  | 0 => Nat.le_refl _
  | k + 1 => by
    have := E6 l r k
    unfold vF
    split <;> omega
def E1 (r : ae) (l : List ae) : List ae := l.take (vF l r l.length) ++ [r] ++ l.drop (vF l r l.length)
theorem OR (r : ae) (l : List ae) : (E1 r l).length = l.length + 1 := by
  have := E6 l r l.length
  unfold E1
  simp
  omega
theorem VR (r y : ae) (l : List ae) (h : y ∈ E1 r l) : y = r ∨ y ∈ l := by
  unfold E1 at h
  rw [List.mem_append,List.mem_append,List.mem_singleton] at h
  rcases h with (h | h) | h
  · exact .inr (List.mem_of_mem_take h)
  · exact .inl h
  · exact .inr (List.mem_of_mem_drop h)
theorem GN (l : List ae) (r : ae) (hl : l.length ≤ 1000) (hs : ∀ x ∈ l,Ae x) (hr : Ae r) : ∀ k,k ≤ l.length → aN (iI l r) (k : Int) = some ((vF l r k : Nat) : Int)
  | 0,_ => by
    rw [aV]
    show (go l ((0 : Nat) : Int) r).bind _ = _
    unfold go
    rw [an (by intro h; simp at h),an (by intro h; simp at h),an (by intro h; simp at h),an (by intro h; simp at h)]
    rfl
  | k + 1,hk => by
    rw [aV]
    show (go l ((k + 1 : Nat) : Int) r).bind _ = _
    unfold go
    have e1 : ak (((k + 1 : Nat) : Int) - 1) = (k : Int) := by rw [bG (by omega) (by omega)]; omega
    have hx : Ae (l.getD k aK) := by
      rw [List.getD_eq_getElem?_getD,List.getElem?_eq_getElem (show k < l.length by omega)]
      exact hs _ (List.getElem_mem _)
    have p1 := NC hx.1 hr.2
    have p2 := NC hr.1 hx.2
    rw [e1,an (fun _ => by omega),an (fun _ => by omega),an (fun _ => by omega),an (fun _ => by omega),decide_eq_true (show (0 : Int) < ((k + 1 : Nat) : Int) by omega),cond_true,Nat.zero_add,Int.toNat_natCast,bG (n := (l.getD k aK).num * r.den) (by omega) (by omega),bG (n := r.num * (l.getD k aK).den) (by omega) (by omega)]
    unfold vF
    by_cases h : (l.getD k aK).num * r.den < r.num * (l.getD k aK).den
    · rw [decide_eq_true h,cond_true,if_pos h]
      exact GN l r hl hs hr k (by omega)
    · rw [decide_eq_false h,cond_false,if_neg h]
      rfl
theorem Ci (l : List ae) (r : ae) (hl : l.length ≤ 1000) (hs : ∀ x ∈ l,Ae x) (hr : Ae r) : cX l r = some (E1 r l) := by
  show (aN (iI l r) ((l.length : Nat) : Int)).bind _ = _
  rw [GN l r hl hs hr l.length (Nat.le_refl _),Option.bind_some]
  have := E6 l r l.length
  show kj l ((vF l r l.length : Nat) : Int) r = _
  unfold kj cz E1
  rw [an ⟨by omega,by omega,xn (by simp; omega) (by simp; omega)⟩,Int.toNat_natCast]
  rfl
theorem yw {l : List af} (hv : iy l = true) {h : af} (hm : h ∈ l) : (0 ≤ (cB l h).Num ∧ (cB l h).Num ≤ 4382940) ∧ (1 ≤ (cB l h).Den ∧ (cB l h).Den ≤ 1000000000) := by
  obtain ⟨h1,h2⟩ := kW hv
  have hr := vD hv
  have hw := Iv hv
  have hx := (nX (h2 h hm)).2
  obtain ⟨w,hww⟩ : ∃ w : Nat,gX l = (w : Int) := ⟨(gX l).toNat,by omega⟩
  rw [hww] at hw
  have key : ∀ n d : Nat,0 < d → n ≤ 4382940 → d ≤ 1000000000 → (0 ≤ (po n d).1.Num ∧ (po n d).1.Num ≤ 4382940) ∧ (1 ≤ (po n d).1.Den ∧ (po n d).1.Den ≤ 1000000000) := by
    intro n d h0 hn hd
    obtain ⟨e,a,b,c,_⟩ := GL n d h0 (by omega) (by omega)
    rw [e]
    generalize n / Nat.gcd n d = x at *
    generalize d / Nat.gcd n d = y at *
    show (0 ≤ (x : Int) ∧ (x : Int) ≤ 4382940) ∧ (1 ≤ (y : Int) ∧ (y : Int) ≤ 1000000000)
    omega
  unfold cB
  rcases hx with ⟨k,d1,d2⟩ | ⟨k,d1⟩ | ⟨k,d1⟩
  · obtain ⟨x,hx⟩ : ∃ x : Nat,h.Days = (x : Int) := ⟨h.Days.toNat,by omega⟩
    have hd := Ew l h2 h hm k
    obtain ⟨d,hdd⟩ : ∃ d : Nat,gD l = (d : Int) := ⟨(gD l).toNat,by omega⟩
    rw [hdd] at hr hd
    have hmul : d * w ≤ 876588 * 420 := Nat.mul_le_mul (by omega) (by omega)
    have hmul0 : 0 < d * w := Nat.mul_pos (by omega) (by omega)
    rw [if_pos k,hx,hdd,hww, ← Int.natCast_mul,Int.toNat_natCast,show ((60 : Int) * (x : Int)).toNat = 60 * x by omega]
    exact key _ _ hmul0 (by omega) (by omega)
  · rw [if_neg (by omega),if_neg (by omega),hww,Int.toNat_natCast]
    exact key _ _ (by omega) (by omega) (by omega)
  · rw [if_neg (by omega),if_pos k,hww,Int.toNat_natCast]
    exact key _ _ (by omega) (by omega) (by omega)
def ph (total : Int) (f : aR) : Int := total * f.Num / f.Den
def Wz (total : Int) (i : Nat) (f : aR) : ae := ⟨(i : Int),total * f.Num % f.Den,f.Den⟩
def PU (total : Int) (l : List af) (h : af) (a : Int × List bh × List ae) : (Int × List bh × List ae) ⊕ (Int × List bh × List ae) :=
  .inl (a.1 - ph total (cB l h),a.2.1 ++ [⟨h.Person,ph total (cB l h)⟩],E1 (Wz total a.2.1.length (cB l h)) a.2.2)
theorem Nm {total : Int} (ht : 0 ≤ total ∧ total ≤ 1000000000000) {f : aR} (hf : (0 ≤ f.Num ∧ f.Num ≤ 4382940) ∧ (1 ≤ f.Den ∧ f.Den ≤ 1000000000)) : (0 ≤ total * f.Num ∧ total * f.Num ≤ 4382940000000000000) ∧ (0 ≤ ph total f ∧ ph total f ≤ 4382940000000000000) ∧ (0 ≤ total * f.Num % f.Den ∧ total * f.Num % f.Den ≤ 1000000000) := by
  have h0 : 0 ≤ total * f.Num := Int.mul_nonneg ht.1 hf.1.1
  have h1 : total * f.Num ≤ 1000000000000 * 4382940 := Int.mul_le_mul ht.2 hf.1.2 hf.1.1 (by omega)
  have h2 := Vy (total * f.Num) (m := f.Den) (by omega)
  have h3 : 0 ≤ total * f.Num / f.Den := Int.ediv_nonneg h0 (by omega)
  have h4 : total * f.Num / f.Den ≤ total * f.Num := Int.ediv_le_self _ h0
  unfold ph
  omega
theorem Pv : ∀ (l : List af),(∀ x ∈ l,u5 x = true) → ∀ h ∈ l,g9 h ≤ gD l
  | [],_,h,hm => by simp at hm
  | x :: l,hb,h,hm => by
    have h0 := (Bd g9 73049 (by omega) l fun y hy => pz (hb y (List.mem_cons_of_mem _ hy))).1
    have hx := pz (hb x List.mem_cons_self)
    show g9 h ≤ ((x :: l).map g9).sum
    rw [List.map_cons,List.sum_cons]
    rcases List.mem_cons.1 hm with rfl | hm
    · omega
    · have := Pv l (fun y hy => hb y (List.mem_cons_of_mem _ hy)) h hm
      unfold gD at this
      omega
theorem VW {l : List af} (hv : iy l = true) {h : af} (hm : h ∈ l) : (cB l h).Num ≤ (cB l h).Den := by
  obtain ⟨h1,h2⟩ := kW hv
  have hr := vD hv
  have hw := Iv hv
  have hx := (nX (h2 h hm)).2
  obtain ⟨w,hww⟩ : ∃ w : Nat,gX l = (w : Int) := ⟨(gX l).toNat,by omega⟩
  rw [hww] at hw
  have key : ∀ n d : Nat,0 < d → n ≤ d → d ≤ 1000000000 → (po n d).1.Num ≤ (po n d).1.Den := by
    intro n d h0 hn hd
    obtain ⟨e,_⟩ := GL n d h0 (by omega) (by omega)
    rw [e]
    have : n / Nat.gcd n d ≤ d / Nat.gcd n d := Nat.div_le_div_right hn
    show ((n / Nat.gcd n d : Nat) : Int) ≤ ((d / Nat.gcd n d : Nat) : Int)
    exact Int.ofNat_le.2 this
  unfold cB
  rcases hx with ⟨k,d1,d2⟩ | ⟨k,d1⟩ | ⟨k,d1⟩
  · obtain ⟨x,hx⟩ : ∃ x : Nat,h.Days = (x : Int) := ⟨h.Days.toNat,by omega⟩
    have hd := Pv l h2 h hm
    have hdo : g9 h = h.Days := by unfold g9; rw [if_pos k]
    obtain ⟨d,hdd⟩ : ∃ d : Nat,gD l = (d : Int) := ⟨(gD l).toNat,by omega⟩
    rw [hdd] at hr hd
    have hmul : d * w ≤ 876588 * 420 := Nat.mul_le_mul (by omega) (by omega)
    have hmul0 : 0 < d * w := Nat.mul_pos (by omega) (by omega)
    have hle : x * 60 ≤ d * w := Nat.mul_le_mul (by omega) (by omega)
    rw [if_pos k,hx,hdd,hww, ← Int.natCast_mul,Int.toNat_natCast,show ((60 : Int) * (x : Int)).toNat = 60 * x by omega]
    exact key _ _ hmul0 (by omega) (by omega)
  · rw [if_neg (by omega),if_neg (by omega),hww,Int.toNat_natCast]
    exact key _ _ (by omega) (by omega) (by omega)
  · rw [if_neg (by omega),if_pos k,hww,Int.toNat_natCast]
    exact key _ _ (by omega) (by omega) (by omega)
theorem O2 {total : Int} (ht : 0 ≤ total) {l : List af} (hv : iy l = true) {h : af} (hm : h ∈ l) : ph total (cB l h) ≤ total := by
  have h1 := VW hv hm
  have h2 := (yw hv hm).2
  unfold ph
  refine Int.ediv_le_of_le_mul (by omega) ?_
  exact Int.mul_le_mul_of_nonneg_left h1 ht
def JT (total : Int) (l : List af) (m : Int) : Int × List bh × List ae := mX (PU total l) id l (m,[],[])
def JR (i : Nat) (a : Int × List bh × List ae) : Prop :=
  (-1000000000000 * (i : Int) ≤ a.1 ∧ a.1 ≤ 1000000000000) ∧ a.2.1.length = i ∧ a.2.2.length = i ∧ (∀ x ∈ a.2.2,Ae x ∧ 0 ≤ x.at_ ∧ x.at_ < (i : Int)) ∧ ∀ x ∈ a.2.1,0 ≤ x.Amount ∧ x.Amount ≤ 1000000000000
theorem Im {total : Int} (ht : 0 ≤ total ∧ total ≤ 1000000000000) {l : List af} (hv : iy l = true) (i : Nat) (hi : i < l.length) (a a' : Int × List bh × List ae) (h : JR i a) (hg : PU total l l[i] a = .inl a') : JR (i + 1) a' := by
  obtain ⟨⟨h1,h2⟩,h3,h4,h5,h6⟩ := h
  have hm : l[i] ∈ l := List.getElem_mem hi
  have hf := yw hv hm
  have hp := Nm ht hf
  have hle := O2 ht.1 hv hm
  cases hg
  refine ⟨?_,by simp [h3],by rw [OR]; omega,fun x hx => ?_,fun x hx => ?_⟩
  · show -1000000000000 * ((i + 1 : Nat) : Int) ≤ a.1 - ph total (cB l l[i]) ∧ a.1 - ph total (cB l l[i]) ≤ 1000000000000
    omega
  · rcases VR _ _ _ hx with rfl | hx
    · refine ⟨⟨hp.2.2,by show 0 ≤ (cB l l[i]).Den ∧ (cB l l[i]).Den ≤ 1000000000; omega⟩, ?_⟩
      show 0 ≤ ((a.2.1.length : Nat) : Int) ∧ ((a.2.1.length : Nat) : Int) < ((i + 1 : Nat) : Int)
      omega
    · have := h5 x hx
      exact ⟨this.1,this.2.1,by omega⟩
  · rcases List.mem_append.1 hx with hx | hx
    · exact h6 x hx
    · rw [List.mem_singleton] at hx
      subst hx
      show 0 ≤ ph total (cB l l[i]) ∧ ph total (cB l l[i]) ≤ 1000000000000
      omega
theorem MW {total : Int} (ht : 0 ≤ total ∧ total ≤ 1000000000000) {l : List af} (hv : iy l = true) (m m0 : Int) (hm : 0 ≤ m ∧ m ≤ 1000000000000) :
    aN (gm total l m0 (l.map (cB l)) ((l.length : Nat) : Int)) (m,[],[],0) = some (JT total l m) := by
  obtain ⟨h1,h2⟩ := kW hv
  have := kg (f := gm total l m0 (l.map (cB l)) ((l.length : Nat) : Int)) l (fun i (a : Int × List bh × List ae) => (a.1,a.2.1,a.2.2,(i : Int))) JR (PU total l) id (m,[],[])
    ⟨⟨by show -1000000000000 * ((0 : Nat) : Int) ≤ m; omega,hm.2⟩,rfl,rfl,fun x hx => by simp at hx,fun x hx => by simp at hx⟩ ?_ ?_ ?_
  · exact this
  · rintro i hi ⟨mi,out,cut⟩ ⟨⟨b1,b2⟩,b3,b4,b5,b6⟩
    have b1 : -1000000000000 * (i : Int) ≤ mi := b1
    have b2 : mi ≤ 1000000000000 := b2
    have b3 : out.length = i := b3
    have b4 : cut.length = i := b4
    have hmem : l[i] ∈ l := List.getElem_mem hi
    have hf := yw hv hmem
    have hp := Nm ht hf
    have hle := O2 ht.1 hv hmem
    have hlen : (l.map (cB l)).length = l.length := List.length_map _
    show gj total l mi out cut (l.map (cB l)) ((l.length : Nat) : Int) i = _
    unfold gj
    rw [cG hi,cond_true,an (bI (by omega)),cM (l.map (cB l)) bd i (by omega),List.getElem_map,an (by omega),an (bI hi),an (xn (by omega) (by omega)),an (by omega),cM l bq i hi,bG (n := total * (cB l l[i]).Num) (by omega) (by omega),Int.tmod_eq_emod_of_nonneg hp.1.1,Int.tdiv_eq_ediv_of_nonneg hp.1.1]
    have er : cX cut ⟨(i : Int),total * (cB l l[i]).Num % (cB l l[i]).Den,(cB l l[i]).Den⟩ = some (E1 (Wz total out.length (cB l l[i])) cut) := by
      rw [b3]
      exact Ci cut (Wz total i (cB l l[i])) (by omega) (fun x hx => (b5 x hx).1) ⟨hp.2.2,by show 0 ≤ (cB l l[i]).Den ∧ (cB l l[i]).Den ≤ 1000000000; omega⟩
    rw [er,Option.bind_some,ca (by omega)]
    have ep : total * (cB l l[i]).Num / (cB l l[i]).Den = ph total (cB l l[i]) := rfl
    rw [ep,bG (n := ph total (cB l l[i])) (by omega) (by omega),bG (by omega) (by omega)]
    rfl
  · intro i hi a a' h hg
    exact Im ht hv i hi a a' h hg
  · rintro ⟨mi,out,cut⟩ _
    show gj total l mi out cut (l.map (cB l)) ((l.length : Nat) : Int) l.length = _
    unfold gj
    rw [bH,cond_false]
    rfl
def we (out : List bh) (k : Nat) : List bh := out.set k ⟨(out.getD k dB).Person,(out.getD k dB).Amount + 1⟩
def B1 (r : ae) (a : Int × List bh) : (Int × List bh) ⊕ List bh := .inl (if 0 < a.1 then (a.1 - 1,we a.2 r.at_.toNat) else a)
def XF (cut : List ae) (m : Int) (out : List bh) : List bh := mX B1 (·.2) cut (m,out)
theorem OB (out : List bh) (k : Nat) : (we out k).length = out.length := by simp [we]
theorem VL {out : List bh} {k : Nat} (hk : k < out.length) {x : bh} (h : x ∈ we out k) : x ∈ out ∨ ∃ y ∈ out,x.Amount = y.Amount + 1 := by
  unfold we at h
  rcases List.mem_or_eq_of_mem_set h with h | rfl
  · exact .inl h
  · refine .inr ⟨out[k],List.getElem_mem hk, ?_⟩
    rw [List.getD_eq_getElem?_getD,List.getElem?_eq_getElem hk]
    rfl
theorem Oj (cut : List ae) (out : List bh) (m m0 q0 : Int) (o0 : List bh) (c0 : List ae) (hl : cut.length ≤ 1000) (hm : -13000000000000 ≤ m ∧ m ≤ 1000000000000)
    (hat : ∀ x ∈ cut,0 ≤ x.at_ ∧ x.at_ < (out.length : Int)) (ho : ∀ x ∈ out,0 ≤ x.Amount ∧ x.Amount ≤ 1000000000000) :
    aN (fZ m0 o0 c0 q0) (m,out,cut,((cut.length : Nat) : Int),0) = some (XF cut m out) := by
  have := kg (f := fZ m0 o0 c0 q0) cut (fun i (a : Int × List bh) => (a.1,a.2,cut,((cut.length : Nat) : Int),(i : Int)))
    (fun i a => (-13000000000000 - (i : Int) ≤ a.1 ∧ a.1 ≤ 1000000000000) ∧ a.2.length = out.length ∧ ∀ x ∈ a.2,0 ≤ x.Amount ∧ x.Amount ≤ 1000000000000 + (i : Int)) B1 (·.2) (m,out) ⟨⟨by show -13000000000000 - ((0 : Nat) : Int) ≤ m; omega,hm.2⟩,rfl,fun x hx => by have := ho x hx; omega⟩ ?_ ?_ ?_
  · exact this
  · rintro i hi ⟨mi,oi⟩ ⟨⟨b1,b2⟩,b3,b4⟩
    have b1 : -13000000000000 - (i : Int) ≤ mi := b1
    have b2 : mi ≤ 1000000000000 := b2
    have b3 : oi.length = out.length := b3
    have ha := hat cut[i] (List.getElem_mem hi)
    show gc mi oi cut ((cut.length : Nat) : Int) i = _
    unfold gc
    rw [cG hi,cond_true,an (bI hi),i7 cut aK i hi,ca (by omega)]
    obtain ⟨k,hk⟩ : ∃ k : Nat,cut[i].at_ = (k : Int) := ⟨cut[i].at_.toNat,by omega⟩
    rw [hk] at ha
    by_cases h : 0 < mi
    · have e : B1 cut[i] (mi,oi) = .inl (mi - 1,we oi k) := by
        unfold B1
        rw [hk]
        show Sum.inl (if 0 < mi then (mi - 1,we oi ((k : Int)).toNat) else (mi,oi)) = _
        rw [if_pos h,Int.toNat_natCast]
      rw [e,hk]
      have hx := b4 (oi.getD k dB) (by
        rw [List.getD_eq_getElem?_getD,List.getElem?_eq_getElem (show k < oi.length by omega)]
        exact List.getElem_mem _)
      have hx1 : 0 ≤ (oi.getD k dB).Amount := hx.1
      have hx2 : (oi.getD k dB).Amount ≤ 1000000000000 + (i : Int) := hx.2
      rw [decide_eq_true h,cond_true,an (by omega),an (by omega),Nat.zero_add,Int.toNat_natCast,bG (n := mi - 1) (by omega) (by omega),bG (n := (oi.getD k dB).Amount + 1) (by omega) (by omega)]
      rfl
    · have e : B1 cut[i] (mi,oi) = .inl (mi,oi) := by
        unfold B1
        show Sum.inl (if 0 < mi then (mi - 1,we oi cut[i].at_.toNat) else (mi,oi)) = _
        rw [if_neg h]
      rw [e,decide_eq_false h,cond_false]
  · rintro i hi ⟨mi,oi⟩ a' ⟨⟨b1,b2⟩,b3,b4⟩ hg
    have b1 : -13000000000000 - (i : Int) ≤ mi := b1
    have b2 : mi ≤ 1000000000000 := b2
    have b3 : oi.length = out.length := b3
    have ha := hat cut[i] (List.getElem_mem hi)
    unfold B1 at hg
    cases hg
    show (-13000000000000 - ((i + 1 : Nat) : Int) ≤ (if 0 < mi then (mi - 1,we oi cut[i].at_.toNat) else (mi,oi)).1 ∧ (if 0 < mi then (mi - 1,we oi cut[i].at_.toNat) else (mi,oi)).1 ≤ 1000000000000) ∧ (if 0 < mi then (mi - 1,we oi cut[i].at_.toNat) else (mi,oi)).2.length = out.length ∧ ∀ x ∈ (if 0 < mi then (mi - 1,we oi cut[i].at_.toNat) else (mi,oi)).2,0 ≤ x.Amount ∧ x.Amount ≤ 1000000000000 + ((i + 1 : Nat) : Int)
    by_cases h : 0 < mi
    · rw [if_pos h]
      refine ⟨by show _ ≤ mi - 1 ∧ mi - 1 ≤ _; omega,by rw [OB]; exact b3,fun x hx => ?_⟩
      rcases VL (by omega) hx with hx | ⟨y,hy,e⟩
      · have := b4 x hx
        have c1 : 0 ≤ x.Amount := this.1
        have c2 : x.Amount ≤ 1000000000000 + (i : Int) := this.2
        omega
      · have := b4 y hy
        have c1 : 0 ≤ y.Amount := this.1
        have c2 : y.Amount ≤ 1000000000000 + (i : Int) := this.2
        omega
    · rw [if_neg h]
      refine ⟨by show _ ≤ mi ∧ mi ≤ _; omega,b3,fun x hx => ?_⟩
      have := b4 x hx
      have c1 : 0 ≤ x.Amount := this.1
      have c2 : x.Amount ≤ 1000000000000 + (i : Int) := this.2
      omega
  · rintro ⟨mi,oi⟩ _
    show gc mi oi cut ((cut.length : Nat) : Int) cut.length = _
    unfold gc
    rw [bH,cond_false]
theorem H9 {total : Int} (ht : 0 ≤ total ∧ total ≤ 1000000000000) {l : List af} (hv : iy l = true) : ∀ (n i : Nat) (a : Int × List bh × List ae),l.length = i + n → JR i a → JR l.length (mX (PU total l) id (l.drop i) a)
  | 0,i,a,h,hp => by
    have : i = l.length := by omega
    subst this
    rw [List.drop_length]
    exact hp
  | n + 1,i,a,h,hp => by
    have hi : i < l.length := by omega
    rw [List.drop_eq_getElem_cons hi]
    exact H9 ht hv n (i + 1) _ (by omega) (Im ht hv i hi a _ hp rfl)
def x6 (total : Int) (l : List af) : Int := total * min 100 (hZ l) / 100
def Kc (total : Int) (l : List af) : List bh :=
  XF (JT total l (x6 total l)).2.2 (JT total l (x6 total l)).1 (JT total l (x6 total l)).2.1
theorem CT (total : Int) (l : List af) : et total l = some (if 0 ≤ total ∧ total ≤ 1000000000000 then (if iy l then (Kc total l,0) else ([],1)) else ([],1)) := by
  show kq total l = _
  unfold kq
  rw [lm]
  by_cases ht : 0 ≤ total ∧ total ≤ 1000000000000
  · rw [if_pos ht,decide_eq_false (show ¬ total < 0 by omega),decide_eq_false (show ¬ 1000000000000 < total by omega),show (false || false) = false from rfl,cond_false,tr,Option.bind_some]
    cases hv : iy l with
    | false => rfl
    | true =>
      obtain ⟨h1,h2⟩ := kW hv
      have ha := Ct hv
      rw [if_pos rfl,if_pos rfl]
      show (eT l).bind _ = _
      rw [s5 l hv,Option.bind_some]
      have hmin : (if (100 : Int) < hZ l then (100 : Int) else hZ l) = min 100 (hZ l) := by omega
      have hs0 : 0 ≤ total * min 100 (hZ l) := Int.mul_nonneg ht.1 (by omega)
      have hs1 : total * min 100 (hZ l) ≤ 1000000000000 * 100 := Int.mul_le_mul ht.2 (by omega) (by omega) (by omega)
      have hs2 : 0 ≤ total * min 100 (hZ l) / 100 := Int.ediv_nonneg hs0 (by omega)
      have hs3 : total * min 100 (hZ l) / 100 ≤ 1000000000000 := by omega
      show nf total l (ak (Int.tdiv (ak (total * (if (100 : Int) < hZ l then (100 : Int) else hZ l))) (100 : Int))) (l.map (cB l)) (((l.map (cB l)).length : Nat) : Int) = _
      rw [hmin,bG (n := total * min 100 (hZ l)) (by omega) (by omega),Int.tdiv_eq_ediv_of_nonneg hs0,bG (by omega) (by omega),show (l.map (cB l)).length = l.length from List.length_map _]
      show (aN (gm total l (x6 total l) (l.map (cB l)) ((l.length : Nat) : Int)) (x6 total l,[],[],0)).bind _ = _
      rw [MW ht hv (x6 total l) (x6 total l) ⟨hs2,hs3⟩,Option.bind_some]
      have hP : JR l.length (JT total l (x6 total l)) := H9 ht hv l.length 0 _ (by omega) ⟨⟨by show -1000000000000 * ((0 : Nat) : Int) ≤ x6 total l; unfold x6; omega,hs3⟩,rfl,rfl,fun x hx => by simp at hx,fun x hx => by simp at hx⟩
      unfold Kc
      generalize JT total l (x6 total l) = s at hP ⊢
      obtain ⟨m,out,cut⟩ := s
      obtain ⟨⟨b1,b2⟩,b3,b4,b5,b6⟩ := hP
      have b1 : -1000000000000 * (l.length : Int) ≤ m := b1
      have b2 : m ≤ 1000000000000 := b2
      have b3 : out.length = l.length := b3
      have b4 : cut.length = l.length := b4
      show (aN (fZ m out cut ((cut.length : Nat) : Int)) (m,out,cut,((cut.length : Nat) : Int),0)).bind _ = _
      rw [Oj cut out m _ _ _ _ (by omega) (by omega) (fun x hx => by have := b5 x hx; exact ⟨this.2.1,by omega⟩) b6,Option.bind_some]
      rfl
  · rw [if_neg ht]
    have : (decide (total < 0) || decide (1000000000000 < total)) = true := by
      by_cases h : total < 0
      · rw [decide_eq_true h]; rfl
      · rw [decide_eq_true (show 1000000000000 < total by omega),Bool.or_true]
    rw [this]
    rfl
theorem KA : qm = some true := by
  have e1 : (if iy [⟨1,1,100⟩,⟨2,2,0⟩,⟨3,2,0⟩] = true then (([⟨1,1,100⟩,⟨2,2,0⟩,⟨3,2,0⟩] : List af).map (cB [⟨1,1,100⟩,⟨2,2,0⟩,⟨3,2,0⟩]),(0 : Int)) else ([],1)) = ([⟨3,5⟩,⟨1,5⟩,⟨1,5⟩],0) := by kernel_rfl
  have e2 : (if (0 : Int) ≤ 11 ∧ (11 : Int) ≤ 1000000000000 then (if iy [⟨1,1,100⟩,⟨2,2,0⟩,⟨3,2,0⟩] = true then (Kc 11 [⟨1,1,100⟩,⟨2,2,0⟩,⟨3,2,0⟩],(0 : Int)) else ([],1)) else ([],1)) = ([⟨1,7⟩,⟨2,2⟩,⟨3,2⟩],0) := by kernel_rfl
  have e3 : WD [⟨1,2,1,0,0,0,50⟩,⟨1,1,1,0,0,0,40⟩] = [⟨1,1,1,0,0,0,50⟩] := by kernel_rfl
  show pD = _
  unfold pD
  rw [tr,Option.bind_some,CT,Option.bind_some,Bw _ (by decide),Option.bind_some]
  rw [e1,e2,e3]
  simp [Bu]
  decide
end Go.Ax
