import Derived.Test.YtkijjjdaijjpaaaGreatZLW1
set_option linter.all false
/- Careers and spans. -/
set_option maxRecDepth 100000
namespace Go.Ax
section
open Go.Proofs
abbrev s6 := ax
def iQ (r : s6) : Int := 1 + r.Kind % 14
def uq (r : s6) : Int :=
  if iQ r = 11 then 12000 + r.From % 5000 else if iQ r = 12 then 34000 + r.From % 6000 else if iQ r = 8 then 34000 + r.From % 4000 else 21900 + r.From % 16000
def Sx (r : s6) : Int :=
  if iQ r = 11 then uq r + 1 else if iQ r = 12 then uq r + 1 else if iQ r = 8 then uq r + 1 + r.Length % 700 else uq r + um r.Length
def Az (r : s6) (a b : Int) (f : aa) (c : Nat) : aa :=
  if c = 83 then { f with State := r.State % 3 }
  else if c = 80 then { f with Span := ⟨a,b⟩ }
  else if c = 84 then { f with Seat := if f.Kind = 4 ∧ r.Seat % 3 = f.State then ak (f.State + 1) % 3 else r.Seat % 3 }
  else if c = 72 then { f with Share := ak (1 + r.Share % 100) }
  else if c = 67 then { f with Currency := ak (1 + ak (r.Seat + r.State.tmod 3) % 3) }
  else if c = 65 then { f with Amount := r.Amount % 3000000 }
  else { f with Ref := if ak (1 + r.Ref % 4) = f.Person then ak (1 + f.Person % 4) else ak (1 + r.Ref % 4) }
def F6 (r : s6) : aa :=
  { Issuer := r.Issuer % 3,Number := 1 + r.Number % 20,Version := 1 + r.Version % 3,Withdrawn := r.Withdrawn,Person := 1 + r.Person % 4,Kind := iQ r,State := 0,Span := ⟨0,0⟩,Seat := 0,Share := 0,Currency := 0,Amount := 0,Ref := 0 }
def FN (r : s6) : aa := (dF (iQ r)).foldl (Az r (uq r) (Sx r)) (F6 r)
theorem hm (x : Int) {m : Int} (h : 0 < m) : 0 ≤ x % m ∧ x % m < m := ⟨Int.emod_nonneg _ (by omega),Int.emod_lt_of_pos _ h⟩
theorem Ku (r : s6) (a b : Int) (l : List Nat) (hl : ∀ c ∈ l,c < 256) (hn : l.length < 1000) (i : Nat) (hi : i < l.length) (f : aa) :
    th a b (aA l) (i : Int) r f = some (.inl (((i + 1 : Nat) : Int),Az r a b f l[i])) := by
  unfold th
  rw [kt,an (by omega),Int.toNat_natCast,BV l i hi]
  have hv : ((UInt8.ofNat l[i]).toNat : Int) = (l[i] : Int) := by
    have := hl _ (List.getElem_mem hi)
    simp [Nat.mod_eq_of_lt this]
  rw [hv]
  generalize l[i] = c
  have hw : ak ((i : Int) + 1) = ((i + 1 : Nat) : Int) := by rw [bG (by omega) (by omega)]; omega
  have m3 := fun x => bL x 3 (by omega) (by omega)
  have m4 := fun x => bL x 4 (by omega) (by omega)
  have m100 := fun x => bL x 100 (by omega) (by omega)
  have mA := fun x => bL x 3000000 (by omega) (by omega)
  simp only [m3,m4,m100,mA,Option.bind_some]
  unfold fP
  rw [hw]
  have key : ∀ n : Nat,((c : Int) == (n : Int)) = decide (c = n) := by
    intro n
    by_cases h : c = n
    · subst h; simp
    · have h2 : ((c : Int) == (n : Int)) = false := by simp; omega
      rw [h2]; simp [h]
  have k83 := key 83; have k80 := key 80; have k84 := key 84; have k72 := key 72; have k67 := key 67; have k65 := key 65
  simp only [Int.cast_ofNat_Int] at k83 k80 k84 k72 k67 k65
  rw [k83,k80,k84,k72,k67,k65]
  unfold Az
  by_cases h1 : c = 83
  · simp [h1]
  by_cases h2 : c = 80
  · simp [h2]
  by_cases h3 : c = 84
  · subst h3
    by_cases h4 : f.Kind = 4 ∧ r.Seat % 3 = f.State
    · simp [h4]
    · have : (bif f.Kind == 4 then r.Seat % 3 == f.State else false) = false := by
        rw [iN,Bool.and_eq_false_iff]
        by_cases h5 : f.Kind = 4
        · right; simpa using fun e => h4 ⟨h5,e⟩
        · left; simpa using h5
      simp [this,h4]
  by_cases h4 : c = 72
  · simp [h4]
  by_cases h5 : c = 67
  · simp [h5]
  by_cases h6 : c = 65
  · simp [h6]
  simp only [h1,h2,h3,h4,h5,h6,decide_false,cond_false,if_false]
  by_cases h7 : ak (1 + r.Ref % 4) = f.Person
  · simp [h7]
  · have : (ak (1 + r.Ref % 4) == f.Person) = false := by simpa using h7
    simp [this,h7]
theorem Ke (r : s6) (a b : Int) (l : List Nat) (hl : ∀ c ∈ l,c < 256) (hn : l.length < 1000) (f0 : aa) : ∀ (n i : Nat) (f : aa),l.length = i + n →
    aN (sI a b (aA l) r f0) ((i : Int),f) = some ((l.drop i).foldl (Az r a b) f) := by
  intro n
  induction n with
  | zero =>
    intro i f hi
    rw [aV]
    show (mC a b (aA l) (i : Int) r f).bind _ = _
    unfold mC
    rw [kt]
    have : decide ((i : Int) < (l.length : Int)) = false := by simp; omega
    rw [this,List.drop_of_length_le (by omega)]
    rfl
  | succ n ih =>
    intro i f hi
    have hlt : i < l.length := by omega
    rw [aV]
    show (mC a b (aA l) (i : Int) r f).bind _ = _
    unfold mC
    rw [kt]
    have : decide ((i : Int) < (l.length : Int)) = true := by simp; omega
    rw [this,cond_true,Ku r a b l hl hn i hlt f,Option.bind_some]
    simp only
    rw [ih (i + 1) _ (by omega),List.drop_eq_getElem_cons hlt,List.foldl_cons]
theorem Nd (r : s6) : vT r = some (FN r) := by
  show tk r = _
  unfold tk
  have m3 := fun x => bL x 3 (by omega) (by omega)
  have m4 := fun x => bL x 4 (by omega) (by omega)
  have m20 := fun x => bL x 20 (by omega) (by omega)
  have m14 := fun x => bL x 14 (by omega) (by omega)
  have m16 := fun x => bL x 16000 (by omega) (by omega)
  have m5 := fun x => bL x 5000 (by omega) (by omega)
  have m6 := fun x => bL x 6000 (by omega) (by omega)
  have m40 := fun x => bL x 4000 (by omega) (by omega)
  have m7 := fun x => bL x 700 (by omega) (by omega)
  simp only [m3,m4,m20,m14,m16,m5,m6,m40,m7,Kj,Option.bind_some]
  have a1 := hm r.Number (m := 20) (by decide)
  have a2 := hm r.Version (m := 3) (by decide)
  have a3 := hm r.Person (m := 4) (by decide)
  have a4 := hm r.Kind (m := 14) (by decide)
  have a5 := hm r.From (m := 5000) (by decide)
  have a6 := hm r.From (m := 6000) (by decide)
  have a7 := hm r.From (m := 4000) (by decide)
  have a8 := hm r.From (m := 16000) (by decide)
  have a9 := hm r.Length (m := 700) (by decide)
  have b1 := LB r.Length
  rw [bG (n := 1 + r.Number % 20) (by omega) (by omega),bG (n := 1 + r.Version % 3) (by omega) (by omega),bG (n := 1 + r.Person % 4) (by omega) (by omega),bG (n := 1 + r.Kind % 14) (by omega) (by omega),
    bG (n := 12000 + r.From % 5000) (by omega) (by omega),bG (n := 12000 + r.From % 5000 + 1) (by omega) (by omega),bG (n := 34000 + r.From % 6000) (by omega) (by omega),bG (n := 34000 + r.From % 6000 + 1) (by omega) (by omega),
    bG (n := 34000 + r.From % 4000) (by omega) (by omega),bG (n := 34000 + r.From % 4000 + 1) (by omega) (by omega),bG (n := 34000 + r.From % 4000 + 1 + r.Length % 700) (by omega) (by omega),
    bG (n := 21900 + r.From % 16000) (by omega) (by omega),bG (n := 21900 + r.From % 16000 + um r.Length) (by omega) (by omega)]
  have core : ∀ a b : Int,kO a b r (F6 r) = some ((dF (iQ r)).foldl (Az r a b) (F6 r)) := by
    intro a b
    unfold kO
    rw [rg,Option.bind_some]
    unfold yt
    have h6 := sJ (iQ r)
    have := Ke r a b (dF (iQ r)) (vm _) (by omega) (F6 r) (dF (iQ r)).length 0 (F6 r) (by omega)
    rw [show ((0 : Nat) : Int) = 0 from rfl] at this
    rw [show (F6 r).Kind = iQ r from rfl,this]
    rfl
  have hk : iQ r = 1 + r.Kind % 14 := rfl
  unfold FN Sx uq
  by_cases k11 : 1 + r.Kind % 14 = 11
  · have : (1 + r.Kind % 14 == 11) = true := by simpa using k11
    rw [this,cond_true,hk,if_pos k11,if_pos k11]
    exact core _ _
  have WT : (1 + r.Kind % 14 == 11) = false := by simpa using k11
  rw [WT,cond_false]
  by_cases k12 : 1 + r.Kind % 14 = 12
  · have : (1 + r.Kind % 14 == 12) = true := by simpa using k12
    rw [this,cond_true,hk,if_neg k11,if_pos k12,if_neg k11,if_pos k12]
    exact core _ _
  have WS : (1 + r.Kind % 14 == 12) = false := by simpa using k12
  rw [WS,cond_false]
  by_cases k8 : 1 + r.Kind % 14 = 8
  · have : (1 + r.Kind % 14 == 8) = true := by simpa using k8
    rw [this,cond_true,hk,if_neg k11,if_neg k12,if_pos k8,if_neg k11,if_neg k12,if_pos k8]
    exact core _ _
  have e8 : (1 + r.Kind % 14 == 8) = false := by simpa using k8
  rw [e8,cond_false,hk,if_neg k11,if_neg k12,if_neg k8,if_neg k11,if_neg k12,if_neg k8]
  exact core _ _
end
theorem Ey (p : aa → Bool) : ∀ (l out : List aa),l.foldl (fun out f => if p f = true then out ++ [f] else out) out = out ++ l.filter p
  | [],out => by simp
  | f :: l,out => by
    rw [List.foldl_cons,Ey p l,List.filter_cons]
    by_cases h : p f = true
    · rw [if_pos h,if_pos h]; simp
    · rw [if_neg h,if_neg h]
theorem uV {F : List aa × Int → Option ((List aa × Int) ⊕ List aa)} (l : List aa) (p : aa → Bool) (hn : l.length ≤ 1000000)
    (hs : ∀ i (hi : i < l.length) (out : List aa),out.length ≤ i → F (out,(i : Int)) = some (.inl (if p l[i] = true then out ++ [l[i]] else out,((i + 1 : Nat) : Int))))
    (he : ∀ out,F (out,(l.length : Int)) = some (.inr out)) : aN F ([],(0 : Int)) = some (l.filter p) := by
  have := kg (f := F) l (fun i out => (out,(i : Int))) (fun i out => out.length ≤ i) (fun f out => .inl (if p f = true then out ++ [f] else out)) id [] (by simp) (fun i hi out h => hs i hi out h)
    (fun i hi out out' h e => by
      cases e
      split
      · simp; omega
      · omega)
    (fun out _ => he out)
  rw [vO,Ey] at this
  simpa using this
def H5 (person : Int) (f : aa) : Bool := f.Person == person
theorem xu (l : List aa) (person : Int) (hn : l.length ≤ 1000000) : dZ l person = some (l.filter (H5 person)) := by
  show (fM l person).bind _ = _
  have : fM l person = some (l.filter (H5 person)) := by
    show (aN (jT person l) ([],(0 : Int))).bind _ = _
    rw [uV l (H5 person) hn (fun i hi out ho => ?_) (fun out => ?_)]
    · rfl
    · show fx person out l (i : Int) = _
      unfold fx
      rw [cG hi,cond_true,an (bI hi),cM l _ i hi]
      show (bif l[i].Person == person then _ else _) = _
      rw [an (lL (by omega)),ca (by omega)]
      unfold H5
      cases (l[i].Person == person) <;> rfl
    · show fx person out l (l.length : Int) = _
      unfold fx
      rw [bH]
      rfl
  rw [this]
  rfl
theorem GZ (l : List aa) (person : Int) (hn : l.length ≤ 1000000) : jY l person = some (l.filter (H5 person)) := by
  show (aN (uH l person) ([],(0 : Int))).bind _ = _
  rw [uV l (H5 person) hn (fun i hi out ho => ?_) (fun out => ?_)]
  · rfl
  · show nW l person out (i : Int) = _
    unfold nW
    rw [cG hi,cond_true,an (bI hi),cM l _ i hi,an (bI hi),an (lL (by omega)),ca (by omega)]
    unfold H5
    cases (l[i].Person == person) <;> rfl
  · show nW l person out (l.length : Int) = _
    unfold nW
    rw [bH]
    rfl
def jm (f : aa) : Bool := bN f && !f.Withdrawn
theorem wr (f : aa) : it f = some (jm f) := by
  show l6 f = _
  unfold l6
  rw [nO,Option.bind_some]
  unfold jm
  cases bN f <;> rfl
theorem Gq (l : List aa) (hn : l.length ≤ 1000000) : jj l = some (l.filter jm) := by
  show (dL l).bind _ = _
  have : dL l = some (l.filter jm) := by
    show (aN (iM l) ([],(0 : Int))).bind _ = _
    rw [uV l jm hn (fun i hi out ho => ?_) (fun out => ?_)]
    · rfl
    · show eu out l (i : Int) = _
      unfold eu
      rw [cG hi,cond_true,an (bI hi),cM l _ i hi,wr,Option.bind_some,an (lL (by omega)),ca (by omega)]
      cases jm l[i] <;> rfl
    · show eu out l (l.length : Int) = _
      unfold eu
      rw [bH]
      rfl
  rw [this]
  rfl
theorem ye (l : List aa) (hn : l.length ≤ 1000000) : ig l = some (l.filter jm) := by
  show (aN (nk l) ([],(0 : Int))).bind _ = _
  rw [uV l jm hn (fun i hi out ho => ?_) (fun out => ?_)]
  · rfl
  · show js l out (i : Int) = _
    unfold js
    rw [cG hi,cond_true,an (bI hi),cM l _ i hi,l9,Option.bind_some,an (by intro _; omega),an (by intro _; omega),an (bI hi),an (lL (by omega)),ca (by omega)]
    unfold jm
    cases bN l[i] <;> cases l[i].Withdrawn <;> rfl
  · show js l out (l.length : Int) = _
    unfold js
    rw [bH]
    rfl
def Ef (kind : Int) (f : aa) (a : Int × Bool) : Int × Bool := if (f.Kind == kind && (!a.2 || decide (f.Span.From < a.1))) = true then (f.Span.From,true) else a
def hT (l : List aa) (kind : Int) : Int × Bool := (l.filter jm).foldl (fun a f => Ef kind f a) (0,false)
theorem wm {A : Type} (p : aa → Bool) (g : A → aa → A) : ∀ (l : List aa) (a : A),(l.filter p).foldl g a = l.foldl (fun a f => if p f = true then g a f else a) a
  | [],_ => rfl
  | f :: l,a => by
    rw [List.filter_cons,List.foldl_cons]
    by_cases h : p f = true
    · rw [if_pos h,if_pos h,List.foldl_cons,wm p g l]
    · rw [if_neg h,if_neg h,wm p g l]
theorem I6 (l : List aa) (kind : Int) (hn : l.length ≤ 1000000) : tt l kind = some (hT l kind) := by
  show (aN (lz kind l) ((0 : Int),false,(0 : Int))).bind _ = _
  have := kg (f := lz kind l) l (fun i (a : Int × Bool) => (a.1,a.2,(i : Int))) (fun _ _ => True) (fun f a => .inl (if jm f = true then Ef kind f a else a)) id (0,false) trivial (fun i hi a _ => ?_) (fun _ _ _ _ _ _ => trivial) (fun a _ => ?_)
  · rw [vO] at this
    rw [show ((0 : Int),false,(0 : Int)) = (((0 : Int),false).1,((0 : Int),false).2,((0 : Nat) : Int)) from rfl,this,Option.bind_some]
    unfold hT
    rw [wm]
    rfl
  · show jP kind a.1 a.2 l (i : Int) = _
    unfold jP
    rw [cG hi,cond_true,an (bI hi),cM l _ i hi,wr,Option.bind_some,ca (by omega)]
    unfold Ef
    cases jm l[i] with
    | false => rfl
    | true =>
      simp only [cond_true,if_true,iN,lm]
      cases (l[i].Kind == kind && (!a.2 || decide (l[i].Span.From < a.1))) <;> rfl
  · show jP kind a.1 a.2 l (l.length : Int) = _
    unfold jP
    rw [bH]
    rfl
theorem Ko (l : List aa) (kind : Int) (hn : l.length ≤ 1000000) : qA l kind = some (hT l kind) := by
  show (ig l).bind _ = _
  rw [ye l hn,Option.bind_some]
  have hc : (l.filter jm).length ≤ l.length := List.length_filter_le _ _
  unfold hT
  generalize l.filter jm = c at hc
  show (aN (mF kind c) ((0 : Int),false,(0 : Int))).bind _ = _
  have := kg (f := mF kind c) c (fun i (a : Int × Bool) => (a.1,a.2,(i : Int))) (fun _ _ => True) (fun f a => .inl (Ef kind f a)) id (0,false) trivial (fun i hi a _ => ?_) (fun _ _ _ _ _ _ => trivial) (fun a _ => ?_)
  · rw [vO] at this
    rw [show ((0 : Int),false,(0 : Int)) = (((0 : Int),false).1,((0 : Int),false).2,((0 : Nat) : Int)) from rfl,this,Option.bind_some]
    rfl
  · show kF kind c a.1 a.2 (i : Int) = _
    unfold kF
    rw [cG hi,cond_true,an (bI hi),i7 c _ i hi,an (by intro _; omega),an (by intro _; omega),an (bI hi),ca (by omega)]
    unfold Ef
    simp only [iN,lm]
    cases (c[i].Kind == kind && (!a.2 || decide (c[i].Span.From < a.1))) <;> rfl
  · show kF kind c a.1 a.2 (c.length : Int) = _
    unfold kF
    rw [bH]
    rfl
theorem y4 (l : List aa) (hn : l.length ≤ 1000000) : jy l = some (hT l 12) := by
  show oA l = _
  unfold oA
  rw [I6 l 12 hn]; rfl
theorem Bo (l : List aa) (hn : l.length ≤ 1000000) : ku l = some (hT l 12) := by
  show pt l = _
  unfold pt
  rw [Ko l 12 hn]; rfl
section
open Go.Proofs
def Jl (n : List Int) (i : Int) : Int := if n.length = 0 then 0 else n.getD (i % (n.length : Int)).toNat 0
theorem Er (n : List Int) (i : Int) (hn : n.length ≤ 9223372036854775807) : aX n i = some (Jl n i) := by
  show sw n i = _
  unfold sw Jl
  by_cases h : n.length = 0
  · have : (((n.length : Nat) : Int) == (0 : Int)) = true := by rw [h]; rfl
    rw [this,cond_true,if_pos h]
  · have : (((n.length : Nat) : Int) == (0 : Int)) = false := by
      rw [beq_eq_false_iff_ne]; omega
    have h1 := Int.emod_nonneg i (show ((n.length : Nat) : Int) ≠ 0 by omega)
    have h2 := Int.emod_lt_of_pos i (show (0 : Int) < ((n.length : Nat) : Int) by omega)
    rw [this,cond_false,if_neg h,bL _ _ (by omega) (by omega),Option.bind_some,an ⟨h1,h2⟩]
theorem Jo (n : List Int) (hn : n.length ≤ 9223372036854775807) (out : List aa) (p : Int) (hp : 0 ≤ p ∧ p ≤ 2) (ho : out.length ≤ 100) : ∃ x : List aa,x.length = 6 ∧ (∀ f ∈ x,f.Kind ≠ 12) ∧ qT n out p = some (.inl (out ++ x,p + 1)) := by
  unfold qT wj
  simp only [Er n _ hn,Option.bind_some,bL _ 3 (by omega) (by omega),bL _ 6000 (by omega) (by omega),bL _ 3000 (by omega) (by omega),bL _ 900000 (by omega) (by omega)]
  rw [an (lL (by omega)),an (lL (by omega)),an (lL (by omega)),an (lL (by omega)),an (lL (by omega)),an (lL (by omega)),bG (n := p + 1) (by omega) (by omega)]
  simp only [List.append_assoc]
  refine ⟨_,rfl, ?_,rfl⟩
  intro f hf
  simp only [List.cons_append,List.nil_append,List.mem_cons,List.not_mem_nil,or_false] at hf
  rcases hf with rfl | rfl | rfl | rfl | rfl | rfl <;> exact ne_of_beq_false rfl
theorem Jn (n : List Int) (hn : n.length ≤ 9223372036854775807) : ∃ x,cS n = some x ∧ x.length = 15 ∧ ∀ f ∈ x,f.Kind = 12 → 30000 ≤ f.Span.From := by
  obtain ⟨a,ha,ha',h1⟩ := Jo n hn [] 1 (by omega) (by simp)
  obtain ⟨b,hb,hb',h2⟩ := Jo n hn ([] ++ a) (1 + 1) (by omega) (by simp [ha])
  have hl : aN (fQ n) (([] : List aa),(1 : Int)) = some (([] ++ a) ++ b) := by
    rw [aV]
    have e1 : fQ n (([] : List aa),(1 : Int)) = some (.inl ([] ++ a,1 + 1)) := h1
    rw [e1,Option.bind_some]
    show aN (fQ n) ([] ++ a,(1 + 1 : Int)) = _
    rw [aV]
    have e2 : fQ n ([] ++ a,(1 + 1 : Int)) = some (.inl (([] ++ a) ++ b,1 + 1 + 1)) := h2
    rw [e2,Option.bind_some]
    show aN (fQ n) (([] ++ a) ++ b,(1 + 1 + 1 : Int)) = _
    rw [aV]
    have e3 : fQ n (([] ++ a) ++ b,(1 + 1 + 1 : Int)) = some (.inr (([] ++ a) ++ b)) := rfl
    rw [e3,Option.bind_some]
  have hlen : (([] ++ a) ++ b).length = 12 := by simp [ha,hb]
  have e : cS n = qQ n (([] ++ a) ++ b) := by
    show (aN (fQ n) (([] : List aa),(1 : Int))).bind (sM n) = _
    rw [hl,Option.bind_some]
    rfl
  have hk : ∀ f ∈ ([] ++ a) ++ b,f.Kind ≠ 12 := by
    intro f hf
    rcases List.mem_append.1 hf with hf | hf
    · exact ha' f (by simpa using hf)
    · exact hb' f hf
  rw [e]
  generalize ([] ++ a) ++ b = out at hlen hk
  unfold qQ
  simp only [Er n _ hn,Option.bind_some,bL _ 2000 (by omega) (by omega),bL _ 900 (by omega) (by omega),bL _ 1200 (by omega) (by omega),bL _ 300 (by omega) (by omega)]
  rw [an (lL (by omega)),an (lL (by omega)),an (lL (by omega))]
  refine ⟨_,rfl,by simp [hlen],fun f hf h12 => ?_⟩
  simp only [List.mem_append,List.mem_singleton] at hf
  rcases hf with ((hf | rfl) | rfl) | rfl
  · exact (hk f hf h12).elim
  · exact ((by decide : (13 : Int) ≠ 12) h12).elim
  · have := Int.emod_nonneg (Jl n 17) (show (900 : Int) ≠ 0 by omega)
    have h2 := Int.emod_lt_of_pos (Jl n 17) (show (0 : Int) < 900 by omega)
    show 30000 ≤ ak (35600 + Jl n 17 % 900)
    rw [bG (by omega) (by omega)]
    omega
  · exact ((by decide : (8 : Int) ≠ 12) h12).elim
theorem Js (l : List s6) : ∃ x,fa l = some x ∧ x.length ≤ 12 ∧ ∀ f ∈ x, ∃ r,f = FN r := by
  have key : ∀ (k i : Nat) (out : List aa),min l.length 12 = i + k → out.length = i → (∀ f ∈ out, ∃ r,f = FN r) → ∃ a,aN (nQ l) (out,(i : Int)) = some a ∧ a.length ≤ 12 ∧ ∀ f ∈ a, ∃ r,f = FN r := by
    intro k
    induction k with
    | zero =>
      intro i out h ho hm
      refine ⟨out, ?_,by omega,hm⟩
      rw [aV]
      show (jW l out (i : Int)).bind _ = _
      unfold jW
      have : (bif decide ((i : Int) < ((l.length : Nat) : Int)) then decide ((i : Int) < (12 : Int)) else false) = false := by
        rw [iN,Bool.and_eq_false_iff]
        by_cases hc : l.length ≤ i
        · left; simp; omega
        · right; simp; omega
      rw [this]
      rfl
    | succ k ih =>
      intro i out h ho hm
      have hi : i < l.length := by omega
      have h12 : decide ((i : Int) < (12 : Int)) = true := by simp; omega
      obtain ⟨f,hf,hr⟩ : ∃ f,jW l out (i : Int) = some (.inl (out ++ [f],((i + 1 : Nat) : Int))) ∧ ∃ r,f = FN r := by
        unfold jW
        rw [cG hi,cond_true,h12,cond_true,an (bI hi),Nd,Option.bind_some,an (lL (n := out.length + 1) (by omega)),ca (by omega)]
        exact ⟨_,rfl,_,rfl⟩
      rw [aV]
      show ∃ a,(jW l out (i : Int)).bind _ = some a ∧ _
      rw [hf,Option.bind_some]
      exact ih (i + 1) _ (by omega) (by simp [ho]) (fun g hg => by
        rcases List.mem_append.1 hg with hg | hg
        · exact hm g hg
        · rw [List.mem_singleton.1 hg]; exact hr)
  obtain ⟨a,h1,h2,h3⟩ := key (min l.length 12) 0 [] (by omega) rfl (fun f hf => by simp at hf)
  rw [show ((0 : Nat) : Int) = 0 from rfl] at h1
  refine ⟨a, ?_,h2,h3⟩
  show (aN (nQ l) (([] : List aa),(0 : Int))).bind _ = _
  rw [h1]
  rfl
end
section
open Go.Proofs
def ia (l : List ac) (d : Int) : Prop := ∃ s ∈ l,s.From ≤ d ∧ d < s.To
def gf (lo : Int) : List ac → Prop
  | [] => True
  | s :: r => lo < s.From ∧ s.From < s.To ∧ s.To ≤ 73049 ∧ gf s.To r
def Em (lo : Int) : List ac → Int
  | [] => lo
  | s :: r => Em s.To r
theorem ct {s : ac} {r : List ac} {d : Int} : ia (s :: r) d ↔ (s.From ≤ d ∧ d < s.To) ∨ ia r d := by simp [ia]
theorem fw {d : Int} : ¬ ia [] d := by simp [ia]
theorem ux {a b : List ac} {d : Int} : ia (a ++ b) d ↔ ia a d ∨ ia b d := by
  unfold ia
  constructor
  · rintro ⟨s,hs,h⟩
    rcases List.mem_append.1 hs with hs | hs
    · exact .inl ⟨s,hs,h⟩
    · exact .inr ⟨s,hs,h⟩
  · rintro (⟨s,hs,h⟩ | ⟨s,hs,h⟩)
    · exact ⟨s,List.mem_append.2 (.inl hs),h⟩
    · exact ⟨s,List.mem_append.2 (.inr hs),h⟩
theorem lM : ∀ {l : List ac} {lo d : Int},gf lo l → ia l d → lo < d ∧ d < 73049
  | [],_,_,_,hc => (fw hc).elim
  | s :: r,lo,d,⟨h1,h2,h3,h4⟩,hc => by
    rcases ct.1 hc with h | h
    · omega
    · have := lM h4 h
      omega
theorem E7 : ∀ {a b : List ac} {lo : Int},gf lo a → gf lo b → (∀ d,ia a d ↔ ia b d) → a = b
  | [],[],_,_,_,_ => rfl
  | [],t :: u,_,_,hb,h => (fw ((h t.From).2 (ct.2 (.inl ⟨Int.le_refl _,hb.2.1⟩)))).elim
  | s :: r,[],_,ha,_,h => (fw ((h s.From).1 (ct.2 (.inl ⟨Int.le_refl _,ha.2.1⟩)))).elim
  | s :: r,t :: u,lo,⟨a1,a2,a3,a4⟩,⟨b1,b2,b3,b4⟩,h => by
    have hs := (h s.From).1 (ct.2 (.inl ⟨Int.le_refl _,a2⟩))
    have ht := (h t.From).2 (ct.2 (.inl ⟨Int.le_refl _,b2⟩))
    have e1 : s.From = t.From := by
      rcases ct.1 hs with hs | hs
      · rcases ct.1 ht with ht | ht
        · omega
        · have := lM a4 ht; omega
      · have := lM b4 hs
        rcases ct.1 ht with ht | ht
        · omega
        · have := lM a4 ht; omega
    have e2 : s.To = t.To := by
      rcases Int.lt_trichotomy s.To t.To with hlt | he | hlt
      · have := (h s.To).2 (ct.2 (.inl ⟨by omega,hlt⟩))
        rcases ct.1 this with hc | hc
        · omega
        · have := lM a4 hc; omega
      · exact he
      · have := (h t.To).1 (ct.2 (.inl ⟨by omega,hlt⟩))
        rcases ct.1 this with hc | hc
        · omega
        · have := lM b4 hc; omega
    have e3 : s = t := by
      cases s; cases t
      simp only at e1 e2
      rw [e1,e2]
    subst e3
    rw [E7 a4 b4 fun d => ?_]
    constructor
    · intro hc
      have h1 := lM a4 hc
      rcases ct.1 ((h d).1 (ct.2 (.inr hc))) with h2 | h2
      · omega
      · exact h2
    · intro hc
      have h1 := lM b4 hc
      rcases ct.1 ((h d).2 (ct.2 (.inr hc))) with h2 | h2
      · omega
      · exact h2
theorem sq (lo : Int) : ∀ (l : List ac) (s : ac),Em lo (l ++ [s]) = s.To
  | [],s => rfl
  | t :: r,s => sq t.To r s
theorem oV : ∀ {l : List ac} {s : ac} {lo : Int},gf lo (l ++ [s]) ↔ gf lo l ∧ Em lo l < s.From ∧ s.From < s.To ∧ s.To ≤ 73049
  | [],s,lo => by simp [gf,Em]
  | t :: r,s,lo => by
    rw [List.cons_append]
    unfold gf Em
    rw [oV]
    constructor
    · rintro ⟨h1,h2,h3,h4,h5⟩; exact ⟨⟨h1,h2,h3,h4⟩,h5⟩
    · rintro ⟨⟨h1,h2,h3,h4⟩,h5⟩; exact ⟨h1,h2,h3,h4,h5⟩
theorem pu {T : Type} (l : List T) : l = [] ∨ ∃ p x,l = p ++ [x] := by
  rcases List.eq_nil_or_concat l with h | ⟨p,x,h⟩
  · exact .inl h
  · exact .inr ⟨p,x,by rw [h]; simp⟩
noncomputable def nu (out : List ac) (s : ac) : List ac := match out.getLast? with
  | none => [s]
  | some x => if s.From ≤ x.To then out.dropLast ++ [⟨x.From,if x.To < s.To then s.To else x.To⟩] else out ++ [s]
theorem EE (s : ac) : nu [] s = [s] := rfl
theorem B4 (p : List ac) (x s : ac) : nu (p ++ [x]) s = if s.From ≤ x.To then p ++ [⟨x.From,if x.To < s.To then s.To else x.To⟩] else (p ++ [x]) ++ [s] := by
  unfold nu
  rw [List.getLast?_concat]
  simp
theorem TR {out : List ac} {s : ac} (hn : gf (-1) out) (hb : ∀ x ∈ out,x.From ≤ s.From) (h1 : 0 ≤ s.From) (h2 : s.From < s.To) (h3 : s.To ≤ 73049) :
    gf (-1) (nu out s) ∧ (∀ d,ia (nu out s) d ↔ ia out d ∨ (s.From ≤ d ∧ d < s.To)) ∧ (∀ x ∈ nu out s,x.From ≤ s.From) ∧ (nu out s).length ≤ out.length + 1 := by
  rcases pu out with rfl | ⟨p,x,rfl⟩
  · rw [EE]
    refine ⟨⟨by omega,h2,h3,trivial⟩,fun d => ?_,fun x hx => ?_,by simp⟩
    · rw [ct]; simp [fw]
    · rw [List.mem_singleton.1 hx]; exact Int.le_refl _
  · obtain ⟨n1,n2,n3,n4⟩ := oV.1 hn
    have hx := hb x (by simp)
    rw [B4]
    by_cases hc : s.From ≤ x.To
    · rw [if_pos hc]
      have hm : x.To ≤ (if x.To < s.To then s.To else x.To) ∧ s.To ≤ (if x.To < s.To then s.To else x.To) ∧ ((if x.To < s.To then s.To else x.To) = x.To ∨ (if x.To < s.To then s.To else x.To) = s.To) := by
        split <;> omega
      generalize (if x.To < s.To then s.To else x.To) = m at hm
      refine ⟨oV.2 ⟨n1,n2,by show x.From < m; omega,by show m ≤ 73049; omega⟩,fun d => ?_,fun y hy => ?_,by simp⟩
      · rw [ux,ux,ct,ct]
        simp only [fw,or_false]
        constructor
        · rintro (h | ⟨h4,h5⟩)
          · exact .inl (.inl h)
          · by_cases hd : d < x.To
            · exact .inl (.inr ⟨h4,hd⟩)
            · exact .inr ⟨by omega,by omega⟩
        · rintro ((h | ⟨h4,h5⟩) | ⟨h4,h5⟩)
          · exact .inl h
          · exact .inr ⟨h4,by omega⟩
          · exact .inr ⟨by omega,by omega⟩
      · rcases List.mem_append.1 hy with hy | hy
        · exact hb y (by simp [hy])
        · rw [List.mem_singleton.1 hy]; exact hx
    · rw [if_neg hc]
      refine ⟨oV.2 ⟨hn,by rw [sq]; omega,h2,h3⟩,fun d => ?_,fun y hy => ?_,by simp⟩
      · rw [ux (b := [s]),ct]; simp [fw]
      · rcases List.mem_append.1 hy with hy | hy
        · exact hb y hy
        · rw [List.mem_singleton.1 hy]; exact Int.le_refl _
theorem K0 : ∀ (l out : List ac),gf (-1) out → (∀ x ∈ out, ∀ s ∈ l,x.From ≤ s.From) → l.Pairwise (fun a b => a.From ≤ b.From) → (∀ s ∈ l,0 ≤ s.From ∧ s.From < s.To ∧ s.To ≤ 73049) →
    gf (-1) (l.foldl nu out) ∧ (∀ d,ia (l.foldl nu out) d ↔ ia out d ∨ ia l d) ∧ (l.foldl nu out).length ≤ out.length + l.length
  | [],out,hn,_,_,_ => ⟨hn,fun d => by simp [fw],by simp⟩
  | s :: l,out,hn,hb,hp,ho => by
    obtain ⟨o1,o2,o3⟩ := ho s (by simp)
    obtain ⟨j1,j2,j3,j4⟩ := TR hn (fun x hx => hb x hx s (by simp)) o1 o2 o3
    obtain ⟨p1,p2⟩ := List.pairwise_cons.1 hp
    obtain ⟨f1,f2,f3⟩ := K0 l (nu out s) j1 (fun x hx t ht => by have := j3 x hx; have := p1 t ht; omega) p2 (fun t ht => ho t (by simp [ht]))
    rw [List.foldl_cons]
    refine ⟨f1,fun d => ?_,by rw [List.length_cons]; omega⟩
    rw [f2,j2,ct,or_assoc]
end
section
open Go.Proofs
def df (s : ac) : ac := ac.mk (if s.From < (0 : Int) then (0 : Int) else s.From) (if (73049 : Int) < s.To then (73049 : Int) else s.To)
def C5 (s : ac) : Bool := decide (s.From < s.To)
def iC (l : List ac) : List ac := (l.map df).filter C5
theorem Lm (s : ac) (d : Int) : ((df s).From ≤ d ∧ d < (df s).To) ↔ (s.From ≤ d ∧ d < s.To) ∧ 0 ≤ d ∧ d < 73049 := by
  unfold df
  simp only
  split <;> split <;> omega
theorem xz (l : List ac) (d : Int) : ia (iC l) d ↔ ia l d ∧ 0 ≤ d ∧ d < 73049 := by
  unfold ia iC
  constructor
  · rintro ⟨s,hs,h⟩
    obtain ⟨h1,_⟩ := List.mem_filter.1 hs
    obtain ⟨t,ht,rfl⟩ := List.mem_map.1 h1
    have := (Lm t d).1 h
    exact ⟨⟨t,ht,this.1⟩,this.2⟩
  · rintro ⟨⟨t,ht,h⟩,h2⟩
    have := (Lm t d).2 ⟨h,h2⟩
    refine ⟨df t,List.mem_filter.2 ⟨List.mem_map.2 ⟨t,ht,rfl⟩, ?_⟩,this⟩
    unfold C5
    rw [decide_eq_true_iff]; omega
theorem Ps (l : List ac) : ∀ s ∈ iC l,0 ≤ s.From ∧ s.From < s.To ∧ s.To ≤ 73049 := by
  intro s hs
  obtain ⟨h1,h2⟩ := List.mem_filter.1 hs
  obtain ⟨t,ht,rfl⟩ := List.mem_map.1 h1
  unfold C5 at h2
  rw [decide_eq_true_iff] at h2
  refine ⟨?_,h2, ?_⟩ <;> (unfold df; simp only; split <;> omega)
theorem Nh (l : List ac) : (iC l).length ≤ l.length := by
  unfold iC
  have := List.length_filter_le C5 (l.map df)
  simpa using this
theorem xW {n : Nat} (h : n ≤ 4000000) : cL n 16 := ⟨by omega,by omega⟩
theorem QL (l : List ac) (hn : l.length ≤ 1000000) : ∀ (n i : Nat) (out : List ac),l.length = i + n → out.length ≤ i → aN (jV l) ((i : Int),out) = some (out ++ iC (l.drop i)) := by
  intro n
  induction n with
  | zero =>
    intro i out h ho
    rw [aV]
    show (ll l (i : Int) out).bind _ = _
    unfold ll
    have : i = l.length := by omega
    subst this
    rw [bH,cond_false,List.drop_length]
    simp [iC]
  | succ n ih =>
    intro i out h ho
    have hi : i < l.length := by omega
    rw [aV]
    show (ll l (i : Int) out).bind _ = _
    unfold ll
    rw [cG hi,cond_true,an (bI hi),cM l _ i hi]
    have e1 : qt l[i] = some (df l[i]) := rfl
    rw [e1,Option.bind_some,ca (by omega),List.drop_eq_getElem_cons hi]
    by_cases hk : (df l[i]).From < (df l[i]).To
    · have hk' : decide ((df l[i]).From < (df l[i]).To) = true := decide_eq_true hk
      have hc : iC (l[i] :: l.drop (i + 1)) = df l[i] :: iC (l.drop (i + 1)) := by
        unfold iC
        rw [List.map_cons,List.filter_cons,if_pos (by unfold C5; exact hk')]
      rw [hk',cond_true,an (xW (by omega)),Option.bind_some,hc]
      show aN (jV l) (((i + 1 : Nat) : Int),out ++ [df l[i]]) = _
      rw [ih (i + 1) _ (by omega) (by simp; omega),List.append_assoc]
      rfl
    · have hk' : decide ((df l[i]).From < (df l[i]).To) = false := decide_eq_false hk
      have hc : iC (l[i] :: l.drop (i + 1)) = iC (l.drop (i + 1)) := by
        unfold iC
        rw [List.map_cons,List.filter_cons,if_neg (by unfold C5; rw [hk']; simp)]
      rw [hk',cond_false,Option.bind_some,hc]
      show aN (jV l) (((i + 1 : Nat) : Int),out) = _
      rw [ih (i + 1) _ (by omega) (by omega)]
theorem Pq (p : List ac) (x : ac) (h : p.length ≤ 1000000) : ak ((((p ++ [x]).length : Nat) : Int) - 1) = ((p.length : Nat) : Int) := by
  have hl : (p ++ [x]).length = p.length + 1 := by simp
  rw [bG (by omega) (by omega)]
  omega
theorem MK (p : List ac) (x y : ac) : (p ++ [x]).set p.length y = p ++ [y] := by
  rw [List.set_append_right _ _ (Nat.le_refl _)]
  simp
theorem QJ (t out : List ac) (i : Nat) (hi : i < t.length) (ho : out.length ≤ 1000000) (hn : t.length ≤ 1000000) :
    jU out t ((t.length : Nat) : Int) (i : Int) = some (.inl (nu out t[i],t,((t.length : Nat) : Int),((i + 1 : Nat) : Int))) := by
  unfold jU
  rw [cG hi,cond_true,an (bI hi),i7 t _ i hi,ca (by omega)]
  rcases pu out with rfl | ⟨p,x,rfl⟩
  · rw [show decide ((0 : Int) < ((([] : List ac).length : Nat) : Int)) = false from rfl]
    simp only [Bool.false_and,Bool.false_eq_true,false_implies,Bu,cond_false]
    rw [an (xW (by simp)),EE]
    rfl
  · have hp : p.length ≤ 1000000 := by simp at ho; omega
    have hl : (p ++ [x]).length = p.length + 1 := by simp
    have h0 : decide ((0 : Int) < (((p ++ [x]).length : Nat) : Int)) = true := decide_eq_true (by omega)
    have hlt : ((p.length : Nat) : Int) < (((p ++ [x]).length : Nat) : Int) := by omega
    have hg : (p ++ [x]).getD (0 + Int.toNat ((p.length : Nat) : Int)) aF = x := by
      rw [Nat.zero_add,Int.toNat_natCast]; exact mK p [] x aF
    have hi0 : (0 : Int) ≤ ((p.length : Nat) : Int) := by omega
    rw [Pq p x hp,h0,hg,an (fun _ => hi0),an (fun _ => hlt),cond_true,B4,Nat.zero_add,Int.toNat_natCast,MK]
    by_cases hc : t[i].From ≤ x.To
    · rw [decide_eq_true hc,cond_true,an ⟨hi0,hlt⟩,an ⟨hi0,hlt⟩,if_pos hc]
    · rw [decide_eq_false hc,cond_false,an (xW (by omega)),if_neg hc]
theorem UK (out : List ac) (s : ac) : (nu out s).length ≤ out.length + 1 := by
  rcases pu out with rfl | ⟨p,x,rfl⟩
  · rw [EE]; simp
  · rw [B4]; split <;> simp
theorem P8 (t : List ac) (hn : t.length ≤ 1000000) : ∀ (n i : Nat) (out : List ac),t.length = i + n → out.length ≤ i → aN (nK t ((t.length : Nat) : Int)) (out,t,((t.length : Nat) : Int),(i : Int)) = some ((t.drop i).foldl nu out) := by
  intro n
  induction n with
  | zero =>
    intro i out h ho
    rw [aV]
    show (jU out t ((t.length : Nat) : Int) (i : Int)).bind _ = _
    unfold jU
    have : i = t.length := by omega
    subst this
    rw [bH,cond_false,List.drop_length]
    rfl
  | succ n ih =>
    intro i out h ho
    have hi : i < t.length := by omega
    have := UK out t[i]
    rw [aV]
    show (jU out t ((t.length : Nat) : Int) (i : Int)).bind _ = _
    rw [QJ t out i hi (by omega) hn,Option.bind_some,List.drop_eq_getElem_cons hi,List.foldl_cons]
    exact ih (i + 1) _ (by omega) (by omega)
noncomputable def eY (l : List ac) : List ac := (ik co (iC l)).foldl nu []
theorem DG : Go.Sort.SWO co := ⟨fun x => by simp [co],fun x y z h1 h2 => by simp [co] at *; omega,fun x y z h1 h2 => by simp [co] at *; omega⟩
theorem v6 (l : List ac) (hn : l.length ≤ 1000000) : eX l = some (eY l) := by
  have h1 := QL l hn l.length 0 [] (by omega) (by simp)
  have hc := Nh l
  have hs := Fh DG (iC l)
  show (aN (jV l) ((0 : Int),([] : List ac))).bind (sD l) = _
  rw [show ((0 : Nat) : Int) = 0 from rfl,List.drop_zero,List.nil_append] at h1
  rw [h1,Option.bind_some]
  show (nA (iC l)).bind _ = _
  unfold nA
  rw [an (by omega),Option.bind_some]
  have h2 := P8 (ik co (iC l)) (by omega) (ik co (iC l)).length 0 [] (by omega) (by simp)
  show (aN (nK (ik co (iC l)) (((ik co (iC l)).length : Nat) : Int)) (([] : List ac),ik co (iC l),(((ik co (iC l)).length : Nat) : Int),(0 : Int))).bind _ = _
  rw [show ((0 : Nat) : Int) = 0 from rfl,List.drop_zero] at h2
  rw [h2,Option.bind_some]
  rfl
theorem ng (l : List ac) : gf (-1) (eY l) ∧ (∀ d,ia (eY l) d ↔ ia l d ∧ 0 ≤ d ∧ d < 73049) ∧ (eY l).length ≤ l.length := by
  obtain ⟨hp,hs⟩ := Jh DG (iC l)
  have hc := Nh l
  obtain ⟨f1,f2,f3⟩ := K0 (ik co (iC l)) [] trivial (fun x hx => by simp at hx) (hs.imp fun h => by simp [co] at h; omega) (fun s h => Ps l s (hp.mem_iff.1 h))
  refine ⟨f1,fun d => ?_, ?_⟩
  · unfold eY
    rw [f2, ← xz]
    constructor
    · rintro (h | ⟨s,h,h'⟩)
      · exact (fw h).elim
      · exact ⟨s,hp.mem_iff.1 h,h'⟩
    · rintro ⟨s,h,h'⟩
      exact .inr ⟨s,hp.mem_iff.2 h,h'⟩
  · unfold eY
    have := hp.length_eq
    simp at f3
    omega
end
section
open Go.Proofs
def pG (s t : ac) : ac := ac.mk (if s.From < t.From then t.From else s.From) (if t.To < s.To then t.To else s.To)
def uh (s t : ac) : List ac := if (pG s t).From < (pG s t).To then [pG s t] else []
noncomputable def kS : List ac → List ac → List ac
  | [],_ => []
  | _ :: _,[] => []
  | s :: r,t :: u => uh s t ++ (if s.To < t.To then kS r (t :: u) else kS (s :: r) u)
termination_by a b => a.length + b.length
theorem sP (b : List ac) : kS [] b = [] := by rw [kS]
theorem uW (a : List ac) : kS a [] = [] := by cases a <;> rw [kS]
theorem uR (s t : ac) (r u : List ac) : kS (s :: r) (t :: u) = uh s t ++ (if s.To < t.To then kS r (t :: u) else kS (s :: r) u) := by rw [kS]
theorem Pm (s t : ac) : (uh s t).length ≤ 1 := by unfold uh; split <;> simp
theorem QB (a b out : List ac) (i j : Nat) (hi : i < a.length) (hj : j < b.length) (ha : a.length ≤ 1000000) (hb : b.length ≤ 1000000) (ho : out.length ≤ 2000000) :
    d6 a b out (i : Int) (j : Int) = some (.inl (if a[i].To < b[j].To then (out ++ uh a[i] b[j],((i + 1 : Nat) : Int),(j : Int)) else (out ++ uh a[i] b[j],(i : Int),((j + 1 : Nat) : Int)))) := by
  unfold d6
  rw [cG hi,cG hj,cond_true,cond_true,an (bI hi),an (bI hj),an (bI hi),an (bI hj),i7 a _ i hi,i7 b _ j hj,ca (by omega),ca (by omega)]
  generalize a[i] = s
  generalize b[j] = t
  have hm : uh s t = if (if s.From < t.From then t.From else s.From) < (if t.To < s.To then t.To else s.To) then [ac.mk (if s.From < t.From then t.From else s.From) (if t.To < s.To then t.To else s.To)] else [] := rfl
  rw [hm]
  generalize (if s.From < t.From then t.From else s.From) = x
  generalize (if t.To < s.To then t.To else s.To) = y
  by_cases hk : x < y
  · rw [decide_eq_true hk,cond_true,an (xW (by omega)),an (bI hi),an (bI hj),if_pos hk]
    by_cases hc : s.To < t.To
    · rw [decide_eq_true hc,cond_true,if_pos hc]
    · rw [decide_eq_false hc,cond_false,if_neg hc]
  · rw [decide_eq_false hk,cond_false,an (bI hi),an (bI hj),if_neg hk,List.append_nil]
    by_cases hc : s.To < t.To
    · rw [decide_eq_true hc,cond_true,if_pos hc]
    · rw [decide_eq_false hc,cond_false,if_neg hc]
theorem QM (a b : List ac) (ha : a.length ≤ 1000000) (hb : b.length ≤ 1000000) : ∀ (n i j : Nat) (out : List ac),(a.length - i) + (b.length - j) ≤ n → i ≤ a.length → j ≤ b.length → out.length ≤ i + j →
    aN (fE a b) (out,(i : Int),(j : Int)) = some (out ++ kS (a.drop i) (b.drop j)) := by
  intro n
  induction n with
  | zero =>
    intro i j out h hi hj ho
    have e : i = a.length := by omega
    subst e
    rw [aV]
    show (d6 a b out ((a.length : Nat) : Int) (j : Int)).bind _ = _
    unfold d6
    rw [bH,cond_false,cond_false,List.drop_length,sP,List.append_nil]
    rfl
  | succ n ih =>
    intro i j out h hi hj ho
    rw [aV]
    show (d6 a b out (i : Int) (j : Int)).bind _ = _
    by_cases hi' : i < a.length
    · by_cases hj' : j < b.length
      · have h1 := Pm a[i] b[j]
        rw [QB a b out i j hi' hj' ha hb (by omega),Option.bind_some,List.drop_eq_getElem_cons hi',List.drop_eq_getElem_cons hj',uR]
        by_cases hc : a[i].To < b[j].To
        · rw [if_pos hc,if_pos hc]
          show aN (fE a b) (out ++ uh a[i] b[j],((i + 1 : Nat) : Int),(j : Int)) = _
          rw [ih (i + 1) j _ (by omega) (by omega) hj (by rw [List.length_append]; omega),List.append_assoc, ← List.drop_eq_getElem_cons hj']
        · rw [if_neg hc,if_neg hc]
          show aN (fE a b) (out ++ uh a[i] b[j],(i : Int),((j + 1 : Nat) : Int)) = _
          rw [ih i (j + 1) _ (by omega) hi (by omega) (by rw [List.length_append]; omega),List.append_assoc, ← List.drop_eq_getElem_cons hi']
      · have e : j = b.length := by omega
        subst e
        unfold d6
        rw [cG hi',cond_true,bH,cond_false,List.drop_length (l := b),uW,List.append_nil]
        rfl
    · have e : i = a.length := by omega
      subst e
      unfold d6
      rw [bH,cond_false,cond_false,List.drop_length,sP,List.append_nil]
      rfl
theorem tE : ∀ (a b : List ac) (lo lo' m : Int),gf lo a → gf lo' b → m ≤ lo ∨ m ≤ lo' → gf m (kS a b)
  | [],b,lo,lo',m,_,_,_ => by rw [sP]; trivial
  | _ :: _,[],lo,lo',m,_,_,_ => by rw [uW]; trivial
  | s :: r,t :: u,lo,lo',m,⟨a1,a2,a3,a4⟩,⟨b1,b2,b3,b4⟩,hm => by
    have key : (pG s t).From = max s.From t.From ∧ (pG s t).To = min s.To t.To := by
      unfold pG; simp only
      constructor <;> split <;> omega
    rw [uR]
    by_cases hc : s.To < t.To
    · rw [if_pos hc]
      unfold uh
      by_cases hk : (pG s t).From < (pG s t).To
      · rw [if_pos hk]
        exact ⟨by omega,hk,by omega,tE r (t :: u) s.To lo' _ a4 ⟨b1,b2,b3,b4⟩ (.inl (by omega))⟩
      · rw [if_neg hk]
        exact tE r (t :: u) s.To lo' _ a4 ⟨b1,b2,b3,b4⟩ (by omega)
    · rw [if_neg hc]
      unfold uh
      by_cases hk : (pG s t).From < (pG s t).To
      · rw [if_pos hk]
        exact ⟨by omega,hk,by omega,tE (s :: r) u lo t.To _ ⟨a1,a2,a3,a4⟩ b4 (.inr (by omega))⟩
      · rw [if_neg hk]
        exact tE (s :: r) u lo t.To _ ⟨a1,a2,a3,a4⟩ b4 (by omega)
termination_by a b => a.length + b.length
theorem adx (s t : ac) (d : Int) : ia (uh s t) d ↔ (s.From ≤ d ∧ d < s.To) ∧ (t.From ≤ d ∧ d < t.To) := by
  have key : (pG s t).From = max s.From t.From ∧ (pG s t).To = min s.To t.To := by
    unfold pG; simp only
    constructor <;> split <;> omega
  unfold uh
  split
  · rw [ct]; simp only [fw,or_false]; omega
  · simp only [fw,false_iff]; omega
theorem Fn : ∀ (a b : List ac) (lo lo' d : Int),gf lo a → gf lo' b → (ia (kS a b) d ↔ ia a d ∧ ia b d)
  | [],b,lo,lo',d,_,_ => by rw [sP]; simp [fw]
  | _ :: _,[],lo,lo',d,_,_ => by rw [uW]; simp [fw]
  | s :: r,t :: u,lo,lo',d,⟨a1,a2,a3,a4⟩,⟨b1,b2,b3,b4⟩ => by
    rw [uR,ux,adx]
    by_cases hc : s.To < t.To
    · rw [if_pos hc,Fn r (t :: u) s.To lo' d a4 ⟨b1,b2,b3,b4⟩,ct (s := s),ct (s := t)]
      constructor
      · rintro (⟨h1,h2⟩ | ⟨h1,h2⟩)
        · exact ⟨.inl h1, .inl h2⟩
        · exact ⟨.inr h1,h2⟩
      · rintro ⟨h1 | h1,h2⟩
        · rcases h2 with h2 | h2
          · exact .inl ⟨h1,h2⟩
          · have := lM b4 h2; omega
        · exact .inr ⟨h1,h2⟩
    · rw [if_neg hc,Fn (s :: r) u lo t.To d ⟨a1,a2,a3,a4⟩ b4,ct (s := s),ct (s := t)]
      constructor
      · rintro (⟨h1,h2⟩ | ⟨h1,h2⟩)
        · exact ⟨.inl h1, .inl h2⟩
        · exact ⟨h1, .inr h2⟩
      · rintro ⟨h1,h2 | h2⟩
        · rcases h1 with h1 | h1
          · exact .inl ⟨h1,h2⟩
          · have := lM a4 h1; omega
        · exact .inr ⟨h1,h2⟩
termination_by a b => a.length + b.length
noncomputable def uN (l : List ac) (s : ac) : List ac := kS (eY l) (eY [s])
theorem Lx (l : List ac) (s : ac) (hn : l.length ≤ 1000000) : ny l s = some (uN l s) := by
  have h1 := ng l
  have h2 := ng [s]
  have h2' : (eY [s]).length ≤ 1 := h2.2.2
  show (jJ l [s]).bind _ = _
  have : jJ l [s] = some (uN l s) := by
    show (eX l).bind _ = _
    rw [v6 l hn,Option.bind_some,v6 [s] (by simp),Option.bind_some]
    show (aN (fE (eY l) (eY [s])) (([] : List ac),(0 : Int),(0 : Int))).bind _ = _
    have := QM (eY l) (eY [s]) (by omega) (by omega) _ 0 0 [] (Nat.le_refl _) (by omega) (by omega) (by simp)
    rw [show ((0 : Nat) : Int) = 0 from rfl,List.drop_zero,List.drop_zero] at this
    rw [this,Option.bind_some]
    rfl
  rw [this]
  rfl
theorem Wo (l : List ac) (s : ac) : gf (-1) (uN l s) ∧ ∀ d,ia (uN l s) d ↔ (ia l d ∧ (s.From ≤ d ∧ d < s.To)) ∧ 0 ≤ d ∧ d < 73049 := by
  obtain ⟨a1,a2,_⟩ := ng l
  obtain ⟨b1,b2,_⟩ := ng [s]
  refine ⟨tE _ _ (-1) (-1) (-1) a1 b1 (.inl (Int.le_refl _)),fun d => ?_⟩
  unfold uN
  rw [Fn _ _ (-1) (-1) d a1 b1,a2,b2,ct]
  simp only [fw,or_false]
  constructor
  · rintro ⟨⟨h1,h2⟩,h3,h4⟩; exact ⟨⟨h1,h3⟩,h2⟩
  · rintro ⟨⟨h1,h2⟩,h3⟩; exact ⟨⟨h1,h3⟩,h2,h3⟩
end
section
open Go.Proofs
theorem VZ {n : Nat} (h : n ≤ 4000000) : cL n 8 := ⟨by omega,by omega⟩
theorem V6 (l : List Int) (n : Int) (hl : l.length ≤ 1000000) : ∀ (k : Nat),k ≤ l.length → ∃ p s,l = p ++ s ∧ aN (qM l n) ((k : Nat) : Int) = some ((p.length : Nat) : Int) ∧ (∀ x ∈ s.take (k - p.length),n ≤ x) ∧ p.length ≤ k ∧ (∀ q y,p = q ++ [y] → y < n) := by
  intro k
  induction k with
  | zero =>
    intro hk
    refine ⟨[],l,rfl, ?_,by simp,by simp,fun q y h => by simp at h⟩
    rw [aV]
    show (kx l n (0 : Int)).bind _ = _
    unfold kx
    rw [show decide ((0 : Int) < (0 : Int)) = false from rfl,an (fun h => by simp at h),an (fun h => by simp at h)]
    rfl
  | succ k ih =>
    intro hk
    have hk' : k < l.length := by omega
    have e1 : ak (((k + 1 : Nat) : Int) - 1) = (k : Int) := by rw [bG (by omega) (by omega)]; omega
    have h0 : decide ((0 : Int) < ((k + 1 : Nat) : Int)) = true := decide_eq_true (by omega)
    have hstep : kx l n ((k + 1 : Nat) : Int) = if n ≤ l[k] then some (.inl (k : Int)) else some (.inr ((k + 1 : Nat) : Int)) := by
      unfold kx
      rw [e1,h0,an (fun _ => (bI hk').1),an (fun _ => (bI hk').2),cond_true,i7 l _ k hk']
      by_cases hc : n ≤ l[k]
      · rw [decide_eq_true hc,cond_true,if_pos hc]
      · rw [decide_eq_false hc,cond_false,if_neg hc]
    rw [aV]
    by_cases hc : n ≤ l[k]
    · obtain ⟨p,s,h1,h2,h3,h4,h5⟩ := ih (by omega)
      refine ⟨p,s,h1, ?_,fun x hx => ?_,by omega,h5⟩
      · show (kx l n ((k + 1 : Nat) : Int)).bind _ = _
        rw [hstep,if_pos hc,Option.bind_some]
        exact h2
      · rw [show k + 1 - p.length = (k - p.length) + 1 by omega,List.take_succ] at hx
        rcases List.mem_append.1 hx with hx | hx
        · exact h3 x hx
        · have : s[k - p.length]? = some l[k] := by
            have : l[k]? = some l[k] := List.getElem?_eq_getElem hk'
            rw [← this]
            conv => rhs; rw [h1]
            rw [List.getElem?_append_right h4]
          rw [this] at hx
          have : x = l[k] := by simpa using hx
          rw [this]; exact hc
    · refine ⟨l.take (k + 1),l.drop (k + 1),(List.take_append_drop _ _).symm, ?_, ?_,by simp; omega,fun q y h => ?_⟩
      · show (kx l n ((k + 1 : Nat) : Int)).bind _ = _
        rw [hstep,if_neg hc,Option.bind_some,List.length_take,Nat.min_eq_left (by omega)]
      · rw [List.length_take,Nat.min_eq_left (by omega)]
        simp
      · have h6 : l.take (k + 1) = l.take k ++ [l[k]] := by rw [List.take_succ,List.getElem?_eq_getElem hk']; rfl
        rw [h6] at h
        have := List.append_inj_right' h rfl
        simp at this
        omega
def xG (l : List Int) : Prop := l.Pairwise (fun a b => a < b)
theorem G2 (l : List Int) (n : Int) (hl : l.length ≤ 1000000) (hs : xG l) : ∃ r,eK l n = some r ∧ xG r ∧ (∀ x,x ∈ r ↔ x ∈ l ∨ x = n) ∧ r.length ≤ l.length + 1 := by
  obtain ⟨p,s,h1,h2,h3,h4,h5⟩ := V6 l n hl l.length (Nat.le_refl _)
  have h3' : ∀ x ∈ s,n ≤ x := by
    intro x hx
    refine h3 x ?_
    rw [List.take_of_length_le (by rw [h1]; simp)]
    exact hx
  have e : eK l n = oa l n ((p.length : Nat) : Int) := by
    show (aN (qM l n) ((l.length : Nat) : Int)).bind _ = _
    rw [h2,Option.bind_some]
    rfl
  rw [e]
  have hlen : l.length = p.length + s.length := by rw [h1]; simp
  have hpw := hs
  unfold xG at hpw
  rw [h1] at hpw
  obtain ⟨w1,w2,w3⟩ := List.pairwise_append.1 hpw
  have hp : ∀ x ∈ p,x < n := by
    intro x hx
    rcases pu p with rfl | ⟨q,y,rfl⟩
    · simp at hx
    · have hy := h5 q y rfl
      rcases List.mem_append.1 hx with hx | hx
      · have := (List.pairwise_append.1 w1).2.2 x hx y (by simp)
        omega
      · rw [List.mem_singleton.1 hx]; exact hy
  have hdone : ∀ (_ : ∀ x ∈ s,n < x), ∃ r,oa l n ((p.length : Nat) : Int) = some r ∧ xG r ∧ (∀ x,x ∈ r ↔ x ∈ l ∨ x = n) ∧ r.length ≤ l.length + 1 := by
    intro hgt
    refine ⟨(p ++ [n]) ++ s, ?_, ?_,fun x => ?_,by simp; omega⟩
    · unfold oa
      have hc : (bif decide (((p.length : Nat) : Int) < ((l.length : Nat) : Int)) then (l.getD (0 + Int.toNat ((p.length : Nat) : Int)) (0 : Int) == n) else false) = false := by
        by_cases hh : p.length < l.length
        · rw [cG hh,cond_true]
          match s,h1,hgt with
          | [],h1,_ => rw [h1] at hh; simp at hh
          | y :: s,h1,hgt =>
            rw [Nat.zero_add,Int.toNat_natCast,h1,mK,beq_eq_false_iff_ne]
            have := hgt y (by simp)
            omega
        · rw [decide_eq_false (by omega),cond_false]
      rw [an (fun _ => by omega),an (fun h => by simp at h; omega),hc,cond_false,an (by omega),an (VZ (by omega)),an (VZ (by omega)),an (by omega),an (VZ (by omega))]
      have e1 : Int.toNat (((p.length : Nat) : Int) - 0) = p.length := by omega
      have e2 : Int.toNat (((l.length : Nat) : Int) - ((p.length : Nat) : Int)) = s.length := by omega
      rw [e1,e2,Nat.zero_add,Int.toNat_natCast]
      conv => lhs; rw [h1]
      rw [Lo,MF]
    · refine List.pairwise_append.2 ⟨List.pairwise_append.2 ⟨w1,List.pairwise_singleton _ _,fun x hx y hy => ?_⟩,w2,fun x hx y hy => ?_⟩
      · rw [List.mem_singleton.1 hy]; exact hp x hx
      · rcases List.mem_append.1 hx with hx | hx
        · exact w3 x hx y hy
        · rw [List.mem_singleton.1 hx]; exact hgt y hy
    · rw [h1]; simp only [List.mem_append,List.mem_singleton]
      constructor
      · rintro ((h | h) | h)
        · exact .inl (.inl h)
        · exact .inr h
        · exact .inl (.inr h)
      · rintro ((h | h) | h)
        · exact .inl (.inl h)
        · exact .inr h
        · exact .inl (.inr h)
  by_cases hmem : n ∈ s
  ·
    match s,h1,h3',hmem,w2,hlen with
    | [],_,_,hmem,_,_ => simp at hmem
    | y :: s,h1,h3',hmem,w2,hlen =>
      have hy : y = n := by
        rcases List.mem_cons.1 hmem with h | h
        · exact h.symm
        · have := (List.pairwise_cons.1 w2).1 n h
          have := h3' y (by simp)
          omega
      refine ⟨l, ?_,hs,fun x => ?_,by omega⟩
      · unfold oa
        have hh : p.length < l.length := by rw [hlen]; simp
        rw [an (fun _ => by omega),an (fun _ => by omega),cG hh,cond_true]
        have : l.getD (0 + Int.toNat ((p.length : Nat) : Int)) (0 : Int) = n := by
          rw [Nat.zero_add,Int.toNat_natCast,h1,mK,hy]
        rw [this]
        simp
      · constructor
        · exact .inl
        · rintro (h | h)
          · exact h
          · rw [h,h1, ← hy]; simp
  · refine hdone fun x hx => ?_
    have := h3' x hx
    have : x ≠ n := fun h => hmem (h ▸ hx)
    omega
end
section
open Go.Proofs
def nG (l : List ac) (x : Int) : Prop := ∃ s ∈ iC l,x = s.From ∨ x = s.To
theorem T6 (s : ac) (l : List ac) : iC (s :: l) = if (df s).From < (df s).To then df s :: iC l else iC l := by
  unfold iC
  rw [List.map_cons,List.filter_cons]
  unfold C5
  by_cases h : (df s).From < (df s).To
  · rw [if_pos (decide_eq_true h),if_pos h]
  · rw [if_neg (by rw [decide_eq_false h]; simp),if_neg h]
theorem Lc (s : ac) (l : List ac) (x : Int) : nG (s :: l) x ↔ ((df s).From < (df s).To ∧ (x = (df s).From ∨ x = (df s).To)) ∨ nG l x := by
  unfold nG
  rw [T6]
  by_cases h : (df s).From < (df s).To
  · rw [if_pos h]
    constructor
    · rintro ⟨t,ht,hx⟩
      rcases List.mem_cons.1 ht with rfl | ht
      · exact .inl ⟨h,hx⟩
      · exact .inr ⟨t,ht,hx⟩
    · rintro (⟨_,hx⟩ | ⟨t,ht,hx⟩)
      · exact ⟨_,List.mem_cons_self ..,hx⟩
      · exact ⟨t,List.mem_cons_of_mem _ ht,hx⟩
  · rw [if_neg h]
    constructor
    · exact .inr
    · rintro (⟨h',_⟩ | h')
      · exact (h h').elim
      · exact h'
theorem Uo (L : List (List ac)) (o9 : List Int) (i4 : Int) (i : Nat) (hi : i < L.length) (hl : (L[i]).length ≤ 200000) : ∀ (n k : Nat) (out : List Int),(L[i]).length = k + n → xG out → out.length + 2 * n ≤ 1000000 →
    ∃ r,aN (nI L o9 i4) (out,(i : Int),(k : Int)) = some (r,(i : Int)) ∧ xG r ∧ (∀ x,x ∈ r ↔ x ∈ out ∨ nG ((L[i]).drop k) x) ∧ r.length ≤ out.length + 2 * n := by
  have hg : L.getD (Int.toNat (i : Int)) ([] : List ac) = L[i] := cM L _ i hi
  intro n
  induction n with
  | zero =>
    intro k out h ho hb
    have : k = (L[i]).length := by omega
    subst this
    refine ⟨out, ?_,ho,fun x => ?_,by omega⟩
    · rw [aV]
      show (iX L out (i : Int) (((L[i]).length : Nat) : Int)).bind _ = _
      unfold iX
      rw [an (bI hi),hg,bH,cond_false]
      rfl
    · rw [List.drop_length]
      simp [nG,iC]
  | succ n ih =>
    intro k out h ho hb
    have hk : k < (L[i]).length := by omega
    have hstep : iX L out (i : Int) (k : Int) = bif decide ((df (L[i])[k]).From < (df (L[i])[k]).To) then (eK out (df (L[i])[k]).From).bind fun r_2 => ((eK r_2 (df (L[i])[k]).To).bind fun r_3 => (some (Sum.inl (r_3,(i : Int),((k + 1 : Nat) : Int))))) else some (Sum.inl (out,(i : Int),((k + 1 : Nat) : Int))) := by
      unfold iX
      rw [an (bI hi),hg,cG hk,cond_true,an (bI hi),an (bI hk),cM (L[i]) _ k hk,ca (by omega)]
      rfl
    rw [List.drop_eq_getElem_cons hk]
    by_cases hc : (df (L[i])[k]).From < (df (L[i])[k]).To
    · obtain ⟨r2,a1,a2,a3,a4⟩ := G2 out (df (L[i])[k]).From (by omega) ho
      obtain ⟨r3,b1,b2,b3,b4⟩ := G2 r2 (df (L[i])[k]).To (by omega) a2
      rw [decide_eq_true hc,cond_true,a1,Option.bind_some,b1,Option.bind_some] at hstep
      obtain ⟨r,c1,c2,c3,c4⟩ := ih (k + 1) r3 (by omega) b2 (by omega)
      refine ⟨r, ?_,c2,fun x => ?_,by omega⟩
      · rw [aV]
        show (iX L out (i : Int) (k : Int)).bind _ = _
        rw [hstep,Option.bind_some]
        exact c1
      · rw [c3,b3,a3,Lc]
        constructor
        · rintro (((h1 | h1) | h1) | h1)
          · exact .inl h1
          · exact .inr (.inl ⟨hc, .inl h1⟩)
          · exact .inr (.inl ⟨hc, .inr h1⟩)
          · exact .inr (.inr h1)
        · rintro (h1 | ⟨_,h1 | h1⟩ | h1)
          · exact .inl (.inl (.inl h1))
          · exact .inl (.inl (.inr h1))
          · exact .inl (.inr h1)
          · exact .inr h1
    · rw [decide_eq_false hc,cond_false] at hstep
      obtain ⟨r,c1,c2,c3,c4⟩ := ih (k + 1) out (by omega) ho (by omega)
      refine ⟨r, ?_,c2,fun x => ?_,by omega⟩
      · rw [aV]
        show (iX L out (i : Int) (k : Int)).bind _ = _
        rw [hstep,Option.bind_some]
        exact c1
      · rw [c3,Lc]
        constructor
        · rintro (h1 | h1)
          · exact .inl h1
          · exact .inr (.inr h1)
        · rintro (h1 | ⟨h2,_⟩ | h1)
          · exact .inl h1
          · exact (hc h2).elim
          · exact .inr h1
theorem Lt (L : List (List ac)) (i : Nat) (hi : i < L.length) (hl : (L[i]).length ≤ 200000) (out : List Int) (ho : xG out) (hb : out.length + 2 * (L[i]).length ≤ 1000000) (hn : L.length ≤ 1000) :
    ∃ r,q9 L out (i : Int) = some (.inl (r,((i + 1 : Nat) : Int))) ∧ xG r ∧ (∀ x,x ∈ r ↔ x ∈ out ∨ nG (L[i]) x) ∧ r.length ≤ out.length + 2 * (L[i]).length := by
  obtain ⟨r,h1,h2,h3,h4⟩ := Uo L out (i : Int) i hi hl (L[i]).length 0 out (by omega) ho hb
  refine ⟨r, ?_,h2,by rw [List.drop_zero] at h3; exact h3,h4⟩
  unfold q9
  rw [cG hi,cond_true]
  show (aN (nI L out (i : Int)) (out,(i : Int),(0 : Int))).bind _ = _
  rw [show ((0 : Nat) : Int) = 0 from rfl] at h1
  rw [h1,Option.bind_some]
  show some (Sum.inl (r,ak ((i : Int) + 1))) = _
  rw [ca (by omega)]
theorem LJ (a b : List ac) (ha : a.length ≤ 100000) (hb : b.length ≤ 100000) : ∃ e,pI [a,b] = some e ∧ xG e ∧ (∀ x,x ∈ e ↔ nG a x ∨ nG b x) ∧ e.length ≤ 500000 := by
  obtain ⟨r,h1,h2,h3,h4⟩ := Lt [a,b] 0 (by simp) (by show a.length ≤ _; omega) [] List.Pairwise.nil (by show 0 + 2 * a.length ≤ _; omega) (by simp)
  have h4' : r.length ≤ 0 + 2 * a.length := h4
  obtain ⟨q,g1,g2,g3,g4⟩ := Lt [a,b] 1 (by simp) (by show b.length ≤ _; omega) r h2 (by show r.length + 2 * b.length ≤ _; omega) (by simp)
  have g4' : q.length ≤ r.length + 2 * b.length := g4
  refine ⟨q, ?_,g2,fun x => ?_,by omega⟩
  · show (aN (ii [a,b]) (([] : List Int),(0 : Int))).bind _ = _
    have : aN (ii [a,b]) (([] : List Int),(0 : Int)) = some q := by
      rw [aV]
      have e1 : ii [a,b] (([] : List Int),(0 : Int)) = some (.inl (r,(1 : Int))) := h1
      rw [e1,Option.bind_some]
      show aN (ii [a,b]) (r,(1 : Int)) = _
      rw [aV]
      have e2 : ii [a,b] (r,(1 : Int)) = some (.inl (q,(2 : Int))) := g1
      rw [e2,Option.bind_some]
      show aN (ii [a,b]) (q,(2 : Int)) = _
      rw [aV]
      rfl
    rw [this,Option.bind_some]
    rfl
  · rw [g3,h3]
    simp
theorem LM (l : List ac) (d : Int) (hl : l.length ≤ 1000000) : ∀ (n k : Nat),l.length = k + n →
    ∃ r : Unit ⊕ Unit,aN (kV l d) (k : Int) = some r ∧ (r = .inl () ↔ ia (l.drop k) d ∧ 0 ≤ d ∧ d < 73049) := by
  intro n
  induction n with
  | zero =>
    intro k h
    have : k = l.length := by omega
    subst this
    refine ⟨.inr (), ?_,by simp [fw]⟩
    rw [aV]
    show (fF l d ((l.length : Nat) : Int)).bind _ = _
    unfold fF
    rw [bH,cond_false]
    rfl
  | succ n ih =>
    intro k h
    have hk : k < l.length := by omega
    have hv : eL d = some (bif decide ((0 : Int) ≤ d) then decide (d ≤ (73048 : Int)) else false) := rfl
    have hstep : fF l d (k : Int) = if (l[k].From ≤ d ∧ d < l[k].To) ∧ 0 ≤ d ∧ d < 73049 then some (.inr (.inl ())) else some (.inl ((k + 1 : Nat) : Int)) := by
      unfold fF
      rw [cG hk,cond_true,an (bI hk),cM l _ k hk,ca (by omega),hv,an (fun _ => (bI hk).1),an (fun _ => (bI hk).2),an (fun _ => Option.isSome_some),Option.getD_some]
      by_cases c1 : l[k].From ≤ d
      · by_cases c2 : d < l[k].To
        · by_cases c3 : 0 ≤ d
          · by_cases c4 : d ≤ 73048
            · rw [decide_eq_true c1,decide_eq_true c2,decide_eq_true c3,decide_eq_true c4,if_pos (by omega)]; rfl
            · rw [decide_eq_true c1,decide_eq_true c2,decide_eq_true c3,decide_eq_false c4,if_neg (by omega)]; rfl
          · rw [decide_eq_true c1,decide_eq_true c2,decide_eq_false c3,if_neg (by omega)]; rfl
        · rw [decide_eq_true c1,decide_eq_false c2,if_neg (by omega)]; rfl
      · rw [decide_eq_false c1,if_neg (by omega)]; rfl
    rw [aV,List.drop_eq_getElem_cons hk]
    by_cases hc : (l[k].From ≤ d ∧ d < l[k].To) ∧ 0 ≤ d ∧ d < 73049
    · rw [if_pos hc] at hstep
      refine ⟨.inl (), ?_,by simp only [true_iff]; exact ⟨ct.2 (.inl hc.1),hc.2⟩⟩
      show (fF l d (k : Int)).bind _ = _
      rw [hstep]
      rfl
    · rw [if_neg hc] at hstep
      obtain ⟨r,h1,h2⟩ := ih (k + 1) (by omega)
      refine ⟨r, ?_, ?_⟩
      · show (fF l d (k : Int)).bind _ = _
        rw [hstep]
        exact h1
      · rw [h2,ct]
        constructor
        · rintro ⟨h3,h4⟩; exact ⟨.inr h3,h4⟩
        · rintro ⟨h3 | h3,h4⟩
          · exact (hc ⟨h3,h4⟩).elim
          · exact ⟨h3,h4⟩
theorem xL (l : List ac) (d : Int) (hl : l.length ≤ 1000000) : ∃ b,ic l d = some b ∧ (b = true ↔ ia l d ∧ 0 ≤ d ∧ d < 73049) := by
  obtain ⟨r,h1,h2⟩ := LM l d hl l.length 0 (by omega)
  rw [show ((0 : Nat) : Int) = 0 from rfl,List.drop_zero] at *
  have e : ic l d = o5 l d r := by
    show (aN (kV l d) (0 : Int)).bind _ = _
    rw [h1,Option.bind_some]
  rw [e]
  match r,h2 with
  | .inl (),h2 => exact ⟨true,rfl,by rw [← h2]; simp⟩
  | .inr (),h2 => exact ⟨false,rfl,by rw [← h2]; simp⟩
end
section
open Go.Proofs
noncomputable def Cd (out : List ac) (s : ac) : List ac := match out.getLast? with
  | none => [s]
  | some x => if x.To = s.From then out.dropLast ++ [⟨x.From,s.To⟩] else out ++ [s]
theorem Ls (p : List ac) (x s : ac) : Cd (p ++ [x]) s = if x.To = s.From then p ++ [⟨x.From,s.To⟩] else (p ++ [x]) ++ [s] := by
  unfold Cd
  rw [List.getLast?_concat]
  simp
theorem OM (out : List ac) (s : ac) (hn : out.length ≤ 900000) : C1 out s = some (Cd out s) := by
  show uO out s = _
  unfold uO
  rcases pu out with rfl | ⟨p,x,rfl⟩
  · rw [show decide ((0 : Int) < ((([] : List ac).length : Nat) : Int)) = false from rfl]
    simp only [Bool.false_and,Bool.false_eq_true,false_implies,Bu,cond_false]
    rw [an (xW (by simp)),an (xW (by simp))]
    rfl
  · have hl : (p ++ [x]).length = p.length + 1 := by simp
    have hp : p.length ≤ 1000000 := by omega
    have h0 : decide ((0 : Int) < (((p ++ [x]).length : Nat) : Int)) = true := decide_eq_true (by omega)
    have hlt : ((p.length : Nat) : Int) < (((p ++ [x]).length : Nat) : Int) := by omega
    have hg : (p ++ [x]).getD (Int.toNat ((p.length : Nat) : Int)) aF = x := by
      rw [Int.toNat_natCast]; exact mK p [] x aF
    have hg0 : (p ++ [x]).getD (0 + Int.toNat ((p.length : Nat) : Int)) aF = x := by
      rw [Nat.zero_add]; exact hg
    have hi0 : (0 : Int) ≤ ((p.length : Nat) : Int) := by omega
    rw [Pq p x hp,h0,hg,hg0,an (fun _ => hi0),an (fun _ => hlt),cond_true,Ls,Nat.zero_add,Int.toNat_natCast,MK]
    by_cases hc : x.To = s.From
    · rw [beq_iff_eq.2 hc,cond_true,an (xW (by omega)),an ⟨hi0,hlt⟩,if_pos hc]
    · rw [beq_eq_false_iff_ne.2 hc,cond_false,an (xW (by omega)),an (xW (by omega)),if_neg hc]
theorem Vj {out : List ac} {s : ac} (hn : gf (-1) out) (hb : Em (-1) out ≤ s.From) (h1 : 0 ≤ s.From) (h2 : s.From < s.To) (h3 : s.To ≤ 73049) :
    gf (-1) (Cd out s) ∧ (∀ d,ia (Cd out s) d ↔ ia out d ∨ (s.From ≤ d ∧ d < s.To)) ∧ Em (-1) (Cd out s) ≤ s.To ∧ (Cd out s).length ≤ out.length + 1 := by
  rcases pu out with rfl | ⟨p,x,rfl⟩
  · refine ⟨⟨by omega,h2,h3,trivial⟩,fun d => ?_,Int.le_refl _,by simp [Cd]⟩
    show ia [s] d ↔ _
    rw [ct]; simp [fw]
  · obtain ⟨n1,n2,n3,n4⟩ := oV.1 hn
    rw [sq] at hb
    rw [Ls]
    by_cases hc : x.To = s.From
    · rw [if_pos hc]
      refine ⟨oV.2 ⟨n1,n2,by show x.From < s.To; omega,h3⟩,fun d => ?_,by rw [sq]; exact Int.le_refl _,by simp⟩
      rw [ux,ux,ct,ct]
      simp only [fw,or_false]
      constructor
      · rintro (h | ⟨h4,h5⟩)
        · exact .inl (.inl h)
        · by_cases hd : d < x.To
          · exact .inl (.inr ⟨h4,hd⟩)
          · exact .inr ⟨by omega,h5⟩
      · rintro ((h | ⟨h4,h5⟩) | ⟨h4,h5⟩)
        · exact .inl h
        · exact .inr ⟨h4,by omega⟩
        · exact .inr ⟨by omega,h5⟩
    · rw [if_neg hc]
      refine ⟨oV.2 ⟨hn,by rw [sq]; omega,h2,h3⟩,fun d => ?_,by rw [sq]; exact Int.le_refl _,by simp⟩
      rw [ux (b := [s]),ct]; simp [fw]
def oX (l : List ac) (d : Int) : Bool := l.any fun s => decide (s.From ≤ d) && decide (d < s.To)
theorem rF {l : List ac} {d : Int} : oX l d = true ↔ ia l d := by
  unfold oX ia
  rw [List.any_eq_true]
  constructor
  · rintro ⟨s,hs,h⟩
    rw [Bool.and_eq_true,decide_eq_true_iff,decide_eq_true_iff] at h
    exact ⟨s,hs,h⟩
  · rintro ⟨s,hs,h⟩
    exact ⟨s,hs,by rw [Bool.and_eq_true,decide_eq_true_iff,decide_eq_true_iff]; exact h⟩
def Gs (f : Bool → Bool → Bool) (a b : List ac) (d : Int) : Prop := f (oX a d) (oX b d) = true ∧ 0 ≤ d ∧ d < 73049
def pJ (kind : Int) (x y : Bool) : Bool := (bif (bif (bif (bif (kind == (1 : Int)) then x else false) then y else false) then true else (bif (kind == (2 : Int)) then (bif x then true else y) else false)) then true else (bif (bif (kind == (3 : Int)) then x else false) then (!y) else false))
theorem NW {l : List ac} {x : Int} (h : nG l x) : 0 ≤ x ∧ x ≤ 73049 := by
  obtain ⟨s,hs,hx⟩ := h
  have := Ps l s hs
  omega
theorem Pa {e : List Int} {a : List ac} {i : Nat} (he : xG e) (hi : i + 1 < e.length) (hE : ∀ x,nG a x → x ∈ e) {d : Int} (h1 : e[i]'(by omega) ≤ d) (h2 : d < e[i + 1]) :
    (ia a d ∧ 0 ≤ d ∧ d < 73049) ↔ (ia a (e[i]'(by omega)) ∧ 0 ≤ e[i]'(by omega) ∧ e[i]'(by omega) < 73049) := by
  have hasc : ∀ j k (hj : j < e.length) (hk : k < e.length),j < k → e[j] < e[k] := fun j k hj hk h => List.pairwise_iff_getElem.1 he j k hj hk h
  have hlo : ∀ x ∈ e,x < e[i + 1] → x ≤ e[i]'(by omega) := by
    intro x hx hlt
    obtain ⟨j,hj,rfl⟩ := List.getElem_of_mem hx
    rcases Nat.lt_trichotomy j i with h | h | h
    · have := hasc j i hj (by omega) h; omega
    · subst h; exact Int.le_refl _
    · by_cases h' : j = i + 1
      · subst h'; omega
      · have := hasc (i + 1) j hi hj (by omega); omega
  have hhi : ∀ x ∈ e,e[i]'(by omega) < x → e[i + 1] ≤ x := by
    intro x hx hlt
    obtain ⟨j,hj,rfl⟩ := List.getElem_of_mem hx
    rcases Nat.lt_trichotomy j (i + 1) with h | h | h
    · by_cases h' : j = i
      · subst h'; omega
      · have := hasc j i hj (by omega) (by omega); omega
    · subst h; exact Int.le_refl _
    · have := hasc (i + 1) j hi hj h; omega
  rw [← xz, ← xz]
  constructor
  · rintro ⟨s,hs,h3,h4⟩
    have e1 := hE _ ⟨s,hs, .inl rfl⟩
    have := hlo _ e1 (by omega)
    exact ⟨s,hs,this,by omega⟩
  · rintro ⟨s,hs,h3,h4⟩
    have e2 := hE _ ⟨s,hs, .inr rfl⟩
    have := hhi _ e2 h4
    exact ⟨s,hs,by omega,by omega⟩
theorem Nr (a b : List ac) (e : List Int) (ha : a.length ≤ 100000) (hb : b.length ≤ 100000) (hel : e.length ≤ 500000) (he : xG e) (hE : ∀ x,x ∈ e ↔ nG a x ∨ nG b x) (kind : Int) :
    ∀ (n i : Nat) (out : List ac) (hi : i < e.length),e.length = i + 1 + n → gf (-1) out → Em (-1) out ≤ e[i] → (∀ d,ia out d ↔ Gs (pJ kind) a b d ∧ d < e[i]) → out.length ≤ i →
    ∃ r,aN (jN a b kind e) (out,(i : Int)) = some r ∧ gf (-1) r ∧ (∀ d,ia r d ↔ Gs (pJ kind) a b d ∧ d < e[e.length - 1]'(by omega)) := by
  intro n
  induction n with
  | zero =>
    intro i out hi h hn ht hc ho
    refine ⟨out, ?_,hn, ?_⟩
    · rw [aV]
      show (iT a b kind e out (i : Int)).bind _ = _
      unfold iT
      rw [ca (by omega),show i + 1 = e.length by omega,bH,cond_false]
      rfl
    · have : e.length - 1 = i := by omega
      simp only [this]
      exact hc
  | succ n ih =>
    intro i out hi h hn ht hc ho
    have hi1 : i + 1 < e.length := by omega
    have hlt : e[i] < e[i + 1] := List.pairwise_iff_getElem.1 he i (i + 1) hi hi1 (by omega)
    have r0 : ∀ x ∈ e,0 ≤ x ∧ x ≤ 73049 := by
      intro x hx
      rcases (hE x).1 hx with h | h <;> exact NW h
    have ri := r0 e[i] (List.getElem_mem hi)
    have rj := r0 e[i + 1] (List.getElem_mem hi1)
    obtain ⟨x,hx1,hx2⟩ := xL a e[i] (by omega)
    obtain ⟨y,hy1,hy2⟩ := xL b e[i] (by omega)
    have hstep : iT a b kind e out (i : Int) = bif (pJ kind x y) then some (.inl (Cd out ⟨e[i],e[i + 1]⟩,((i + 1 : Nat) : Int))) else some (.inl (out,((i + 1 : Nat) : Int))) := by
      unfold iT
      rw [ca (by omega),cG hi1,cond_true,an (bI hi),i7 e _ i hi,hx1,Option.bind_some,an (bI hi),hy1,Option.bind_some]
      rw [an (bI hi),an (bI hi1),i7 e _ (i + 1) hi1,OM _ _ (by omega),Option.bind_some]
      rfl
    have hbt : ∀ d,e[i] ≤ d → d < e[i + 1] → (Gs (pJ kind) a b d ↔ (pJ kind x y) = true) := by
      intro d h1 h2
      have ba := Pa (a := a) he hi1 (fun z hz => (hE z).2 (.inl hz)) h1 h2
      have bb := Pa (a := b) he hi1 (fun z hz => (hE z).2 (.inr hz)) h1 h2
      have rd : 0 ≤ d ∧ d < 73049 := by omega
      have ex : oX a d = x := by
        rw [Bool.eq_iff_iff,rF,hx2, ← ba]
        exact ⟨fun h => ⟨h,rd⟩,And.left⟩
      have ey : oX b d = y := by
        rw [Bool.eq_iff_iff,rF,hy2, ← bb]
        exact ⟨fun h => ⟨h,rd⟩,And.left⟩
      unfold Gs
      rw [ex,ey]
      exact ⟨And.left,fun h => ⟨h,rd⟩⟩
    rw [aV]
    show ∃ r,(iT a b kind e out (i : Int)).bind _ = some r ∧ _
    rw [hstep]
    cases hxy : (pJ kind x y) with
    | true =>
      rw [hxy] at hbt
      obtain ⟨s1,s2,s3,s4⟩ := Vj (s := ⟨e[i],e[i + 1]⟩) hn ht ri.1 hlt rj.2
      rw [cond_true,Option.bind_some]
      refine ih (i + 1) _ hi1 (by omega) s1 s3 (fun d => ?_) (by omega)
      rw [s2,hc]
      show (Gs (pJ kind) a b d ∧ d < e[i]) ∨ (e[i] ≤ d ∧ d < e[i + 1]) ↔ _
      constructor
      · rintro (⟨h1,h2⟩ | ⟨h1,h2⟩)
        · exact ⟨h1,by omega⟩
        · exact ⟨(hbt d h1 h2).2 rfl,h2⟩
      · rintro ⟨h1,h2⟩
        by_cases h3 : d < e[i]
        · exact .inl ⟨h1,h3⟩
        · exact .inr ⟨by omega,h2⟩
    | false =>
      rw [hxy] at hbt
      rw [cond_false,Option.bind_some]
      refine ih (i + 1) _ hi1 (by omega) hn (by omega) (fun d => ?_) (by omega)
      rw [hc]
      constructor
      · rintro ⟨h1,h2⟩; exact ⟨h1,by omega⟩
      · rintro ⟨h1,h2⟩
        refine ⟨h1, ?_⟩
        by_cases h3 : d < e[i]
        · exact h3
        · have := (hbt d (by omega) h2).1 h1
          cases this
theorem wA (l b : List ac) (kind : Int) (hn : l.length ≤ 100000) (hb : b.length ≤ 100000) (hk : pJ kind false false = false) : ∃ r,gY l b kind = some r ∧ gf (-1) r ∧ ∀ d,ia r d ↔ Gs (pJ kind) l b d := by
  obtain ⟨e,h1,h2,h3,h4⟩ := LJ l b hn hb
  have key : ∃ r,aN (jN l b kind e) (([] : List ac),(0 : Int)) = some r ∧ gf (-1) r ∧ ∀ d,ia r d ↔ Gs (pJ kind) l b d := by
    have hin : ∀ d,Gs (pJ kind) l b d → ∃ x ∈ e, ∃ y ∈ e,x ≤ d ∧ d < y := by
      intro d hd
      have hor : ia l d ∨ ia b d := by
        rw [← rF, ← rF]
        have := hd.1
        cases hx : oX l d <;> cases hy : oX b d <;> simp
        rw [hx,hy,hk] at this
        cases this
      rcases hor with hor | hor
      · obtain ⟨t,ht,h⟩ := (xz l d).2 ⟨hor,hd.2⟩
        exact ⟨t.From,(h3 _).2 (.inl ⟨t,ht, .inl rfl⟩),t.To,(h3 _).2 (.inl ⟨t,ht, .inr rfl⟩),h⟩
      · obtain ⟨t,ht,h⟩ := (xz b d).2 ⟨hor,hd.2⟩
        exact ⟨t.From,(h3 _).2 (.inr ⟨t,ht, .inl rfl⟩),t.To,(h3 _).2 (.inr ⟨t,ht, .inr rfl⟩),h⟩
    by_cases he : e.length = 0
    · have : e = [] := List.length_eq_zero_iff.1 he
      subst this
      refine ⟨[], ?_,trivial,fun d => ⟨fun h => (fw h).elim,fun h => ?_⟩⟩
      · rw [aV]; rfl
      · obtain ⟨x,hx,_⟩ := hin d h
        simp at hx
    · have h0 : 0 < e.length := by omega
      have hfirst : ∀ x ∈ e,e[0] ≤ x := by
        intro x hx
        obtain ⟨j,hj,rfl⟩ := List.getElem_of_mem hx
        by_cases hj0 : j = 0
        · subst hj0; exact Int.le_refl _
        · have := List.pairwise_iff_getElem.1 h2 0 j h0 hj (by omega); omega
      have hlast : ∀ x ∈ e,x ≤ e[e.length - 1] := by
        intro x hx
        obtain ⟨j,hj,rfl⟩ := List.getElem_of_mem hx
        by_cases hj0 : j = e.length - 1
        · subst hj0; exact Int.le_refl _
        · have := List.pairwise_iff_getElem.1 h2 j (e.length - 1) hj (by omega) (by omega); omega
      have r0 : 0 ≤ e[0] := by
        rcases (h3 _).1 (List.getElem_mem h0) with h | h <;> exact (NW h).1
      obtain ⟨r,g1,g2,g3⟩ := Nr l b e hn hb h4 h2 h3 kind (e.length - 1) 0 [] h0 (by omega) trivial (by show (-1 : Int) ≤ _; omega) (fun d => ⟨fun h => (fw h).elim,fun ⟨h,h'⟩ => by
        obtain ⟨x,hx,_,_,hxd,_⟩ := hin d h
        have := hfirst x hx
        omega⟩) (by simp)
      refine ⟨r,g1,g2,fun d => ?_⟩
      rw [g3]
      constructor
      · exact And.left
      · intro h
        obtain ⟨_,_,y,hy,_,hd⟩ := hin d h
        have := hlast y hy
        exact ⟨h,by omega⟩
  obtain ⟨r,g1,g2,g3⟩ := key
  refine ⟨r, ?_,g2,g3⟩
  show (pI [l,b]).bind _ = _
  rw [h1,Option.bind_some]
  show (aN (jN l b kind e) (([] : List ac),(0 : Int))).bind _ = _
  rw [g1,Option.bind_some]
  rfl
theorem F9 (l : List ac) (hn : l.length ≤ 100000) : kG l = some (eY l) := by
  obtain ⟨r,h1,h2,h3⟩ := wA l [] 2 hn (by simp) rfl
  obtain ⟨c1,c2,_⟩ := ng l
  show (gY l [] 2).bind _ = _
  rw [h1,Option.bind_some,E7 h2 c1 fun d => ?_]
  rw [h3,c2]
  unfold Gs
  rw [← rF]
  have : oX [] d = false := rfl
  rw [this]
  cases oX l d <;> simp [pJ]
theorem ML (l : List ac) (s : ac) (hn : l.length ≤ 100000) : sk l s = some (uN l s) := by
  obtain ⟨r,h1,h2,h3⟩ := wA l [s] 1 hn (by simp) rfl
  obtain ⟨c1,c2⟩ := Wo l s
  show (gY l [s] 1).bind _ = _
  rw [h1,Option.bind_some,E7 h2 c1 fun d => ?_]
  rw [h3,c2]
  unfold Gs
  have e : (oX [s] d = true) ↔ (s.From ≤ d ∧ d < s.To) := by rw [rF,ct]; simp only [fw,or_false]
  have e2 := @rF l d
  rw [← e, ← e2]
  have : pJ 1 (oX l d) (oX [s] d) = (oX l d && oX [s] d) := by cases oX l d <;> cases oX [s] d <;> rfl
  rw [this,Bool.and_eq_true]
end
section
open Go.Proofs
def iA : List ac → Int
  | [] => 0
  | s :: r => (s.To - s.From) + iA r
theorem Hz : ∀ {l : List ac} {lo : Int},gf lo l → ∀ s ∈ l,lo < s.From ∧ s.From < s.To ∧ s.To ≤ 73049
  | [],_,_,s,hs => by simp at hs
  | t :: r,lo,⟨h1,h2,h3,h4⟩,s,hs => by
    rcases List.mem_cons.1 hs with rfl | hs
    · exact ⟨h1,h2,h3⟩
    · have := Hz h4 s hs
      exact ⟨by omega,this.2⟩
theorem FB : ∀ {l : List ac} {lo : Int},gf lo l → lo ≤ 73049 → 0 ≤ iA l ∧ iA l ≤ 73049 - lo
  | [],_,_,h => by unfold iA; omega
  | s :: r,lo,⟨h1,h2,h3,h4⟩,_ => by
    have := FB h4 h3
    unfold iA
    omega
theorem OG (t : List ac) (ht : ∀ s ∈ t,0 ≤ s.From ∧ s.From < s.To ∧ s.To ≤ 73049) (hl : t.length ≤ 1000000) : ∀ (n i : Nat) (acc : Int),t.length = i + n → 0 ≤ acc → acc + iA (t.drop i) ≤ 100000 →
    aN (jR 73049 t ((t.length : Nat) : Int)) (acc,(i : Int)) = some (acc + iA (t.drop i)) := by
  intro n
  induction n with
  | zero =>
    intro i acc h h0 hb
    have : i = t.length := by omega
    subst this
    rw [aV]
    show (jO 73049 acc t ((t.length : Nat) : Int) ((t.length : Nat) : Int)).bind _ = _
    unfold jO
    rw [bH,cond_false,List.drop_length]
    simp [iA]
  | succ n ih =>
    intro i acc h h0 hb
    have hi : i < t.length := by omega
    have hm := ht t[i] (List.getElem_mem hi)
    have hpos : 0 ≤ iA (t.drop (i + 1)) := by
      have : ∀ l : List ac,(∀ s ∈ l,s ∈ t) → 0 ≤ iA l := by
        intro l
        induction l with
        | nil => intro _; exact Int.le_refl _
        | cons s r ih =>
          intro hs
          have h1 := ht s (hs s (by simp))
          have h2 := ih fun x hx => hs x (by simp [hx])
          unfold iA; omega
      exact this _ fun s hs => List.mem_of_mem_drop hs
    rw [List.drop_eq_getElem_cons hi] at hb ⊢
    unfold iA at hb ⊢
    rw [aV]
    show (jO 73049 acc t ((t.length : Nat) : Int) (i : Int)).bind _ = _
    unfold jO
    rw [cG hi,cond_true,an (bI hi),i7 t _ i hi,ca (by omega),decide_eq_true (by omega),cond_true,if_neg (by omega),bG (n := t[i].To - t[i].From) (by omega) (by omega),bG (by omega) (by omega),Option.bind_some]
    show aN (jR 73049 t ((t.length : Nat) : Int)) (acc + (t[i].To - t[i].From),((i + 1 : Nat) : Int)) = _
    rw [ih (i + 1) _ (by omega) (by omega) (by omega)]
    congr 1
    omega
theorem L3 (l : List ac) (hn : l.length ≤ 100000) : mZ l = some (iA (eY l)) := by
  obtain ⟨c1,_,c3⟩ := ng l
  have hr := FB c1 (by omega)
  show (mm l 73049).bind _ = _
  have : mm l 73049 = some (iA (eY l)) := by
    show (eX l).bind _ = _
    rw [v6 l (by omega),Option.bind_some]
    show (aN (jR 73049 (eY l) (((eY l).length : Nat) : Int)) ((0 : Int),(0 : Int))).bind _ = _
    have := OG (eY l) (fun s hs => by have := Hz c1 s hs; omega) (by omega) (eY l).length 0 0 (by omega) (by omega) (by rw [List.drop_zero]; omega)
    rw [show ((0 : Nat) : Int) = 0 from rfl,List.drop_zero,Int.zero_add] at this
    rw [this,Option.bind_some]
    rfl
  rw [this]
  rfl
theorem Q6 (t : List ac) (ht : ∀ s ∈ t,0 ≤ s.From ∧ s.From < s.To ∧ s.To ≤ 73049) (hl : t.length ≤ 1000000) : ∀ (n i : Nat) (acc : Int),t.length = i + n → 0 ≤ acc → acc + iA (t.drop i) ≤ 100000 →
    aN (mJ t) (acc,(i : Int)) = some (acc + iA (t.drop i)) := by
  intro n
  induction n with
  | zero =>
    intro i acc h h0 hb
    have : i = t.length := by omega
    subst this
    rw [aV]
    show (mM acc t ((t.length : Nat) : Int)).bind _ = _
    unfold mM
    rw [bH,cond_false,List.drop_length]
    simp [iA]
  | succ n ih =>
    intro i acc h h0 hb
    have hi : i < t.length := by omega
    have hm := ht t[i] (List.getElem_mem hi)
    have hpos : 0 ≤ iA (t.drop (i + 1)) := by
      have : ∀ l : List ac,(∀ s ∈ l,s ∈ t) → 0 ≤ iA l := by
        intro l
        induction l with
        | nil => intro _; exact Int.le_refl _
        | cons s r ih =>
          intro hs
          have h1 := ht s (hs s (by simp))
          have h2 := ih fun x hx => hs x (by simp [hx])
          unfold iA; omega
      exact this _ fun s hs => List.mem_of_mem_drop hs
    rw [List.drop_eq_getElem_cons hi] at hb ⊢
    unfold iA at hb ⊢
    rw [aV]
    show (mM acc t (i : Int)).bind _ = _
    unfold mM
    rw [cG hi,cond_true,an (bI hi),an (bI hi),i7 t _ i hi,ca (by omega),bG (n := t[i].To - t[i].From) (by omega) (by omega),bG (by omega) (by omega),Option.bind_some]
    show aN (mJ t) (acc + (t[i].To - t[i].From),((i + 1 : Nat) : Int)) = _
    rw [ih (i + 1) _ (by omega) (by omega) (by omega)]
    congr 1
    omega
theorem Nq (l : List ac) (hn : l.length ≤ 100000) : vz l = some (iA (eY l)) := by
  obtain ⟨c1,_,c3⟩ := ng l
  have hr := FB c1 (by omega)
  show (kG l).bind _ = _
  rw [F9 l hn,Option.bind_some]
  show (aN (mJ (eY l)) ((0 : Int),(0 : Int))).bind _ = _
  have := Q6 (eY l) (fun s hs => by have := Hz c1 s hs; omega) (by omega) (eY l).length 0 0 (by omega) (by omega) (by rw [List.drop_zero]; omega)
  rw [show ((0 : Nat) : Int) = 0 from rfl,List.drop_zero,Int.zero_add] at this
  rw [this,Option.bind_some]
  rfl
end
end Go.Ax
