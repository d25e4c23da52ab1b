import Derived.Test.YtkijjjdaijjpaaaGreatL1v
set_option linter.all false
/- Loops over lists; bytes of facts. -/
set_option maxRecDepth 100000
namespace Go.Ax
open Go.Proofs

theorem u8_wrap (n : Int) : IntKind.u8.wrap n = n % 256 := IntKind.wrap_u8 n
def byteK (x : Int) (k : Nat) : Int := x / 256 ^ k % 256
def bigL (x : Int) : Nat → List Int
  | 0 => []
  | k + 1 => byteK x k :: bigL x k
theorem bigL_length (x : Int) : ∀ k, (bigL x k).length = k
  | 0 => rfl
  | k + 1 => by simp [bigL, bigL_length x k]
theorem byteK_eq (x : Int) (k : Nat) (hk : k ≤ 7) : IntKind.u8.wrap (Int.fdiv x (2 ^ min (Int.toNat (w64 ((8 : Int) * (k : Int)))) 64)) = byteK x k := by
  rw [u8_wrap]
  have : k = 0 ∨ k = 1 ∨ k = 2 ∨ k = 3 ∨ k = 4 ∨ k = 5 ∨ k = 6 ∨ k = 7 := by omega
  obtain rfl | rfl | rfl | rfl | rfl | rfl | rfl | rfl := this
  all_goals
    unfold byteK
    rw [Int.fdiv_eq_ediv_of_nonneg _ (by decide)]
    rfl
theorem byteK_eq2 (x : Int) (k : Nat) (hk : k ≤ 7) : IntKind.u8.wrap (Int.fdiv x (2 ^ min (Int.toNat (IntKind.u64.wrap (w64 ((8 : Int) * (k : Int))))) 64)) = byteK x k := by
  have e : IntKind.u64.wrap (w64 ((8 : Int) * (k : Int))) = w64 ((8 : Int) * (k : Int)) := by
    rw [IntKind.wrap_u64, w64_in (by omega) (by omega)]; omega
  rw [e]
  exact byteK_eq x k hk
theorem w64_pred (k : Nat) (hk : k ≤ 100) : w64 ((k : Int) - 1) = (k : Int) - 1 := w64_in (by omega) (by omega)

/-- Numbers, each in so many bytes. -/
def bigs (size : Nat) : List Int → List Int
  | [] => []
  | x :: r => bigL x size ++ bigs size r
theorem bigs_length (size : Nat) : ∀ l, (bigs size l).length = l.length * size
  | [] => by simp [bigs]
  | x :: r => by simp [bigs, bigs_length size r, bigL_length, Nat.add_mul, Nat.add_comm]

theorem appendNumbers_inner (b9 : List Int) (size x i1 : Int) (numbers : List Int) (t3 t : Int) : ∀ (k : Nat) (b : List Int), k ≤ 8 → b.length + k ≤ 1000000 →
    fixL (fact_appendNumbers_l2 b9 size x i1 numbers t3) (b, ((k : Int) - 1, t)) = some (b ++ bigL x k, t)
  | 0, b, _, _ => by
    rw [fixL_eq]
    show (fact_appendNumbers_p0 b size x ((0 : Nat) - 1 : Int) numbers t).bind _ = _
    unfold fact_appendNumbers_p0
    simp [bigL]
  | k + 1, b, hk, hb => by
    rw [fixL_eq]
    show (fact_appendNumbers_p0 b size x (((k + 1 : Nat) : Int) - 1) numbers t).bind _ = _
    have e : (((k + 1 : Nat) : Int) - 1) = (k : Int) := by omega
    rw [e]
    unfold fact_appendNumbers_p0
    have d : decide ((0 : Int) ≤ (k : Int)) = true := by simp
    have g : (0 : Int) ≤ w64 (8 * (k : Int)) := by rw [w64_in (by omega) (by omega)]; omega
    rw [d, cond_true, gd_pos g, gd_pos (capB_ok (by omega) (by omega)), byteK_eq x k (by omega), w64_pred k (by omega), Option.bind_some]
    simp only
    rw [appendNumbers_inner b9 size x i1 numbers t3 t k (b ++ [byteK x k]) (by omega) (by simp; omega), bigL]
    simp
theorem appendNumbers_eq (b : List Int) (size : Nat) (l : List Int) (h1 : size ≤ 8) (h2 : l.length ≤ 1000) (h3 : b.length ≤ 1000) : fact_appendNumbers b size l = some (b ++ bigs size l) := by
  show (fixL (fact_appendNumbers_l1 b size l) (b, (0 : Int))).bind (fact_appendNumbers_p7_g b size l) = _
  have key : ∀ (n i : Nat) (b' : List Int), l.length = i + n → b'.length ≤ 1000 + i * 8 → fixL (fact_appendNumbers_l1 b size l) (b', (i : Int)) = some (b' ++ bigs size (l.drop i)) := by
    intro n
    induction n with
    | zero =>
      intro i b' h hb
      have : i = l.length := by omega
      subst this
      rw [fixL_eq]
      show (fact_appendNumbers_p5 b' size l (l.length : Int)).bind _ = _
      unfold fact_appendNumbers_p5
      rw [not_lt_len, cond_false, List.drop_length]
      simp [bigs]
    | succ n ih =>
      intro i b' h hb
      have hi : i < l.length := by omega
      rw [fixL_eq]
      show (fact_appendNumbers_p5 b' size l (i : Int)).bind _ = _
      unfold fact_appendNumbers_p5 fact_appendNumbers_p4 fact_appendNumbers_p3 fact_appendNumbers_p2
      rw [lt_len hi, cond_true, gd_pos (idx_ok hi), getD_nat l 0 i hi]
      have hw : w64 ((size : Int) - 1) = (size : Int) - 1 := w64_pred size (by omega)
      rw [hw, appendNumbers_inner _ _ _ _ _ _ _ size b' h1 (by omega)]
      simp only [Option.bind_some]
      show (fact_appendNumbers_p1 (b' ++ bigL l[i] size) size l (i : Int)).bind _ = _
      unfold fact_appendNumbers_p1
      rw [w64_succ (by omega), Option.bind_some]
      simp only
      rw [ih (i + 1) _ (by omega) (by simp [bigL_length]; omega), List.drop_eq_getElem_cons hi, bigs, List.append_assoc]
  have := key l.length 0 b (by omega) (by omega)
  rw [show ((0 : Nat) : Int) = 0 from rfl] at this
  rw [this]
  rfl
/-! ### The bytes of a fact -/
def letterF (f : GFact) (c : Nat) : List Int :=
  if c = 83 then bigL f.State 1 else if c = 80 then bigL f.Span.From 3 ++ bigL f.Span.To 3 else if c = 84 then bigL f.Seat 1 else if c = 72 then bigL f.Share 1 else if c = 67 then bigL f.Currency 2 else if c = 65 then bigL f.Amount 4 else if c = 82 then bigL f.Ref 1 else []
def headF (f : GFact) : List Int := bigL f.Issuer 1 ++ bigL f.Number 2 ++ bigL f.Version 1 ++ bigL (if f.Withdrawn then 1 else 0) 1 ++ bigL f.Person 1 ++ bigL f.Kind 1
def bytesF (f : GFact) : List Int := if validB f then headF f ++ (usesN f.Kind).flatMap (letterF f) else []
theorem letterF_length (f : GFact) (c : Nat) : (letterF f c).length ≤ 6 := by
  unfold letterF
  repeat' split
  all_goals simp [bigL_length]
theorem foldl_app {T : Type} (g : Nat → List T) : ∀ (l : List Nat) (a : List T), l.foldl (fun a c => a ++ g c) a = a ++ l.flatMap g
  | [], a => by simp
  | c :: l, a => by rw [List.foldl_cons, foldl_app g l, List.flatMap_cons, List.append_assoc]

theorem rune_ascii (l : List Nat) (hl : ∀ c ∈ l, c < 128) (i : Nat) (hi : i < l.length) : runeAt (bstr l) i = (l[i] : Int) ∧ runeW (bstr l) i = 1 := by
  have hsz : i < (bstr l).size := by rw [bstr_size]; exact hi
  have hg : (bstr l)[i]'hsz = UInt8.ofNat l[i] := by
    show (bstr l).data[i]'hsz = _
    simp [bstr]
  have hc := hl _ (List.getElem_mem hi)
  have hn : ((bstr l)[i]'hsz).toNat = l[i] := by rw [hg]; simp [Nat.mod_eq_of_lt (show l[i] < 256 by omega)]
  have := decode_ascii (bstr l) i hsz (by rw [hn]; exact hc)
  unfold runeAt runeW
  rw [this, hn]
  exact ⟨rfl, rfl⟩
theorem usesN_ascii (k : Int) : ∀ c ∈ usesN k, c < 128 := by
  by_cases h : 1 ≤ k ∧ k ≤ 14
  · obtain rfl | rfl | rfl | rfl | rfl | rfl | rfl | rfl | rfl | rfl | rfl | rfl | rfl | rfl := kinds h.1 h.2 <;> decide
  · rw [usesN_out h]; simp
theorem key_beq (c n : Nat) : ((c : Int) == (n : Int)) = decide (c = n) := by
  by_cases h : c = n
  · subst h; simp
  · have h2 : ((c : Int) == (n : Int)) = false := by simp; omega
    rw [h2]; simp [h]
end Go.Ax
