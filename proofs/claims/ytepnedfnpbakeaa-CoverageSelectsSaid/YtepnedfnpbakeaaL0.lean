import Derived.Test.YtepnedfnpbakeaaA5
set_option linter.all false
/- Loops over lists, and small facts. -/
set_option maxRecDepth 100000
namespace Go.Ax

theorem gd_true {α : Type} {o : Option α} : gd True o = o := gd_pos trivial
theorem gd_false {α : Type} {o : Option α} : gd False o = none := gd_neg (fun h => h)
theorem cond_or (c b : Bool) : (bif c then true else b) = (c || b) := by cases c <;> rfl
theorem cond_and (c b : Bool) : (bif c then b else false) = (c && b) := by cases c <;> rfl
theorem w64_in {n : Int} (h : -9223372036854775808 ≤ n) (h' : n ≤ 9223372036854775807) : w64 n = n := by
  first
    | exact IntWalk.i64_in h h'
    | exact IntWalk.i64_in (by omega) (by omega)

theorem tmod_cases (a : Int) {m : Int} (h : 0 < m) : a.tmod m = a % m ∨ (a.tmod m = a % m - m ∧ a % m ≠ 0) := by
  rw [Int.tmod_eq_emod]
  split
  · left; omega
  · next hn =>
    right
    refine ⟨by omega, fun e => hn (.inr (Int.dvd_of_emod_eq_zero e))⟩

theorem getD_some' {α : Type} (a d : α) : (some a).getD d = a := rfl
theorem isSome_some' {α : Type} (a : α) : ((some a).isSome = true) = True := by simp

def runE {T A R : Type} (g : T → A → A ⊕ R) (fin : A → R) : List T → A → R
  | [], a => fin a
  | x :: r, a => match g x a with | .inl a' => runE g fin r a' | .inr q => q

theorem fixL_list {S T A R : Type} {f : S → Option (S ⊕ R)} (l : List T) (emb : Nat → A → S) (P : Nat → A → Prop) (g : T → A → A ⊕ R) (fin : A → R)
    (hs : ∀ i (hi : i < l.length) a, P i a → f (emb i a) = some (match g l[i] a with | .inl a' => .inl (emb (i + 1) a') | .inr r => .inr r))
    (hp : ∀ i (hi : i < l.length) a a', P i a → g l[i] a = .inl a' → P (i + 1) a')
    (he : ∀ a, P l.length a → f (emb l.length a) = some (.inr (fin a))) :
    ∀ (n i : Nat) (a : A), l.length = i + n → P i a → fixL f (emb i a) = some (runE g fin (l.drop i) a)
  | 0, i, a, h, hpa => by
    have hi : i = l.length := by omega
    subst hi
    rw [fixL_eq, he a hpa, List.drop_length]
    rfl
  | n + 1, i, a, h, hpa => by
    have hi : i < l.length := by omega
    rw [fixL_eq, hs i hi a hpa, List.drop_eq_getElem_cons hi]
    unfold runE
    cases hg : g l[i] a with
    | inl a' => exact fixL_list l emb P g fin hs hp he n (i + 1) a' (by omega) (hp i hi a a' hpa hg)
    | inr r => rfl
theorem fixL_list0 {S T A R : Type} {f : S → Option (S ⊕ R)} (l : List T) (emb : Nat → A → S) (P : Nat → A → Prop) (g : T → A → A ⊕ R) (fin : A → R) (a : A) (h0 : P 0 a)
    (hs : ∀ i (hi : i < l.length) a, P i a → f (emb i a) = some (match g l[i] a with | .inl a' => .inl (emb (i + 1) a') | .inr r => .inr r))
    (hp : ∀ i (hi : i < l.length) a a', P i a → g l[i] a = .inl a' → P (i + 1) a')
    (he : ∀ a, P l.length a → f (emb l.length a) = some (.inr (fin a))) : fixL f (emb 0 a) = some (runE g fin l a) :=
  fixL_list l emb P g fin hs hp he l.length 0 a (by omega) h0
theorem runE_fold {T A R : Type} (g : T → A → A) (fin : A → R) : ∀ (l : List T) (a : A), runE (fun x a => .inl (g x a)) fin l a = fin (l.foldl (fun a x => g x a) a)
  | [], _ => rfl
  | x :: r, a => runE_fold g fin r (g x a)

theorem w64_succ {i : Nat} (h : i < 9223372036854775807) : w64 ((i : Int) + 1) = ((i + 1 : Nat) : Int) := by rw [w64_in (by omega) (by omega)]; omega
theorem getD_nat {T : Type} (l : List T) (z : T) (i : Nat) (h : i < l.length) : l.getD (Int.toNat (i : Int)) z = l[i] := by
  rw [Int.toNat_natCast, List.getD_eq_getElem?_getD, List.getElem?_eq_getElem h]; rfl
theorem getD_nat0 {T : Type} (l : List T) (z : T) (i : Nat) (h : i < l.length) : l.getD (0 + Int.toNat (i : Int)) z = l[i] := by rw [Nat.zero_add]; exact getD_nat l z i h
theorem lt_len {i n : Nat} (h : i < n) : decide ((i : Int) < (n : Int)) = true := by simp; omega
theorem not_lt_len (n : Nat) : decide ((n : Int) < (n : Int)) = false := by simp
theorem idx_ok {i n : Nat} (h : i < n) : (0 : Int) ≤ (i : Int) ∧ (i : Int) < (n : Int) := by omega
theorem capB_ok {n b : Nat} (h : n * b ≤ 140737488355328) (h' : n ≤ 140737488355328) : capB n b := ⟨h, h'⟩
end Go.Ax
