import Derived.Test.YtgamnldjlncdlaaGreatZA5
set_option linter.all false
/- Loops over lists, and small facts. -/
set_option maxRecDepth 100000
namespace Go.Ax
theorem Hl {α:Type} {o:Option α}:gd True o = o:=aE trivial
theorem m3 (c b:Bool):(bif c then true else b) = (c||b):=by cases c <;> rfl
theorem fh (c b:Bool):(bif c then b else false) = (c&&b):=by cases c <;> rfl
theorem bu {n:Int} (h:-9223372036854775808≤n) (h':n≤9223372036854775807):ai n = n:=by
  first
    | exact IntWalk.i64_in h h'
    | exact IntWalk.i64_in (by omega) (by omega)
theorem La (a:Int) {m:Int} (h:0 < m):a.tmod m = a % m∨(a.tmod m = a % m - m∧a % m≠0):=by
  rw [Int.tmod_eq_emod]
  split
  · left; omega
  · next hn =>
    right
    refine ⟨by omega,fun e=>hn (.inr (Int.dvd_of_emod_eq_zero e))⟩
theorem oY {α:Type} (a d:α):(some a).getD d = a:=rfl
theorem Gs {α:Type} (a:α):((some a).isSome = true) = True:=by simp
def ON {T A R:Type} (g:T→A→A ⊕ R) (fin:A→R):List T→A→R
  | [],a=>fin a
  | x :: r,a=>match g x a with | .inl a'=>ON g fin r a' | .inr q=>q
theorem Mz {S T A R:Type} {f:S→Option (S ⊕ R)} (l:List T) (emb:Nat→A→S) (P:Nat→A→Prop) (g:T→A→A ⊕ R) (fin:A→R)
    (hs:∀ i (hi:i < l.length) a,P i a→f (emb i a) = some (match g l[i] a with | .inl a'=>.inl (emb (i+1) a') | .inr r=>.inr r))
    (hp:∀ i (hi:i < l.length) a a',P i a→g l[i] a = .inl a'→P (i+1) a')
    (he:∀ a,P l.length a→f (emb l.length a) = some (.inr (fin a))) :
    ∀ (n i:Nat) (a:A),l.length = i+n→P i a→fixL f (emb i a) = some (ON g fin (l.drop i) a)
  | 0,i,a,h,hpa=>by
    have hi:i = l.length:=by omega
    subst hi
    rw [bS,he a hpa,List.drop_length]
    rfl
  | n+1,i,a,h,hpa=>by
    have hi:i < l.length:=by omega
    rw [bS,hs i hi a hpa,List.drop_eq_getElem_cons hi]
    unfold ON
    cases hg:g l[i] a with
    | inl a'=>exact Mz l emb P g fin hs hp he n (i+1) a' (by omega) (hp i hi a a' hpa hg)
    | inr r=>rfl
theorem DS {S T A R:Type} {f:S→Option (S ⊕ R)} (l:List T) (emb:Nat→A→S) (P:Nat→A→Prop) (g:T→A→A ⊕ R) (fin:A→R) (a:A) (h0:P 0 a)
    (hs:∀ i (hi:i < l.length) a,P i a→f (emb i a) = some (match g l[i] a with | .inl a'=>.inl (emb (i+1) a') | .inr r=>.inr r))
    (hp:∀ i (hi:i < l.length) a a',P i a→g l[i] a = .inl a'→P (i+1) a')
    (he:∀ a,P l.length a→f (emb l.length a) = some (.inr (fin a))):fixL f (emb 0 a) = some (ON g fin l a) :=
  Mz l emb P g fin hs hp he l.length 0 a (by omega) h0
theorem Am {T A R:Type} (g:T→A→A) (fin:A→R):∀ (l:List T) (a:A),ON (fun x a=>.inl (g x a)) fin l a = fin (l.foldl (fun a x=>g x a) a)
  | [],_=>rfl
  | x :: r,a=>Am g fin r (g x a)
theorem cP {i:Nat} (h:i < 9223372036854775807):ai ((i:Int)+1) = ((i+1:Nat):Int):=by rw [bu (by omega) (by omega)]; omega
theorem eL {T:Type} (l:List T) (z:T) (i:Nat) (h:i < l.length):l.getD (Int.toNat (i:Int)) z = l[i]:=by
  rw [Int.toNat_natCast,List.getD_eq_getElem?_getD,List.getElem?_eq_getElem h]; rfl
theorem fX {T:Type} (l:List T) (z:T) (i:Nat) (h:i < l.length):l.getD (0+Int.toNat (i:Int)) z = l[i]:=by rw [Nat.zero_add]; exact eL l z i h
theorem dH {i n:Nat} (h:i < n):decide ((i:Int) < (n:Int)) = true:=by simp; omega
theorem cu (n:Nat):decide ((n:Int) < (n:Int)) = false:=by simp
theorem bQ {i n:Nat} (h:i < n):(0:Int)≤(i:Int)∧(i:Int) < (n:Int):=by omega
theorem lC {n b:Nat} (h:n*b≤140737488355328) (h':n≤140737488355328):AT n b:=⟨h,h'⟩
end Go.Ax
