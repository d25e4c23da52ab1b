import Derived.Test.YtnnblpijaoocaaaGreatZP4
set_option linter.all false
/- Raw numbers, the texts of statutes and the made laws: their making ends. -/
set_option maxRecDepth 100000
namespace Go.Ax
theorem wM (n:Int) {m:Int} (h:0 < m):(n.tmod m = n % m)∨(n.tmod m = n % m - m∧n % m≠0):=by
  rw [Int.tmod_eq_emod]
  split
  · left; omega
  · next hc =>
    right
    rw [not_or] at hc
    refine ⟨?_,fun h0=>hc.2 (Int.dvd_of_emod_eq_zero h0)⟩
    have:(m.natAbs:Int) = m:=by omega
    omega
theorem zG (n m:Int) (h:0 < m) (h':m≤9223372036854775807):ar n m = some (n % m):=by
  rw [Bz,aF (by omega)]
  have h1:=Int.emod_nonneg n (show m≠0 by omega)
  have h2:=Int.emod_lt_of_pos n h
  rcases wM n h with hc | ⟨hc,hz⟩
  · rw [hc,cP (by omega)]; rfl
  · rw [hc,aU (by omega),cond_true,aY (by omega) (by omega)]
    congr 1; omega
theorem Jw (n m:Int) (h:0 < m) (h':m≤9223372036854775807):En (fun y=>0≤y∧y < m) (ar n m) :=
  .of (zG n m h h') ⟨Int.emod_nonneg _ (by omega),Int.emod_lt_of_pos _ h⟩
theorem sw {α:Type} {Q:α→Prop} {n m:Int} {f:Int→Option α} (h:0 < m∧m≤9223372036854775807) (hf:∀ y,0≤y→y < m→En Q (f y)):En Q ((ar n m).bind f) :=
  .bind (Jw n m h.1 (by omega)) fun y hy=>hf y hy.1 hy.2
theorem zr (n k:Int) (h:k≤4611686018427387903):jp n k = some (if k < 1 then 0 else n % k):=by
  rw [BO]
  by_cases hk:k < 1
  · rw [aU hk,if_pos hk]; rfl
  · have h0:0 < k:=by omega
    have a:=Int.emod_nonneg n (show k≠0 by omega)
    have b:=Int.emod_lt_of_pos n h0
    have c:=wM n h0
    have d:0≤n.tmod k+k:=by omega
    rw [cP hk,if_neg hk,cond_false,aF (by omega),aF (by omega),aY (by omega) (by omega),Int.tmod_eq_emod_of_nonneg d]
    congr 1
    rcases c with c | ⟨c,_⟩
    · rw [c,Int.add_emod_right,Int.emod_emod_of_dvd _ (Int.dvd_refl k)]
    · rw [c,show n % k - k+k = n % k by omega,Int.emod_emod_of_dvd _ (Int.dvd_refl k)]
theorem Hg (n:List Int) (i:Int) (h:n.length≤9223372036854775807):En (fun _=>True) (bM n i):=by
  rw [Bd]
  refine En.ifi (fun _=>.some trivial) fun h0=>sw (by omega) fun y h1 h2=>En.gd h1 (En.gd h2 (.some trivial))
theorem AR {α:Type} {Q:α→Prop} {n:List Int} {i:Int} {f:Int→Option α} (h:n.length≤9223372036854775807) (hf:∀ y,En Q (f y)):En Q ((bM n i).bind f) :=
  .bind (Hg n i h) fun y _=>hf y
section
variable {n:List Int} (hn:n.length≤9223372036854775807)
include hn
end
end Go.Ax
