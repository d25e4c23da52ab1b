import Derived.Test.YtokecajedkojlaaGreatZB14
import Derived.Shelf.Sort.Plain
import Derived.Shelf.Slices.In.SortNone
import Derived.Shelf.Slices.CompactI
import Derived.Lib.RowBridge
set_option linter.all false
/- A library function at one own row of ints: sorted where it lies, or cut and handed back. -/
namespace Go.Ax
open Go.RowKit Go.Sort Go.Proofs
section
variable {P:Program} {E:ap} {w w':World} {r:aA} {H:ak} {nid:Nat}
end
theorem AU (x:Int):∀ l,(Hj x l).Perm (x :: l)
  | []=>.refl _
  | y :: r=>by
    unfold Hj
    cases aa (x≤y) with
    | true=>exact .refl _
    | false=>exact ((AU x r).cons y).trans (.swap x y r)
theorem nI:∀ l,(gj l).Perm l
  | []=>.refl _
  | x :: r=>(AU x _).trans ((nI r).cons x)
theorem Dn {x:Int}:∀ {l:List Int},l.Pairwise (·≤·)→(Hj x l).Pairwise (·≤·)
  | [],_=>List.pairwise_singleton _ _
  | y :: r,h=>by
    unfold Hj
    rw [List.pairwise_cons] at h
    by_cases hxy:x≤y
    · rw [show aa (x≤y) = true from decide_eq_true hxy,cond_true]
      exact .cons (fun z hz=>by rcases List.mem_cons.1 hz with rfl | hz; exact hxy; exact Int.le_trans hxy (h.1 z hz)) (.cons h.1 h.2)
    · rw [show aa (x≤y) = false from decide_eq_false hxy,cond_false]
      refine .cons (fun z hz=>?_) (Dn h.2)
      rcases List.mem_cons.1 ((AU x r).mem_iff.1 hz) with rfl | hz
      · omega
      · exact h.1 z hz
theorem sV:∀ l,(gj l).Pairwise (·≤·)
  | []=>.nil
  | x :: r=>Dn (sV r)
theorem Dy:∀ {a b:List Int},a.Perm b→a.Pairwise (·≤·)→b.Pairwise (·≤·)→a = b:=fun h h1 h2=>h.eq_of_pairwise (fun x y _ _ hx hy=>Int.le_antisymm hx hy) h1 h2
theorem MV (l:List Int):gj l = l.mergeSort fun x y=>decide (x≤y) :=
  Dy ((nI l).trans (List.mergeSort_perm l _).symm) (sV l) ((List.pairwise_mergeSort (fun a b c h1 h2=>by simp at *; omega) (fun a b=>by simp; omega) l).imp fun h=>by simpa using h)
end Go.Ax
