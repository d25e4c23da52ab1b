import Derived.Test.YtbjfcadcipfolaaGreatYP66
set_option linter.all false
/- Two feeds that know initial parts of the same chains know the same after an exchange. -/
set_option maxRecDepth 100000
namespace Go.Ax
structure PE (d:List (List Int)) (na:Int→Int) (K:ay):Prop where
  val:∀ s n b,K s n = some b↔b∈d∧(ap b).Number≤na (ap b).Sender∧(ap b).Sender = s∧(ap b).Number = n
theorem PE.len {d:List (List Int)} {na:Int→Int} {K:ay} (h:PE d na K) (hd:zq d) (s:Int):∃ a:Nat,He K s a:=by
 refine ⟨(min (na s) ((k8 s d).length:Int)).toNat,fun n=>?_⟩
 constructor
 ·intro hs
  cases hb:K s n with
  | none=>rw [hb] at hs;cases hs
  | some b =>
   obtain ⟨h1,h2,h3,h4⟩:=(h.val s n b).1 hb
   obtain ⟨h5,h6,_⟩:=(I6 hd).1 ⟨h1,h3,h4⟩
   rw [h3,h4] at h2
   omega
 ·intro hn
  have h5:1≤n∧n≤((k8 s d).length:Int)∧n≤na s:=by omega
  obtain ⟨h1,h2,h3⟩:=(I6 hd).2 ⟨h5.1,h5.2.1,rfl⟩
  rw [(h.val s n _).2 ⟨h1,by rw [h2,h3];exact h5.2.2,h2,h3⟩]
  rfl
end Go.Ax
