import Derived.Test.YtgamnldjlncdlaaGreatZL102
set_option linter.all false
/- Valid fractions of naturals. -/
set_option maxRecDepth 100000
namespace Go.Ax
theorem Mp (a b:Nat) (ha:a≤1000000000000000) (hb:b≤1000000000) (h0:0 < b) (hg:Nat.gcd a b = 1):eT ⟨a,b⟩ = some true:=by
  show (fZ _).opt = _
  simp only [fZ,oT]
  simp only [fh,decide_eq_true (show (1:Int)≤(b:Int) by omega),decide_eq_true (show (b:Int)≤1000000000 by omega),decide_eq_true (show (-1000000000000000:Int)≤(a:Int) by omega),decide_eq_true (show (a:Int)≤1000000000000000 by omega),Bool.and_true]
  rw [mN _ (by omega) (by omega),Hd b (by omega),oY,AW,hg,aE (by intro _; rfl),aE (by intro _; rfl)]
  rfl
end Go.Ax
