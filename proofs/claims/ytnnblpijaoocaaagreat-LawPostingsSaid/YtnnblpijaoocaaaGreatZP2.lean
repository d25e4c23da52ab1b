import Derived.Test.YtnnblpijaoocaaaGreatZP0
set_option linter.all false
/- Fractions, decimals, words, trees: what is asked of them ends. -/
set_option maxRecDepth 100000
namespace Go.Ax
def J2 (f:GFraction):Prop:=-1000000000000000≤f.Num∧f.Num≤1000000000000000∧0≤f.Den∧f.Den≤1000000000
theorem J2.zero:J2 ⟨0,0⟩:=⟨by decide,by decide,by decide,by decide⟩
inductive wG:GExpr→Prop
  | mk (e:GExpr) (h1:e.Name.size≤8000) (h2:e.Args.length≤3) (h3:∀ a∈e.Args,wG a):wG e
end Go.Ax
