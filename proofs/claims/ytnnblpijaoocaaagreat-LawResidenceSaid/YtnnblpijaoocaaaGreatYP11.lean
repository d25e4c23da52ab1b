import Derived.Test.YtnnblpijaoocaaaGreatYP10
set_option linter.all false
/- Facts are made and merged: functions that end. -/
set_option maxRecDepth 100000
namespace Go.Ax
theorem KO (n:Int):En (fun y=>1≤y∧y≤9000) (sq n):=by
  rw [DX]
  refine jS (by decide) fun r _ _=>?_
  repeat' first
    | refine En.bif (fun _=>?_) (fun _=>?_)
    | (refine jS (by decide) fun q h1 h2=>.some ?_; rw [al (by omega) (by omega)]; omega)
end Go.Ax
