import Derived.Test.YtnnblpijaoocaaaGreatZB16
import Derived.Laws.Externs
set_option linter.all false
/- Words for what functions of the library do. -/
namespace Go.Ax
noncomputable def gP (l:List GSpan):List GSpan:=@gV _ ⟨zS .GSpan⟩ (fun a b=>aa (a.From < b.From)) l
def qN (t:List GRules) (day:Int):Option (GRules × Bool) :=
  bif aa (t.length≤1000)&&t.all (fun r=>aa (r.Members.length≤1000)) then
    bif aa (day < 0)||aa (73049≤day) then some (zS .GRules,false) else
      match t.reverse.find? (fun r=>aa (r.From≤day)) with
      | some r=>some (r,true)
      | none=>some (zS .GRules,false)
  else none
end Go.Ax
