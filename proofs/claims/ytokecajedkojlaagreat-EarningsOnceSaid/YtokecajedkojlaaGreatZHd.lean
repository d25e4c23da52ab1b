import Derived.Test.YtokecajedkojlaaGreatZB16
import Derived.Laws.Externs
set_option linter.all false
/- Words for what functions of the library do. -/
namespace Go.Ax
noncomputable def jZ (l:List GSpan):List GSpan:=@kg _ ⟨zS .GSpan⟩ (fun a b=>aa (a.From < b.From)) l
end Go.Ax
