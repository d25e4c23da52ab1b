import Derived.Test.YtbjfcadcipfolaaGreatYB20
import Derived.Laws.Externs
set_option linter.all false
/- Words for what functions of the library do. -/
namespace Go.Ax
noncomputable def IF (l:List GSpan):List GSpan:=@js _ ⟨zS .GSpan⟩ (fun a b=>aa (a.From < b.From)) l
def df (a b:GClaim):Bool:=aa (a.Issuer < b.Issuer)||(ak a.Issuer b.Issuer&&(aa (a.Number < b.Number)||(ak a.Number b.Number&&(aa (a.Day < b.Day)||(ak a.Day b.Day&&(aa (a.Person < b.Person)||(ak a.Person b.Person&&(aa (a.Benefit < b.Benefit)||(ak a.Benefit b.Benefit&&aa (a.Ref < b.Ref))))))))))
noncomputable def qf (l:List GClaim):List GClaim:=@mK _ ⟨zS .GClaim⟩ df l
end Go.Ax
