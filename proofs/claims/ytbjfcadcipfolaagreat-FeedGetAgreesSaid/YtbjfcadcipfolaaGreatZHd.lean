import Derived.Test.YtbjfcadcipfolaaGreatZB20
import Derived.Laws.Externs
set_option linter.all false
/- Words for what functions of the library do. -/
namespace Go.Ax
noncomputable def jR (l:List GSpan):List GSpan:=@jT _ ⟨zS .GSpan⟩ (fun a b=>aa (a.From < b.From)) l
def lW (a b:GClaim):Bool:=aa (a.Issuer < b.Issuer)||(am a.Issuer b.Issuer&&(aa (a.Number < b.Number)||(am a.Number b.Number&&(aa (a.Day < b.Day)||(am a.Day b.Day&&(aa (a.Person < b.Person)||(am a.Person b.Person&&(aa (a.Benefit < b.Benefit)||(am a.Benefit b.Benefit&&aa (a.Ref < b.Ref))))))))))
noncomputable def Gj (l:List GClaim):List GClaim:=@mP _ ⟨zS .GClaim⟩ lW l
end Go.Ax
