import Derived.Test.YtbjfcadcipfolaaGreatZB19
import Derived.Laws.Externs
import Derived.Test.YtbjfcadcipfolaaGreatRows
set_option linter.all false
/- Words for what functions of the library do. -/
namespace Go.Ax
open Go.Proofs Go.Proofs.YtbjfcadcipfolaaGreat
noncomputable def iq (l:List GSpan):List GSpan:=@ii _ ⟨zS .GSpan⟩ (fun a b=>aa (a.From < b.From)) l
def pJ (P:Program) (f:FuncId) (b:List Int) (out:gW):Prop:=∀ (ok:Nat→Prop) (w:World) (x:Value),aG ok w x (.sl (.i .u8) b)→(∀ b,ok b→b < w.heap.size)→ik P f #[x] w fun v w'=>Go.RowKit.Below w.heap.size w w'∧tV ok w w' v out
def JJ (P:Program) (fD fS:FuncId) (s:Int) (ks:List GFeed_key) (vs:List (List Int)):Prop :=
  (∀ v∈vs,(∃ (d:GDocument) (e:Int),pJ P fD v (.new (.tup [encV (.st .GDocument) d,i64 e])))∧∃ n:Int,pJ P fS v (.new (.c (.lit (.int .u32 n)))))∧∀ n:Int,999 < n→dS (.st .GFeed_key) ks ⟨s,n⟩ = false
open Classical in
noncomputable def HB (P:Program) (fD fS:FuncId) (x:Int × GPensionref31_Feeds × List GFeed_key × List (List Int)):Option (Int × GPensionref31_Feeds × List GFeed_key × List (List Int)) :=
  if JJ P fD fS x.1 x.2.2.1 x.2.2.2 then some x else none
noncomputable def oR (x:Int × GPensionref31_Feeds × List GFeed_key × List (List Int)):Option (Int × GPensionref31_Feeds × List GFeed_key × List (List Int)):=HB Tryz.prog 56 79 x
end Go.Ax
