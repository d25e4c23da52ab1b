import Derived.Below
/- Data types of the program: printed by a program. -/
set_option linter.all false
namespace Go.Ax
structure GSpan where
  From:Int
  To:Int
structure GPosting where
  Seat:Int
  State:Int
  Span:GSpan
structure GPensionhand_Fact where
  Issuer:Int
  Number:Int
  Version:Int
  Withdrawn:Bool
  Person:Int
  Kind:Int
  State:Int
  Seat:Int
  From:Int
  Length:Int
  Share:Int
  Amount:Int
  Ref:Int
structure GFact where
  Issuer:Int
  Number:Int
  Version:Int
  Withdrawn:Bool
  Person:Int
  Kind:Int
  State:Int
  Span:GSpan
  Seat:Int
  Share:Int
  Currency:Int
  Amount:Int
  Ref:Int
structure GRules where
  From:Int
  MinDays:Int
  PostingLimit:Int
  Substantial:Int
  Members:List Int
structure GSegment where
  Span:GSpan
  State:Int
  Rule:Int
structure GCompetence_route where
  seat:Int
  state:Int
structure GCompetence_life where
  facts:List GFact
  span:GSpan
  postings:List GPosting
  rules:List GRules
structure GRounding where
  Mode:Int
  Unit:Int
structure GCredit where
  Kind:Int
  Limit:Int
structure GFraction where
  Num:Int
  Den:Int
structure GIndex where
  Year:Int
  Factor:GFraction
structure GExpr where
  Op:Int
  Value:GFraction
  Dim:Int
  Name:ByteArray
  Args:List GExpr
structure GLet where
  Name:ByteArray
  Body:GExpr
structure GGrant where
  Benefit:Int
  If:GExpr
  Pay:GExpr
structure GReduce where
  Benefit:Int
  By:GExpr
structure GVersion where
  From:Int
  Rounding:GRounding
  Credits:List GCredit
  Series:List GIndex
  Lets:List GLet
  Grants:List GGrant
  Reduces:List GReduce
structure GStatute where
  Name:ByteArray
  Currency:Int
  Versions:List GVersion
structure GState where
  State:Int
  Statute:GStatute
structure GRate where
  Currency:Int
  Month:Int
  Value:GFraction
structure GLaws where
  States:List GState
  Treaty:List GRules
  Rates:List GRate
structure GToken where
  Kind:Int
  Text:ByteArray
  At:Int
structure GPensionref5_reader where
  l:List GToken
  at_:Int
  end_:Int
  bad:Bool
structure GPensionref1_wide where
  hi:Int
  lo:Int
structure GErrors_errorString where
  s:ByteArray
inductive SK where
  | GSpan
  | GPosting
  | GPensionhand_Fact
  | GFact
  | GRules
  | GSegment
  | GCompetence_route
  | GCompetence_life
  | GRounding
  | GCredit
  | GFraction
  | GIndex
  | GExpr
  | GLet
  | GGrant
  | GReduce
  | GVersion
  | GStatute
  | GState
  | GRate
  | GLaws
  | GToken
  | GPensionref5_reader
  | GPensionref1_wide
  | GErrors_errorString
  deriving DecidableEq
abbrev SS:SK→Type
 | .GSpan=>GSpan
 | .GPosting=>GPosting
 | .GPensionhand_Fact=>GPensionhand_Fact
 | .GFact=>GFact
 | .GRules=>GRules
 | .GSegment=>GSegment
 | .GCompetence_route=>GCompetence_route
 | .GCompetence_life=>GCompetence_life
 | .GRounding=>GRounding
 | .GCredit=>GCredit
 | .GFraction=>GFraction
 | .GIndex=>GIndex
 | .GExpr=>GExpr
 | .GLet=>GLet
 | .GGrant=>GGrant
 | .GReduce=>GReduce
 | .GVersion=>GVersion
 | .GStatute=>GStatute
 | .GState=>GState
 | .GRate=>GRate
 | .GLaws=>GLaws
 | .GToken=>GToken
 | .GPensionref5_reader=>GPensionref5_reader
 | .GPensionref1_wide=>GPensionref1_wide
 | .GErrors_errorString=>GErrors_errorString
def ab (l:List Nat):ByteArray:=⟨(l.map UInt8.ofNat).toArray⟩
def zS:(k:SK)→SS k
 | .GSpan=>⟨0,0⟩
 | .GPosting=>⟨0,0,⟨0,0⟩⟩
 | .GPensionhand_Fact=>⟨0,0,0,false,0,0,0,0,0,0,0,0,0⟩
 | .GFact=>⟨0,0,0,false,0,0,0,⟨0,0⟩,0,0,0,0,0⟩
 | .GRules=>⟨0,0,0,0,[]⟩
 | .GSegment=>⟨⟨0,0⟩,0,0⟩
 | .GCompetence_route=>⟨0,0⟩
 | .GCompetence_life=>⟨[],⟨0,0⟩,[],[]⟩
 | .GRounding=>⟨0,0⟩
 | .GCredit=>⟨0,0⟩
 | .GFraction=>⟨0,0⟩
 | .GIndex=>⟨0,⟨0,0⟩⟩
 | .GExpr=>⟨0,⟨0,0⟩,0,(ab []),[]⟩
 | .GLet=>⟨(ab []),⟨0,⟨0,0⟩,0,(ab []),[]⟩⟩
 | .GGrant=>⟨0,⟨0,⟨0,0⟩,0,(ab []),[]⟩,⟨0,⟨0,0⟩,0,(ab []),[]⟩⟩
 | .GReduce=>⟨0,⟨0,⟨0,0⟩,0,(ab []),[]⟩⟩
 | .GVersion=>⟨0,⟨0,0⟩,[],[],[],[],[]⟩
 | .GStatute=>⟨(ab []),0,[]⟩
 | .GState=>⟨0,⟨(ab []),0,[]⟩⟩
 | .GRate=>⟨0,0,⟨0,0⟩⟩
 | .GLaws=>⟨[],[],[]⟩
 | .GToken=>⟨0,(ab []),0⟩
 | .GPensionref5_reader=>⟨[],0,0,false⟩
 | .GPensionref1_wide=>⟨0,0⟩
 | .GErrors_errorString=>⟨(ab [])⟩
inductive Ty where
  | i (k:IntKind)
  | b
  | s
  | st (k:SK)
  | ls (t:Ty)
  | arr (n:Nat) (t:Ty)
  deriving DecidableEq
abbrev Ty.T:Ty→Type
 | .i _=>Int
 | .b=>Bool
 | .s=>ByteArray
 | .st k=>SS k
 | .ls t=>List t.T
 | .arr _ t=>List t.T
abbrev HP:List Ty→Type
 | []=>Unit
 | [t]=>t.T
 | t :: u :: r=>t.T × HP (u :: r)
def lf:SK→List Ty
 | .GSpan=>[.i .i64, .i .i64]
 | .GPosting=>[.i .i64, .i .i64, .i .i64, .i .i64]
 | .GPensionhand_Fact=>[.i .i64, .i .i64, .i .i64, .b, .i .i64, .i .i64, .i .i64, .i .i64, .i .i64, .i .i64, .i .i64, .i .i64, .i .i64]
 | .GFact=>[.i .i64, .i .i64, .i .i64, .b, .i .i64, .i .i64, .i .i64, .i .i64, .i .i64, .i .i64, .i .i64, .i .i64, .i .i64, .i .i64]
 | .GRules=>[.i .i64, .i .i64, .i .i64, .i .i64, .ls (.i .i64)]
 | .GSegment=>[.i .i64, .i .i64, .i .i64, .i .i64]
 | .GCompetence_route=>[.i .i64, .i .i64]
 | .GCompetence_life=>[.ls (.st .GFact), .i .i64, .i .i64, .ls (.st .GPosting), .ls (.st .GRules)]
 | .GRounding=>[.i .i64, .i .i64]
 | .GCredit=>[.i .i64, .i .i64]
 | .GFraction=>[.i .i64, .i .i64]
 | .GIndex=>[.i .i64, .i .i64, .i .i64]
 | .GExpr=>[.i .i64, .i .i64, .i .i64, .i .i64, .s, .ls (.st .GExpr)]
 | .GLet=>[.s, .i .i64, .i .i64, .i .i64, .i .i64, .s, .ls (.st .GExpr)]
 | .GGrant=>[.i .i64, .i .i64, .i .i64, .i .i64, .i .i64, .s, .ls (.st .GExpr), .i .i64, .i .i64, .i .i64, .i .i64, .s, .ls (.st .GExpr)]
 | .GReduce=>[.i .i64, .i .i64, .i .i64, .i .i64, .i .i64, .s, .ls (.st .GExpr)]
 | .GVersion=>[.i .i64, .i .i64, .i .i64, .ls (.st .GCredit), .ls (.st .GIndex), .ls (.st .GLet), .ls (.st .GGrant), .ls (.st .GReduce)]
 | .GStatute=>[.s, .i .i64, .ls (.st .GVersion)]
 | .GState=>[.i .i64, .s, .i .i64, .ls (.st .GVersion)]
 | .GRate=>[.i .i64, .i .i64, .i .i64, .i .i64]
 | .GLaws=>[.ls (.st .GState), .ls (.st .GRules), .ls (.st .GRate)]
 | .GToken=>[.i .i64, .s, .i .i64]
 | .GPensionref5_reader=>[.ls (.st .GToken), .i .i64, .i .i64, .b]
 | .GPensionref1_wide=>[.i .u64, .i .u64]
 | .GErrors_errorString=>[.s]
def EU:(k:SK)→SS k→HP (lf k)
 | .GSpan,x=>(x.From,x.To)
 | .GPosting,x=>(x.Seat,x.State,x.Span.From,x.Span.To)
 | .GPensionhand_Fact,x=>(x.Issuer,x.Number,x.Version,x.Withdrawn,x.Person,x.Kind,x.State,x.Seat,x.From,x.Length,x.Share,x.Amount,x.Ref)
 | .GFact,x=>(x.Issuer,x.Number,x.Version,x.Withdrawn,x.Person,x.Kind,x.State,x.Span.From,x.Span.To,x.Seat,x.Share,x.Currency,x.Amount,x.Ref)
 | .GRules,x=>(x.From,x.MinDays,x.PostingLimit,x.Substantial,x.Members)
 | .GSegment,x=>(x.Span.From,x.Span.To,x.State,x.Rule)
 | .GCompetence_route,x=>(x.seat,x.state)
 | .GCompetence_life,x=>(x.facts,x.span.From,x.span.To,x.postings,x.rules)
 | .GRounding,x=>(x.Mode,x.Unit)
 | .GCredit,x=>(x.Kind,x.Limit)
 | .GFraction,x=>(x.Num,x.Den)
 | .GIndex,x=>(x.Year,x.Factor.Num,x.Factor.Den)
 | .GExpr,x=>(x.Op,x.Value.Num,x.Value.Den,x.Dim,x.Name,x.Args)
 | .GLet,x=>(x.Name,x.Body.Op,x.Body.Value.Num,x.Body.Value.Den,x.Body.Dim,x.Body.Name,x.Body.Args)
 | .GGrant,x=>(x.Benefit,x.If.Op,x.If.Value.Num,x.If.Value.Den,x.If.Dim,x.If.Name,x.If.Args,x.Pay.Op,x.Pay.Value.Num,x.Pay.Value.Den,x.Pay.Dim,x.Pay.Name,x.Pay.Args)
 | .GReduce,x=>(x.Benefit,x.By.Op,x.By.Value.Num,x.By.Value.Den,x.By.Dim,x.By.Name,x.By.Args)
 | .GVersion,x=>(x.From,x.Rounding.Mode,x.Rounding.Unit,x.Credits,x.Series,x.Lets,x.Grants,x.Reduces)
 | .GStatute,x=>(x.Name,x.Currency,x.Versions)
 | .GState,x=>(x.State,x.Statute.Name,x.Statute.Currency,x.Statute.Versions)
 | .GRate,x=>(x.Currency,x.Month,x.Value.Num,x.Value.Den)
 | .GLaws,x=>(x.States,x.Treaty,x.Rates)
 | .GToken,x=>(x.Kind,x.Text,x.At)
 | .GPensionref5_reader,x=>(x.l,x.at_,x.end_,x.bad)
 | .GPensionref1_wide,x=>(x.hi,x.lo)
 | .GErrors_errorString,x=>x.s
def Kj:(k:SK)→HP (lf k)→SS k
 | .GSpan,p=>⟨p.1,p.2⟩
 | .GPosting,p=>⟨p.1,p.2.1,⟨p.2.2.1,p.2.2.2⟩⟩
 | .GPensionhand_Fact,p=>⟨p.1,p.2.1,p.2.2.1,p.2.2.2.1,p.2.2.2.2.1,p.2.2.2.2.2.1,p.2.2.2.2.2.2.1,p.2.2.2.2.2.2.2.1,p.2.2.2.2.2.2.2.2.1,p.2.2.2.2.2.2.2.2.2.1,p.2.2.2.2.2.2.2.2.2.2.1,p.2.2.2.2.2.2.2.2.2.2.2.1,p.2.2.2.2.2.2.2.2.2.2.2.2⟩
 | .GFact,p=>⟨p.1,p.2.1,p.2.2.1,p.2.2.2.1,p.2.2.2.2.1,p.2.2.2.2.2.1,p.2.2.2.2.2.2.1,⟨p.2.2.2.2.2.2.2.1,p.2.2.2.2.2.2.2.2.1⟩,p.2.2.2.2.2.2.2.2.2.1,p.2.2.2.2.2.2.2.2.2.2.1,p.2.2.2.2.2.2.2.2.2.2.2.1,p.2.2.2.2.2.2.2.2.2.2.2.2.1,p.2.2.2.2.2.2.2.2.2.2.2.2.2⟩
 | .GRules,p=>⟨p.1,p.2.1,p.2.2.1,p.2.2.2.1,p.2.2.2.2⟩
 | .GSegment,p=>⟨⟨p.1,p.2.1⟩,p.2.2.1,p.2.2.2⟩
 | .GCompetence_route,p=>⟨p.1,p.2⟩
 | .GCompetence_life,p=>⟨p.1,⟨p.2.1,p.2.2.1⟩,p.2.2.2.1,p.2.2.2.2⟩
 | .GRounding,p=>⟨p.1,p.2⟩
 | .GCredit,p=>⟨p.1,p.2⟩
 | .GFraction,p=>⟨p.1,p.2⟩
 | .GIndex,p=>⟨p.1,⟨p.2.1,p.2.2⟩⟩
 | .GExpr,p=>⟨p.1,⟨p.2.1,p.2.2.1⟩,p.2.2.2.1,p.2.2.2.2.1,p.2.2.2.2.2⟩
 | .GLet,p=>⟨p.1,⟨p.2.1,⟨p.2.2.1,p.2.2.2.1⟩,p.2.2.2.2.1,p.2.2.2.2.2.1,p.2.2.2.2.2.2⟩⟩
 | .GGrant,p=>⟨p.1,⟨p.2.1,⟨p.2.2.1,p.2.2.2.1⟩,p.2.2.2.2.1,p.2.2.2.2.2.1,p.2.2.2.2.2.2.1⟩,⟨p.2.2.2.2.2.2.2.1,⟨p.2.2.2.2.2.2.2.2.1,p.2.2.2.2.2.2.2.2.2.1⟩,p.2.2.2.2.2.2.2.2.2.2.1,p.2.2.2.2.2.2.2.2.2.2.2.1,p.2.2.2.2.2.2.2.2.2.2.2.2⟩⟩
 | .GReduce,p=>⟨p.1,⟨p.2.1,⟨p.2.2.1,p.2.2.2.1⟩,p.2.2.2.2.1,p.2.2.2.2.2.1,p.2.2.2.2.2.2⟩⟩
 | .GVersion,p=>⟨p.1,⟨p.2.1,p.2.2.1⟩,p.2.2.2.1,p.2.2.2.2.1,p.2.2.2.2.2.1,p.2.2.2.2.2.2.1,p.2.2.2.2.2.2.2⟩
 | .GStatute,p=>⟨p.1,p.2.1,p.2.2⟩
 | .GState,p=>⟨p.1,⟨p.2.1,p.2.2.1,p.2.2.2⟩⟩
 | .GRate,p=>⟨p.1,p.2.1,⟨p.2.2.1,p.2.2.2⟩⟩
 | .GLaws,p=>⟨p.1,p.2.1,p.2.2⟩
 | .GToken,p=>⟨p.1,p.2.1,p.2.2⟩
 | .GPensionref5_reader,p=>⟨p.1,p.2.1,p.2.2.1,p.2.2.2⟩
 | .GPensionref1_wide,p=>⟨p.1,p.2⟩
 | .GErrors_errorString,p=>⟨p⟩
theorem Mh:∀ k p,EU k (Kj k p) = p:=by intro k;cases k <;> intro p <;> rfl
def Py:List (Nat × SK):=[(29, .GSpan),(30, .GSpan),(31, .GPosting),(32, .GPosting),(35, .GPensionhand_Fact),(36, .GPensionhand_Fact),(37, .GFact),(38, .GFact),(41, .GRules),(42, .GRules),(61, .GSegment),(62, .GSegment),(68, .GCompetence_route),(69, .GCompetence_route),(81, .GCompetence_life),(82, .GCompetence_life),(88, .GLaws),(89, .GLaws),(115, .GFraction),(116, .GFraction),(117, .GRate),(118, .GRate),(120, .GStatute),(121, .GStatute),(125, .GState),(126, .GState),(167, .GPensionref5_reader),(168, .GPensionref5_reader),(170, .GRounding),(171, .GRounding),(177, .GVersion),(178, .GVersion),(215, .GToken),(216, .GToken),(250, .GCredit),(251, .GCredit),(252, .GIndex),(253, .GIndex),(255, .GExpr),(256, .GExpr),(257, .GLet),(258, .GLet),(260, .GGrant),(261, .GGrant),(262, .GReduce),(263, .GReduce),(279, .GPensionref1_wide),(280, .GPensionref1_wide),(316, .GErrors_errorString),(317, .GErrors_errorString)]
end Go.Ax
